/- JournalFalls, walked. -/
import Derived.Test.YtjhahhpcpempgaaDoorFallsA
import Derived.Test.YtjhahhpcpempgaaDoorApp2
import Derived.Deep.CutBlock
set_option linter.unusedVariables false
set_option linter.unusedSimpArgs false
namespace Go.Proofs.YtjhahhpcpempgaaDoor
open Go.RowKit

/-- Behind the first loop: what is held, and what is under way. -/
def FS1 (w : World) (b : Nat) (l m : Value) (wr : World) : Prop :=
  ∃ F T L M, Held T L M 26000 40 ∧ TL w b F T wr ∧ RdStrs wr l L ∧ RdStrs wr m M ∧ L.length ≤ 25 ∧ M.length ≤ 25
/-- What is under way behind an append. -/
def FS2 (wr : World) (l : List ByteArray) (m : Value) (wc : World) : Prop := Below wr.heap.size wr wc ∧ RdStrs wc m l
/-- At the head of a round of the first loop. -/
def FR1 (w : World) (jb b k : Nat) (l m : Value) (wr : World) : Prop :=
  ∃ F T L M, TL w b F T wr ∧ RdStrs wr l L ∧ RdStrs wr m M ∧ L.length ≤ 12 + k ∧ M.length ≤ 12 + k ∧
    ((∃ J, T.down = false ∧ T.room = 262144 ∧ JL w jb b J wr ∧ Up T J L (2000 * k) (3 * k)) ∨ (T.down = true ∧ Held T L M (2000 * k) (3 * k)))
theorem FR1.end_ {w : World} {jb b k : Nat} {l m : Value} {wr : World} (h : FR1 w jb b k l m wr) (hk : k ≤ 12) : FS1 w b l m wr := by
  obtain ⟨F, T, L, M, h1, h2, h3, h4, h5, h6⟩ := h
  refine ⟨F, T, L, M, ?_, h1, h2, h3, by omega, by omega⟩
  rcases h6 with ⟨J, _, _, _, hu⟩ | ⟨_, hh⟩
  · exact (Held.ofUp hu M).mono (by omega) (by omega)
  · exact hh.mono (by omega) (by omega)

def lmore : ByteArray := ⟨#[109, 111, 114, 101]⟩
theorem lmore_ok : lineOk lmore = true := by unfold lineOk; rw [ByteArray.toList_eq]; decide
/-- At the head of a round of the second loop. -/
def FR2 (w : World) (b : Nat) (l m : Value) (L M : List ByteArray) (wr : World) : Prop := ∃ F T, Held T L M 26000 40 ∧ TL w b F T wr ∧ RdStrs wr l L ∧ RdStrs wr m M
/-- A round of the first loop is done. -/
theorem FR1.did {w : World} {jb b k mm : Nat} {F : List Nat} {T : Tp} {J : Jn} {L L' : List ByteArray} {l m : Value} {wr : World} {o : Out}
    (hu : Up T J L (2000 * k) (3 * k)) (hw : Went T J L' 2000 o) (hr : T.room = 262144) (hT : TL w b F o.T wr) (hJ : JL w jb b o.J wr) (hl : RdStrs wr l L) (hm : RdStrs wr m L') (hL : L.length ≤ 12 + k) (hL' : L'.length ≤ 13 + k) :
    (o.e = 0 ∧ FR1 w jb b (k + 1) m m wr) ∨ (o.e = 16 ∧ o.T.down = true ∧ FR1 w jb b (k + 1) l m wr) := by
  have e1 : 2000 * (k + 1) = 2000 * k + 2000 := by omega
  have e2 : 3 * (k + 1) = 3 * k + 3 := by omega
  rcases hu.then_ hw with ⟨h1, h2, h3, h4⟩ | ⟨h1, h2, h3⟩
  · exact .inl ⟨h1, F, o.T, L', L', hT, hm, hm, by omega, by omega, .inl ⟨o.J, h4, h3.trans hr, hJ, by rw [e1, e2]; exact h2⟩⟩
  · exact .inr ⟨h1, h2, F, o.T, L, L', hT, hl, hm, by omega, by omega, .inr ⟨h2, by rw [e1, e2]; exact h3⟩⟩

set_option maxRecDepth 100000 in
set_option maxHeartbeats 6400000 in
theorem Falls_c (ov fv : Value) (ops : List (List UInt8)) (fs : List UInt8) (crash : UInt8) (keep torn : Int) (w : World) (hG : Glob w) (ho : RdBB w ov ops) (hf : RdB w fv fs) (hk1 : keep ≤ 9223372036854775807) (ht1 : torn ≤ 9223372036854775807) :
    Calls Tryd.prog 3 #[ov, .int .u8 (crash.toNat : Int), fv, .int .i64 keep, .int .i64 torn] w fun e w' => e = .returned (.bool true) ∧ Below w.heap.size w w' := by
  obtain ⟨A, c, rfl, hlc, hcm⟩ := ho.form
  obtain ⟨A2, c2, rfl, hlc2, hcm2⟩ := hf.form
  have HG := Lib.hid hG
  unfold maxLen at hcm hcm2
  obtain ⟨n, hn⟩ : ∃ n, ops.length = n := ⟨_, rfl⟩
  obtain ⟨q, hq⟩ : ∃ q, fs.length = q := ⟨_, rfl⟩
  rw [hn] at ho hlc ⊢
  rw [hq] at hf hlc2 ⊢
  have HO := Lib.hid ho
  have HF := Lib.hid hf
  have HN := Lib.hid hn
  have HQ := Lib.hid hq
  have HK := Lib.hid hk1
  have HT := Lib.hid ht1
  have hcr := crash.toNat_lt
  clear ho hf hn hq hk1 ht1 hG
  by_cases hlen : n ≤ 12
  case neg =>
    go_enter Tryd.func3, Tryd.ntmps3
    go_wp2_with fail
    refine (awake_c w HG.out).mono ?_
    rintro e w1 ⟨rfl, hb1⟩
    go_wp2
    go_ret
    exact ⟨rfl, hb1⟩
  by_cases hfl : q ≤ 5
  case neg =>
    go_enter Tryd.func3, Tryd.ntmps3
    go_wp2_with fail
    refine (awake_c w HG.out).mono ?_
    rintro e w1 ⟨rfl, hb1⟩
    go_wp2
    go_ret
    exact ⟨rfl, hb1⟩
  go_enter Tryd.func3, Tryd.ntmps3
  go_wp2_with fail
  refine (New_u (w0 := w) (W := w) ⟨262144, _, 0, 0⟩ HG.out (Below.refl _ _)).mono ?_
  rintro e w1 ⟨tb, rfl, hT1, hb1⟩
  have HT1 := Lib.hid hT1
  have HU1 := Lib.hid (up_new ⟨262144, 1 + (crash.toNat : Int) % 60, 0, 0⟩ (by simp))
  have HR1 := Lib.hid (show (Tp.new ⟨262144, 1 + (crash.toNat : Int) % 60, 0, 0⟩).room = 262144 from rfl)
  rw [fine_openJ rfl] at HU1
  generalize Tp.new ⟨262144, 1 + (crash.toNat : Int) % 60, 0, 0⟩ = T1 at HT1 HU1 HR1
  clear hT1 hb1
  go_wp2_with fail
  refine (Open_u HT1.out HU1.out.fine.up HU1.out.fine.loose HU1.out.lim (by omega) (by omega)).mono ?_
  rintro e w2 ⟨jb, rfl, hJ2, hT2, hb2⟩
  have HT2 := Lib.hid hT2
  have HJ2 := Lib.hid hJ2
  have HR0 := Lib.hid (show FR1 w jb tb 0 (.slice none 0 0) (.slice none 0 0) w2 from
    ⟨_, T1, [], [], hT2, RdStrs.nil _, RdStrs.nil _, by simp, by simp, .inl ⟨_, HU1.out.fine.up, HR1.out, hJ2, HU1.out⟩⟩)
  clear hT2 hJ2 hb2
  go_upto_block 0 with (fail)
  go_cut [13, 14, 15, 16] from 48 to 117 (fun e l m i wc => FS1 w tb l m wc)
  case first =>
    go_wp2_with fail
    go_loopw [13, 14, 15, 16] (fun e l m i wr => ∃ k : Nat, k ≤ n ∧ i = .int .i64 k ∧ FR1 w jb tb k l m wr) (fun _ _ _ i _ => n - (intOf i).toNat)
    case atStart => exact ⟨0, Nat.zero_le _, rfl, HR0.out⟩
    case round =>
      obtain ⟨k, hk, rfl, hfr⟩ := hrel
      by_cases hlt : k < n
      · have hkl : k < ops.length := by rw [HN.out]; exact hlt
        obtain ⟨F, T, L, M, hT, hl, hm, hL, hM, hor⟩ := hfr
        obtain ⟨Al, cl, rfl, hcl, hclm⟩ := hl.form
        obtain ⟨nl, hnl⟩ : ∃ nl, L.length = nl := ⟨_, rfl⟩
        rw [hnl] at hL hcl hl
        rw [hnl]
        have HNL := Lib.hid hnl
        have HTT := Lib.hid hT
        have HL := Lib.hid hl
        have HM := Lib.hid hm
        clear hT hl hm hnl
        rcases hor with ⟨J, hd, hrm, hJ, hu⟩ | ⟨hd, hh⟩
        case inr =>
          have HE := Lib.hid ((show FR1 w jb tb k _ _ _ from ⟨F, T, L, M, HTT.out, HL.out, HM.out, by rw [HNL.out]; omega, hM, .inr ⟨hd, hh⟩⟩).end_ (by omega))
          have HD := Lib.hid hd
          clear hh hd
          go_wp2_with fail
          refine (Down_c tb F T _ HTT.out.at_).mono ?_
          rintro e w3 ⟨rfl, rfl⟩
          rw [HD.out]
          go_wp2_with fail
          go_meet
          exact HE.out
        case inl =>
          obtain ⟨g, o, A6, c6, rfl, hg, hcell, hrb, hc6, hcm6⟩ := HO.out.cell hkl
          have hcr := (HTT.out.below.cell (p := ⟨g, o + k, none⟩) hg).trans hcell
          obtain ⟨op, hop⟩ : ∃ op, ops[k] = op := ⟨_, rfl⟩
          rw [hop] at hrb hcr hc6
          have HRB := Lib.hid (RdB.below hrb HTT.out.below)
          obtain ⟨x, hx⟩ : ∃ x, op.length = x := ⟨_, rfl⟩
          rw [hx] at hcr hc6 HRB
          have HX := Lib.hid hx
          have HD := Lib.hid hd
          have HRM := Lib.hid hrm
          have HJ := Lib.hid hJ
          have HU := Lib.hid hu
          unfold maxLen at hcm6
          clear hop hx hrb hcell hd hrm hJ hu
          by_cases h12 : x ≤ 12
          case neg =>
            go_wp2_with fail
            refine (Down_c tb F T _ HTT.out.at_).mono ?_
            rintro e w3 ⟨rfl, rfl⟩
            rw [HD.out]
            go_wp2_with fail
            refine (awake_c _ HTT.out.glob).mono ?_
            rintro e w4 ⟨rfl, hb4⟩
            have HB4 := Lib.hid (bthen HTT.out.below hb4 (Nat.le_refl _))
            clear hb4
            go_wp2
            go_ret
            exact ⟨rfl, HB4.out⟩
          case pos =>
            by_cases hev : x % 2 = 0
            case pos =>
              have hev1 : ((x : Int) % 2 == 0) = true := by rw [beq_iff_eq]; omega
              have HFL := Lib.hid (frames_len (lineBs op) (lineBs_size op))
              have hll := lineBs_len op
              rw [HX.out] at hll
              have HLO := Lib.hid (lineBs_ok op)
              go_wp2_with fail
              refine (Down_c tb F T _ HTT.out.at_).mono ?_
              rintro e w3 ⟨rfl, rfl⟩
              rw [HD.out]
              have HLL := Lib.hid hll
              clear hll
              go_wp2_with fail
              refine (lines_c _ op _ HRB.out (by rw [HX.out]; omega)).mono ?_
              rintro e w4 ⟨v4, rfl, ho4, hb4⟩
              obtain ⟨A4, c4, rfl, _⟩ := RowAt.ofOwn ho4
              have HT4 := Lib.hid (HTT.out.then_ hb4)
              have HJ4 := Lib.hid (HJ.out.then_ hb4)
              have HL4 := Lib.hid (HL.out.below hb4)
              have HR4 := Lib.hid (show RdStrs w4 _ _ from RowAt.ofOwn ho4)
              clear ho4 hb4 hcr
              rw [HLL.out] at HR4 HFL ⊢
              go_wp2_with fail
              refine (Save_u (l := lineBs op) (m := 2000) HT4.out HJ4.out HR4.out HU.out HLO.out (by have := HFL.out; omega) (by omega) (by omega) (by rw [HRM.out]; omega) (by rw [HLL.out]; omega)).mono ?_
              rintro e w5 ⟨o5, F5, h5, rfl, hT5, hJ5, hk5⟩
              have HFR := Lib.hid (FR1.did (mm := 0) HU.out h5 HRM.out hT5 hJ5 (hk5.strs HL4.out) (hk5.strs HR4.out) (by rw [HNL.out]; omega) (by rw [HLL.out]; omega))
              have HT5 := Lib.hid hT5
              clear h5 hT5 hJ5 hk5
              rcases HFR.out with ⟨he, hf⟩ | ⟨he, hd, hf⟩
              · rw [he]
                have HF1 := Lib.hid hf
                clear he hf HFR
                go_wp2_with fail
                refine (Num_c 0 _).mono ?_
                rintro e w6 ⟨rfl, rfl⟩
                go_wp2_with fail
                go_roundw
                case rel => exact ⟨k + 1, by omega, by go_num, HF1.out⟩
                case measure => simp [intOf]; omega
              · rw [he]
                have HF1 := Lib.hid hf
                have HD1 := Lib.hid hd
                clear he hf HFR hd
                go_wp2_with fail
                refine (Num_c 16 _).mono ?_
                rintro e w6 ⟨rfl, rfl⟩
                go_wp2_with fail
                refine (Num_c 16 _).mono ?_
                rintro e w7 ⟨rfl, rfl⟩
                go_wp2_with fail
                refine (Down_c tb _ _ _ HT5.out.at_).mono ?_
                rintro e w8 ⟨rfl, rfl⟩
                rw [HD1.out]
                go_wp2_with fail
                go_roundw
                case rel => exact ⟨k + 1, by omega, by go_num, HF1.out⟩
                case measure => simp [intOf]; omega
            case neg =>
              have hev1 : ((x : Int) % 2 == 0) = false := by rw [beq_eq_false_iff_ne]; omega
              have hx1 : 0 < x := by omega
              have hx2 : (0 : Int) < (x : Int) := by omega
              have hk0 : (0 : Int) ≤ (k : Int) := by omega
              have hk1 : (k : Int) < (n : Int) := by omega
              have hx0 : 0 < op.length := by rw [HX.out]; omega
              obtain ⟨g7, o7, rfl, hg7, hcell7⟩ := HRB.out.cell hx0
              obtain ⟨y, hy⟩ : ∃ y, op[0] = y := ⟨_, rfl⟩
              rw [hy] at hcell7
              have hy256 := y.toNat_lt
              have hcell7' := hcell7
              simp only [Nat.add_zero] at hcell7
              clear hy hcell7'
              go_wp2_with fail
              refine (Down_c tb F T _ HTT.out.at_).mono ?_
              rintro e w3 ⟨rfl, rfl⟩
              rw [HD.out]
              go_upto_region 16 with (fail)
              go_cut [15] from 48 to 117 (fun mv wc => FS2 wr (L ++ [lineB y.toNat]) mv wc)
              case first =>
                have S0 := Lib.hid (show ∀ w', Below wr.heap.size wr w' → w'.cell? ⟨g, o + k, none⟩ = some (.slice (some ⟨g7, o7, none⟩) x c6) ∧ w'.cell? ⟨g7, o7, none⟩ = some (.int .u8 (y.toNat : Int)) from fun w' hb => ⟨cellB hb hcr, cellB hb hcell7⟩)
                go_region_held3 (fun w' => w'.cell? ⟨g, o + k, none⟩ = some (.slice (some ⟨g7, o7, none⟩) x c6) ∧ w'.cell? ⟨g7, o7, none⟩ = some (.int .u8 (y.toNat : Int))) (first | assumption | exact S0.out _ (Below.refl _ _).drew | exact S0.out _ (by assumption : Hid (Below wr.heap.size wr _)).out | exact S0.out _ ((by assumption : Hid (Below wr.heap.size wr _)).out.alloc ((by assumption : Hid (Below wr.heap.size wr _)).out.size) _) | exact S0.out _ (((Below.refl _ _).alloc (Nat.le_refl _) _).drew))
                  (first | (refine stepD_rd rfl (.tmp 85) (.tmp 86) rfl rfl wr.heap.size 0 0 (some ⟨wr.heap.size, 0, none⟩) [] (.slice Al nl cl) L (by rfl) (by rfl) (by first | exact own_drew (own_lit0 _) | exact own_lit0 _) (by simp) (HL.out.below (((Below.refl wr.heap.size wr).alloc (Nat.le_refl _) _).drew)) (by rw [HNL.out]; omega) ?_; intro v8 w8 hown8 hb8; rw [Nat.zero_add, List.nil_append] at hown8; obtain ⟨A8, c8, rfl, _⟩ := RowAt.ofOwn hown8; have HB8 := Lib.hid ((((Below.refl wr.heap.size wr).alloc (Nat.le_refl _) _).drew).trans hb8); have HO8 := Lib.hid hown8; have S8 := S0.out _ HB8.out; clear hown8 hb8) | (go_at_call 11; refine (Line_c y.toNat _ hy256).mono ?_; rintro e w9 ⟨rfl, hb9⟩; have HB9 := Lib.hid (bthen HB8.out hb9 (Nat.le_refl _)); have HO9 := Lib.hid (own_keeps HO8.out (Keeps.ofBelow (F := []) hb9) (by simp)); have S9 := S0.out _ HB9.out; clear hb9) | (refine stepD_rd rfl (.tmp 87) (.tmp 95) rfl rfl wr.heap.size L.length c8 A8 L _ [lineB y.toNat] (by rfl) (by rfl) (HO9.out.alloc _) (by have := HB9.out.size; simp; omega) (rd_lit1 _ _) (by simp [HNL.out]; omega) ?_; intro v10 w10 hown10 hb10; have HO10 := Lib.hid hown10; have HB10 := Lib.hid ((HB9.out.alloc HB9.out.size _).trans hb10); clear hown10 hb10))
                go_wp2_with fail
                go_meet
                refine ⟨HB10.out, ?_⟩
                have := RowAt.ofOwn HO10.out
                simp only [Nat.zero_add, List.length_cons, List.length_nil] at this
                unfold RdStrs
                simpa using this
              case rest =>
                obtain ⟨hbc, hmc⟩ := hcut
                obtain ⟨Am, cm, rfl, _⟩ := hmc.form
                have hcr2 := cellB hbc hcr
                have hcr3 := cellB hbc hcell7
                have HTc := Lib.hid (HTT.out.then_ hbc)
                have HJc := Lib.hid (HJ.out.then_ hbc)
                have HLc := Lib.hid (HL.out.below hbc)
                obtain ⟨s, hs⟩ : ∃ s, lineB y.toNat = s := ⟨_, rfl⟩
                have HS := Lib.hid hs
                have HSO := Lib.hid (show lineOk s = true from hs ▸ lineB_ok _ y.toNat_lt)
                have HSS := Lib.hid (show s.size ≤ 60 from hs ▸ lineB_size _ y.toNat_lt)
                rw [hs] at hmc ⊢
                obtain ⟨nm, hnm⟩ : ∃ nm, (L ++ [s]).length = nm := ⟨_, rfl⟩
                have HNM := Lib.hid hnm
                rw [hnm] at hmc ⊢
                have HMc := Lib.hid hmc
                clear hbc hmc hs hnm hcr hcell7
                go_wp2_with fail
                refine (Line_c y.toNat _ hy256).mono ?_
                rintro e w9 ⟨rfl, hb9⟩
                rw [HS.out]
                have HT9 := Lib.hid (HTc.out.then_ hb9)
                have HJ9 := Lib.hid (HJc.out.then_ hb9)
                have HL9 := Lib.hid (HLc.out.below hb9)
                have HM9 := Lib.hid (HMc.out.below hb9)
                clear hb9
                go_wp2_with fail
                refine (Note_u (s := s) (m := 2000) HT9.out HJ9.out HU.out HSO.out (by have := HSS.out; omega) (by omega) (by omega) (by rw [HRM.out]; omega) (by rw [HNL.out]; omega)).mono ?_
                rintro e w5 ⟨o5, F5, h5, rfl, hT5, hJ5, hk5⟩
                have HFR := Lib.hid (FR1.did (mm := 0) HU.out h5 HRM.out hT5 hJ5 (hk5.strs HL9.out) (hk5.strs HM9.out) (by rw [HNL.out]; omega) (by rw [List.length_append, HNL.out]; simp; omega))
                have HT5 := Lib.hid hT5
                clear h5 hT5 hJ5 hk5
                rcases HFR.out with ⟨he, hf⟩ | ⟨he, hd, hf⟩
                · rw [he]
                  have HF1 := Lib.hid hf
                  clear he hf HFR
                  go_wp2_with fail
                  refine (Num_c 0 _).mono ?_
                  rintro e w6 ⟨rfl, rfl⟩
                  go_wp2_with fail
                  go_roundw
                  case rel => exact ⟨k + 1, by omega, by go_num, HF1.out⟩
                  case measure => simp [intOf]; omega
                · rw [he]
                  have HF1 := Lib.hid hf
                  have HD1 := Lib.hid hd
                  clear he hf HFR hd
                  go_wp2_with fail
                  refine (Num_c 16 _).mono ?_
                  rintro e w6 ⟨rfl, rfl⟩
                  go_wp2_with fail
                  refine (Num_c 16 _).mono ?_
                  rintro e w7 ⟨rfl, rfl⟩
                  go_wp2_with fail
                  refine (Down_c tb _ _ _ HT5.out.at_).mono ?_
                  rintro e w8 ⟨rfl, rfl⟩
                  rw [HD1.out]
                  go_wp2_with fail
                  go_roundw
                  case rel => exact ⟨k + 1, by omega, by go_num, HF1.out⟩
                  case measure => simp [intOf]; omega
      · have HE := Lib.hid (hfr.end_ (by omega))
        clear hfr
        obtain rfl : k = n := by omega
        go_wp2_with fail
        go_meet
        exact HE.out
  case rest =>
    obtain ⟨F, T, L, M, hh, hT, hl, hm, hL, hM⟩ := hcut
    obtain ⟨Al, cl, rfl, _⟩ := hl.form
    obtain ⟨Am, cm, rfl, _⟩ := hm.form
    obtain ⟨nl, hnl⟩ : ∃ nl, L.length = nl := ⟨_, rfl⟩
    obtain ⟨nm, hnm⟩ : ∃ nm, M.length = nm := ⟨_, rfl⟩
    rw [hnl] at hl
    rw [hnm] at hm
    have HR0' := Lib.hid (show FR2 w tb (.slice Al nl cl) (.slice Am nm cm) L M _ from ⟨F, T, hh, hT, hl, hm⟩)
    have HLL := Lib.hid hL
    have HML := Lib.hid hM
    have HNL := Lib.hid hnl
    have HNM := Lib.hid hnm
    rw [hnl, hnm]
    clear hh hT hl hm hL hM hnl hnm
    go_wp2_with fail
    go_loopw [17] (fun i wr => ∃ k : Nat, k ≤ q ∧ i = .int .i64 k ∧ FR2 w tb (.slice Al nl cl) (.slice Am nm cm) L M wr) (fun i _ => q - (intOf i).toNat)
    case atStart => exact ⟨0, Nat.zero_le _, rfl, HR0'.out⟩
    case round =>
      obtain ⟨k, hk, rfl, F, T, hh, hT, hl, hm⟩ := hrel
      have HH := Lib.hid hh
      have HTT := Lib.hid hT
      have HL := Lib.hid hl
      have HM := Lib.hid hm
      clear hh hT hl hm
      by_cases hlt : k < q
      · have hkl : k < fs.length := by rw [HQ.out]; exact hlt
        obtain ⟨g, o, rfl, hg, hcell⟩ := HF.out.cell hkl
        obtain ⟨z, hz⟩ : ∃ z, fs[k] = z := ⟨_, rfl⟩
        rw [hz] at hcell
        have hcr := (HTT.out.below.cell (p := ⟨g, o + k, none⟩) hg).trans hcell
        have hz256 := z.toNat_lt
        clear hz hcell
        go_wp2_with fail
        refine (Fall_u ⟨262144, 1 + (z.toNat : Int) % 6, keep, torn⟩ HTT.out HH.out.lim (by omega) (by omega) HK.out HT.out).mono ?_
        rintro e w3 ⟨rfl, hT3, hk3⟩
        obtain ⟨hu3, hh3, hor⟩ := HH.out.next ⟨262144, 1 + (z.toNat : Int) % 6, keep, torn⟩ (by simp)
        have HR3 := Lib.hid (show (T.fall ⟨262144, 1 + (z.toNat : Int) % 6, keep, torn⟩).room = 262144 from rfl)
        have HL3 := Lib.hid (hk3.strs HL.out)
        have HM3 := Lib.hid (hk3.strs HM.out)
        generalize T.fall ⟨262144, 1 + (z.toNat : Int) % 6, keep, torn⟩ = T3 at hT3 hu3 hh3 hor HR3
        have HT3 := Lib.hid hT3
        have HH3 := Lib.hid hh3
        obtain ⟨lw, hlw⟩ : ∃ lw, (openS T3.s).lines = lw := ⟨_, rfl⟩
        rw [hlw] at hu3 hor
        have HLW := Lib.hid hlw
        have HU3 := Lib.hid hu3
        have HOR := Lib.hid hor
        have HLN := Lib.hid (show lw.length ≤ 25 from by
          rcases HOR.out with h | h <;> rw [h]
          · exact HLL.out
          · exact HML.out)
        clear hT3 hk3 hu3 hh3 hor hlw
        go_wp2_with fail
        refine (Open_u HT3.out HU3.out.fine.up HU3.out.fine.loose HU3.out.lim (by omega) (by omega)).mono ?_
        rintro e w4 ⟨jb4, rfl, hJ4, hT4, hb4⟩
        have HT4 := Lib.hid hT4
        have HJ4 := Lib.hid hJ4
        have HL4 := Lib.hid (HL3.out.below hb4)
        have HM4 := Lib.hid (HM3.out.below hb4)
        clear hT4 hJ4 hb4
        by_cases hl : lw = L
        · have HD := Lib.hid (decide_eq_true hl)
          clear hl
          go_wp2_with fail
          refine (Num_c 0 _).mono ?_
          rintro e w5 ⟨rfl, rfl⟩
          go_wp2_with fail
          refine (Num_c 0 _).mono ?_
          rintro e w6 ⟨rfl, rfl⟩
          go_wp2_with fail
          refine (Lines_c jb4 tb _ _ (HJ4.out.then_ (Below.refl w4.heap.size w4)).at_ (by rw [HLW.out]; have := HLN.out; omega)).mono ?_
          rw [HLW.out]
          rintro e x7 ⟨v7, rfl, ho7, hb7⟩
          obtain ⟨A7, c7, rfl, _⟩ := RowAt.ofOwn ho7
          have HBa7 := Lib.hid (bthen ((Below.refl w4.heap.size w4)) hb7 (Nat.le_refl _))
          have HRa7 := Lib.hid (show RdStrs x7 _ _ from RowAt.ofOwn ho7)
          clear ho7 hb7
          go_wp2_with fail
          refine (Texts_c _ _ _ _ _ HRa7.out (HL4.out.below HBa7.out)).mono ?_
          rintro e y7 ⟨rfl, hb7⟩
          rw [HD.out]
          have HB7 := Lib.hid (bthen HBa7.out hb7 (Nat.le_refl _))
          clear hb7 HRa7 HBa7
          go_wp2_with fail
          go_roundw
          case rel => exact ⟨k + 1, by omega, by go_num, _, T3, HH3.out, HT4.out.then_ HB7.out, HL4.out.below HB7.out, HM4.out.below HB7.out⟩
          case measure => simp [intOf]; omega
        · have hm : lw = M := by
            rcases HOR.out with h | h
            · exact absurd h hl
            · exact h
          have HD := Lib.hid (decide_eq_false hl)
          have HE := Lib.hid (decide_eq_true hm)
          clear hl hm
          go_wp2_with fail
          refine (Num_c 0 _).mono ?_
          rintro e w5 ⟨rfl, rfl⟩
          go_wp2_with fail
          refine (Num_c 0 _).mono ?_
          rintro e w6 ⟨rfl, rfl⟩
          go_wp2_with fail
          refine (Lines_c jb4 tb _ _ (HJ4.out.then_ (Below.refl w4.heap.size w4)).at_ (by rw [HLW.out]; have := HLN.out; omega)).mono ?_
          rw [HLW.out]
          rintro e x7 ⟨v7, rfl, ho7, hb7⟩
          obtain ⟨A7, c7, rfl, _⟩ := RowAt.ofOwn ho7
          have HBa7 := Lib.hid (bthen ((Below.refl w4.heap.size w4)) hb7 (Nat.le_refl _))
          have HRa7 := Lib.hid (show RdStrs x7 _ _ from RowAt.ofOwn ho7)
          clear ho7 hb7
          go_wp2_with fail
          refine (Texts_c _ _ _ _ _ HRa7.out (HL4.out.below HBa7.out)).mono ?_
          rintro e y7 ⟨rfl, hb7⟩
          rw [HD.out]
          have HB7 := Lib.hid (bthen HBa7.out hb7 (Nat.le_refl _))
          clear hb7 HRa7 HBa7
          go_wp2_with fail
          refine (Lines_c jb4 tb _ _ (HJ4.out.then_ HB7.out).at_ (by rw [HLW.out]; have := HLN.out; omega)).mono ?_
          rw [HLW.out]
          rintro e x8 ⟨v8, rfl, ho8, hb8⟩
          obtain ⟨A8, c8, rfl, _⟩ := RowAt.ofOwn ho8
          have HBa8 := Lib.hid (bthen (HB7.out) hb8 (Nat.le_refl _))
          have HRa8 := Lib.hid (show RdStrs x8 _ _ from RowAt.ofOwn ho8)
          clear ho8 hb8
          go_wp2_with fail
          refine (Texts_c _ _ _ _ _ HRa8.out (HM4.out.below HBa8.out)).mono ?_
          rintro e y8 ⟨rfl, hb8⟩
          rw [HE.out]
          have HB8 := Lib.hid (bthen HBa8.out hb8 (Nat.le_refl _))
          clear hb8 HRa8 HBa8
          go_wp2_with fail
          go_roundw
          case rel => exact ⟨k + 1, by omega, by go_num, _, T3, HH3.out, HT4.out.then_ HB8.out, HL4.out.below HB8.out, HM4.out.below HB8.out⟩
          case measure => simp [intOf]; omega
      · obtain rfl : k = q := by omega
        go_wp2_with fail
        refine (Fall_u ⟨262144, 0, keep, torn⟩ HTT.out HH.out.lim (by omega) (by omega) HK.out HT.out).mono ?_
        rintro e w3 ⟨rfl, hT3, hk3⟩
        obtain ⟨hu3, hh3, hor⟩ := HH.out.next ⟨262144, 0, keep, torn⟩ (by simp)
        have HR3 := Lib.hid (show (T.fall ⟨262144, 0, keep, torn⟩).room = 262144 ∧ (T.fall ⟨262144, 0, keep, torn⟩).crash = 0 ∧ (T.fall ⟨262144, 0, keep, torn⟩).calls = 0 from ⟨rfl, rfl, rfl⟩)
        have HL3 := Lib.hid (hk3.strs HL.out)
        have HM3 := Lib.hid (hk3.strs HM.out)
        generalize T.fall ⟨262144, 0, keep, torn⟩ = T3 at hT3 hu3 hh3 hor HR3
        have HT3 := Lib.hid hT3
        have HH3 := Lib.hid hh3
        obtain ⟨lw, hlw⟩ : ∃ lw, (openS T3.s).lines = lw := ⟨_, rfl⟩
        rw [hlw] at hu3 hor
        have HLW := Lib.hid hlw
        have HU3 := Lib.hid hu3
        have HOR := Lib.hid hor
        have HLN := Lib.hid (show lw.length ≤ 25 from by
          rcases HOR.out with h | h <;> rw [h]
          · exact HLL.out
          · exact HML.out)
        clear hT3 hk3 hu3 hh3 hor hlw
        go_wp2_with fail
        refine (Open_u HT3.out HU3.out.fine.up HU3.out.fine.loose HU3.out.lim (by omega) (by omega)).mono ?_
        rintro e w4 ⟨jb4, rfl, hJ4, hT4, hb4⟩
        have HT4 := Lib.hid hT4
        have HJ4 := Lib.hid hJ4
        have HL4 := Lib.hid (HL3.out.below hb4)
        have HM4 := Lib.hid (HM3.out.below hb4)
        clear hT4 hJ4 hb4
        have HX := Lib.hid (show ∀ h : lw ≠ L, lw = M from fun h => HOR.out.resolve_left h)
        by_cases hl : lw = L
        case' pos =>
          have HD := Lib.hid (decide_eq_true hl)
          clear hl
          go_wp2_with fail
          refine (Num_c 0 _).mono ?_
          rintro e w5 ⟨rfl, rfl⟩
          go_wp2_with fail
          refine (Lines_c jb4 tb _ _ (HJ4.out.then_ (Below.refl w4.heap.size w4)).at_ (by rw [HLW.out]; have := HLN.out; omega)).mono ?_
          rw [HLW.out]
          rintro e x8 ⟨v8, rfl, ho8, hb8⟩
          obtain ⟨A8, c8, rfl, _⟩ := RowAt.ofOwn ho8
          have HBa8 := Lib.hid (bthen ((Below.refl w4.heap.size w4)) hb8 (Nat.le_refl _))
          have HRa8 := Lib.hid (show RdStrs x8 _ _ from RowAt.ofOwn ho8)
          clear ho8 hb8
          go_wp2_with fail
          refine (Texts_c _ _ _ _ _ HRa8.out (HL4.out.below HBa8.out)).mono ?_
          rintro e y8 ⟨rfl, hb8⟩
          rw [HD.out]
          have HB8 := Lib.hid (bthen HBa8.out hb8 (Nat.le_refl _))
          clear hb8 HRa8 HBa8
        case' neg =>
          have HD := Lib.hid (decide_eq_false hl)
          have HE := Lib.hid (decide_eq_true (HX.out hl))
          clear hl
          go_wp2_with fail
          refine (Num_c 0 _).mono ?_
          rintro e w5 ⟨rfl, rfl⟩
          go_wp2_with fail
          refine (Lines_c jb4 tb _ _ (HJ4.out.then_ (Below.refl w4.heap.size w4)).at_ (by rw [HLW.out]; have := HLN.out; omega)).mono ?_
          rw [HLW.out]
          rintro e x7 ⟨v7, rfl, ho7, hb7⟩
          obtain ⟨A7, c7, rfl, _⟩ := RowAt.ofOwn ho7
          have HBa7 := Lib.hid (bthen ((Below.refl w4.heap.size w4)) hb7 (Nat.le_refl _))
          have HRa7 := Lib.hid (show RdStrs x7 _ _ from RowAt.ofOwn ho7)
          clear ho7 hb7
          go_wp2_with fail
          refine (Texts_c _ _ _ _ _ HRa7.out (HL4.out.below HBa7.out)).mono ?_
          rintro e y7 ⟨rfl, hb7⟩
          rw [HD.out]
          have HB7 := Lib.hid (bthen HBa7.out hb7 (Nat.le_refl _))
          clear hb7 HRa7 HBa7
          go_wp2_with fail
          refine (Lines_c jb4 tb _ _ (HJ4.out.then_ HB7.out).at_ (by rw [HLW.out]; have := HLN.out; omega)).mono ?_
          rw [HLW.out]
          rintro e x8 ⟨v8, rfl, ho8, hb8⟩
          obtain ⟨A8, c8, rfl, _⟩ := RowAt.ofOwn ho8
          have HBa8 := Lib.hid (bthen (HB7.out) hb8 (Nat.le_refl _))
          have HRa8 := Lib.hid (show RdStrs x8 _ _ from RowAt.ofOwn ho8)
          clear ho8 hb8
          go_wp2_with fail
          refine (Texts_c _ _ _ _ _ HRa8.out (HM4.out.below HBa8.out)).mono ?_
          rintro e y8 ⟨rfl, hb8⟩
          rw [HE.out]
          have HB8 := Lib.hid (bthen HBa8.out hb8 (Nat.le_refl _))
          clear hb8 HRa8 HBa8
        all_goals
          go_wp2_with fail
          have HBA := Lib.hid (HB8.out.alloc HB8.out.size (.cells #[] 9))
          have HY := Lib.hid (own_lit0 y8)
          refine (Lines_c jb4 tb _ _ (HJ4.out.then_ HBA.out).at_ (by rw [HLW.out]; have := HLN.out; omega)).mono ?_
          rw [HLW.out]
          rintro e w9 ⟨v9, rfl, ho9, hb9⟩
          obtain ⟨A9, c9, rfl, _⟩ := RowAt.ofOwn ho9
          have hs9 : y8.heap.size + 1 ≤ w9.heap.size := by have := hb9.size; simpa using this
          have HO9 := Lib.hid (own_keeps HY.out (Keeps.ofBelow (F := []) hb9) (by simp))
          have HR9 := Lib.hid (show RdStrs w9 _ _ from RowAt.ofOwn ho9)
          have HB9 := Lib.hid (bthen HBA.out hb9 (Nat.le_refl _))
          obtain ⟨nw, hnw⟩ : ∃ nw, lw.length = nw := ⟨_, rfl⟩
          have HNW := Lib.hid hnw
          have hnl := HLN.out
          rw [hnw] at hnl HR9 ⊢
          have hs8 := HB8.out.size
          clear ho9 hb9 hnw
          go_wp2_with (at_builtin; (first | (refine step_rd rfl (.tmp 219) (.tmp 221) rfl rfl y8.heap.size 0 0 (some ⟨y8.heap.size, 0, none⟩) [] (.slice A9 nw c9) lw rfl rfl HO9.out (by omega) HR9.out (by rw [HNW.out]; omega) ?_; intro v10 w10 hown10 hb10; rw [Nat.zero_add, List.nil_append, HNW.out] at hown10; obtain ⟨A10, c10, rfl, _⟩ := RowAt.ofOwn hown10; have HO10 := Lib.hid hown10; have HB10 := Lib.hid (HB9.out.trans (hb10.mono hs8)); have hs10 := hb10.size; clear hown10 hb10) | (refine step_rd rfl (.tmp 222) (.tmp 223) rfl rfl y8.heap.size nw c10 A10 lw _ [lmore] rfl rfl (HO10.out.alloc _) (by simp; omega) (rd_lit1 _ _) (by simp; omega) ?_; intro v11 w11 hown11 hb11; obtain ⟨A11, c11, rfl, _⟩ := RowAt.ofOwn hown11; have HN11 := Lib.hid (show RdStrs w11 (.slice A11 (nw + [lmore].length) c11) (lw ++ [lmore]) from by (have := RowAt.ofOwn hown11; unfold RdStrs; rw [List.length_append, HNW.out]; exact this)); have HB11 := Lib.hid ((HB10.out.alloc HB10.out.size _).trans (hb11.mono hs8)); clear hown11 hb11)))
          have HT11 := Lib.hid (HT4.out.then_ HB11.out)
          have HJ11 := Lib.hid (HJ4.out.then_ HB11.out)
          have HN11' := Lib.hid HN11.out
          simp only [List.length_cons, List.length_nil] at HN11'
          clear HN11
          refine (Note_u (s := lmore) (m := 2000) HT11.out HJ11.out HU3.out lmore_ok (by decide) (by omega) (by omega) (by rw [HR3.out.1]; omega) (by have := HLN.out; omega)).mono ?_
          rintro e w12 ⟨o12, F12, h12, rfl, hT12, hJ12, hk12⟩
          obtain ⟨e0, hu12, hc12, hr12⟩ := HU3.out.did h12 (by rw [HR3.out.2.1, HR3.out.2.2]; exact Int.le_refl _)
          rw [e0]
          have HU12 := Lib.hid hu12
          have HT12 := Lib.hid hT12
          have HN12 := Lib.hid (hk12.strs HN11'.out)
          clear h12 hu12 hT12 hJ12 e0 hc12 hr12 hk12 HN11'
          go_wp2_with fail
          refine (Fall_u pr HT12.out HU12.out.lim (by omega) (by omega) (by decide) (by decide)).mono ?_
          rintro e w13 ⟨rfl, hT13, hk13⟩
          have HT13 := Lib.hid hT13
          have HN13 := Lib.hid (hk13.strs HN12.out)
          have HU13 := Lib.hid (show Up (o12.T.fall pr) (openS (o12.T.fall pr).s) (lw ++ [lmore]) 28000 43 from
            ⟨fine_fall _ _, by rw [fall_fine HU12.out.fine]; exact HU12.out.lines, (fall_lim HU12.out.lim _ (by decide)).mono (by omega) (by omega), by rw [fall_fine HU12.out.fine]; exact HU12.out.turn⟩)
          generalize o12.T.fall pr = T13 at HT13 HU13
          clear hT13 hk13
          go_wp2_with fail
          refine (Open_u HT13.out HU13.out.fine.up HU13.out.fine.loose HU13.out.lim (by omega) (by omega)).mono ?_
          rintro e w14 ⟨jb5, rfl, hJ14, hT14, hb14⟩
          have HT14 := Lib.hid hT14
          have HJ14 := Lib.hid hJ14
          have HN14 := Lib.hid (HN13.out.below hb14)
          clear hT14 hJ14 hb14
          go_wp2_with fail
          refine (Num_c 0 _).mono ?_
          rintro e w15 ⟨rfl, rfl⟩
          go_wp2_with fail
          refine (Num_c 0 _).mono ?_
          rintro e w16 ⟨rfl, rfl⟩
          go_wp2_with fail
          refine (Lines_c jb5 tb _ _ HJ14.out.at_ (by rw [HU13.out.lines, List.length_append, HNW.out]; simp; omega)).mono ?_
          rw [HU13.out.lines]
          rintro e w17 ⟨v17, rfl, ho17, hb17⟩
          obtain ⟨A17, c17, rfl, _⟩ := RowAt.ofOwn ho17
          have HT17 := Lib.hid (HT14.out.then_ hb17)
          have HN17 := Lib.hid (HN14.out.below hb17)
          obtain ⟨n17, hn17⟩ : ∃ n17, (lw ++ [lmore]).length = n17 := ⟨_, rfl⟩
          have HR17 := Lib.hid (show RdStrs w17 (.slice A17 n17 c17) (lw ++ [lmore]) from hn17 ▸ RowAt.ofOwn ho17)
          rw [hn17]
          clear ho17 hb17 hn17
          go_wp2_with fail
          refine (Texts_c _ _ _ _ _ HR17.out HN17.out).mono ?_
          rintro e w18 ⟨rfl, hb18⟩
          rw [show decide (lw ++ [lmore] = lw ++ [lmore]) = true from decide_eq_true rfl]
          have HT18 := Lib.hid (HT17.out.then_ hb18)
          clear hb18
          go_wp2_with fail
          refine (awake_c _ HT18.out.glob).mono ?_
          rintro e w19 ⟨rfl, hb19⟩
          have HB19 := Lib.hid (bthen HT18.out.below hb19 (Nat.le_refl _))
          clear hb19
          go_wp2
          go_ret
          exact ⟨rfl, HB19.out⟩
end Go.Proofs.YtjhahhpcpempgaaDoor
