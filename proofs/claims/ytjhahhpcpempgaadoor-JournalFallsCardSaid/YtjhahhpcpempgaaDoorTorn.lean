/- JournalTorn, walked. -/
import Derived.Test.YtjhahhpcpempgaaDoorApp
import Derived.Deep.CutBlock
set_option linter.unusedVariables false
set_option linter.unusedSimpArgs false
namespace Go.Proofs.YtjhahhpcpempgaaDoor
open Go.RowKit

def pr : Pl := ⟨262144, 0, 0, 0⟩
theorem frames_len (l : List ByteArray) (h : ∀ x, x ∈ l → x.size ≤ 60) : (framesB l).size ≤ l.length * 83 := by
  have : ∀ (l : List ByteArray) (r : ByteArray), (∀ x, x ∈ l → x.size ≤ 60) → (l.foldl (fun o s => o ++ frameB s) r).size ≤ r.size + l.length * 83 := by
    intro l
    induction l with
    | nil => intro r _; simp
    | cons x l ih =>
      intro r h
      have h1 := h x (by simp)
      have h2 := frameB_size x (by omega)
      have h3 := ih (r ++ frameB x) (fun y hy => h y (by simp [hy]))
      rw [ByteArray.size_append] at h3
      simp only [List.foldl_cons, List.length_cons]; omega
  have h2 := this l mt h
  have h3 : mt.size = 0 := rfl
  have h4 : framesB l = l.foldl (fun o s => o ++ frameB s) mt := rfl
  rw [h4]; omega
theorem lineBs_size (ns : List UInt8) : ∀ x, x ∈ lineBs ns → x.size ≤ 60 := fun x hx => by
  obtain ⟨n, _, rfl⟩ := List.mem_map.1 hx
  exact lineB_size _ n.toNat_lt

set_option maxRecDepth 100000 in
set_option maxHeartbeats 3200000 in
theorem Torn_c (v : Value) (ns : List UInt8) (a b : UInt8) (keep torn : Int) (w : World) (hG : Glob w) (hns : RdB w v ns) (hk1 : keep ≤ 9223372036854775807) (ht1 : torn ≤ 9223372036854775807) :
    Calls Tryd.prog 4 #[v, .int .u8 (a.toNat : Int), .int .u8 (b.toNat : Int), .int .i64 keep, .int .i64 torn] w fun e w' => e = .returned (.bool true) ∧ Below w.heap.size w w' := by
  obtain ⟨A, c, rfl, hlc, hcm⟩ := hns.form
  have HG := Lib.hid hG
  unfold maxLen at hcm
  obtain ⟨n, hn'⟩ : ∃ n, ns.length = n := ⟨_, rfl⟩
  rw [hn'] at hlc hns
  have HNS := Lib.hid hns
  have HN := Lib.hid hn'
  have hnn := hn'
  rw [hn']
  have HK := Lib.hid hk1
  have HT := Lib.hid ht1
  clear hns hG hn' hk1 ht1 hnn
  by_cases hlen : n ≤ 12
  · go_enter Tryd.func4, Tryd.ntmps4
    go_wp2_with fail
    have hw0 := blk_new w (.cells #[.int .i64 262144, .int .i64 0, .int .i64 0, .int .i64 0] 28)
    have hbw : Below w.heap.size w (w.alloc (.cells #[.int .i64 262144, .int .i64 0, .int .i64 0, .int .i64 0] 28)) := (Below.refl _ _).alloc (Nat.le_refl _) _
    have hsz0 : (w.alloc (.cells #[.int .i64 262144, .int .i64 0, .int .i64 0, .int .i64 0] 28)).heap.size = w.heap.size + 1 := by simp
    obtain ⟨pb, hpb⟩ : ∃ pb, w.heap.size = pb := ⟨_, rfl⟩
    generalize w.alloc (.cells #[.int .i64 262144, .int .i64 0, .int .i64 0, .int .i64 0] 28) = w0 at hw0 hbw hsz0 ⊢
    have HBW := Lib.hid hbw
    have HG0 := Lib.hid (HG.out.below hbw)
    have hgs := HG.out.size
    rw [hpb] at hw0 hsz0 hgs ⊢
    have HP := Lib.hid hw0
    have HPB := Lib.hid hpb
    clear hbw hw0 hpb
    refine (New_u (w0 := w0) (W := w0) pr HG0.out (Below.refl _ _)).mono ?_
    rintro e w1 ⟨tb, rfl, hT1, hb1⟩
    have HT1 := Lib.hid hT1
    have HU1 := Lib.hid (up_new pr (by decide))
    rw [fine_openJ rfl] at HU1
    clear hT1 hb1
    go_wp2_with fail
    refine (Open_u HT1.out rfl rfl HU1.out.lim (by omega) (by omega)).mono ?_
    rintro e w2 ⟨jb, rfl, hJ2, hT2, hb2⟩
    have HT2 := Lib.hid hT2
    have HJ2 := Lib.hid hJ2
    clear hT2 hJ2 hb2
    go_wp2_with fail
    refine (Num_c 0 _).mono ?_
    rintro e w3 ⟨rfl, rfl⟩
    have HNS2 := Lib.hid ((HNS.out.below HBW.out).below HT2.out.below)
    go_wp2_with fail
    refine (lines_c _ ns _ HNS2.out (by rw [HN.out]; omega)).mono ?_
    rintro e w4 ⟨v4, rfl, ho4, hb4⟩
    obtain ⟨A4, c4, rfl, _⟩ := RowAt.ofOwn ho4
    have HT4 := Lib.hid (HT2.out.then_ hb4)
    have HJ4 := Lib.hid (HJ2.out.then_ hb4)
    have HR4 := Lib.hid (show RdStrs w4 _ _ from RowAt.ofOwn ho4)
    clear ho4 hb4
    have HFL := Lib.hid (frames_len (lineBs ns) (lineBs_size ns))
    have hll := lineBs_len ns
    rw [HN.out] at hll
    obtain ⟨l, hl⟩ : ∃ l, lineBs ns = l := ⟨_, rfl⟩
    rw [hl] at hll HFL HR4 ⊢
    have HLO := Lib.hid (show LinesOk l from hl ▸ lineBs_ok ns)
    have HL := Lib.hid hl
    have HLL := Lib.hid hll
    clear hl
    rw [hll]
    rw [hll] at HR4 HFL
    clear hll
    go_wp2_with fail
    refine (Save_u (l := l) (m := 2000) HT4.out HJ4.out HR4.out HU1.out HLO.out (by have := HFL.out; omega) (by omega) (by omega) (by decide) (by rw [HLL.out]; omega)).mono ?_
    rintro e w5 ⟨o5, F5, h5, rfl, hT5, hJ5, _⟩
    obtain ⟨e0, hu5, hc5, hr5⟩ := HU1.out.did h5 (Int.le_refl _)
    rw [e0]
    have HU5 := Lib.hid hu5
    have HT5 := Lib.hid hT5
    clear h5 hu5 hT5 hJ5 e0 hc5 hr5
    go_wp2_with fail
    refine (Num_c 0 _).mono ?_
    rintro e w6 ⟨rfl, rfl⟩
    obtain ⟨p0, ⟨p1, p2, p3, p4⟩, p5⟩ := blk4 (blk_b HT5.out.below HP.out)
    go_wp2_with fail
    have hw8 := blk_new w5 (.cells #[.int .i64 262144, .int .i64 2, .int .i64 0, .int .i64 0] 28)
    have hb8 : Below w5.heap.size w5 (w5.alloc (.cells #[.int .i64 262144, .int .i64 2, .int .i64 0, .int .i64 0] 28)) := (Below.refl _ _).alloc (Nat.le_refl _) _
    obtain ⟨qb, hqb⟩ : ∃ qb, w5.heap.size = qb := ⟨_, rfl⟩
    have HQB := Lib.hid (hqb ▸ HT5.out.below.size : w0.heap.size ≤ qb)
    generalize w5.alloc (.cells #[.int .i64 262144, .int .i64 2, .int .i64 0, .int .i64 0] 28) = w8 at hw8 hb8 ⊢
    rw [hqb] at hw8 ⊢
    have HT8 := Lib.hid (HT5.out.then_ hb8)
    have HQ8 := Lib.hid hw8
    clear hw8 hb8 hqb p0 p1 p2 p3 p4 p5
    refine (Fall_u ⟨262144, 2, 0, 0⟩ HT8.out HU5.out.lim (by omega) (by omega) (by simp) (by simp)).mono ?_
    rintro e w9 ⟨rfl, hT9, hk9⟩
    have HT9 := Lib.hid hT9
    have HQ9 := Lib.hid (hk9.blk HQ8.out (by decide))
    have HU9 := Lib.hid (show Up (o5.T.fall ⟨262144, 2, 0, 0⟩) (openS (o5.T.fall ⟨262144, 2, 0, 0⟩).s) l 2000 3 from
      ⟨fine_fall _ _, by rw [fall_fine HU5.out.fine]; exact HU5.out.lines, (fall_lim (HU5.out.lim) _ (by simp)).mono (by omega) (by omega), by rw [fall_fine HU5.out.fine]; exact HU5.out.turn⟩)
    have HR9 := Lib.hid (show (o5.T.fall ⟨262144, 2, 0, 0⟩).room = 262144 from rfl)
    generalize o5.T.fall ⟨262144, 2, 0, 0⟩ = T9 at HT9 HU9 HR9
    clear hT9 hk9
    go_wp2_with fail
    refine (Open_u HT9.out HU9.out.fine.up HU9.out.fine.loose HU9.out.lim (by omega) (by omega)).mono ?_
    rintro e w10 ⟨jb2, rfl, hJ10, hT10, hb10⟩
    have HT10 := Lib.hid hT10
    have HJ10 := Lib.hid hJ10
    have HQ10 := Lib.hid (blk_b hb10 HQ9.out)
    clear hT10 hJ10 hb10
    go_wp2_with fail
    refine (Line_c a.toNat _ a.toNat_lt).mono ?_
    rintro e w11 ⟨rfl, hb11⟩
    have HT11 := Lib.hid (HT10.out.then_ hb11)
    have HJ11 := Lib.hid (HJ10.out.then_ hb11)
    have HQ11 := Lib.hid (blk_b hb11 HQ10.out)
    clear hb11
    obtain ⟨x, hx⟩ : ∃ x, lineB a.toNat = x := ⟨_, rfl⟩
    have HX := Lib.hid hx
    have HXO := Lib.hid (show lineOk x = true from hx ▸ lineB_ok _ a.toNat_lt)
    have HXS := Lib.hid (show x.size ≤ 60 from hx ▸ lineB_size _ a.toNat_lt)
    rw [hx]
    clear hx
    go_wp2_with fail
    refine (Note_u (s := x) (m := 200) HT11.out HJ11.out HU9.out HXO.out (by have := HXS.out; omega) (by omega) (by omega) (by rw [HR9.out]; omega) (by rw [HLL.out]; omega)).mono ?_
    rintro e w12 ⟨o12, F12, h12, rfl, hT12, hJ12, hk12⟩
    have HQ12 := Lib.hid (hk12.blk HQ11.out (by decide))
    have HT12 := Lib.hid hT12
    have HW12 := Lib.hid h12
    clear hJ12 hk12 hT12 h12
    obtain ⟨p0, ⟨p1, p2, p3, p4⟩, p5⟩ := blk4 (blk_b HT12.out.below HP.out)
    obtain ⟨q0, ⟨q1, q2, q3, q4⟩, q5, q6, q7, q8⟩ := blk4 HQ12.out
    go_upto_region 16 with (fail)
    have hkq : Keeps [qb] w12 ((((w12.setCell ⟨qb, 0, none⟩ (.int .i64 262144)).setCell ⟨qb, 1, none⟩ (.int .i64 0)).setCell ⟨qb, 2, none⟩ (.int .i64 0)).setCell ⟨qb, 3, none⟩ (.int .i64 0)) :=
      ((((Keeps.refl _ _).setCell (by simp) _).setCell (by simp) _).setCell (by simp) _).setCell (by simp) _
    have hbq : ((((w12.setCell ⟨qb, 0, none⟩ (.int .i64 262144)).setCell ⟨qb, 1, none⟩ (.int .i64 0)).setCell ⟨qb, 2, none⟩ (.int .i64 0)).setCell ⟨qb, 3, none⟩ (.int .i64 0)).heap[qb]? = some (.cells #[.int .i64 262144, .int .i64 0, .int .i64 0, .int .i64 0] 28 (0, 0)) :=
      blk_set (blk_set (blk_set (blk_set HQ12.out 0 _) 1 _) 2 _) 3 _
    generalize (((w12.setCell ⟨qb, 0, none⟩ (.int .i64 262144)).setCell ⟨qb, 1, none⟩ (.int .i64 0)).setCell ⟨qb, 2, none⟩ (.int .i64 0)).setCell ⟨qb, 3, none⟩ (.int .i64 0) = w13 at hkq hbq ⊢
    have HT13 := Lib.hid (HT12.out.other hkq HQB.out (by omega) (notin_FT HT12.out.at_.ft (etype_of HQ12.out) (by decide)))
    have HQ13 := Lib.hid hbq
    clear q0 q1 q2 q3 q4 q5 q6 q7 q8 p0 p1 p2 p3 p4 p5 hbq hkq
    obtain ⟨q0, ⟨q1, q2, q3, q4⟩, q5, q6, q7, q8⟩ := blk4 HQ13.out
    go_upto_region 18 with (fail)
    have hkq : Keeps [qb] w13 ((w13.setCell ⟨qb, 2, none⟩ (.int .i64 keep)).setCell ⟨qb, 3, none⟩ (.int .i64 torn)) := ((Keeps.refl _ _).setCell (by simp) _).setCell (by simp) _
    have hbq : ((w13.setCell ⟨qb, 2, none⟩ (.int .i64 keep)).setCell ⟨qb, 3, none⟩ (.int .i64 torn)).heap[qb]? = some (.cells #[.int .i64 262144, .int .i64 0, .int .i64 keep, .int .i64 torn] 28 (0, 0)) :=
      blk_set (blk_set HQ13.out 2 _) 3 _
    generalize (w13.setCell ⟨qb, 2, none⟩ (.int .i64 keep)).setCell ⟨qb, 3, none⟩ (.int .i64 torn) = w14 at hkq hbq ⊢
    have HT14 := Lib.hid (HT13.out.other hkq HQB.out (by omega) (notin_FT HT13.out.at_.ft (etype_of HQ13.out) (by decide)))
    clear q0 q1 q2 q3 q4 q5 q6 q7 q8
    obtain ⟨q0, ⟨q1, q2, q3, q4⟩, q5, q6, q7, q8⟩ := blk4 hbq
    clear hbq hkq
    have HLIM := Lib.hid (HW12.out.lim _ _ HU9.out.lim)
    go_wp2_with fail
    refine (Fall_u ⟨262144, 0, keep, torn⟩ HT14.out HLIM.out (by omega) (by omega) HK.out HT.out).mono ?_
    rintro e w15 ⟨rfl, hT15, _⟩
    have HT15 := Lib.hid hT15
    have HL15 := Lib.hid (fall_lim HLIM.out ⟨262144, 0, keep, torn⟩ (by simp))
    have HOR := Lib.hid HW12.out.or
    have HFF := Lib.hid (fun h : Fine o12.T o12.J => fall_fine h ⟨262144, 0, keep, torn⟩)
    have HF15 := Lib.hid (fine_fall o12.T ⟨262144, 0, keep, torn⟩)
    have HC15 := Lib.hid (show (o12.T.fall ⟨262144, 0, keep, torn⟩).crash = 0 ∧ (o12.T.fall ⟨262144, 0, keep, torn⟩).calls = 0 ∧ (o12.T.fall ⟨262144, 0, keep, torn⟩).room = 262144 from ⟨rfl, rfl, rfl⟩)
    have HOK := Lib.hid (show (o12.e = 0 ∧ (openS (o12.T.fall ⟨262144, 0, keep, torn⟩).s).lines = l ++ [x] ∨ o12.e = 16 ∧ ((openS (o12.T.fall ⟨262144, 0, keep, torn⟩).s).lines = l ∨ (openS (o12.T.fall ⟨262144, 0, keep, torn⟩).s).lines = l ++ [x])) ∧ (openS (o12.T.fall ⟨262144, 0, keep, torn⟩).s).turn ≤ 4 from by
      have ht := HU9.out.turn
      have hl := HU9.out.lines
      rcases HOR.out with ⟨h1, h2, h3, h4, h5⟩ | ⟨h1, h2, h3, h4⟩
      · rw [HFF.out h2]; exact ⟨.inl ⟨h1, h3⟩, by omega⟩
      · obtain ⟨h5, h6⟩ := h4 ⟨262144, 0, keep, torn⟩
        rw [hl] at h5
        exact ⟨.inr ⟨h1, h5⟩, by omega⟩)
    generalize o12.T.fall ⟨262144, 0, keep, torn⟩ = T15 at HT15 HL15 HF15 HC15 HOK
    clear hT15 q0 q1 q2 q3 q4 q5 q6 q7 q8 HOR HFF
    go_wp2_with fail
    refine (Open_u HT15.out HF15.out.up HF15.out.loose HL15.out (by omega) (by omega)).mono ?_
    rintro e w16 ⟨jb3, rfl, hJ16, hT16, _⟩
    have HT16 := Lib.hid hT16
    have HJ16 := Lib.hid hJ16
    clear hT16 hJ16
    go_wp2_with fail
    refine (Num_c 0 _).mono ?_
    rintro e w17 ⟨rfl, rfl⟩
    have HNS16 := Lib.hid ((HNS.out.below HBW.out).below HT16.out.below)
    go_wp2_with fail
    refine (lines_c _ ns _ HNS16.out (by rw [HN.out]; omega)).mono ?_
    rintro e w18 ⟨v18, rfl, ho18, hb18⟩
    rw [HL.out] at ho18
    obtain ⟨A18, c18, rfl, _⟩ := RowAt.ofOwn ho18
    have HT18 := Lib.hid (HT16.out.then_ hb18)
    have HJ18 := Lib.hid (HJ16.out.then_ hb18)
    have HR18 := Lib.hid (show RdStrs w18 _ _ from RowAt.ofOwn ho18)
    have HNS18 := Lib.hid ((HNS.out.below HBW.out).below HT18.out.below)
    clear ho18 hb18
    go_wp2_with fail
    refine (lines_c _ ns _ HNS18.out (by rw [HN.out]; omega)).mono ?_
    rintro e w19 ⟨v19, rfl, ho19, hb19⟩
    rw [HL.out] at ho19
    obtain ⟨A19, c19, rfl, _⟩ := RowAt.ofOwn ho19
    have HT19 := Lib.hid (HT18.out.then_ hb19)
    have HO19 := Lib.hid ho19
    have HB19 := Lib.hid hb19
    clear ho19 hb19
    go_wp2_with fail
    refine (Line_c a.toNat _ a.toNat_lt).mono ?_
    rintro e w20 ⟨rfl, hb20⟩
    rw [HX.out]
    have hs20 := hb20.size
    have hs19 := HT19.out.below.size
    have hs18 := HT18.out.below.size
    have HB20 := Lib.hid (bthen HB19.out hb20 (Nat.le_refl _))
    have hs21 := HB19.out.size
    have HO20 := Lib.hid (own_keeps HO19.out (Keeps.ofBelow (F := []) hb20) (by simp))
    clear hb20
    obtain ⟨i0, hi, hz0, hz1, hz2⟩ := info_parts Tryd.infoStr
    have hll := HLL.out
    rw [hll] at HO20 ⊢
    clear hll
    have HI := Lib.hid hi
    clear hi
    go_wp2_with (at_builtin; go_loud (refine wpList_append_own _ rfl _ _ 33 rfl w18.heap.size 9 i0 (.string ⟨#[]⟩) 1 16 Tryd.underlying33 HI.out hz0 hz1 hz2 rfl (by decide) _ _ _ rfl (HO20.out.alloc _) ⟨w20.heap.size, 0, none⟩ 1 1 [.string x] rfl rfl (cell_one_new _ _ _) (by simp [Value.oneCell']) (by unfold maxLen; omega) (by omega) (by simp; omega) ?_); intro v' w21 hown' hgrow _; obtain ⟨g', cap', rfl⟩ := ownsRow_succ hown'; have HO21 := Lib.hid hown'; have HG21 := Lib.hid hgrow; clear hown' hgrow; have hb21 := Lib.hid (((HB20.out.alloc (by omega) _).grown HG21.out (by simp; omega) (fun j hj => by have := (HO20.out.lt _ hj).1; omega)) : Below w18.heap.size w18 w21); have HT21 := Lib.hid (HT18.out.then_ hb21.out); have HJ21 := Lib.hid (HJ18.out.then_ hb21.out); have HR21 := Lib.hid (HR18.out.below hb21.out))
    have HS21 := Lib.hid (show RdStrs w21 (.slice (some ⟨g', 0, none⟩) (n + 1) cap') (l ++ [x]) from by
      have := RowAt.ofOwn HO21.out
      unfold RdStrs
      rw [List.length_append, HLL.out, List.map_append]
      exact this)
    have HTU := Lib.hid HOK.out.2
    obtain ⟨lw, hlw⟩ : ∃ lw, (openS T15.s).lines = lw := ⟨_, rfl⟩
    have hok := HOK.out.1
    rw [hlw] at hok
    have HLW := Lib.hid hlw
    have HU15 := Lib.hid (show Up T15 (openS T15.s) lw 2200 6 from ⟨HF15.out, hlw, HL15.out.mono (by omega) (by omega), by have := HTU.out; omega⟩)
    have HLN := Lib.hid (show lw.length ≤ 13 from by
      rcases hok with ⟨_, h⟩ | ⟨_, h | h⟩ <;> subst h
      · rw [List.length_append, HLL.out]; simp; omega
      · rw [HLL.out]; omega
      · rw [List.length_append, HLL.out]; simp; omega)
    refine (Lines_c jb3 tb _ _ HJ21.out.at_ (by rw [HLW.out]; have := HLN.out; omega)).mono ?_
    rw [hlw]
    rintro e w22 ⟨v22, rfl, ho22, hb22⟩
    obtain ⟨A22, c22, rfl, hc22, _⟩ := RowAt.ofOwn ho22
    have HT22 := Lib.hid (HT21.out.then_ hb22)
    have HJ22 := Lib.hid (HJ21.out.then_ hb22)
    have HR22 := Lib.hid (HR21.out.below hb22)
    have HS22 := Lib.hid (HS21.out.below hb22)
    rw [HLL.out] at HR22
    obtain ⟨nw, hnw⟩ : ∃ nw, lw.length = nw := ⟨_, rfl⟩
    have HNW := Lib.hid hnw
    have HM22 := Lib.hid (show RdStrs w22 (.slice A22 nw c22) lw from hnw ▸ RowAt.ofOwn ho22)
    rw [hnw]
    clear ho22 hb22 hlw hs18 hs19 hs20 hs21 HO20 HB20 HB19 HO19 hb21 HG21 HO21 HR21 HS21 HJ21 HT21 hnw hc22
    have HNE := Lib.hid (show lw = l ++ [x] → decide (lw = l) = false from fun h => by
      rw [decide_eq_false_iff_not, h]
      intro h2
      have := congrArg List.length h2
      simp at this)
    have HTX := Lib.hid (fun W (hb : Below w22.heap.size w22 W) => Texts_c _ _ _ _ W (HM22.out.below hb) (HS22.out.below hb))
    have HTY := Lib.hid (fun W (hb : Below w22.heap.size w22 W) => Texts_c _ _ _ _ W (HM22.out.below hb) (HR22.out.below hb))
    rcases hok with ⟨he, hL⟩ | ⟨he, hL | hL⟩
    case' inl =>
      rw [he]
      have HL1 := Lib.hid (decide_eq_true hL)
      have HL2 := Lib.hid (HNE.out hL)
      clear he hL HNE
      go_wp2_with fail
      refine (Num_c 0 _).mono ?_
      rintro e w23 ⟨rfl, rfl⟩
      go_wp2_with fail
      refine (HTX.out _ (Below.refl _ _)).mono ?_
      rintro e w24 ⟨rfl, hb24⟩
      rw [HL1.out]
      have HB24 := Lib.hid hb24
      clear hb24
      go_wp2_with fail
      refine (Num_c 0 _).mono ?_
      rintro e w25 ⟨rfl, rfl⟩
      go_wp2_with fail
      refine (HTY.out _ HB24.out).mono ?_
      rintro e w26 ⟨rfl, hb26⟩
      rw [HL2.out]
      have HB26 := Lib.hid (bthen HB24.out hb26 (Nat.le_refl _))
      clear hb26 HB24
      go_wp2_with fail
      refine (HTX.out _ HB26.out).mono ?_
      rintro e w27 ⟨rfl, hb27⟩
      rw [HL1.out]
      have HB27 := Lib.hid (bthen HB26.out hb27 (Nat.le_refl _))
      clear hb27 HB26 HL1 HL2
    case' inr.inl =>
      rw [he]
      have HL1 := Lib.hid (decide_eq_true hL)
      clear he hL HNE
      go_wp2_with fail
      refine (Num_c 16 _).mono ?_
      rintro e w23 ⟨rfl, rfl⟩
      go_wp2_with fail
      refine (Num_c 16 _).mono ?_
      rintro e w24 ⟨rfl, rfl⟩
      go_wp2_with fail
      refine (Num_c 16 _).mono ?_
      rintro e w25 ⟨rfl, rfl⟩
      go_wp2_with fail
      refine (HTY.out _ (Below.refl _ _)).mono ?_
      rintro e w27 ⟨rfl, hb27⟩
      rw [HL1.out]
      have HB27 := Lib.hid hb27
      clear hb27 HL1
    case' inr.inr =>
      rw [he]
      have HL1 := Lib.hid (decide_eq_true hL)
      have HL2 := Lib.hid (HNE.out hL)
      clear he hL HNE
      go_wp2_with fail
      refine (Num_c 16 _).mono ?_
      rintro e w23 ⟨rfl, rfl⟩
      go_wp2_with fail
      refine (Num_c 16 _).mono ?_
      rintro e w24 ⟨rfl, rfl⟩
      go_wp2_with fail
      refine (Num_c 16 _).mono ?_
      rintro e w25 ⟨rfl, rfl⟩
      go_wp2_with fail
      refine (HTY.out _ (Below.refl _ _)).mono ?_
      rintro e w26 ⟨rfl, hb26⟩
      rw [HL2.out]
      have HB26 := Lib.hid hb26
      clear hb26
      go_wp2_with fail
      refine (HTX.out _ HB26.out).mono ?_
      rintro e w27 ⟨rfl, hb27⟩
      rw [HL1.out]
      have HB27 := Lib.hid (bthen HB26.out hb27 (Nat.le_refl _))
      clear hb27 HB26 HL1 HL2
    all_goals
      go_wp2_with fail
      refine (Line_c b.toNat _ b.toNat_lt).mono ?_
      rintro e w28 ⟨rfl, hb28⟩
      have HB28 := Lib.hid (bthen HB27.out hb28 (Nat.le_refl _))
      clear hb28 HB27
      have HT28 := Lib.hid (HT22.out.then_ HB28.out)
      have HJ28 := Lib.hid (HJ22.out.then_ HB28.out)
      have HM28 := Lib.hid (HM22.out.below HB28.out)
      obtain ⟨y, hy⟩ : ∃ y, lineB b.toNat = y := ⟨_, rfl⟩
      have HY := Lib.hid hy
      have HYO := Lib.hid (show lineOk y = true from hy ▸ lineB_ok _ b.toNat_lt)
      have HYS := Lib.hid (show y.size ≤ 60 from hy ▸ lineB_size _ b.toNat_lt)
      rw [hy]
      clear hy HTX HTY
      go_wp2_with fail
      refine (Note_u (s := y) (m := 200) HT28.out HJ28.out HU15.out HYO.out (by have := HYS.out; omega) (by omega) (by omega) (by rw [HC15.out.2.2]; omega) (by have := HLN.out; omega)).mono ?_
      rintro e w29 ⟨o29, F29, h29, rfl, hT29, hJ29, hk29⟩
      obtain ⟨e0, hu29, hc29, hr29⟩ := HU15.out.did h29 (by rw [HC15.out.1, HC15.out.2.1]; exact Int.le_refl _)
      rw [e0]
      have HU29 := Lib.hid hu29
      have HT29 := Lib.hid hT29
      have HM29 := Lib.hid (hk29.strs HM28.out)
      clear h29 hu29 hT29 hJ29 e0 hc29 hr29 hk29
      obtain ⟨p0, ⟨p1, p2, p3, p4⟩, p5⟩ := blk4 (blk_b HT29.out.below HP.out)
      go_wp2_with fail
      refine (Fall_u pr HT29.out HU29.out.lim (by omega) (by omega) (by decide) (by decide)).mono ?_
      rintro e w30 ⟨rfl, hT30, hk30⟩
      have HT30 := Lib.hid hT30
      have HM30 := Lib.hid (hk30.strs HM29.out)
      have HU30 := Lib.hid (show Up (o29.T.fall pr) (openS (o29.T.fall pr).s) (lw ++ [y]) 2400 9 from
        ⟨fine_fall _ _, by rw [fall_fine HU29.out.fine]; exact HU29.out.lines, (fall_lim HU29.out.lim _ (by decide)).mono (by omega) (by omega), by rw [fall_fine HU29.out.fine]; exact HU29.out.turn⟩)
      generalize o29.T.fall pr = T30 at HT30 HU30
      clear hT30 hk30 p0 p1 p2 p3 p4 p5
      go_wp2_with fail
      refine (Open_u HT30.out HU30.out.fine.up HU30.out.fine.loose HU30.out.lim (by omega) (by omega)).mono ?_
      rintro e w31 ⟨jb4, rfl, hJ31, hT31, hb31⟩
      have HT31 := Lib.hid hT31
      have HJ31 := Lib.hid hJ31
      have HM31 := Lib.hid (HM30.out.below hb31)
      clear hT31 hJ31 hb31
      go_wp2_with fail
      refine (Num_c 0 _).mono ?_
      rintro e w32 ⟨rfl, rfl⟩
      go_wp2_with fail
      refine (Num_c 0 _).mono ?_
      rintro e w33 ⟨rfl, rfl⟩
      go_wp2_with fail
      refine (Lines_c jb4 tb _ _ HJ31.out.at_ (by rw [HU30.out.lines]; have := HLN.out; simp; omega)).mono ?_
      rw [HU30.out.lines]
      rintro e w34 ⟨v34, rfl, ho34, hb34⟩
      obtain ⟨A34, c34, rfl, _⟩ := RowAt.ofOwn ho34
      have HT34 := Lib.hid (HT31.out.then_ hb34)
      have HM34 := Lib.hid (HM31.out.below hb34)
      obtain ⟨n34, hn34⟩ : ∃ n34, (lw ++ [y]).length = n34 := ⟨_, rfl⟩
      have HR34 := Lib.hid (show RdStrs w34 (.slice A34 n34 c34) (lw ++ [y]) from hn34 ▸ RowAt.ofOwn ho34)
      rw [hn34]
      clear ho34 hb34 hn34
      obtain ⟨v35, w35, hr35, ho35, hb35⟩ := run_app_lit w34 _ _ HM34.out (by have := HLN.out; omega)
      obtain ⟨A35, c35, rfl, _⟩ := RowAt.ofOwn ho35
      rw [HNW.out] at hr35 ho35
      have HRR := Lib.hid hr35
      clear hr35
      have HO35 := Lib.hid ho35
      have HB35 := Lib.hid hb35
      have HT35 := Lib.hid (HT34.out.then_ hb35)
      have hsz35 := hb35.size
      clear ho35 hb35
      go_wp2_with (at_builtin; go_loud (refine step_append rfl _ _ 33 rfl 33 rfl _ _ _ _ rfl rfl HRR.out ?_))
      refine (Line_c b.toNat _ b.toNat_lt).mono ?_
      rintro e w36 ⟨rfl, hb36⟩
      rw [HY.out]
      have hsz36 := hb36.size
      obtain ⟨g37, c37, w37, hr37, ho37, hb37⟩ := run_app_one w36 w34.heap.size nw c35 A35 lw y (own_keeps HO35.out (Keeps.ofBelow (F := []) hb36) (by simp)) (by rw [← HNW.out]; have := HLN.out; omega) (by omega)
      have HRS := Lib.hid hr37
      have HB37 := Lib.hid ((bthen HB35.out hb36 (Nat.le_refl _)).trans hb37)
      have HS37 := Lib.hid (show RdStrs w37 (.slice (some ⟨g37, 0, none⟩) (nw + 1) c37) (lw ++ [y]) from by
        have := RowAt.ofOwn ho37
        unfold RdStrs
        rw [List.length_append, HNW.out]
        exact this)
      have HT37 := Lib.hid (HT34.out.then_ HB37.out)
      have HR37 := Lib.hid (HR34.out.below HB37.out)
      clear hr37 ho37 hb37 hb36 hsz36 hsz35
      go_wp2_with (at_builtin; go_loud (refine step_append rfl _ _ 33 rfl 33 rfl _ _ _ _ rfl rfl HRS.out ?_))
      refine (Texts_c _ _ _ _ _ HR37.out HS37.out).mono ?_
      rintro e w38 ⟨rfl, hb38⟩
      rw [show decide (lw ++ [y] = lw ++ [y]) = true from decide_eq_true rfl]
      have HT38 := Lib.hid (HT37.out.then_ hb38)
      clear hb38
      go_wp2_with fail
      refine (awake_c _ HT38.out.glob).mono ?_
      rintro e w39 ⟨rfl, hb39⟩
      have HB39 := Lib.hid (bthen HT38.out.below hb39 (Nat.le_refl _))
      clear hb39
      go_wp2
      go_ret
      exact ⟨rfl, bthen HBW.out HB39.out (Nat.le_refl _)⟩
  · go_enter Tryd.func4, Tryd.ntmps4
    go_wp2_with fail
    refine (awake_c w HG.out).mono ?_
    rintro e w1 ⟨rfl, hb1⟩
    go_wp2
    go_ret
    exact ⟨rfl, hb1⟩
end Go.Proofs.YtjhahhpcpempgaaDoor
