/- The journal's anew: lines on the side that does not count. -/
import Derived.Test.YtjhahhpcpempgaaDoorAnew
import Derived.IntWalk
set_option linter.unusedVariables false
set_option linter.unusedSimpArgs false
namespace Go.Proofs.YtjhahhpcpempgaaDoor
open Go.RowKit

theorem rd_lit2 (w : World) (x y : ByteArray) : RdStrs (w.alloc (.cells #[.string x, .string y] 9)) (.slice (some ⟨w.heap.size, 0, none⟩) 2 2) [x, y] := by
  refine ⟨_, _, rfl, by simp, by decide, rfl, .inr ⟨w.heap.size, 0, _, _, rfl, blk_new w _, fun j hj => ?_⟩⟩
  simp only [List.length_cons, List.length_nil] at hj
  match j, hj with
  | 0, _ => rfl
  | 1, _ => rfl
theorem rd_lit1 (w : World) (x : ByteArray) : RdStrs (w.alloc (.cells #[.string x] 9)) (.slice (some ⟨w.heap.size, 0, none⟩) 1 1) [x] := by
  refine ⟨_, _, rfl, by simp, by decide, rfl, .inr ⟨w.heap.size, 0, _, _, rfl, blk_new w _, fun j hj => ?_⟩⟩
  simp only [List.length_cons, List.length_nil] at hj
  match j, hj with
  | 0, _ => rfl

/-- What a journal's writing makes of a tape and a journal, and tells. -/
structure Out where
  e : Int
  T : Tp
  J : Jn
def anewB (l : List ByteArray) (turn : Int) : ByteArray := mt ++ headB turn (framesB l).size ++ framesB l
def anewM (T : Tp) (J : Jn) (l : List ByteArray) : Out :=
  let T1 := T.put ⟨1 - J.side, true, mt⟩
  if T1.down then ⟨16, T1, J.told 16⟩ else
  let T2 := T1.addT (1 - J.side) (anewB l (J.turn + 1))
  let e2 := T1.addE (1 - J.side) (anewB l (J.turn + 1))
  if e2 != 0 then ⟨e2, T2, J.told e2⟩ else
  if T2.sealed.down then ⟨16, T2.sealed, J.told 16⟩ else ⟨0, T2.sealed, { J with side := 1 - J.side, turn := J.turn + 1, lines := l }⟩

/-- The state behind a call of a journal's. -/
def Wrote (jb b : Nat) (F : List Nat) (o : Out) (w : World) (en : Ending) (w' : World) : Prop :=
  en = .returned (.int .i64 o.e) ∧ JAt jb b o.J w' ∧ ∃ F', TAt b F' o.T w' ∧ Keeps (jb :: F) w w' ∧ ∀ i, i ∈ F' → i ∈ F ∨ w.heap.size ≤ i

theorem anewB_size (l : List ByteArray) (t : Int) (h0 : 0 ≤ t) (h1 : t ≤ 9223372036854775807) (h2 : (framesB l).size ≤ 1099511627776) : (anewB l t).size ≤ (framesB l).size + 44 := by
  have a := itoaB_size t (by omega) h1
  have b := itoaB_size (framesB l).size (by omega) (by omega)
  have c : (⟨#[32]⟩ : ByteArray).size = 1 := rfl
  have d : (⟨#[59]⟩ : ByteArray).size = 1 := rfl
  have e : mt.size = 0 := rfl
  unfold anewB headB
  simp only [ByteArray.size_append]
  omega
theorem cat2 (x y : ByteArray) : catAll [x, y] = mt ++ x ++ y := rfl

theorem addE_zero {T : Tp} {n : Int} {m : ByteArray} (h : T.addE n m = 0) : (T.addT n m).down = false := by
  unfold Tp.addE at h
  unfold Tp.addT
  split at h
  · cases h
  · rename_i hf
    rw [if_neg hf]
    cases hd : (T.put ⟨n, false, m⟩).down
    · rfl
    · rw [hd] at h; cases h

theorem downE_true {b : Bool} (h : b = true) : downE b = 16 := by rw [h]; rfl
theorem downE_false {b : Bool} (h : b = false) : downE b = 0 := by rw [h]; rfl

set_option maxRecDepth 100000 in
set_option maxHeartbeats 3200000 in
theorem anew_c (jb b : Nat) (F : List Nat) (T : Tp) (J : Jn) (lv : Value) (l : List ByteArray) (w : World) (hJ : JAt jb b J w) (hT : TAt b F T w) (hG : Glob w) (hl : RdStrs w lv l) (hd : T.down = false)
    (a k : Nat) (hlim : T.lim a k) (ha : a + (framesB l).size + 44 ≤ 1099511627776) (hk : k ≤ 999000) (hsd : J.side = 0 ∨ J.side = 1) (ht0 : 0 ≤ J.turn) (ht1 : J.turn ≤ 4611686018427387904) (hn : l.length ≤ 1099511627776) :
    Calls Tryd.prog 20 #[.pointer (some ⟨jb, 0, none⟩), lv] w (Wrote jb b F (anewM T J l) w) := by
  obtain ⟨sd, hsd'⟩ : ∃ sd, 1 - J.side = sd := ⟨_, rfl⟩
  have hsd2 : sd = 0 ∨ sd = 1 := by omega
  obtain ⟨A, c, rfl, _⟩ := hl.form
  have hC : (⟨sd, true, mt⟩ : Chg).ok := hsd2
  have l1 := hlim.put hC
  have hms : mt.size = 0 := rfl
  have hab := anewB_size l (J.turn + 1) (by omega) (by omega) (by omega)
  have HL := Lib.hid hl
  have HT := Lib.hid hT
  have HG := Lib.hid hG
  have HOK := Lib.hid (hlim.ok (by omega) (by omega))
  have HD := Lib.hid hd
  have HLIM1 := Lib.hid l1
  have HSD := Lib.hid hsd'
  have HA := Lib.hid (hJ.apart hT)
  have HJJ := Lib.hid hJ
  obtain ⟨ls, hb, hls⟩ := hJ
  obtain ⟨j0, ⟨j1, j2, j3, j4, j5⟩, j6⟩ := blk5 hb
  have HB := Lib.hid hb
  have HLS := Lib.hid hls
  have hz0 : (1 : Int) - J.side = sd := hsd'
  have hfr : (framesB l).size ≤ 1099511627776 := by omega
  have htp : (framesB l).size ≤ 9223372036854775807 := by omega
  have hw1 : IntKind.i64.wrap (1 - J.side) = sd := by rw [hz0]; exact IntWalk.i64_in _ (by omega)
  obtain ⟨tn, htn⟩ : ∃ tn, J.turn + 1 = tn := ⟨_, rfl⟩
  have hw2 : IntKind.i64.wrap (J.turn + 1) = tn := by rw [htn]; exact IntWalk.i64_in _ (by omega)
  have htn0 : 0 ≤ tn := by omega
  have htn1 : tn ≤ 4611686018427387905 := by omega
  rw [htn] at hab
  have HTN := Lib.hid htn
  clear htn
  clear hl hT hG hlim hd l1 hsd' hb hls hsd hC hz0
  go_enter Tryd.func20, Tryd.ntmps20
  go_wp2_with fail
  have S0 := Lib.hid (show ∀ w', Below w.heap.size w w' → Below w.heap.size w w' ∧ w'.cell? ⟨jb, 1, none⟩ = some (.int .i64 J.side) ∧ w'.cell? ⟨jb, 2, none⟩ = some (.int .i64 J.turn) from fun w' hb => ⟨hb, cellB hb j2, cellB hb j3⟩)
  go_region_held3 (fun w' => Below w.heap.size w w' ∧ w'.cell? ⟨jb, 1, none⟩ = some (.int .i64 J.side) ∧ w'.cell? ⟨jb, 2, none⟩ = some (.int .i64 J.turn)) (first | exact S0.out _ (bthen (‹Below w.heap.size w _ ∧ _›).1 (by assumption) (Nat.le_refl _)) | exact S0.out _ (Below.refl _ _).drew)
    (first | (go_at_call 37; refine (frames_c _ l _ (HG.out.below (‹Below w.heap.size w _ ∧ _›).1) (HL.out.below (‹Below w.heap.size w _ ∧ _›).1) hfr).mono ?_; rintro e w9 ⟨rfl, hb9⟩))
  obtain ⟨hbw, d1, d2⟩ := ‹Below w.heap.size w _ ∧ _›
  clear d1 d2 hw1 hw2
  have HBW := Lib.hid hbw
  have HT1 := Lib.hid (HT.out.below hbw)
  have HJ1 := Lib.hid (HJJ.out.below hbw)
  have hc0 := cellB hbw j1
  clear hbw j1 j2 j3 j4 j5
  cases hd1 : (T.put ⟨sd, true, mt⟩).down
  · have HD1 := Lib.hid (downE_false hd1)
    have HDD1 := Lib.hid hd1
    obtain ⟨e2, he2⟩ : ∃ e2, (T.put ⟨sd, true, mt⟩).addE sd (anewB l tn) = e2 := ⟨_, rfl⟩
    have HLIM2 := Lib.hid (HLIM1.out.addT (m := anewB l tn) hsd2)
    have HE2 := Lib.hid he2
    clear hd1 he2
    go_wp2_with fail
    refine (Wipe_c b F T sd _ HT1.out HOK.out HD.out hsd2).mono ?_
    rintro e w2 ⟨rfl, F2, ht2, hk2, hf2⟩
    rw [HD1.out]
    have HJ2 := Lib.hid (HJ1.out.keeps hk2 HT1.out.ft HA.out)
    have HT2 := Lib.hid ht2
    have HK2 := Lib.hid ((Keeps.ofBelow (F := F) HBW.out).trans hk2 (fun i hi => .inl hi))
    have HF2 := Lib.hid hf2
    have HG2 := Lib.hid ((HG.out.below HBW.out).keeps hk2 HT1.out.ft)
    have HL2 := Lib.hid ((HL.out.below HBW.out).keeps hk2 HT1.out.ft)
    have HS2 := Lib.hid hk2.size
    have HAP2 := Lib.hid (HJ2.out.apart ht2)
    obtain ⟨ls2, hb2, _⟩ := HJ2.out
    obtain ⟨m0, ⟨m1, m2, m3, m4, m5⟩, m6⟩ := blk5 hb2
    clear ht2 hk2 hf2 hb2 hc0
    have HOK1 := Lib.hid (HLIM1.out.ok (by rw [hms]; omega) (by omega))
    have HSUM := Lib.hid (show (catAll [headB tn (framesB l).size, framesB l]).size ≤ 1099511627776 from by rw [cat2]; show (anewB l tn).size ≤ _; omega)
    go_wp2_with fail
    go_region_held3 (fun w' => w'.cell? ⟨jb, 0, none⟩ = some (.pointer (some ⟨b, 0, none⟩))) (first | assumption | exact m1 | exact cellB (by assumption) m1 | exact cellB ((Below.refl _ _).alloc (Nat.le_refl _) _) (by assumption))
      (first | (go_at_call 32; refine (head_c tn _ _ (HG2.out.below ((Below.refl _ _).drew)) (by omega) (by omega) (by omega) (by omega)).mono ?_; rintro e w3 ⟨rfl, hb3⟩; have HB3 := Lib.hid (Below.trans ((Below.refl w2.heap.size w2).drew) hb3); have mm := cellB HB3.out m1) | (go_at_call 38; refine (Add_c b F2 (T.put ⟨sd, true, mt⟩) sd _ [headB tn (framesB l).size, framesB l] _ ((HT2.out.below HB3.out).below ((Below.refl _ _).alloc (Nat.le_refl _) _)) HOK1.out HDD1.out hsd2 (rd_lit2 _ _ _) HSUM.out).mono ?_; rintro e w4 ⟨rfl, F4, ht4, hk4, hf4⟩; have HT4 := Lib.hid ht4; have HK4 := Lib.hid hk4; have HF4 := Lib.hid hf4; clear ht4 hk4 hf4; have mm4 := ((HJ2.out.below HB3.out).below ((Below.refl _ _).alloc (Nat.le_refl _) (.cells #[.string (headB tn (framesB l).size), .string (framesB l)] 9))).keeps HK4.out (((HT2.out.below HB3.out).below ((Below.refl _ _).alloc (Nat.le_refl _) _)).ft) HAP2.out; have HM4 := Lib.hid mm4; obtain ⟨ls4, hb4, _⟩ := mm4; obtain ⟨n0, ⟨n1, n2, n3, n4, n5⟩, n6⟩ := blk5 hb4; clear hb4))
    have HKK4 := Lib.hid (((HK2.out.thenBelow HB3.out).alloc (.cells #[.string (headB tn (framesB l).size), .string (framesB l)] 9)).trans HK4.out (fun i hi => HF2.out i hi |>.imp id (fun h => Nat.le_trans HBW.out.size h)))
    have HFF4 := Lib.hid (show ∀ i, i ∈ F4 → i ∈ F ∨ w.heap.size ≤ i from fun i hi => by
      have q1 := HBW.out.size
      have q2 := HS2.out
      have q3 := HB3.out.size
      rcases HF4.out i hi with q | q
      · rcases HF2.out i q with q | q
        · exact .inl q
        · exact .inr (by omega)
      · exact .inr (by simp at q; omega))
    have HL4 := Lib.hid (((HL2.out.below HB3.out).below ((Below.refl _ _).alloc (Nat.le_refl _) (.cells #[.string (headB tn (framesB l).size), .string (framesB l)] 9))).keeps HK4.out (((HT2.out.below HB3.out).below ((Below.refl _ _).alloc (Nat.le_refl _) _)).ft))
    have HAP4 := Lib.hid (HM4.out.apart HT4.out)
    rw [show (T.put ⟨sd, true, mt⟩).addE sd (catAll [headB tn (framesB l).size, framesB l]) = e2 from HE2.out]
    have HT4' := Lib.hid (show TAt b F4 ((T.put ⟨sd, true, mt⟩).addT sd (anewB l tn)) w4 from HT4.out)
    clear m1 m2 m3 m4 m5 m0 m6 mm
    by_cases h2 : e2 = 0
    · have z2 : (e2 != 0) = false := by simp [h2]
      have HD2 := Lib.hid (addE_zero (HE2.out.trans h2))
      have Z2 := Lib.hid z2
      clear h2 z2
      obtain ⟨T2, hT2⟩ : ∃ T2, (T.put ⟨sd, true, mt⟩).addT sd (anewB l tn) = T2 := ⟨_, rfl⟩
      rw [hT2] at HT4' HD2 HLIM2
      have HOK2 := Lib.hid (HLIM2.out.ok (by rw [hms]; omega) (by omega))
      have HTE2 := Lib.hid hT2
      clear hT2
      have z2 := Z2.out
      cases hd3 : T2.sealed.down
      · have E := Lib.hid (show anewM T J l = ⟨0, T2.sealed, { J with side := sd, turn := tn, lines := l }⟩ by
          simp only [anewM, HSD.out, HTN.out, HDD1.out, Bool.false_eq_true, if_false]
          rw [HE2.out, HTE2.out, Z2.out, hd3]; simp)
        have HD3 := Lib.hid (downE_false hd3)
        clear hd3
        go_wp2_with fail
        refine (Seal_c b F4 T2 _ HT4'.out HOK2.out HD2.out).mono ?_
        rintro e w5 ⟨rfl, F5, ht5, hk5, hf5⟩
        rw [HD3.out]
        have HJ5 := Lib.hid (HM4.out.keeps hk5 HT4.out.ft HAP4.out)
        have HT5 := Lib.hid ht5
        have HK5 := Lib.hid hk5
        have HF5 := Lib.hid hf5
        have HL5 := Lib.hid (HL4.out.keeps hk5 HT4.out.ft)
        clear ht5 hk5 hf5 n0 n1 n2 n3 n4 n5 n6
        go_wp2_with fail
        refine (CloneS_c _ l _ HL5.out hn).mono ?_
        rintro e w6 ⟨v6, rfl, ho6, hb6⟩
        obtain ⟨A6, c6, hv6, _⟩ := RowAt.ofOwn ho6
        subst hv6
        have HJ6 := Lib.hid (HJ5.out.below hb6)
        have HT6 := Lib.hid (HT5.out.below hb6)
        have HB6 := Lib.hid hb6
        have HO6 := Lib.hid (show RdStrs w6 _ l from RowAt.ofOwn ho6)
        obtain ⟨ls6, hb6', _⟩ := HJ6.out
        obtain ⟨n0, ⟨n1, n2, n3, n4, n5⟩, n6⟩ := blk5 hb6'
        have HJB6 := Lib.hid hb6'
        clear ho6 hb6 hb6'
        go_wp2
        go_ret
        rw [E.out]
        have hkf : Keeps [jb] w6 (((w6.setCell ⟨jb, 1, none⟩ (.int .i64 sd)).setCell ⟨jb, 2, none⟩ (.int .i64 tn)).setCell ⟨jb, 3, none⟩ (.slice A6 l.length c6)) := (((Keeps.refl _ _).setCell (by simp) _).setCell (by simp) _).setCell (by simp) _
        refine ⟨rfl, ⟨_, blk_set (blk_set (blk_set HJB6.out 1 _) 2 _) 3 _, HO6.out.keeps hkf HJ6.out.ft⟩, F5, HT6.out.keeps hkf (fun i hi => ?_), ?_, ?_⟩
        · have := HJ6.out.apart HT6.out
          simp; rintro rfl; exact this hi
        · exact ((((HKK4.out.mono (F' := jb :: F) (fun i hi => by simp [hi])).trans HK5.out (fun i hi => (HFF4.out i hi).imp (fun h => by simp [h]) id)).thenBelow HB6.out)).trans hkf (fun i hi => .inl (by simp at hi; simp [hi]))
        · intro i hi
          have q1 := HKK4.out.size
          rcases HF5.out i hi with q | q
          · exact HFF4.out i q
          · exact .inr (by omega)
      · have E := Lib.hid (show anewM T J l = ⟨16, T2.sealed, J.told 16⟩ by
          simp only [anewM, HSD.out, HTN.out, HDD1.out, Bool.false_eq_true, if_false]
          rw [HE2.out, HTE2.out, Z2.out, hd3]; simp)
        have HD3 := Lib.hid (downE_true hd3)
        clear hd3
        go_wp2_with fail
        refine (Seal_c b F4 T2 _ HT4'.out HOK2.out HD2.out).mono ?_
        rintro e w5 ⟨rfl, F5, ht5, hk5, hf5⟩
        rw [HD3.out]
        have HJ5 := Lib.hid (HM4.out.keeps hk5 HT4.out.ft HAP4.out)
        have HT5 := Lib.hid ht5
        have HK5 := Lib.hid hk5
        have HF5 := Lib.hid hf5
        clear ht5 hk5 hf5 n0 n1 n2 n3 n4 n5 n6
        go_wp2_with fail
        refine (told_c jb b J 16 _ HJ5.out).mono ?_
        rintro e w6 ⟨rfl, hj6, hk6⟩
        have HJ6 := Lib.hid hj6
        have HK6 := Lib.hid hk6
        clear hj6 hk6
        go_wp2
        go_ret
        rw [E.out]
        refine ⟨rfl, HJ6.out, F5, HT5.out.keeps HK6.out (fun i hi => ?_), ?_, ?_⟩
        · have := HJ5.out.apart HT5.out
          simp; rintro rfl; exact this hi
        · exact ((HKK4.out.mono (F' := jb :: F) (fun i hi => by simp [hi])).trans HK5.out (fun i hi => (HFF4.out i hi).imp (fun h => by simp [h]) id)).trans HK6.out (fun i hi => .inl (by simp at hi; simp [hi]))
        · intro i hi
          have q1 := HKK4.out.size
          rcases HF5.out i hi with q | q
          · exact HFF4.out i q
          · exact .inr (by omega)
    · have z2 : (e2 != 0) = true := by simp [h2]
      have E := Lib.hid (show anewM T J l = ⟨e2, (T.put ⟨sd, true, mt⟩).addT sd (anewB l tn), J.told e2⟩ by
        simp only [anewM, HSD.out, HTN.out, HDD1.out, Bool.false_eq_true, if_false]
        rw [HE2.out, z2]; simp)
      clear h2 n0 n1 n2 n3 n4 n5 n6
      go_wp2_with fail
      refine (told_c jb b J e2 _ HM4.out).mono ?_
      rintro e w6 ⟨rfl, hj6, hk6⟩
      have HJ6 := Lib.hid hj6
      have HK6 := Lib.hid hk6
      clear hj6 hk6
      go_wp2
      go_ret
      rw [E.out]
      refine ⟨rfl, HJ6.out, F4, HT4'.out.keeps HK6.out (fun i hi => ?_), ?_, HFF4.out⟩
      · have := HAP4.out
        simp; rintro rfl; exact this hi
      · exact (HKK4.out.mono (F' := jb :: F) (fun i hi => by simp [hi])).trans HK6.out (fun i hi => .inl (by simp at hi; simp [hi]))
  · have E := Lib.hid (show anewM T J l = ⟨16, T.put ⟨sd, true, mt⟩, J.told 16⟩ by simp [anewM, HSD.out, hd1])
    have HD1 := Lib.hid (downE_true hd1)
    clear hd1
    go_wp2_with fail
    refine (Wipe_c b F T sd _ HT1.out HOK.out HD.out hsd2).mono ?_
    rintro e w2 ⟨rfl, F2, ht2, hk2, hf2⟩
    rw [HD1.out]
    have HJ2 := Lib.hid (HJ1.out.keeps hk2 HT1.out.ft HA.out)
    have HT2 := Lib.hid ht2
    have HK2 := Lib.hid hk2
    have HF2 := Lib.hid hf2
    clear ht2 hk2 hf2
    go_wp2_with fail
    refine (told_c jb b J 16 _ HJ2.out).mono ?_
    rintro e w3 ⟨rfl, hj3, hk3⟩
    have HJ3 := Lib.hid hj3
    have HK3 := Lib.hid hk3
    clear hj3 hk3
    go_wp2
    go_ret
    rw [E.out]
    have hb := HBW.out.size
    refine ⟨rfl, HJ3.out, F2, HT2.out.keeps HK3.out ?_, ?_, ?_⟩
    · intro i hi
      have := HJ2.out.apart HT2.out
      simp; rintro rfl; exact this hi
    · refine (((Keeps.ofBelow (F := jb :: F) HBW.out).trans HK2.out (fun i hi => .inl (by simp [hi]))).trans HK3.out (fun i hi => .inl (by simp at hi; simp [hi])))
    · intro i hi
      rcases HF2.out i hi with q | q
      · exact .inl q
      · exact .inr (by omega)
end Go.Proofs.YtjhahhpcpempgaaDoor
