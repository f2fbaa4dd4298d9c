/- The journal's behind: a line behind those that are there. -/
import Derived.Test.YtjhahhpcpempgaaDoorAnew2
set_option linter.unusedVariables false
set_option linter.unusedSimpArgs false
namespace Go.Proofs.YtjhahhpcpempgaaDoor
open Go.RowKit

def behindM (T : Tp) (J : Jn) (s : ByteArray) : Out :=
  let m := mt ++ frameB s
  let e1 := T.addE J.side m
  let T1 := T.addT J.side m
  if e1 != 0 then ⟨e1, T1, J.told e1⟩ else
  if T1.sealed.down then ⟨16, T1.sealed, J.told 16⟩ else ⟨0, T1.sealed, { J with lines := J.lines ++ [s] }⟩
theorem cat1 (x : ByteArray) : catAll [x] = mt ++ x := rfl
theorem frameB_size (s : ByteArray) (h : s.size ≤ 1099511627776) : (frameB s).size ≤ s.size + 23 := by
  have a := itoaB_size s.size (by omega) (by omega)
  have c : (⟨#[32]⟩ : ByteArray).size = 1 := rfl
  have d : (⟨#[10]⟩ : ByteArray).size = 1 := rfl
  unfold frameB
  simp only [ByteArray.size_append]
  omega

set_option maxRecDepth 100000 in
set_option maxHeartbeats 3200000 in
theorem behind_c (jb b : Nat) (F : List Nat) (T : Tp) (J : Jn) (s : ByteArray) (w : World) (hJ : JAt jb b J w) (hT : TAt b F T w) (hG : Glob w) (hd : T.down = false)
    (a k : Nat) (hlim : T.lim a k) (ha : a + s.size + 23 ≤ 1099511627776) (hk : k ≤ 999000) (hsd : J.side = 0 ∨ J.side = 1) (hn : J.lines.length ≤ 1000000000) :
    Calls Tryd.prog 22 #[.pointer (some ⟨jb, 0, none⟩), .string s] w (Wrote jb b F (behindM T J s) w) := by
  obtain ⟨sd, hsd'⟩ : ∃ sd, J.side = sd := ⟨_, rfl⟩
  rw [hsd'] at hsd
  have hfs := frameB_size s (by omega)
  have hms : mt.size = 0 := rfl
  have HT := Lib.hid hT
  have HG := Lib.hid hG
  have HOK := Lib.hid (hlim.ok (by omega) (by omega))
  have HD := Lib.hid hd
  have HLIM1 := Lib.hid (hlim.addT (n := sd) (m := mt ++ frameB s) hsd)
  have HSD := Lib.hid hsd'
  have HA := Lib.hid (hJ.apart hT)
  have HJJ := Lib.hid hJ
  have HSUM := Lib.hid (show (catAll [frameB s]).size ≤ 1099511627776 from by rw [cat1, ByteArray.size_append]; omega)
  obtain ⟨e1, he1⟩ : ∃ e1, T.addE sd (mt ++ frameB s) = e1 := ⟨_, rfl⟩
  have HE1 := Lib.hid he1
  obtain ⟨ls, hb, hls⟩ := hJ
  obtain ⟨j0, ⟨j1, j2, j3, j4, j5⟩, j6⟩ := blk5 hb
  rw [hsd'] at j2
  clear hT hG hlim hd hsd' hb hls he1
  go_enter Tryd.func22, Tryd.ntmps22
  go_wp2_with fail
  have S0 := Lib.hid (show ∀ w', Below w.heap.size w w' → w'.cell? ⟨jb, 0, none⟩ = some (.pointer (some ⟨b, 0, none⟩)) ∧ w'.cell? ⟨jb, 1, none⟩ = some (.int .i64 sd) from fun w' hb => ⟨cellB hb j1, cellB hb j2⟩)
  go_region_held3 (fun w' => w'.cell? ⟨jb, 0, none⟩ = some (.pointer (some ⟨b, 0, none⟩)) ∧ w'.cell? ⟨jb, 1, none⟩ = some (.int .i64 sd)) (first | assumption | exact S0.out _ (by assumption) | exact S0.out _ ((by assumption : Hid (Below w.heap.size w _)).out.alloc ((by assumption : Hid (Below w.heap.size w _)).out.size) _) | exact S0.out _ (Below.refl _ _).drew)
    (first | (go_at_call 40; refine (frame_c s _ (HG.out.below ((Below.refl _ _).drew)) (by omega)).mono ?_; rintro e w3 ⟨rfl, hb3⟩; have HB3 := Lib.hid (Below.trans ((Below.refl w.heap.size w).drew) hb3); have mm := S0.out _ HB3.out) | (go_at_call 38; refine (Add_c b F T sd _ [frameB s] _ ((HT.out.below HB3.out).below ((Below.refl _ _).alloc (Nat.le_refl _) _)) HOK.out HD.out hsd (rd_lit1 _ _) HSUM.out).mono ?_; rintro e w4 ⟨rfl, F4, ht4, hk4, hf4⟩; have HT4 := Lib.hid ht4; have HK4 := Lib.hid hk4; have HF4 := Lib.hid hf4; clear ht4 hk4 hf4; have mm4 := ((HJJ.out.below HB3.out).below ((Below.refl _ _).alloc (Nat.le_refl _) (.cells #[.string (frameB s)] 9))).keeps HK4.out (((HT.out.below HB3.out).below ((Below.refl _ _).alloc (Nat.le_refl _) _)).ft) HA.out; have HM4 := Lib.hid mm4; obtain ⟨ls4, hb4, _⟩ := mm4; obtain ⟨n0, ⟨n1, n2, n3, n4, n5⟩, n6⟩ := blk5 hb4; rw [HSD.out] at n2; have nn := And.intro n1 n2; clear hb4))
  have HKK4 := Lib.hid ((((Keeps.ofBelow (F := F) HB3.out)).alloc (.cells #[.string (frameB s)] 9)).trans HK4.out (fun i hi => .inl hi))
  have HFF4 := Lib.hid (show ∀ i, i ∈ F4 → i ∈ F ∨ w.heap.size ≤ i from fun i hi => by
    have q3 := HB3.out.size
    rcases HF4.out i hi with q | q
    · exact .inl q
    · exact .inr (by simp at q; omega))
  have HAP4 := Lib.hid (HM4.out.apart HT4.out)
  rw [show T.addE sd (catAll [frameB s]) = e1 from HE1.out]
  have HT4' := Lib.hid (show TAt b F4 (T.addT sd (mt ++ frameB s)) w4 from HT4.out)
  clear j1 j2 j3 j4 j5 j0 j6 mm nn
  by_cases h2 : e1 = 0
  · have z2 : (e1 != 0) = false := by simp [h2]
    have HD2 := Lib.hid (addE_zero (HE1.out.trans h2))
    have Z2 := Lib.hid z2
    clear h2 z2
    obtain ⟨T2, hT2⟩ : ∃ T2, T.addT sd (mt ++ frameB s) = T2 := ⟨_, rfl⟩
    rw [hT2] at HT4' HD2 HLIM1
    have HOK2 := Lib.hid (HLIM1.out.ok (by rw [ByteArray.size_append]; omega) (by omega))
    have HTE2 := Lib.hid hT2
    clear hT2
    have z2 := Z2.out
    cases hd3 : T2.sealed.down
    · have E := Lib.hid (show behindM T J s = ⟨0, T2.sealed, { J with lines := J.lines ++ [s] }⟩ by
        simp only [behindM, HSD.out]
        rw [HE1.out, HTE2.out, Z2.out, hd3]; simp)
      have HD3 := Lib.hid (downE_false hd3)
      clear hd3
      go_wp2_with fail
      refine (Seal_c b F4 T2 _ HT4'.out HOK2.out HD2.out).mono ?_
      rintro e w5 ⟨rfl, F5, ht5, hk5, hf5⟩
      rw [HD3.out]
      have HJ5 := Lib.hid (HM4.out.keeps hk5 HT4.out.ft HAP4.out)
      have HT5 := Lib.hid ht5
      have HK5 := Lib.hid hk5
      have HF5 := Lib.hid hf5
      clear ht5 hk5 hf5 n0 n1 n2 n3 n4 n5 n6
      obtain ⟨ls5, hb5, hrd5⟩ := HJ5.out
      obtain ⟨n0, ⟨n1, n2, n3, n4, n5⟩, n6⟩ := blk5 hb5
      have HRD5 := Lib.hid hrd5
      clear hb5 hrd5
      go_wp2_with fail
      refine (CloneS_c ls5 J.lines _ HRD5.out (by omega)).mono ?_
      rintro e w6 ⟨v6, rfl, ho6, hb6⟩
      have HJ6 := Lib.hid (HJ5.out.below hb6)
      have HT6 := Lib.hid (HT5.out.below hb6)
      have HB6 := Lib.hid hb6
      have HO6 := Lib.hid ho6
      obtain ⟨ls6, hb6', _⟩ := HJ6.out
      have HJB6 := Lib.hid hb6'
      have hsz6 := blk_lt hb6'
      have hs6 := hb6.size
      clear ho6 hb6 hb6' n0 n1 n2 n3 n4 n5 n6
      obtain ⟨i0, hi, hz0, hz1, hz2⟩ := info_parts Tryd.infoStr
      go_wp2_with (at_builtin; refine wpList_append_own _ rfl _ _ 33 rfl w5.heap.size 9 i0 (.string ⟨#[]⟩) 1 16 Tryd.underlying33 hi hz0 hz1 hz2 rfl (by decide) _ _ _ rfl (HO6.out.alloc _) ⟨w6.heap.size, 0, none⟩ 1 1 [.string s] rfl rfl (cell_one_new _ _ _) (by simp [Value.oneCell']) (by unfold maxLen; omega) (by omega) (by simp; omega) ?_; intro v' w7 hown' hgrow _; obtain ⟨g', cap', rfl⟩ := ownsRow_succ hown'; have hj7 := blk_grown (blk_alloc HJB6.out _) hgrow (fun e => by have := (HO6.out.lt _ e).1; have := HJ5.out.lt; omega); obtain ⟨f0, ⟨f1, f2, f3, f4, f5⟩, f6⟩ := blk5 hj7; have HJB7 := Lib.hid hj7; have HO7 := Lib.hid hown'; have HG7 := Lib.hid hgrow; clear hj7 hown' hgrow)
      go_ret
      rw [E.out]
      have hk7 : Keeps [] w5 w7 := ((Keeps.ofBelow HB6.out).alloc _).grown HG7.out (fun k hk => .inr (HO6.out.lt _ hk).1)
      have hT7 : TAt b F5 T2.sealed w7 := HT5.out.keeps hk7 (fun _ _ q => by simp at q)
      have hkf : Keeps [jb] w7 (w7.setCell ⟨jb, 3, none⟩ (.slice (some ⟨g', 0, none⟩) (J.lines.length + 1) cap')) := (Keeps.refl _ _).setCell (by simp) _
      have hFT : FT [jb] w7 := fun i hi => by
        simp at hi; subst hi
        exact ⟨_, by decide, etype_of HJB7.out⟩
      refine ⟨rfl, ⟨_, blk_set HJB7.out 3 _, ?_⟩, F5, hT7.keeps hkf (fun i hi => ?_), ?_, ?_⟩
      · have h8 : RdStrs w7 (.slice (some ⟨g', 0, none⟩) (J.lines.length + 1) cap') (J.lines ++ [s]) := by
          have := RowAt.ofOwn HO7.out
          unfold RdStrs
          rw [List.length_append, List.map_append]
          exact this
        exact h8.keeps hkf hFT
      · have h9 : JAt jb b J w7 := HJ5.out.keeps hk7 (fun _ q => by simp at q) (by simp)
        have := h9.apart hT7
        simp; rintro rfl; exact this hi
      · exact ((((HKK4.out.mono (F' := jb :: F) (fun i hi => by simp [hi])).trans HK5.out (fun i hi => (HFF4.out i hi).imp (fun h => by simp [h]) id)).trans hk7 (fun i hi => by simp at hi))).trans hkf (fun i hi => .inl (by simp at hi; simp [hi]))
      · intro i hi
        have q1 := HKK4.out.size
        rcases HF5.out i hi with q | q
        · exact HFF4.out i q
        · exact .inr (by omega)
    · have E := Lib.hid (show behindM T J s = ⟨16, T2.sealed, J.told 16⟩ by
        simp only [behindM, HSD.out]
        rw [HE1.out, HTE2.out, Z2.out, hd3]; simp)
      have HD3 := Lib.hid (downE_true hd3)
      clear hd3
      go_wp2_with fail
      refine (Seal_c b F4 T2 _ HT4'.out HOK2.out HD2.out).mono ?_
      rintro e w5 ⟨rfl, F5, ht5, hk5, hf5⟩
      rw [HD3.out]
      have HJ5 := Lib.hid (HM4.out.keeps hk5 HT4.out.ft HAP4.out)
      have HT5 := Lib.hid ht5
      have HK5 := Lib.hid hk5
      have HF5 := Lib.hid hf5
      clear ht5 hk5 hf5 n0 n1 n2 n3 n4 n5 n6
      go_wp2_with fail
      refine (told_c jb b J 16 _ HJ5.out).mono ?_
      rintro e w6 ⟨rfl, hj6, hk6⟩
      have HJ6 := Lib.hid hj6
      have HK6 := Lib.hid hk6
      clear hj6 hk6
      go_wp2
      go_ret
      rw [E.out]
      refine ⟨rfl, HJ6.out, F5, HT5.out.keeps HK6.out (fun i hi => ?_), ?_, ?_⟩
      · have := HJ5.out.apart HT5.out
        simp; rintro rfl; exact this hi
      · exact ((HKK4.out.mono (F' := jb :: F) (fun i hi => by simp [hi])).trans HK5.out (fun i hi => (HFF4.out i hi).imp (fun h => by simp [h]) id)).trans HK6.out (fun i hi => .inl (by simp at hi; simp [hi]))
      · intro i hi
        have q1 := HKK4.out.size
        rcases HF5.out i hi with q | q
        · exact HFF4.out i q
        · exact .inr (by omega)
  · have z2 : (e1 != 0) = true := by simp [h2]
    have E := Lib.hid (show behindM T J s = ⟨e1, T.addT sd (mt ++ frameB s), J.told e1⟩ by
      simp only [behindM, HSD.out]
      rw [HE1.out, z2]; simp)
    clear h2 n0 n1 n2 n3 n4 n5 n6
    go_wp2_with fail
    refine (told_c jb b J e1 _ HM4.out).mono ?_
    rintro e w6 ⟨rfl, hj6, hk6⟩
    have HJ6 := Lib.hid hj6
    have HK6 := Lib.hid hk6
    clear hj6 hk6
    go_wp2
    go_ret
    rw [E.out]
    refine ⟨rfl, HJ6.out, F4, HT4'.out.keeps HK6.out (fun i hi => ?_), ?_, HFF4.out⟩
    · have := HAP4.out
      simp; rintro rfl; exact this hi
    · exact (HKK4.out.mono (F' := jb :: F) (fun i hi => by simp [hi])).trans HK6.out (fun i hi => .inl (by simp at hi; simp [hi]))
end Go.Proofs.YtjhahhpcpempgaaDoor
