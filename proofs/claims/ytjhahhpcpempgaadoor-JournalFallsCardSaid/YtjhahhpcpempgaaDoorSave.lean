/- The journal's Save and Note, where there is room. -/
import Derived.Test.YtjhahhpcpempgaaDoorBehind
set_option linter.unusedVariables false
set_option linter.unusedSimpArgs false
namespace Go.Proofs.YtjhahhpcpempgaaDoor
open Go.RowKit

def saveM (T : Tp) (J : Jn) (l : List ByteArray) : Out := if J.gateE l != 0 then ⟨J.gateE l, T, J⟩ else anewM T J l
def noteM (T : Tp) (J : Jn) (s : ByteArray) : Out :=
  if J.gateE [s] != 0 then ⟨J.gateE [s], T, J⟩ else if J.turn == 0 then anewM T J [s] else behindM T J s

theorem Save_c (jb b : Nat) (F : List Nat) (T : Tp) (J : Jn) (lv : Value) (l : List ByteArray) (w : World) (hJ : JAt jb b J w) (hT : TAt b F T w) (hG : Glob w) (hl : RdStrs w lv l) (hd : T.down = false)
    (a k : Nat) (hlim : T.lim a k) (ha : a + (framesB l).size + 44 ≤ 1099511627776) (hk : k ≤ 999000) (hsd : J.side = 0 ∨ J.side = 1) (ht0 : 0 ≤ J.turn) (ht1 : J.turn ≤ 4611686018427387904) (hn : l.length ≤ 1099511627776)
    (hx : ∀ x, x ∈ l → x.size ≤ 1099511627776) (hne : J.gateE l = 0 → (anewM T J l).e ≠ 15) :
    Calls Tryd.prog 10 #[.pointer (some ⟨jb, 0, none⟩), lv] w (Wrote jb b F (saveM T J l) w) := by
  have HJ := Lib.hid hJ
  have HT := Lib.hid hT
  have HGA := Lib.hid (jgate_c jb b J lv l w hJ hl hx)
  have HAN := Lib.hid (fun w' (hb : Below w.heap.size w w') => anew_c jb b F T J lv l w' (hJ.below hb) (hT.below hb) (hG.below hb) (hl.below hb) hd a k hlim ha hk hsd ht0 ht1 hn)
  obtain ⟨A, c, rfl, _⟩ := hl.form
  by_cases hg : J.gateE l = 0
  · have E := Lib.hid (show saveM T J l = anewM T J l by simp [saveM, hg])
    have HNE := hne hg
    have HGE := Lib.hid hg
    obtain ⟨o, ho⟩ : ∃ o, anewM T J l = o := ⟨_, rfl⟩
    rw [ho] at HAN HNE E
    have hz : (o.e != 15) = true := by simpa using HNE
    clear hJ hT hG hl hlim hsd hx hg ho HNE hne
    go_enter Tryd.func10, Tryd.ntmps10
    go_wp2_with fail
    refine HGA.out.mono ?_
    rintro e w1 ⟨rfl, hb1⟩
    rw [HGE.out]
    have HB1 := Lib.hid hb1
    clear hb1
    go_wp2_with fail
    refine (HAN.out _ HB1.out).mono ?_
    rintro e w2 ⟨rfl, hj2, F2, ht2, hk2, hf2⟩
    have HJ2 := Lib.hid hj2
    have HT2 := Lib.hid ht2
    have HK2 := Lib.hid hk2
    have HF2 := Lib.hid hf2
    clear hj2 ht2 hk2 hf2
    go_wp2
    go_ret
    rw [E.out]
    refine ⟨rfl, HJ2.out, F2, HT2.out, (Keeps.ofBelow (F := jb :: F) HB1.out).trans HK2.out (fun i hi => .inl hi), fun i hi => ?_⟩
    have := HB1.out.size
    rcases HF2.out i hi with q | q
    · exact .inl q
    · exact .inr (by omega)
  · have hz : (J.gateE l != 0) = true := by simp [hg]
    have E := Lib.hid (show saveM T J l = ⟨J.gateE l, T, J⟩ by simp [saveM, hz])
    clear hJ hT hG hl hlim hsd hx hne hg
    go_enter Tryd.func10, Tryd.ntmps10
    go_wp2_with fail
    refine HGA.out.mono ?_
    rintro e w1 ⟨rfl, hb1⟩
    have HB1 := Lib.hid hb1
    clear hb1
    go_wp2
    go_ret
    rw [E.out]
    exact ⟨rfl, HJ.out.below HB1.out, F, HT.out.below HB1.out, Keeps.ofBelow HB1.out, fun i hi => .inl hi⟩

theorem Note_c (jb b : Nat) (F : List Nat) (T : Tp) (J : Jn) (s : ByteArray) (w : World) (hJ : JAt jb b J w) (hT : TAt b F T w) (hG : Glob w) (hd : T.down = false)
    (a k : Nat) (hlim : T.lim a k) (ha : a + s.size + 100 ≤ 1099511627776) (hk : k ≤ 999000) (hsd : J.side = 0 ∨ J.side = 1) (ht0 : 0 ≤ J.turn) (ht1 : J.turn ≤ 4611686018427387904) (hn : J.lines.length ≤ 1000000000)
    (hne : J.gateE [s] = 0 → J.turn ≠ 0 → (behindM T J s).e ≠ 15) :
    Calls Tryd.prog 12 #[.pointer (some ⟨jb, 0, none⟩), .string s] w (Wrote jb b F (noteM T J s) w) := by
  have hfs := frameB_size s (by omega)
  have hfb : (framesB [s]).size = (frameB s).size := by
    show (mt ++ frameB s).size = _
    rw [ByteArray.size_append]
    have : mt.size = 0 := rfl
    omega
  have HJ := Lib.hid hJ
  have HT := Lib.hid hT
  have HGA := Lib.hid (fun w' (hb : Below w.heap.size w w') lv (hl : RdStrs w' lv [s]) => jgate_c jb b J lv [s] w' (hJ.below hb) hl (fun x hx => by simp at hx; subst hx; omega))
  have HAN := Lib.hid (fun w' (hb : Below w.heap.size w w') lv (hl : RdStrs w' lv [s]) => anew_c jb b F T J lv [s] w' (hJ.below hb) (hT.below hb) (hG.below hb) hl hd a k hlim (by omega) hk hsd ht0 ht1 (by simp))
  have HBE := Lib.hid (fun w' (hb : Below w.heap.size w w') => behind_c jb b F T J s w' (hJ.below hb) (hT.below hb) (hG.below hb) hd a k hlim (by omega) hk hsd hn)
  have HA0 := Lib.hid (show ∀ w', Below w.heap.size w w' → Below w.heap.size w (w'.alloc (.cells #[.string s] 9)) from fun w' hb => hb.alloc hb.size _)
  by_cases hg : J.gateE [s] = 0
  · have HGE := Lib.hid hg
    by_cases ht : J.turn = 0
    · have E := Lib.hid (show noteM T J s = anewM T J [s] by simp [noteM, hg, ht])
      obtain ⟨o, ho⟩ : ∃ o, anewM T J [s] = o := ⟨_, rfl⟩
      rw [ho] at HAN E
      have HTU := Lib.hid ht
      clear hJ hT hG hlim hsd hg ho hne ht
      go_enter Tryd.func12, Tryd.ntmps12
      go_wp2_with fail
      refine (HGA.out _ (HA0.out w (Below.refl _ _)) _ (rd_lit1 _ _)).mono ?_
      rintro e w1 ⟨rfl, hb1⟩
      rw [HGE.out]
      have HB1 := Lib.hid (bthen (HA0.out w (Below.refl _ _)) hb1 (Nat.le_refl _))
      clear hb1
      obtain ⟨ls, hb, _⟩ := HJ.out.below HB1.out
      obtain ⟨j0, ⟨j1, j2, j3, j4, j5⟩, j6⟩ := blk5 hb
      rw [HTU.out] at j3
      clear hb
      go_wp2_with fail
      refine (HAN.out _ (HA0.out _ HB1.out) _ (rd_lit1 _ _)).mono ?_
      rintro e w2 ⟨rfl, hj2, F2, ht2, hk2, hf2⟩
      have HJ2 := Lib.hid hj2
      have HT2 := Lib.hid ht2
      have HK2 := Lib.hid hk2
      have HF2 := Lib.hid hf2
      clear hj2 ht2 hk2 hf2
      go_wp2
      go_ret
      rw [E.out]
      refine ⟨rfl, HJ2.out, F2, HT2.out, (Keeps.ofBelow (F := jb :: F) (HA0.out _ HB1.out)).trans HK2.out (fun i hi => .inl hi), fun i hi => ?_⟩
      have := HB1.out.size
      rcases HF2.out i hi with q | q
      · exact .inl q
      · exact .inr (by simp at q; omega)
    · have E := Lib.hid (show noteM T J s = behindM T J s by simp [noteM, hg, ht])
      have HNE := hne hg ht
      obtain ⟨o, ho⟩ : ∃ o, behindM T J s = o := ⟨_, rfl⟩
      rw [ho] at HBE HNE E
      have hz : (o.e != 15) = true := by simpa using HNE
      have htz : (J.turn == 0) = false := by simpa using ht
      clear hJ hT hG hlim hsd hg ho hne ht HNE
      go_enter Tryd.func12, Tryd.ntmps12
      go_wp2_with fail
      refine (HGA.out _ (HA0.out w (Below.refl _ _)) _ (rd_lit1 _ _)).mono ?_
      rintro e w1 ⟨rfl, hb1⟩
      rw [HGE.out]
      have HB1 := Lib.hid (bthen (HA0.out w (Below.refl _ _)) hb1 (Nat.le_refl _))
      clear hb1
      obtain ⟨ls, hb, _⟩ := HJ.out.below HB1.out
      obtain ⟨j0, ⟨j1, j2, j3, j4, j5⟩, j6⟩ := blk5 hb
      clear hb
      go_wp2_with fail
      refine (HBE.out _ HB1.out).mono ?_
      rintro e w2 ⟨rfl, hj2, F2, ht2, hk2, hf2⟩
      have HJ2 := Lib.hid hj2
      have HT2 := Lib.hid ht2
      have HK2 := Lib.hid hk2
      have HF2 := Lib.hid hf2
      clear hj2 ht2 hk2 hf2
      go_wp2
      go_ret
      rw [E.out]
      refine ⟨rfl, HJ2.out, F2, HT2.out, (Keeps.ofBelow (F := jb :: F) HB1.out).trans HK2.out (fun i hi => .inl hi), fun i hi => ?_⟩
      have := HB1.out.size
      rcases HF2.out i hi with q | q
      · exact .inl q
      · exact .inr (by omega)
  · have hz : (J.gateE [s] != 0) = true := by simp [hg]
    have E := Lib.hid (show noteM T J s = ⟨J.gateE [s], T, J⟩ by simp [noteM, hz])
    clear hJ hT hG hlim hsd hne hg
    go_enter Tryd.func12, Tryd.ntmps12
    go_wp2_with fail
    refine (HGA.out _ (HA0.out w (Below.refl _ _)) _ (rd_lit1 _ _)).mono ?_
    rintro e w1 ⟨rfl, hb1⟩
    have HB1 := Lib.hid (bthen (HA0.out w (Below.refl _ _)) hb1 (Nat.le_refl _))
    clear hb1
    go_wp2
    go_ret
    rw [E.out]
    exact ⟨rfl, HJ.out.below HB1.out, F, HT.out.below HB1.out, Keeps.ofBelow HB1.out, fun i hi => .inl hi⟩
end Go.Proofs.YtjhahhpcpempgaaDoor
