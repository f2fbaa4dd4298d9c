/- The journal's read, Open. -/
import Derived.Test.YtjhahhpcpempgaaDoorUnfr
set_option linter.unusedVariables false
set_option linter.unusedSimpArgs false
namespace Go.Proofs.YtjhahhpcpempgaaDoor
open Go.RowKit

def atoiV (s : ByteArray) : Int := match Lib.atoiAll s.data.toList with | .ok v => v | .range => Lib.atoiSat s.data.toList | _ => 0
def atoiOk (s : ByteArray) : Bool := match Lib.atoiAll s.data.toList with | .ok _ => true | _ => false
theorem atoiV_bounds (s : ByteArray) : -9223372036854775808 ≤ atoiV s ∧ atoiV s ≤ 9223372036854775807 := by
  unfold atoiV
  cases h : Lib.atoiAll s.data.toList with
  | ok v => have := Lib.atoiAll_bounds h; simp only; omega
  | range => simp only [Lib.atoiSat]; split <;> omega
  | _ => simp only; omega

/-- What Atoi hands back. -/
def AtoiPost (s : ByteArray) (w : World) (e : Ending) (w' : World) : Prop :=
  ∃ ev, e = .returned (.tuple #[.int .i64 (atoiV s), ev]) ∧ (ev = .nilIface ∧ atoiOk s = true ∨ (∃ t p, ev = .iface t (.pointer (some p))) ∧ atoiOk s = false) ∧ Below w.heap.size w w'

theorem Atoi_c (s : ByteArray) (w : World) (hG : Glob w) (hs : s.size ≤ 1099511627776) : Calls Tryd.prog 30 #[.string s] w (AtoiPost s w) := by
  cases h : Lib.atoiAll s.data.toList with
  | ok v =>
    refine (Tryd.strconv_Atoi_ok s (by omega) v h w).mono ?_
    rintro e w' ⟨rfl, hw⟩
    refine ⟨.nilIface, by simp [atoiV, h], .inl ⟨rfl, by simp [atoiOk, h]⟩, ?_⟩
    rcases hw with rfl | ⟨t, rfl⟩
    · exact Below.refl _ _
    · exact bw_below _ _ _
  | range =>
    obtain ⟨ev, h1, h2⟩ := hG.rng
    refine (Tryd.strconv_Atoi_range s (by omega) h ev w h1 h2).mono ?_
    rintro e w' ⟨N, rfl, _, _, hb⟩
    exact ⟨.iface 93 (.pointer (some ⟨N, 0, none⟩)), by simp [atoiV, h], .inr ⟨⟨_, _, rfl⟩, by simp [atoiOk, h]⟩, hb⟩
  | _ =>
    obtain ⟨ev, h1, h2⟩ := hG.syn
    refine (Tryd.strconv_Atoi_syntax s (by omega) (by rw [h]; exact trivial) ev w h1 h2).mono ?_
    rintro e w' ⟨N, rfl, _, _, hb⟩
    exact ⟨.iface 93 (.pointer (some ⟨N, 0, none⟩)), by simp [atoiV, h], .inr ⟨⟨_, _, rfl⟩, by simp [atoiOk, h]⟩, hb⟩

def readTurn (s : ByteArray) : Int := atoiV (cutH (cutH s 59) 32)
def readSize (s : ByteArray) : Int := atoiV (cutT (cutH s 59) 32)
def pre? (s p : ByteArray) : Bool := Lib.hasPrefix s.data.toList p.data.toList
def readBad (s : ByteArray) : Bool := decide (readTurn s < 1) || !(pre? s (headB (readTurn s) (readSize s))) || decide (((cutT s 59).size : Int) < readSize s)
def readB (s : ByteArray) : Int × List ByteArray := if readBad s then (0, []) else (readTurn s, unframedB (cutT s 59))

def ReadPost (s : ByteArray) (w : World) (e : Ending) (w' : World) : Prop :=
  ∃ v, e = .returned (.tuple #[.int .i64 (readB s).1, v]) ∧ RdStrs w' v (readB s).2 ∧ Below w.heap.size w w'

set_option maxRecDepth 100000 in
set_option maxHeartbeats 1600000 in
theorem read_c (s : ByteArray) (w : World) (hG : Glob w) (hs : s.size ≤ 1073741824) : Calls Tryd.prog 18 #[.string s] w (ReadPost s w) := by
  have s1 := cutH_size s 59
  have s2 := cutT_size s 59
  have s3 := cutH_size (cutH s 59) 32
  have s4 := cutT_size (cutH s 59) 32
  have tb := atoiV_bounds (cutH (cutH s 59) 32)
  have sb := atoiV_bounds (cutT (cutH s 59) 32)
  have HG := Lib.hid hG
  have C1 := Lib.hid (fun w (hG : Glob w) => Cut_c s 59 w hG (by omega))
  have C2 := Lib.hid (fun w (hG : Glob w) => Cut_c (cutH s 59) 32 w hG (by omega))
  have C3 := Lib.hid (fun w (hG : Glob w) => Atoi_c (cutH (cutH s 59) 32) w hG (by omega))
  have C4 := Lib.hid (fun w (hG : Glob w) => Atoi_c (cutT (cutH s 59) 32) w hG (by omega))
  have C5 := Lib.hid (fun w (hG : Glob w) => head_c (readTurn s) (readSize s) w hG tb.1 tb.2 sb.1 sb.2)
  have C6 := Lib.hid (fun w (hG : Glob w) => unframed_c (cutT s 59) w hG (by omega))
  have C7 := Lib.hid (fun w => Tryd.strings_HasPrefix s (headB (readTurn s) (readSize s)) w)
  obtain ⟨t, ht⟩ : ∃ t, readTurn s = t := ⟨_, rfl⟩
  obtain ⟨z, hz⟩ : ∃ z, readSize s = z := ⟨_, rfl⟩
  have ht' : atoiV (cutH (cutH s 59) 32) = t := ht
  have hz' : atoiV (cutT (cutH s 59) 32) = z := hz
  rw [ht'] at tb
  rw [hz'] at sb
  rw [ht, hz] at C5 C7
  unfold AtoiPost at C3 C4
  rw [ht'] at C3
  rw [hz'] at C4
  have HT := Lib.hid ht
  have HZ := Lib.hid hz
  clear hG ht hz ht' hz'
  by_cases h1 : t < 1
  · have E := Lib.hid (show readB s = (0, []) by simp [readB, readBad, HT.out, h1])
    go_enter Tryd.func18, Tryd.ntmps18
    go_wp2_with fail
    refine (C1.out _ HG.out).mono ?_
    rintro e w1 ⟨rfl, k1, rfl⟩
    go_wp2_with fail
    refine (C2.out _ (HG.out.below (Below.drewN0 _ k1))).mono ?_
    rintro e w1 ⟨rfl, k2, rfl⟩
    go_wp2_with fail
    refine (C3.out _ (HG.out.below (Below.drewN0 _ _))).mono ?_
    rintro e w1 ⟨ev1, rfl, _, hb1⟩
    have HB1 := Lib.hid (bthen (Below.drewN0 w _) hb1 (Nat.le_refl _))
    clear hb1
    go_wp2_with fail
    refine (C4.out _ (HG.out.below HB1.out)).mono ?_
    rintro e w2 ⟨ev2, rfl, _, hb2⟩
    have HB2 := Lib.hid (bthen HB1.out hb2 (Nat.le_refl _))
    clear hb2
    go_wp2
    go_ret2
    refine ⟨.slice none 0 0, by rw [E.out]; rfl, by rw [E.out]; exact RdStrs.nil _, HB2.out⟩
  · cases hp : Lib.hasPrefix s.data.toList (headB t z).data.toList
    · have E := Lib.hid (show readB s = (0, []) by simp [readB, readBad, HT.out, HZ.out, pre?, hp])
      have HP := Lib.hid hp
      clear hp
      go_enter Tryd.func18, Tryd.ntmps18
      go_wp2_with fail
      refine (C1.out _ HG.out).mono ?_
      rintro e w1 ⟨rfl, k1, rfl⟩
      go_wp2_with fail
      refine (C2.out _ (HG.out.below (Below.drewN0 _ k1))).mono ?_
      rintro e w1 ⟨rfl, k2, rfl⟩
      go_wp2_with fail
      refine (C3.out _ (HG.out.below (Below.drewN0 _ _))).mono ?_
      rintro e w1 ⟨ev1, rfl, _, hb1⟩
      have HB1 := Lib.hid (bthen (Below.drewN0 w _) hb1 (Nat.le_refl _))
      clear hb1
      go_wp2_with fail
      refine (C4.out _ (HG.out.below HB1.out)).mono ?_
      rintro e w2 ⟨ev2, rfl, _, hb2⟩
      have HB2 := Lib.hid (bthen HB1.out hb2 (Nat.le_refl _))
      clear hb2
      go_wp2_with fail
      refine (C5.out _ (HG.out.below HB2.out)).mono ?_
      rintro e w3 ⟨rfl, hb3⟩
      have HB3 := Lib.hid (bthen HB2.out hb3 (Nat.le_refl _))
      clear hb3
      go_wp2_with fail
      refine (C7.out _).mono ?_
      rintro e w4 ⟨rfl, rfl⟩
      rw [HP.out]
      go_wp2
      go_ret2
      refine ⟨.slice none 0 0, by rw [E.out]; rfl, by rw [E.out]; exact RdStrs.nil _, HB3.out⟩
    · have HP := Lib.hid hp
      by_cases h3 : ((cutT s 59).size : Int) < z
      · have E := Lib.hid (show readB s = (0, []) by simp [readB, readBad, HT.out, HZ.out, pre?, hp, h3])
        clear hp
        go_enter Tryd.func18, Tryd.ntmps18
        go_wp2_with fail
        refine (C1.out _ HG.out).mono ?_
        rintro e w1 ⟨rfl, k1, rfl⟩
        go_wp2_with fail
        refine (C2.out _ (HG.out.below (Below.drewN0 _ k1))).mono ?_
        rintro e w1 ⟨rfl, k2, rfl⟩
        go_wp2_with fail
        refine (C3.out _ (HG.out.below (Below.drewN0 _ _))).mono ?_
        rintro e w1 ⟨ev1, rfl, _, hb1⟩
        have HB1 := Lib.hid (bthen (Below.drewN0 w _) hb1 (Nat.le_refl _))
        clear hb1
        go_wp2_with fail
        refine (C4.out _ (HG.out.below HB1.out)).mono ?_
        rintro e w2 ⟨ev2, rfl, _, hb2⟩
        have HB2 := Lib.hid (bthen HB1.out hb2 (Nat.le_refl _))
        clear hb2
        go_wp2_with fail
        refine (C5.out _ (HG.out.below HB2.out)).mono ?_
        rintro e w3 ⟨rfl, hb3⟩
        have HB3 := Lib.hid (bthen HB2.out hb3 (Nat.le_refl _))
        clear hb3
        go_wp2_with fail
        refine (C7.out _).mono ?_
        rintro e w4 ⟨rfl, rfl⟩
        rw [HP.out]
        go_wp2
        go_ret2
        refine ⟨.slice none 0 0, by rw [E.out]; rfl, by rw [E.out]; exact RdStrs.nil _, HB3.out⟩
      · have E := Lib.hid (show readB s = (t, unframedB (cutT s 59)) by simp [readB, readBad, HT.out, HZ.out, pre?, hp, h3, h1])
        clear hp
        go_enter Tryd.func18, Tryd.ntmps18
        go_wp2_with fail
        refine (C1.out _ HG.out).mono ?_
        rintro e w1 ⟨rfl, k1, rfl⟩
        go_wp2_with fail
        refine (C2.out _ (HG.out.below (Below.drewN0 _ k1))).mono ?_
        rintro e w1 ⟨rfl, k2, rfl⟩
        go_wp2_with fail
        refine (C3.out _ (HG.out.below (Below.drewN0 _ _))).mono ?_
        rintro e w1 ⟨ev1, rfl, _, hb1⟩
        have HB1 := Lib.hid (bthen (Below.drewN0 w _) hb1 (Nat.le_refl _))
        clear hb1
        go_wp2_with fail
        refine (C4.out _ (HG.out.below HB1.out)).mono ?_
        rintro e w2 ⟨ev2, rfl, _, hb2⟩
        have HB2 := Lib.hid (bthen HB1.out hb2 (Nat.le_refl _))
        clear hb2
        go_wp2_with fail
        refine (C5.out _ (HG.out.below HB2.out)).mono ?_
        rintro e w3 ⟨rfl, hb3⟩
        have HB3 := Lib.hid (bthen HB2.out hb3 (Nat.le_refl _))
        clear hb3
        go_wp2_with fail
        refine (C7.out _).mono ?_
        rintro e w4 ⟨rfl, rfl⟩
        rw [HP.out]
        go_wp2_with fail
        refine (C6.out _ (HG.out.below HB3.out)).mono ?_
        rintro e w5 ⟨v, rfl, hrd, hb5⟩
        have HB5 := Lib.hid (bthen HB3.out hb5 (Nat.le_refl _))
        have HRD := Lib.hid hrd
        obtain ⟨A, c, rfl, _⟩ := hrd.form
        clear hb5 hrd
        go_wp2
        go_ret2
        refine ⟨.slice A _ c, by rw [E.out]; rfl, by rw [E.out]; exact HRD.out, HB5.out⟩
end Go.Proofs.YtjhahhpcpempgaaDoor
