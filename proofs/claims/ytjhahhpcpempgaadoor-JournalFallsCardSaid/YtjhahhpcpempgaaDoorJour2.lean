/- The journal: what a line is. -/
import Derived.Test.YtjhahhpcpempgaaDoorJour
import Derived.Lib.ConvBytes
set_option linter.unusedVariables false
set_option linter.unusedSimpArgs false
namespace Go.Proofs.YtjhahhpcpempgaaDoor
open Go.RowKit

def lineOk (s : ByteArray) : Bool := !s.toList.isEmpty && decide (s.size ≤ 1000) && !(s.data.toList.any fun c => decide (c.toNat < 32))

theorem lineL_c (x : UInt8) (w : World) : Calls Tryd.prog 51 #[.int .u8 (x.toNat : Int)] w fun e w' => e = .returned (.bool (decide (x.toNat < 32))) ∧ Below w.heap.size w w' := by
  have hx := x.toNat_lt
  by_cases h : x.toNat < 32
  · go_enter Tryd.func51, Tryd.ntmps51
    go_wp2
    go_ret
    exact ⟨by simp [h]; omega, Below.refl _ _⟩
  · go_enter Tryd.func51, Tryd.ntmps51
    go_wp2
    go_ret
    exact ⟨by simp [h]; omega, Below.refl _ _⟩

theorem conv_bytes (s : ByteArray) : ∀ W, (convert 9 23 (.string s)).run Tryd.prog W = .ok (.slice (some ⟨W.heap.size, 0, none⟩) s.size (grownCap W s.size 0 5)) (Lib.bytesWorld W 5 s) :=
  fun W => Lib.run_convert_string_bytes W _ _ _ s Tryd.underlying9 Tryd.underlying23 Tryd.underlying5
theorem bw_below (W : World) (e : TypeId) (s : ByteArray) : Below W.heap.size W (Lib.bytesWorld W e s) := ⟨rfl, rfl, rfl, by rw [Lib.bytesWorld_size]; omega, fun i hi => Lib.bytesWorld_at_old W e s i hi⟩
theorem rd_conv (W : World) (s : ByteArray) (hs : s.size ≤ 9223372036854775807) : RdBytes (Lib.bytesWorld W 5 s) (.slice (some ⟨W.heap.size, 0, none⟩) s.size (grownCap W s.size 0 5)) s.data.toList := by
  have hl : s.data.toList.length = s.size := by rw [Array.length_toList]; rfl
  refine ⟨_, _, by rw [hl], by rw [hl]; exact grownCap_ge _ _ _ _, grownCap_le_maxLen _ _ _ _ (by unfold maxLen; omega), by rw [List.length_map, Nat.mul_one], .inr ⟨_, 0, _, _, rfl, Lib.bytesWorld_at_new W _ s, fun j hj => ?_⟩⟩
  have hj' : j < s.size := by rw [hl] at hj; omega
  have := Lib.bytesWorld_cell W 5 s j hj'
  rw [blk_cell (Lib.bytesWorld_at_new W _ s)] at this
  rw [Nat.zero_add, this]
  have hj2 : j < s.data.toList.length := by omega
  rw [List.getElem?_map, List.getElem?_eq_getElem hj2, List.getD_eq_getElem?_getD, List.getElem?_eq_getElem hj2]
  rfl

theorem line_c (s : ByteArray) (w : World) (hs : s.size ≤ 1099511627776) : Calls Tryd.prog 36 #[.string s] w fun e w' => e = .returned (.bool (lineOk s)) ∧ Below w.heap.size w w' := by
  cases h1 : s.toList.isEmpty
  · by_cases h2 : s.size ≤ 1000
    · have hkb := conv_bytes s
      have HR := Lib.hid (fun W => rd_conv W s (by omega))
      have E := Lib.hid (show lineOk s = !(s.data.toList.any fun c => decide (c.toNat < 32)) by simp [lineOk, h1, h2])
      obtain ⟨l, hl⟩ : ∃ l, s.data.toList = l := ⟨_, rfl⟩
      rw [hl] at E
      have HL := Lib.hid hl
      clear hl
      go_enter Tryd.func36, Tryd.ntmps36
      go_wp2_with fail
      refine (IdxBAny_c 51 #[] (fun c => decide (c.toNat < 32)) _ l _ (HL.out ▸ HR.out w) (fun x _ w1 _ => lineL_c x w1) (enters_of Tryd.func51 (by kernel_rfl) rfl)).mono ?_
      rintro e w1 ⟨rfl, hb⟩
      go_wp2
      go_ret
      exact ⟨by rw [E.out]; rfl, bthen (bw_below w _ s) hb (Nat.le_refl _)⟩
    · have E := Lib.hid (show lineOk s = false by simp [lineOk, h2])
      go_enter Tryd.func36, Tryd.ntmps36
      go_wp2
      go_ret
      exact ⟨by rw [E.out]; rfl, Below.refl _ _⟩
  · have E := Lib.hid (show lineOk s = false by simp [lineOk, h1])
    go_enter Tryd.func36, Tryd.ntmps36
    go_wp2
    go_ret
    exact ⟨by rw [E.out]; rfl, Below.refl _ _⟩
end Go.Proofs.YtjhahhpcpempgaaDoor
