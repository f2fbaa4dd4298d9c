/- The journal: lines, frames. -/
import Derived.Test.YtjhahhpcpempgaaDoorGlob
import Derived.Test.YtjhahhpcpempgaaDoorTape4
import Derived.Lib.ItoaLen
set_option linter.unusedVariables false
set_option linter.unusedSimpArgs false
namespace Go.Proofs.YtjhahhpcpempgaaDoor
open Go.RowKit

def itoaB (n : Int) : ByteArray := ⟨(Lib.itoa n).toArray⟩
def frameB (s : ByteArray) : ByteArray := ⟨#[10]⟩ ++ itoaB s.size ++ ⟨#[32]⟩ ++ s
def headB (t n : Int) : ByteArray := itoaB t ++ ⟨#[32]⟩ ++ itoaB n ++ ⟨#[59]⟩

theorem grow_below {w : World} (k : Nat) (os : Array Obj) : Below w.heap.size w (Go.Sort.grow (w.drewN k) os) := by
  refine ⟨rfl, rfl, rfl, ?_, fun i hi => ?_⟩
  · show w.heap.size ≤ (w.heap ++ os).size
    simp
  · show (w.heap ++ os)[i]? = _
    rw [Array.getElem?_append_left hi]

theorem itoaB_size (n : Int) (h0 : -9223372036854775808 ≤ n) (h1 : n ≤ 9223372036854775807) : (itoaB n).size ≤ 21 := by
  have := Lib.itoa_length_le n h0 h1
  show ((Lib.itoa n).toArray).size ≤ 21
  simpa using this

theorem Itoa_c (n : Int) (h0 : -9223372036854775808 ≤ n) (h1 : n ≤ 9223372036854775807) (w : World) (hG : Glob w) :
    Calls Tryd.prog 47 #[.int .i64 n] w fun e w' => e = .returned (.string (itoaB n)) ∧ Below w.heap.size w w' :=
  (Tryd.strconv_Itoa n h0 h1 w hG.tab).mono fun e w' ⟨he, k, os, hw⟩ => ⟨he, hw ▸ grow_below k os⟩

theorem frame_c (s : ByteArray) (w : World) (hG : Glob w) (hs : s.size ≤ 1099511627776) :
    Calls Tryd.prog 40 #[.string s] w fun e w' => e = .returned (.string (frameB s)) ∧ Below w.heap.size w w' := by
  have hI := itoaB_size s.size (by omega) (by omega)
  have HT := Lib.hid hG
  clear hG
  go_enter Tryd.func40, Tryd.ntmps40
  go_wp2_with fail
  refine (Itoa_c _ (by omega) (by omega) _ HT.out).mono ?_
  rintro e w1 ⟨rfl, hb⟩
  go_wp2
  go_ret
  exact ⟨rfl, hb⟩

theorem head_c (t n : Int) (w : World) (hG : Glob w) (h0 : -9223372036854775808 ≤ t) (h1 : t ≤ 9223372036854775807) (h2 : -9223372036854775808 ≤ n) (h3 : n ≤ 9223372036854775807) :
    Calls Tryd.prog 32 #[.int .i64 t, .int .i64 n] w fun e w' => e = .returned (.string (headB t n)) ∧ Below w.heap.size w w' := by
  have hI := itoaB_size t h0 h1
  have hJ := itoaB_size n h2 h3
  have HT := Lib.hid hG
  clear hG
  go_enter Tryd.func32, Tryd.ntmps32
  go_wp2_with fail
  refine (Itoa_c _ h0 h1 _ HT.out).mono ?_
  rintro e w1 ⟨rfl, hb⟩
  go_wp2_with fail
  refine (Itoa_c _ h2 h3 _ (HT.out.below hb)).mono ?_
  rintro e w2 ⟨rfl, hb2⟩
  go_wp2
  go_ret
  exact ⟨rfl, bthen hb hb2 (Nat.le_refl _)⟩

def framesB (l : List ByteArray) : ByteArray := l.foldl (fun o s => o ++ frameB s) mt
theorem framesB_snoc (l : List ByteArray) (k : Nat) (h : k < l.length) : framesB (l.take (k + 1)) = framesB (l.take k) ++ frameB l[k] := by
  unfold framesB
  rw [List.take_succ_eq_append_getElem h, List.foldl_append]
  rfl
theorem fold_frames (l : List ByteArray) (a : ByteArray) : (l.foldl (fun o s => o ++ frameB s) a).size = a.size + (l.map fun s => (frameB s).size).sum := by
  induction l generalizing a with
  | nil => simp
  | cons s l ih => simp only [List.foldl_cons, List.map_cons, List.sum_cons]; rw [ih, ByteArray.size_append]; omega
theorem framesB_size (l : List ByteArray) : (framesB l).size = (l.map fun s => (frameB s).size).sum := by
  rw [framesB, fold_frames]; show 0 + _ = _; omega
theorem framesB_take (l : List ByteArray) (k : Nat) (h : k < l.length) : (framesB (l.take k)).size + (frameB l[k]).size ≤ (framesB l).size := by
  rw [← ByteArray.size_append, ← framesB_snoc l k h, framesB_size, framesB_size]
  conv => rhs; rw [← List.take_append_drop (k + 1) l]
  rw [List.map_append, List.sum_append]
  omega
theorem frameB_size_ge (s : ByteArray) : s.size ≤ (frameB s).size := by
  unfold frameB; simp only [ByteArray.size_append]; omega

theorem frames_c (lv : Value) (l : List ByteArray) (w : World) (hG : Glob w) (hl : RdStrs w lv l) (hs : (framesB l).size ≤ 1099511627776) :
    Calls Tryd.prog 37 #[lv] w fun e w' => e = .returned (.string (framesB l)) ∧ Below w.heap.size w w' := by
  obtain ⟨A, c, rfl, hlc, hcm⟩ := hl.form
  have HL := Lib.hid hl
  have HG := Lib.hid hG
  unfold maxLen at hcm
  obtain ⟨n, hn⟩ : ∃ n, l.length = n := ⟨_, rfl⟩
  rw [hn] at hlc
  have HN := Lib.hid hn
  rw [hn]
  clear hl hG hn
  go_enter Tryd.func37, Tryd.ntmps37
  go_wp2
  go_loopw [3, 8] (fun o i wr => ∃ k : Nat, k ≤ n ∧ i = .int .i64 k ∧ o = .string (framesB (l.take k)) ∧ Below w.heap.size w wr) (fun _ i _ => n - (intOf i).toNat)
  case atStart => exact ⟨0, Nat.zero_le _, rfl, rfl, Below.refl _ _⟩
  case round =>
    obtain ⟨k, hk, rfl, rfl, hbel⟩ := hrel
    obtain ⟨m, hm⟩ : ∃ m, framesB (l.take k) = m := ⟨_, rfl⟩
    rw [hm]
    by_cases hlt : k < n
    · have hkl : k < l.length := by rw [HN.out]; exact hlt
      have hsn := framesB_snoc l k hkl
      have hct := framesB_take l k hkl
      obtain ⟨x, hx⟩ : ∃ x, l[k] = x := ⟨_, rfl⟩
      rw [hx, hm] at hsn hct
      have hxs := frameB_size_ge x
      obtain ⟨g, o, rfl, hg, hcell⟩ := HL.out.cell hkl
      rw [hx] at hcell
      have hcr := (hbel.cell (p := ⟨g, o + k, none⟩) hg).trans hcell
      have HS := Lib.hid hsn
      clear hsn hx hcell hm
      go_wp2_with fail
      refine (frame_c x _ (HG.out.below hbel) (by omega)).mono ?_
      rintro e w1 ⟨rfl, hb1⟩
      have HB1 := Lib.hid hb1
      clear hb1
      go_wp2
      go_roundw
      case rel => exact ⟨k + 1, by omega, by go_num, by rw [HS.out], bthen hbel HB1.out (Nat.le_refl _)⟩
      case measure => simp [intOf]; omega
    · obtain rfl : k = n := by omega
      have hm2 : m = framesB l := by rw [← hm, ← HN.out, List.take_length]
      subst hm2
      clear hm
      go_wp2
      go_ret
      exact ⟨rfl, hbel⟩

/-- The place of the first that is so; below 0: there is none. -/
def idxOf {α : Type} (p : α → Bool) (l : List α) : Int := if l.any p then (l.findIdx p : Int) else -1
theorem idxOf_none {α : Type} {p : α → Bool} {l : List α} (h : ∀ j (hj : j < l.length), p l[j] = false) : idxOf p l = -1 := by
  unfold idxOf
  rw [if_neg]
  intro ha
  obtain ⟨x, hx, hp⟩ := List.any_eq_true.1 ha
  obtain ⟨j, hj, rfl⟩ := List.getElem_of_mem hx
  rw [h j hj] at hp
  cases hp
theorem idxOf_some {α : Type} {p : α → Bool} {l : List α} {k : Nat} (hk : k < l.length) (hp : p l[k] = true) (h : ∀ j (hj : j < k), p (l[j]'(by omega)) = false) : idxOf p l = k := by
  unfold idxOf
  rw [if_pos (List.any_eq_true.2 ⟨_, List.getElem_mem hk, hp⟩)]
  have : l.findIdx p = k := by
    rw [List.findIdx_eq hk]
    exact ⟨hp, fun j hj => by rw [h j hj]⟩
  rw [this]
theorem idxOf_ge {α : Type} (p : α → Bool) (l : List α) : decide (0 ≤ idxOf p l) = l.any p := by
  unfold idxOf
  cases l.any p <;> simp

/-- A value that reads as a list of bytes. -/
def RdBytes (w : World) (v : Value) (l : List UInt8) : Prop := RowAt w 5 1 v l.length (l.map fun c => Value.int .u8 (c.toNat : Int))
theorem RdBytes.below {w w1 : World} {v : Value} {l : List UInt8} (h : RdBytes w v l) (hk : Below w.heap.size w w1) : RdBytes w1 v l := RowAt.below h hk
theorem RdBytes.form {w : World} {v : Value} {l : List UInt8} (h : RdBytes w v l) : ∃ A c, v = .slice A l.length c ∧ l.length ≤ c ∧ c ≤ maxLen := by
  obtain ⟨A, c, hv, hn, hc, _⟩ := h
  exact ⟨A, c, hv, hn, hc⟩
theorem RdBytes.cell {w : World} {A : Option Addr} {n c : Nat} {l : List UInt8} (h : RdBytes w (.slice A n c) l) {i : Nat} (hi : i < l.length) :
    ∃ g o, A = some ⟨g, o, none⟩ ∧ g < w.heap.size ∧ w.cell? ⟨g, o + i, none⟩ = some (.int .u8 (l[i].toNat : Int)) := by
  obtain ⟨A', c', hv, _⟩ := id h
  injection hv with hA hn hc
  subst hn
  obtain ⟨g, o, hA, hg, hc⟩ := RowAt.cell h (i := i) (j := 0) hi (by decide)
  refine ⟨g, o, hA, hg, ?_⟩
  simp at hc
  rw [hc]
  simp [hi]


theorem IdxB_c (kf : Nat) (caps : Array Value) (p : UInt8 → Bool) (lv : Value) (l : List UInt8) (w : World) (hl : RdBytes w lv l)
    (hp : ∀ x, x ∈ l → ∀ w1, Below w.heap.size w w1 → Calls Tryd.prog kf (#[.int .u8 (x.toNat : Int)] ++ caps) w1 fun e w2 => e = .returned (.bool (p x)) ∧ Below w1.heap.size w1 w2)
    (he : ∀ (args : Array Value) (w : World), (callFunc kf args).run Tryd.prog w = .ok (.enter kf args) w) :
    Calls Tryd.prog 62 #[lv, .func (.func kf) #[] caps] w fun e w' => e = .returned (.int .i64 (idxOf p l)) ∧ Below w.heap.size w w' := by
  obtain ⟨A, c, rfl, hlc, hcm⟩ := hl.form
  have HL := Lib.hid hl
  have HP := Lib.hid hp
  unfold maxLen at hcm
  obtain ⟨n, hn⟩ : ∃ n, l.length = n := ⟨_, rfl⟩
  rw [hn] at hlc
  have HN := Lib.hid hn
  rw [hn]
  clear hl hn hp
  go_enter Tryd.func62, Tryd.ntmps62
  go_wp2
  go_loopw [8] (fun i wr => ∃ k : Nat, k ≤ n ∧ i = .int .i64 k ∧ Hid (∀ j (hj : j < l.length), j < k → p l[j] = false) ∧ Below w.heap.size w wr) (fun i _ => n - (intOf i).toNat)
  case atStart => exact ⟨0, Nat.zero_le _, rfl, fun j hj h => by omega, Below.refl _ _⟩
  case round =>
    obtain ⟨k, hk, rfl, hall, hbel⟩ := hrel
    by_cases hlt : k < n
    · have hkl : k < l.length := by rw [HN.out]; exact hlt
      obtain ⟨x, hx⟩ : ∃ x, l[k] = x := ⟨_, rfl⟩
      have hxm : x ∈ l := hx ▸ List.getElem_mem hkl
      obtain ⟨g, o, rfl, hg, hcell⟩ := HL.out.cell hkl
      rw [hx] at hcell
      have hcr := (hbel.cell (p := ⟨g, o + k, none⟩) hg).trans hcell
      have HX := Lib.hid hx
      have HXM := Lib.hid hxm
      clear hx hcell hxm
      go_wp2_with fail
      refine (HP.out x HXM.out _ hbel).mono ?_
      rintro e w1 ⟨rfl, hb1⟩
      have HB1 := Lib.hid hb1
      clear hb1
      cases hpx : p x
      · have HPX := Lib.hid hpx
        clear hpx
        go_wp2
        go_roundw
        case rel =>
          refine ⟨k + 1, by omega, by go_num, fun j hj h => ?_, bthen hbel HB1.out (Nat.le_refl _)⟩
          by_cases hjk : j = k
          · subst hjk; rw [HX.out]; exact HPX.out
          · exact hall.out j hj (by omega)
        case measure => simp [intOf]; omega
      · have HPX := Lib.hid hpx
        clear hpx
        go_wp2
        go_ret
        refine ⟨?_, bthen hbel HB1.out (Nat.le_refl _)⟩
        rw [idxOf_some hkl (by rw [HX.out]; exact HPX.out) (fun j hj => hall.out j (by omega) hj)]
        rfl
    · obtain rfl : k = n := by omega
      go_wp2
      go_ret
      refine ⟨?_, hbel⟩
      rw [idxOf_none (fun j hj => hall.out j hj (by rw [← HN.out]; exact hj))]
      rfl

theorem IdxBAny_c (kf : Nat) (caps : Array Value) (p : UInt8 → Bool) (lv : Value) (l : List UInt8) (w : World) (hl : RdBytes w lv l)
    (hp : ∀ x, x ∈ l → ∀ w1, Below w.heap.size w w1 → Calls Tryd.prog kf (#[.int .u8 (x.toNat : Int)] ++ caps) w1 fun e w2 => e = .returned (.bool (p x)) ∧ Below w1.heap.size w1 w2)
    (he : ∀ (args : Array Value) (w : World), (callFunc kf args).run Tryd.prog w = .ok (.enter kf args) w) :
    Calls Tryd.prog 50 #[lv, .func (.func kf) #[] caps] w fun e w' => e = .returned (.bool (l.any p)) ∧ Below w.heap.size w w' := by
  have H := Lib.hid (IdxB_c kf caps p lv l w hl hp he)
  have HI := Lib.hid (idxOf_ge p l)
  clear hl hp
  go_enter Tryd.func50, Tryd.ntmps50
  go_wp2_with fail
  refine H.out.mono ?_
  rintro e w1 ⟨rfl, hb⟩
  go_wp2
  go_ret
  exact ⟨by rw [← HI.out]; rfl, hb⟩

theorem IdxS_c (kf : Nat) (caps : Array Value) (p : ByteArray → Bool) (lv : Value) (l : List ByteArray) (w : World) (hl : RdStrs w lv l)
    (hp : ∀ x, x ∈ l → ∀ w1, Below w.heap.size w w1 → Calls Tryd.prog kf (#[.string x] ++ caps) w1 fun e w2 => e = .returned (.bool (p x)) ∧ Below w1.heap.size w1 w2)
    (he : ∀ (args : Array Value) (w : World), (callFunc kf args).run Tryd.prog w = .ok (.enter kf args) w) :
    Calls Tryd.prog 49 #[lv, .func (.func kf) #[] caps] w fun e w' => e = .returned (.int .i64 (idxOf p l)) ∧ Below w.heap.size w w' := by
  obtain ⟨A, c, rfl, hlc, hcm⟩ := hl.form
  have HL := Lib.hid hl
  have HP := Lib.hid hp
  unfold maxLen at hcm
  obtain ⟨n, hn⟩ : ∃ n, l.length = n := ⟨_, rfl⟩
  rw [hn] at hlc
  have HN := Lib.hid hn
  rw [hn]
  clear hl hn hp
  go_enter Tryd.func49, Tryd.ntmps49
  go_wp2
  go_loopw [8] (fun i wr => ∃ k : Nat, k ≤ n ∧ i = .int .i64 k ∧ Hid (∀ j (hj : j < l.length), j < k → p l[j] = false) ∧ Below w.heap.size w wr) (fun i _ => n - (intOf i).toNat)
  case atStart => exact ⟨0, Nat.zero_le _, rfl, fun j hj h => by omega, Below.refl _ _⟩
  case round =>
    obtain ⟨k, hk, rfl, hall, hbel⟩ := hrel
    by_cases hlt : k < n
    · have hkl : k < l.length := by rw [HN.out]; exact hlt
      obtain ⟨x, hx⟩ : ∃ x, l[k] = x := ⟨_, rfl⟩
      have hxm : x ∈ l := hx ▸ List.getElem_mem hkl
      obtain ⟨g, o, rfl, hg, hcell⟩ := HL.out.cell hkl
      rw [hx] at hcell
      have hcr := (hbel.cell (p := ⟨g, o + k, none⟩) hg).trans hcell
      have HX := Lib.hid hx
      have HXM := Lib.hid hxm
      clear hx hcell hxm
      go_wp2_with fail
      refine (HP.out x HXM.out _ hbel).mono ?_
      rintro e w1 ⟨rfl, hb1⟩
      have HB1 := Lib.hid hb1
      clear hb1
      cases hpx : p x
      · have HPX := Lib.hid hpx
        clear hpx
        go_wp2
        go_roundw
        case rel =>
          refine ⟨k + 1, by omega, by go_num, fun j hj h => ?_, bthen hbel HB1.out (Nat.le_refl _)⟩
          by_cases hjk : j = k
          · subst hjk; rw [HX.out]; exact HPX.out
          · exact hall.out j hj (by omega)
        case measure => simp [intOf]; omega
      · have HPX := Lib.hid hpx
        clear hpx
        go_wp2
        go_ret
        refine ⟨?_, bthen hbel HB1.out (Nat.le_refl _)⟩
        rw [idxOf_some hkl (by rw [HX.out]; exact HPX.out) (fun j hj => hall.out j (by omega) hj)]
        rfl
    · obtain rfl : k = n := by omega
      go_wp2
      go_ret
      refine ⟨?_, hbel⟩
      rw [idxOf_none (fun j hj => hall.out j hj (by rw [← HN.out]; exact hj))]
      rfl

theorem IdxSAny_c (kf : Nat) (caps : Array Value) (p : ByteArray → Bool) (lv : Value) (l : List ByteArray) (w : World) (hl : RdStrs w lv l)
    (hp : ∀ x, x ∈ l → ∀ w1, Below w.heap.size w w1 → Calls Tryd.prog kf (#[.string x] ++ caps) w1 fun e w2 => e = .returned (.bool (p x)) ∧ Below w1.heap.size w1 w2)
    (he : ∀ (args : Array Value) (w : World), (callFunc kf args).run Tryd.prog w = .ok (.enter kf args) w) :
    Calls Tryd.prog 34 #[lv, .func (.func kf) #[] caps] w fun e w' => e = .returned (.bool (l.any p)) ∧ Below w.heap.size w w' := by
  have H := Lib.hid (IdxS_c kf caps p lv l w hl hp he)
  have HI := Lib.hid (idxOf_ge p l)
  clear hl hp
  go_enter Tryd.func34, Tryd.ntmps34
  go_wp2_with fail
  refine H.out.mono ?_
  rintro e w1 ⟨rfl, hb⟩
  go_wp2
  go_ret
  exact ⟨by rw [← HI.out]; rfl, hb⟩
end Go.Proofs.YtjhahhpcpempgaaDoor
