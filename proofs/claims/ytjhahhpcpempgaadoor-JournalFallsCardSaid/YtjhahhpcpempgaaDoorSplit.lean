/- strings.SplitSeq at a separator of one byte. -/
import Derived.Test.YtjhahhpcpempgaaDoorRng
import Derived.Lib.Strings
set_option linter.unusedVariables false
set_option linter.unusedSimpArgs false
namespace Go.Proofs.YtjhahhpcpempgaaDoor
open Go.RowKit

/-- What stands between the bytes c. -/
def segs (c : UInt8) : List UInt8 → List (List UInt8)
  | [] => [[]]
  | x :: l => if x == c then [] :: segs c l else
    match segs c l with
    | [] => [[x]]
    | y :: r => (x :: y) :: r
theorem segs_none {c : UInt8} {l : List UInt8} (h : Lib.indexByte l c = -1) : segs c l = [l] := by
  induction l with
  | nil => rfl
  | cons x l ih =>
    have hg := Lib.indexByte_ge l c
    simp only [Lib.indexByte] at h
    cases hx : x == c
    · simp only [hx, Bool.false_eq_true, if_false] at h
      cases hl : Lib.indexByte l c == -1
      · simp only [hl, Bool.false_eq_true, if_false] at h
        omega
      · simp only [segs, hx, Bool.false_eq_true, if_false, ih (by simpa using hl)]
    · simp [hx] at h
theorem segs_some {c : UInt8} {l : List UInt8} {i : Nat} (h : Lib.indexByte l c = i) : segs c l = l.take i :: segs c (l.drop (i + 1)) := by
  induction l generalizing i with
  | nil => simp [Lib.indexByte] at h
  | cons x l ih =>
    have hg := Lib.indexByte_ge l c
    simp only [Lib.indexByte] at h
    cases hx : x == c
    · simp only [hx, Bool.false_eq_true, if_false] at h
      cases hl : Lib.indexByte l c == -1
      · simp only [hl, Bool.false_eq_true, if_false] at h
        have hl' : Lib.indexByte l c ≠ -1 := by simpa using hl
        obtain ⟨k, rfl⟩ : ∃ k, i = k + 1 := ⟨i - 1, by omega⟩
        have := ih (i := k) (by omega)
        simp only [segs, hx, Bool.false_eq_true, if_false, this, List.take_succ_cons, List.drop_succ_cons]
      · simp only [hl, if_true] at h; omega
    · simp only [hx, if_true] at h
      obtain rfl : i = 0 := by omega
      simp [segs, hx]
theorem indexByte_lt {c : UInt8} {l : List UInt8} {i : Nat} (h : Lib.indexByte l c = i) : i < l.length := by
  have := (Lib.indexByte_some h).1
  rcases Nat.lt_or_ge i l.length with q | q
  · exact q
  · rw [List.getElem?_eq_none q] at this; cases this

/-- Bytes as a text. -/
def bs (l : List UInt8) : ByteArray := ⟨l.toArray⟩
theorem bs_data (l : List UInt8) : (bs l).data.toList = l := rfl
theorem bs_eq (s : ByteArray) : bs s.data.toList = s := rfl
theorem bs_size (l : List UInt8) : (bs l).size = l.length := by show l.toArray.size = _; simp
theorem extract_bs (s : ByteArray) (a b : Nat) : s.extract a b = bs ((s.data.toList.drop a).take (b - a)) := by
  rw [← Lib.extract_data]; rfl
def parts (c : UInt8) (s : ByteArray) : List ByteArray := (segs c s.data.toList).map bs
theorem parts_none {c : UInt8} {s : ByteArray} (h : Lib.indexByte s.data.toList c = -1) : parts c s = [s] := by
  unfold parts; rw [segs_none h]; rfl
theorem parts_some {c : UInt8} {s : ByteArray} {i : Nat} (h : Lib.indexByte s.data.toList c = i) : parts c s = s.extract 0 i :: parts c (s.extract (i + 1) s.size) := by
  have hl : s.data.toList.length = s.size := by rw [Array.length_toList]; rfl
  have hi := indexByte_lt h
  unfold parts
  rw [segs_some h, List.map_cons, extract_bs, extract_bs, bs_data]
  simp only [Nat.sub_zero, List.drop_zero]
  rw [List.take_of_length_le (l := List.drop (i + 1) s.data.toList) (by rw [List.length_drop]; omega)]

theorem splitSeq_c (s sep : ByteArray) (w : World) : Calls Tryd.prog 61 #[.string s, .string sep, .int .i64 0] w fun e w' =>
    e = .returned (.func (.func 71) #[] #[.pointer (some ⟨w.heap.size + 1, 0, none⟩), .pointer (some ⟨w.heap.size, 0, none⟩), .pointer (some ⟨w.heap.size + 2, 0, none⟩)]) ∧
      w' = ((w.alloc (.cells #[.string s] 9)).alloc (.cells #[.string sep] 9)).alloc (.cells #[.int .i64 0] 3) := by
  go_enter Tryd.func61, Tryd.ntmps61
  go_wp2
  go_ret
  exact ⟨rfl, rfl⟩
theorem SplitSeq_c (s sep : ByteArray) (w : World) : Calls Tryd.prog 48 #[.string s, .string sep] w fun e w' =>
    e = .returned (.func (.func 71) #[] #[.pointer (some ⟨w.heap.size + 1, 0, none⟩), .pointer (some ⟨w.heap.size, 0, none⟩), .pointer (some ⟨w.heap.size + 2, 0, none⟩)]) ∧
      w' = ((w.alloc (.cells #[.string s] 9)).alloc (.cells #[.string sep] 9)).alloc (.cells #[.int .i64 0] 3) := by
  have H := Lib.hid (splitSeq_c s sep w)
  go_enter Tryd.func48, Tryd.ntmps48
  go_wp2_with fail
  refine H.out.mono ?_
  rintro e w1 ⟨rfl, rfl⟩
  go_wp2
  go_ret
  exact ⟨rfl, rfl⟩

def strSize (W : World) (b : Nat) : Nat := match W.cell? ⟨b, 0, none⟩ with | some (.string s) => s.size | _ => 0
theorem strSize_at {W : World} {b : Nat} {s : ByteArray} (h : W.cell? ⟨b, 0, none⟩ = some (.string s)) : strSize W b = s.size := by unfold strSize; rw [h]
def SameAt (ks : List Nat) (W W' : World) : Prop := ∀ k, k ∈ ks → W'.heap[k]? = W.heap[k]?

theorem splitGives (c : UInt8) (s : ByteArray) (b0 b1 b2 : Nat) (w : World) (h01 : b0 ≠ b1) (h02 : b0 ≠ b2) (hss : s.size ≤ 4398046511104)
    (hs : w.heap[b0]? = some (.cells #[.string s] 9 (0, 0))) (hsep : w.heap[b1]? = some (.cells #[.string ⟨#[c]⟩] 9 (0, 0))) (hsv : w.heap[b2]? = some (.cells #[.int .i64 0] 3 (0, 0)))
    (n : Nat) (hn : 2 ≤ n) :
    Gives Fence.wide n 71 #[.pointer (some ⟨b1, 0, none⟩), .pointer (some ⟨b0, 0, none⟩), .pointer (some ⟨b2, 0, none⟩)] (fun x : ByteArray => #[.string x]) (Keeps [b0]) (SameAt [b0, b1, b2]) (parts c s) w := by
  intro l J W hW hJ hY h0
  refine callsIn_of_wp Tryd.func71 rfl trivial ?_
  simp only [Tryd.ntmps71, List.size_toArray, List.length_cons, List.length_nil, Nat.reduceAdd, Nat.reduceSub, Array.replicate_succ, Array.replicate_zero, List.push_toArray, List.append_toArray, List.nil_append, List.cons_append]
  have ws := blk_b hW hs
  have wp := blk_b hW hsep
  have wv := blk_b hW hsv
  obtain ⟨x1, x2, x3⟩ := blk1 ws
  obtain ⟨y1, y2, y3⟩ := blk1 wp
  obtain ⟨z1, z2, z3⟩ := blk1 wv
  gi_wp2
  gi_loopw [7] (fun _ wr => ∃ (pre : List ByteArray) (cur : ByteArray), parts c s = pre ++ parts c cur ∧ cur.size ≤ 4398046511104 ∧ J pre wr ∧
      wr.heap[b0]? = some (.cells #[.string cur] 9 (0, 0)) ∧ wr.heap[b1]? = some (.cells #[.string ⟨#[c]⟩] 9 (0, 0)) ∧ wr.heap[b2]? = some (.cells #[.int .i64 0] 3 (0, 0)))
    (fun _ wr => strSize wr b0)
  case atStart => exact ⟨[], s, rfl, hss, h0, ws, wp, wv⟩
  case round =>
    obtain ⟨pre, cur, hx, hcs, hJs, r0, r1, r2⟩ := hrel
    clear x1 x2 x3 y1 y2 y3 z1 z2 z3 ws wp wv
    obtain ⟨x1, x2, x3⟩ := blk1 r0
    obtain ⟨y1, y2, y3⟩ := blk1 r1
    obtain ⟨z1, z2, z3⟩ := blk1 r2
    have hge := Lib.indexByte_ge cur.data.toList c
    have HX := Lib.hid hx
    have R0 := Lib.hid r0
    have R1 := Lib.hid r1
    have R2 := Lib.hid r2
    clear hx r0 r1 r2
    by_cases hneg : Lib.indexByte cur.data.toList c = -1
    · have hp := parts_none hneg
      obtain ⟨fn, tmps, assign, body, hy, hR⟩ := hY pre cur wr hJs ⟨[], by rw [HX.out, hp]; simp⟩
      have HE := Lib.hid (show parts c s = pre ++ [cur] by rw [HX.out, hp])
      have HI := Lib.hid hneg
      clear hp hneg hge
      gi_wp2_with fail
      refine ⟨trivial, fun _ => by omega, (callsIn_wide.2 (Tryd.strings_Index_one cur c _)).mono ?_⟩
      rintro e w9 ⟨rfl, rfl⟩
      rw [HI.out]
      gi_wp2_with fail
      refine ⟨fun _ => by omega, hR.mono ?_⟩
      rintro e w1 ⟨rfl, hj1, hsm⟩
      gi_wp2
      go_end0
      exact ⟨⟨_, rfl⟩, by rw [HE.out]; exact hj1⟩
    · obtain ⟨i, hi⟩ : ∃ i : Nat, Lib.indexByte cur.data.toList c = i := ⟨(Lib.indexByte cur.data.toList c).toNat, by omega⟩
      have hp := parts_some hi
      have hilt := indexByte_lt hi
      have hcl : cur.data.toList.length = cur.size := by rw [Array.length_toList]; rfl
      rw [hcl] at hilt
      have hY1 := hY pre (cur.extract 0 i) wr hJs ⟨parts c (cur.extract (i + 1) cur.size), by rw [HX.out, hp]; simp⟩
      obtain ⟨fn, tmps, assign, body, hy, hR⟩ := hY1
      have hi0 : ¬ (i : Int) < 0 := by omega
      have HI := Lib.hid hi
      have HP := Lib.hid hp
      clear hi hp hneg hge hcl
      gi_wp2_with fail
      refine ⟨trivial, fun _ => by omega, (callsIn_wide.2 (Tryd.strings_Index_one cur c _)).mono ?_⟩
      rintro e w9 ⟨rfl, rfl⟩
      rw [HI.out]
      have hmx : (i : Int) ≤ 9223372036854775806 := by omega
      gi_wp2_with fail
      refine ⟨fun _ => by omega, hR.mono ?_⟩
      rintro e w1 ⟨rfl, hj1, hsm⟩
      have HZ := Lib.hid (strSize_at x2)
      have r0 := (hsm b0 (by simp)).trans R0.out
      have r1 := (hsm b1 (by simp)).trans R1.out
      have r2 := (hsm b2 (by simp)).trans R2.out
      clear x1 x2 x3 y1 y2 y3 z1 z2 z3
      obtain ⟨x1, x2, x3⟩ := blk1 r0
      obtain ⟨y1, y2, y3⟩ := blk1 r1
      obtain ⟨z1, z2, z3⟩ := blk1 r2
      have Q0 := Lib.hid r0
      have Q1 := Lib.hid r1
      have Q2 := Lib.hid r2
      clear r0 r1 r2
      gi_wp2
      go_roundw
      case rel =>
        refine ⟨pre ++ [cur.extract 0 i], cur.extract (i + 1) cur.size, ?_, by simp [ByteArray.size_extract]; omega, hJ _ _ _ hj1 ((Keeps.refl _ _).setCell (by simp) _), blk_set Q0.out 0 _, blk_far Q1.out h01.symm _, blk_far Q2.out h02.symm _⟩
        rw [HX.out, HP.out]; simp
      case measure =>
        rw [HZ.out, strSize_at (s := cur.extract (i + 1) cur.size) (by rw [blk_cell (blk_set Q0.out 0 _)]; rfl)]
        simp [ByteArray.size_extract]; omega
end Go.Proofs.YtjhahhpcpempgaaDoor
