/- What a journal keeps: a side that was written whole is read, one that was torn is not. -/
import Derived.Test.YtjhahhpcpempgaaDoorNum
set_option linter.unusedVariables false
set_option linter.unusedSimpArgs false
namespace Go.Proofs.YtjhahhpcpempgaaDoor
open Go.RowKit

theorem hd_no (t n : Int) : (59 : UInt8) ∉ Lib.itoa t ++ 32 :: Lib.itoa n := by
  simp only [List.mem_append, List.mem_cons, not_or]
  exact ⟨itoa_no _ _ (by decide), by decide, itoa_no _ _ (by decide)⟩
theorem hd_eq (t n : Int) (r : List UInt8) : hd t n ++ r = (Lib.itoa t ++ 32 :: Lib.itoa n) ++ 59 :: r := by
  unfold hd; simp
theorem read_hd (X : ByteArray) (t n : Int) (r : List UInt8) (h : X.data.toList = hd t n ++ r) (t0 : -9223372036854775808 ≤ t) (t1 : t ≤ 9223372036854775807) (n0 : -9223372036854775808 ≤ n) (n1 : n ≤ 9223372036854775807) :
    readB X = if t < 1 ∨ (r.length : Int) < n then (0, []) else (t, unframedB (bs r)) := by
  have hc : Lib.cut X.data.toList [59] = (Lib.itoa t ++ 32 :: Lib.itoa n, r, true) := by rw [h, hd_eq]; exact cut_some _ _ _ (hd_no t n)
  have h1 : cutH X 59 = bs (Lib.itoa t ++ 32 :: Lib.itoa n) := by unfold cutH; rw [hc]
  have h2 : cutT X 59 = bs r := by unfold cutT; rw [hc]
  have hc2 : Lib.cut (cutH X 59).data.toList [32] = (Lib.itoa t, Lib.itoa n, true) := by rw [h1, bs_data]; exact cut_some _ _ _ (itoa_no _ _ (by decide))
  have h3 : readTurn X = t := by
    unfold readTurn
    have : cutH (cutH X 59) 32 = itoaB t := by unfold cutH at hc2 ⊢; rw [hc2]; rfl
    rw [this, atoiV_itoa t t0 t1]
  have h4 : readSize X = n := by
    unfold readSize
    have : cutT (cutH X 59) 32 = itoaB n := by unfold cutT; rw [hc2]; rfl
    rw [this, atoiV_itoa n n0 n1]
  have h5 : pre? X (headB t n) = true := by
    unfold pre? Lib.hasPrefix
    rw [headB_data, h]
    simp
  unfold readB readBad
  rw [h3, h4, h5, h2, bs_size]
  by_cases q1 : t < 1 <;> by_cases q2 : (r.length : Int) < n <;> simp [q1, q2]
theorem read_no (X : ByteArray) (h : (59 : UInt8) ∉ X.data.toList) : readB X = (0, []) := by
  unfold readB
  rw [if_pos]
  unfold readBad
  have : pre? X (headB (readTurn X) (readSize X)) = false := by
    cases hp : pre? X (headB (readTurn X) (readSize X))
    · rfl
    · exfalso
      unfold pre? Lib.hasPrefix at hp
      rw [headB_data] at hp
      have := (List.isPrefixOf_iff_prefix.1 hp).subset (a := 59) (by unfold hd; simp)
      exact h this
  rw [this]; simp
theorem read_inv (X : ByteArray) (h : 1 ≤ (readB X).1) : ∃ t n r, X.data.toList = hd t n ++ r ∧ readB X = (t, unframedB (bs r)) ∧ n ≤ (r.length : Int) ∧
    -9223372036854775808 ≤ t ∧ t ≤ 9223372036854775807 ∧ -9223372036854775808 ≤ n ∧ n ≤ 9223372036854775807 := by
  by_cases hb : readBad X = true
  · unfold readB at h; rw [if_pos hb] at h; simp at h
  · have tb := atoiV_bounds (cutH (cutH X 59) 32)
    have sb := atoiV_bounds (cutT (cutH X 59) 32)
    have hp : pre? X (headB (readTurn X) (readSize X)) = true := by
      unfold readBad at hb; simp at hb; exact hb.1.2
    unfold pre? Lib.hasPrefix at hp
    rw [headB_data] at hp
    obtain ⟨r, hr⟩ := List.isPrefixOf_iff_prefix.1 hp
    have he := read_hd X _ _ r hr.symm tb.1 tb.2 sb.1 sb.2
    by_cases q : readTurn X < 1 ∨ (r.length : Int) < readSize X
    · rw [he, if_pos q] at h; simp at h
    · rw [if_neg q] at he
      exact ⟨_, _, r, hr.symm, he, by omega, tb.1, tb.2, sb.1, sb.2⟩
theorem readB_ge (X : ByteArray) : 0 ≤ (readB X).1 := by
  unfold readB
  by_cases hb : readBad X = true
  · rw [if_pos hb]; simp
  · rw [if_neg hb]
    unfold readBad at hb; simp at hb
    show 0 ≤ readTurn X
    have := hb.1.1
    omega
theorem readB_zero (X : ByteArray) (h : (readB X).1 = 0) : readB X = (0, []) := by
  unfold readB at h ⊢
  by_cases hb : readBad X = true
  · rw [if_pos hb]
  · rw [if_neg hb] at h
    unfold readBad at hb; simp at hb
    have := hb.1.1
    simp at h; omega

theorem mt_app (X : ByteArray) : mt ++ X = X := ba_ext (by rw [ba_append]; rfl)
theorem anewB_data (l : List ByteArray) (t : Int) : (anewB l t).data.toList = hd t (framesB l).size ++ (framesB l).data.toList := by
  unfold anewB
  rw [mt_app, ba_append, headB_data]
/-- Lines that may be kept. -/
def LinesOk (l : List ByteArray) : Prop := ∀ x, x ∈ l → lineOk x = true
theorem lineOk_size {x : ByteArray} (h : lineOk x = true) : x.size ≤ 1000 := by
  unfold lineOk at h; simp at h; exact h.1.2
theorem lineOk_no {x : ByteArray} (h : lineOk x = true) : (10 : UInt8) ∉ x.data.toList := by
  intro hm
  unfold lineOk at h
  rw [Bool.and_eq_true, Bool.not_eq_true', List.any_eq_false] at h
  have := h.2 10 hm
  revert this; decide
theorem read_anew (l : List ByteArray) (t : Int) (hl : LinesOk l) (t0 : 1 ≤ t) (t1 : t ≤ 9223372036854775807) (hf : (framesB l).size ≤ 1099511627776) : readB (anewB l t) = (t, l) := by
  rw [read_hd _ t (framesB l).size _ (anewB_data l t) (by omega) t1 (by omega) (by omega), if_neg (by rw [ba_size]; omega), bs_eq]
  have := unf_frames l (fun x hx => ⟨by have := lineOk_size (hl x hx); omega, lineOk_no (hl x hx)⟩) mt
  rw [unf_nil] at this
  exact congrArg (Prod.mk t) this
theorem read_torn (l : List ByteArray) (t : Int) (q : Nat) (t0 : 1 ≤ t) (t1 : t ≤ 9223372036854775807) (hf : (framesB l).size ≤ 1099511627776) (hq : q < (anewB l t).size) : readB ((anewB l t).extract 0 q) = (0, []) := by
  have hd1 := anewB_data l t
  have hs := ba_size (anewB l t)
  rw [hd1] at hs
  have he : ((anewB l t).extract 0 q).data.toList = (hd t (framesB l).size ++ (framesB l).data.toList).take q := by
    rw [extract_bs, bs_data, hd1, Nat.sub_zero, List.drop_zero]
  rcases Nat.lt_or_ge q (hd t (framesB l).size).length with h | h
  · refine read_no _ ?_
    rw [he, List.take_append_of_le_length (by omega)]
    intro hm
    have hz : (hd t (framesB l).size).take q <+: Lib.itoa t ++ 32 :: Lib.itoa (framesB l).size := by
      have e : hd t (framesB l).size = (Lib.itoa t ++ 32 :: Lib.itoa (framesB l).size) ++ [59] := by unfold hd; simp
      rw [e] at h ⊢
      rw [List.take_append_of_le_length (by simp at h ⊢; omega)]
      exact List.take_prefix _ _
    exact hd_no _ _ (hz.subset hm)
  · rw [read_hd _ t (framesB l).size ((framesB l).data.toList.take (q - (hd t (framesB l).size).length)) (by rw [he, List.take_append, List.take_of_length_le h]) (by omega) t1 (by omega) (by omega), if_pos]
    right
    rw [List.length_append, ba_size] at hs
    rw [List.length_take, ba_size]; omega
theorem read_mt : readB mt = (0, []) := read_no _ (by show (59 : UInt8) ∉ ([] : List UInt8); simp)
theorem read_behind (X y : ByteArray) (h : 1 ≤ (readB X).1) : ∃ r, (readB X) = ((readB X).1, unframedB r) ∧ readB (X ++ y) = ((readB X).1, unframedB (r ++ y)) := by
  obtain ⟨t, n, r, hX, he, hn, t0, t1, n0, n1⟩ := read_inv X h
  refine ⟨bs r, by rw [he], ?_⟩
  rw [he] at h
  rw [read_hd (X ++ y) t n (r ++ y.data.toList) (by rw [ba_append, hX, List.append_assoc]) t0 t1 n0 n1, if_neg (by rw [List.length_append]; simp at h; omega), he]
  have : bs (r ++ y.data.toList) = bs r ++ y := ba_ext (by rw [ba_append, bs_data, bs_data])
  rw [this]

/-- What is opened, of the sides. -/
def J0 : Jn := { side := 0, turn := 0, lines := [], dead := false }
def openS (d : Sd) : Jn := openStep (openStep J0 0 (readB d.a)) 1 (readB d.b)
theorem openJ_eq (T : Tp) : openJ T = openS T.now := rfl
theorem openS_eq (d : Sd) : openS d = if 0 < (readB d.a).1 then (if (readB d.a).1 < (readB d.b).1 then ⟨1, (readB d.b).1, (readB d.b).2, false⟩ else ⟨0, (readB d.a).1, (readB d.a).2, false⟩)
    else if 0 < (readB d.b).1 then ⟨1, (readB d.b).1, (readB d.b).2, false⟩ else J0 := by
  unfold openS openStep J0
  by_cases h : 0 < (readB d.a).1
  · simp only [h, if_true]
  · simp only [h, if_false]
theorem openS_side (d : Sd) : (openS d).side = 0 ∨ (openS d).side = 1 := by
  rw [openS_eq]
  split
  · split
    · exact .inr rfl
    · exact .inl rfl
  · split
    · exact .inr rfl
    · exact .inl rfl
theorem openS_dead (d : Sd) : (openS d).dead = false := by
  rw [openS_eq]
  split
  · split <;> rfl
  · split <;> rfl
theorem openS_turn (d : Sd) : 0 ≤ (openS d).turn := by
  rw [openS_eq]
  split
  · split <;> simp <;> omega
  · split
    · simp; omega
    · exact Int.le_refl _
/-- The side that does not count is written whole, or holds nothing. -/
def Sd.put (d : Sd) (n : Int) (X : ByteArray) : Sd := if n = 0 then ⟨X, d.b⟩ else ⟨d.a, X⟩
theorem open_put_whole (d : Sd) (X : ByteArray) (l : List ByteArray) (h : readB X = ((openS d).turn + 1, l)) :
    openS (d.put (1 - (openS d).side) X) = ⟨1 - (openS d).side, (openS d).turn + 1, l, false⟩ := by
  have ga := readB_ge d.a
  have gb := readB_ge d.b
  rw [openS_eq d] at h ⊢
  by_cases h1 : 0 < (readB d.a).1
  · rw [if_pos h1] at h ⊢
    by_cases h2 : (readB d.a).1 < (readB d.b).1
    · rw [if_pos h2] at h ⊢
      simp only at h
      simp only [Sd.put, Int.sub_self, if_true]
      rw [openS_eq]; simp only [h]
      rw [if_pos (by omega), if_neg (by omega)]
    · rw [if_neg h2] at h ⊢
      simp only at h
      simp only [Sd.put, Int.sub_zero]
      rw [if_neg (by decide), openS_eq]; simp only [h]
      rw [if_pos h1, if_pos (by omega)]
  · rw [if_neg h1] at h ⊢
    by_cases h2 : 0 < (readB d.b).1
    · rw [if_pos h2] at h ⊢
      simp only at h
      simp only [Sd.put, Int.sub_self, if_true]
      rw [openS_eq]; simp only [h]
      rw [if_pos (by omega), if_neg (by omega)]
    · rw [if_neg h2] at h ⊢
      simp only [J0] at h
      simp only [Sd.put, J0, Int.sub_zero]
      rw [if_neg (by decide), openS_eq]; simp only [h]
      rw [if_neg h1, if_pos (by omega)]
theorem open_put_none (d : Sd) (X : ByteArray) (h : readB X = (0, [])) : openS (d.put (1 - (openS d).side) X) = openS d := by
  have ga := readB_ge d.a
  have gb := readB_ge d.b
  rw [openS_eq d]
  by_cases h1 : 0 < (readB d.a).1
  · rw [if_pos h1]
    by_cases h2 : (readB d.a).1 < (readB d.b).1
    · rw [if_pos h2]
      simp only [Sd.put, Int.sub_self, if_true]
      rw [openS_eq]; simp only [h]
      rw [if_neg (by omega), if_pos (by omega)]
    · rw [if_neg h2]
      simp only [Sd.put, Int.sub_zero]
      rw [if_neg (by decide), openS_eq]; simp only [h]
      rw [if_pos h1, if_neg (by omega)]
  · rw [if_neg h1]
    by_cases h2 : 0 < (readB d.b).1
    · rw [if_pos h2]
      simp only [Sd.put, Int.sub_self, if_true]
      rw [openS_eq]; simp only [h]
      rw [if_neg (by omega), if_pos h2]
    · rw [if_neg h2]
      simp only [Sd.put, J0, Int.sub_zero]
      rw [if_neg (by decide), openS_eq]; simp only [h]
      rw [if_neg h1, if_neg (by omega)]; rfl
/-- The side that counts. -/
def Sd.at (d : Sd) (n : Int) : ByteArray := if n = 0 then d.a else d.b
theorem open_at (d : Sd) (h : (openS d).turn ≠ 0) : readB (d.at (openS d).side) = ((openS d).turn, (openS d).lines) ∧ 1 ≤ (openS d).turn := by
  have ga := readB_ge d.a
  have gb := readB_ge d.b
  rw [openS_eq d] at h ⊢
  by_cases h1 : 0 < (readB d.a).1
  · rw [if_pos h1] at h ⊢
    by_cases h2 : (readB d.a).1 < (readB d.b).1
    · rw [if_pos h2] at h ⊢
      exact ⟨by simp [Sd.at], by simp only; omega⟩
    · rw [if_neg h2] at h ⊢
      exact ⟨by simp [Sd.at], by simp only; omega⟩
  · rw [if_neg h1] at h ⊢
    by_cases h2 : 0 < (readB d.b).1
    · rw [if_pos h2] at h ⊢
      exact ⟨by simp [Sd.at], by simp only; omega⟩
    · rw [if_neg h2] at h; exact absurd rfl h
theorem open_put_same (d : Sd) (X : ByteArray) (l : List ByteArray) (h0 : (openS d).turn ≠ 0) (h : readB X = ((openS d).turn, l)) :
    openS (d.put (openS d).side X) = { openS d with lines := l } := by
  have ga := readB_ge d.a
  have gb := readB_ge d.b
  rw [openS_eq d] at h h0 ⊢
  by_cases h1 : 0 < (readB d.a).1
  · rw [if_pos h1] at h ⊢
    by_cases h2 : (readB d.a).1 < (readB d.b).1
    · rw [if_pos h2] at h ⊢
      simp only at h
      simp only [Sd.put]
      rw [if_neg (by decide), openS_eq]; simp only [h]
      rw [if_pos h1, if_pos h2]
    · rw [if_neg h2] at h ⊢
      simp only at h
      simp only [Sd.put, if_true]
      rw [openS_eq]; simp only [h]
      rw [if_pos h1, if_neg h2]
  · rw [if_neg h1] at h h0 ⊢
    by_cases h2 : 0 < (readB d.b).1
    · rw [if_pos h2] at h ⊢
      simp only at h
      simp only [Sd.put]
      rw [if_neg (by decide), openS_eq]; simp only [h]
      rw [if_neg h1, if_pos h2]
    · rw [if_neg h2] at h0; exact absurd rfl h0
end Go.Proofs.YtjhahhpcpempgaaDoor
