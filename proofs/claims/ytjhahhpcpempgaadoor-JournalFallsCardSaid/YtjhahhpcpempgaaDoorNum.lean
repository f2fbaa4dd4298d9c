/- Numerals, cuts, frames: what stands whole in a text, and what does not. -/
import Derived.Test.YtjhahhpcpempgaaDoorSave
set_option linter.unusedVariables false
set_option linter.unusedSimpArgs false
namespace Go.Proofs.YtjhahhpcpempgaaDoor
open Go.RowKit

theorem dig_mem (u : Nat) : ∀ c, c ∈ Lib.decDigits u → 48 ≤ c.toNat ∧ c.toNat ≤ 57 := by
  induction u using Nat.strongRecOn with
  | _ u ih =>
    intro c hc
    rw [Lib.decDigits] at hc
    split at hc
    · rename_i h
      simp at hc; subst hc
      simp; omega
    · rename_i h
      rcases List.mem_append.1 hc with hc | hc
      · exact ih _ (by omega) c hc
      · simp at hc; subst hc
        simp; omega
theorem dec_ne (u : Nat) : Lib.decDigits u ≠ [] := by
  rw [Lib.decDigits]; split <;> simp
theorem parse_dec (u : Nat) : u < 18446744073709551616 → ∀ r, Lib.parseUint10 0 (Lib.decDigits u ++ r) = Lib.parseUint10 u r := by
  induction u using Nat.strongRecOn with
  | _ u ih =>
    intro hu r
    rw [Lib.decDigits]
    split
    · rename_i h
      have h1 : (UInt8.ofNat (48 + u)).toNat = 48 + u := by simp; omega
      simp only [List.cons_append, List.nil_append, Lib.parseUint10, h1]
      rw [if_pos (by omega), if_neg (by omega), if_neg (by omega)]
      congr 1; omega
    · rename_i h
      have h1 : (UInt8.ofNat (48 + u % 10)).toNat = 48 + u % 10 := by simp; omega
      rw [List.append_assoc, ih (u / 10) (by omega) (by omega)]
      simp only [List.cons_append, List.nil_append, Lib.parseUint10, h1]
      rw [if_pos (by omega), if_neg (by omega), if_neg (by omega)]
      congr 1; omega
theorem mag_dec (u : Nat) (h : u < 18446744073709551616) : Lib.parseMag (Lib.decDigits u) = .ok u := by
  unfold Lib.parseMag
  rw [if_neg (dec_ne u)]
  have := parse_dec u h []
  simpa [Lib.parseUint10] using this
theorem atoi_itoa (n : Int) (h0 : -9223372036854775808 ≤ n) (h1 : n ≤ 9223372036854775807) : Lib.atoiAll (Lib.itoa n) = .ok n := by
  unfold Lib.itoa
  split
  · rename_i hn
    simp only [Lib.atoiAll]
    have e45 : (45 : UInt8).toNat = 45 := rfl
    simp only [e45, or_true, if_true]
    rw [mag_dec _ (by omega)]
    simp only [not_true_eq_false, false_and, if_false, true_and]
    rw [if_neg (by omega)]
    congr 1; omega
  · rename_i hn
    cases hd : Lib.decDigits n.toNat with
    | nil => exact absurd hd (dec_ne _)
    | cons c r =>
      have hc := dig_mem n.toNat c (by rw [hd]; simp)
      simp only [Lib.atoiAll]
      rw [if_neg (by omega), ← hd, mag_dec _ (by omega)]
      have q : ¬ c.toNat = 45 := by omega
      simp only [q, not_false_eq_true, true_and, false_and, if_false]
      rw [if_neg (by omega)]
      congr 1; omega
theorem itoaB_data (n : Int) : (itoaB n).data.toList = Lib.itoa n := rfl
theorem atoiV_itoa (n : Int) (h0 : -9223372036854775808 ≤ n) (h1 : n ≤ 9223372036854775807) : atoiV (itoaB n) = n := by
  unfold atoiV
  rw [itoaB_data, atoi_itoa n h0 h1]
theorem itoa_inj {a b : Int} (ha0 : -9223372036854775808 ≤ a) (ha1 : a ≤ 9223372036854775807) (hb0 : -9223372036854775808 ≤ b) (hb1 : b ≤ 9223372036854775807) (h : Lib.itoa a = Lib.itoa b) : a = b := by
  have h1 := atoi_itoa a ha0 ha1
  have h2 := atoi_itoa b hb0 hb1
  rw [h, h2] at h1
  injection h1 with h1
  exact h1.symm
theorem itoa_mem (n : Int) : ∀ c, c ∈ Lib.itoa n → c.toNat = 45 ∨ (48 ≤ c.toNat ∧ c.toNat ≤ 57) := by
  intro c hc
  unfold Lib.itoa at hc
  split at hc
  · rcases List.mem_cons.1 hc with rfl | hc
    · exact .inl rfl
    · exact .inr (dig_mem _ c hc)
  · exact .inr (dig_mem _ c hc)
theorem itoa_no (n : Int) (c : UInt8) (h : c.toNat = 10 ∨ c.toNat = 32 ∨ c.toNat = 59) : c ∉ Lib.itoa n := by
  intro hm
  have := itoa_mem n c hm
  omega

theorem indexByte_mid (p r : List UInt8) (c : UInt8) (hp : c ∉ p) : Lib.indexByte (p ++ c :: r) c = p.length := by
  induction p with
  | nil => simp [Lib.indexByte]
  | cons x p ih =>
    have hx : (x == c) = false := by
      simp only [List.mem_cons, not_or] at hp
      simp; exact fun e => hp.1 e.symm
    have := ih (fun h => hp (by simp [h]))
    simp only [List.cons_append, Lib.indexByte, hx, Bool.false_eq_true, if_false, this]
    rw [if_neg (by simp)]
    simp
theorem indexByte_no (l : List UInt8) (c : UInt8) (h : c ∉ l) : Lib.indexByte l c = -1 := by
  induction l with
  | nil => rfl
  | cons x l ih =>
    simp only [List.mem_cons, not_or] at h
    have hx : (x == c) = false := by simp; exact fun e => h.1 e.symm
    simp [Lib.indexByte, hx, ih h.2]
theorem cut_some (p r : List UInt8) (c : UInt8) (hp : c ∉ p) : Lib.cut (p ++ c :: r) [c] = (p, r, true) := by
  unfold Lib.cut
  rw [Lib.index_one, indexByte_mid p r c hp, if_pos (by omega)]
  simp
theorem cut_none (l : List UInt8) (c : UInt8) (h : c ∉ l) : Lib.cut l [c] = (l, [], false) := by
  unfold Lib.cut
  rw [Lib.index_one, indexByte_no l c h, if_neg (by omega)]
theorem mem_split (l : List UInt8) (c : UInt8) (h : c ∈ l) : ∃ p r, l = p ++ c :: r ∧ c ∉ p := by
  induction l with
  | nil => cases h
  | cons x l ih =>
    by_cases hx : x = c
    · subst hx; exact ⟨[], l, rfl, by simp⟩
    · obtain ⟨p, r, rfl, hp⟩ := ih (by rcases List.mem_cons.1 h with e | e; exact absurd e.symm hx; exact e)
      exact ⟨x :: p, r, rfl, by simp [hp]; exact fun e => hx e.symm⟩

theorem ba_ext {a b : ByteArray} (h : a.data.toList = b.data.toList) : a = b := by
  cases a; cases b; simp at h; rw [h]
theorem ba_append (a b : ByteArray) : (a ++ b).data.toList = a.data.toList ++ b.data.toList := by
  rw [ByteArray.data_append, Array.toList_append]
theorem ba_beq (a b : ByteArray) : (a.toList == b.toList) = decide (a = b) := by
  rw [ByteArray.toList_eq, ByteArray.toList_eq]
  by_cases h : a = b
  · subst h; simp
  · simp [h]
    intro e
    exact h (by cases a; cases b; simp at e; rw [e])
theorem ba_size (a : ByteArray) : a.data.toList.length = a.size := by rw [Array.length_toList]; rfl

/-- A frame, and a head, as bytes. -/
def fr (s : List UInt8) : List UInt8 := 10 :: (Lib.itoa s.length ++ 32 :: s)
def hd (t n : Int) : List UInt8 := Lib.itoa t ++ 32 :: (Lib.itoa n ++ [59])
theorem frameB_data (s : ByteArray) : (frameB s).data.toList = fr s.data.toList := by
  unfold frameB fr
  simp only [ba_append, itoaB_data, ba_size]
  simp
theorem headB_data (t n : Int) : (headB t n).data.toList = hd t n := by
  unfold headB hd
  simp only [ba_append, itoaB_data]
  simp

theorem segs_no (c : UInt8) (l : List UInt8) (h : c ∉ l) : segs c l = [l] := segs_none (indexByte_no l c h)
theorem segs_ne (c : UInt8) (l : List UInt8) : segs c l ≠ [] := by
  cases l with
  | nil => simp [segs]
  | cons x l => simp only [segs]; split <;> (try split) <;> simp
theorem segs_app (c : UInt8) (r x : List UInt8) (hx : c ∉ x) : segs c (r ++ c :: x) = segs c r ++ [x] := by
  induction r with
  | nil => simp [segs, segs_no c x hx]
  | cons y r ih =>
    simp only [List.cons_append, segs]
    split
    · rw [ih]; rfl
    · rw [ih]
      cases hr : segs c r with
      | nil => exact absurd hr (segs_ne c r)
      | cons a b => simp

theorem keep_eq (x : ByteArray) : keepB x = if cutIs x 32 ∧ frameB (cutT x 32) = ⟨#[10]⟩ ++ x then some (cutT x 32) else none := by
  unfold keepB
  rw [ba_beq]
  by_cases h1 : cutIs x 32 = true <;> by_cases h2 : frameB (cutT x 32) = ⟨#[10]⟩ ++ x <;> simp [h1, h2]
theorem unf_eq (s : ByteArray) : unframedB s = (segs 10 s.data.toList).filterMap fun l => keepB (bs l) := by
  unfold unframedB parts
  rw [List.filterMap_map]; rfl
theorem keep_whole (s : List UInt8) (hs : s.length ≤ 1099511627776) : keepB (bs (Lib.itoa s.length ++ 32 :: s)) = some (bs s) := by
  have hc : Lib.cut (bs (Lib.itoa s.length ++ 32 :: s)).data.toList [32] = (Lib.itoa s.length, s, true) := by
    rw [bs_data]; exact cut_some _ _ _ (itoa_no _ _ (by decide))
  rw [keep_eq]
  have ht : cutT (bs (Lib.itoa s.length ++ 32 :: s)) 32 = bs s := by unfold cutT; rw [hc]
  have hi : cutIs (bs (Lib.itoa s.length ++ 32 :: s)) 32 = true := by unfold cutIs; rw [hc]
  rw [ht, hi, if_pos]
  refine ⟨rfl, ba_ext ?_⟩
  rw [frameB_data, ba_append, bs_data, bs_data]
  rfl
theorem keep_part (s y : List UInt8) (hs : s.length ≤ 1099511627776) (hy : y <+: Lib.itoa s.length ++ 32 :: s) (hl : y.length < (Lib.itoa s.length ++ 32 :: s).length) : keepB (bs y) = none := by
  rw [keep_eq, if_neg]
  rintro ⟨h1, h2⟩
  have hm : (32 : UInt8) ∈ y := by
    by_cases hm : (32 : UInt8) ∈ y
    · exact hm
    · exfalso
      have := cut_none y 32 hm
      unfold cutIs at h1
      rw [bs_data, this] at h1; cases h1
  obtain ⟨p, r, rfl, hp⟩ := mem_split y 32 hm
  have hc := cut_some p r 32 hp
  have ht : cutT (bs (p ++ 32 :: r)) 32 = bs r := by unfold cutT; rw [bs_data, hc]
  rw [ht] at h2
  have h3 := congrArg (fun x : ByteArray => x.data.toList) h2
  simp only [frameB_data, ba_append, bs_data] at h3
  have h4 : Lib.itoa r.length ++ 32 :: r = p ++ 32 :: r := by
    have : fr r = 10 :: (p ++ 32 :: r) := h3
    unfold fr at this
    injection this
  have h5 : Lib.itoa r.length = p := List.append_cancel_right h4
  obtain ⟨z, hz⟩ := hy
  have h6 : p = Lib.itoa s.length := by
    have e1 := cut_some p (r ++ z) 32 hp
    have e2 := cut_some (Lib.itoa s.length) s 32 (itoa_no _ _ (by decide))
    rw [← hz] at e2
    simp only [List.append_assoc, List.cons_append] at e2
    rw [e1] at e2
    injection e2
  have h7 : r.length ≤ s.length := by
    have := congrArg List.length hz
    rw [h6] at this
    simp at this; omega
  have h8 := itoa_inj (by omega) (by omega) (by omega) (by omega) (h5.trans h6)
  rw [h6] at hl
  simp at hl; omega
theorem itoa_len_pos (n : Int) : 0 < (Lib.itoa n).length := by
  unfold Lib.itoa
  split
  · simp
  · exact List.length_pos_iff.2 (dec_ne _)

theorem unf_app (r : ByteArray) (s : ByteArray) (hs : s.size ≤ 1099511627776) (hn : (10 : UInt8) ∉ s.data.toList) : unframedB (r ++ frameB s) = unframedB r ++ [s] := by
  have hl := ba_size s
  rw [unf_eq, unf_eq, ba_append, frameB_data]
  unfold fr
  rw [segs_app 10 r.data.toList _ (by
    simp only [List.mem_append, List.mem_cons, not_or]
    exact ⟨itoa_no _ _ (by decide), by decide, hn⟩), List.filterMap_append]
  simp only [List.filterMap_cons, List.filterMap_nil]
  rw [keep_whole _ (by omega)]
  rfl
theorem unf_torn (r : ByteArray) (s : ByteArray) (q : Nat) (hs : s.size ≤ 1099511627776) (hn : (10 : UInt8) ∉ s.data.toList) (hq : q < (frameB s).size) : unframedB (r ++ (frameB s).extract 0 q) = unframedB r := by
  have hl := ba_size s
  have hfl := ba_size (frameB s)
  rw [unf_eq, unf_eq, ba_append, extract_bs, bs_data, frameB_data, Nat.sub_zero, List.drop_zero]
  rw [frameB_data] at hfl
  unfold fr at *
  cases q with
  | zero => simp
  | succ q =>
    rw [List.take_succ_cons]
    have hno : (10 : UInt8) ∉ (Lib.itoa s.data.toList.length ++ 32 :: s.data.toList) := by
      simp only [List.mem_append, List.mem_cons, not_or]
      exact ⟨itoa_no _ _ (by decide), by decide, hn⟩
    rw [segs_app 10 r.data.toList _ (fun h => hno (List.mem_of_mem_take h)), List.filterMap_append]
    simp only [List.filterMap_cons, List.filterMap_nil]
    rw [keep_part s.data.toList _ (by omega) (List.take_prefix _ _) (by
      rw [List.length_take]; simp only [List.length_cons] at hfl; omega)]
    simp
theorem unf_nil : unframedB mt = [] := by
  rw [unf_eq]
  have : mt.data.toList = [] := rfl
  rw [this]
  simp only [segs, List.filterMap_cons, List.filterMap_nil]
  rw [keep_eq]
  have hc : cutIs (bs []) 32 = false := by
    unfold cutIs; rw [bs_data, cut_none [] 32 (by simp)]
  rw [hc]; simp
theorem unf_frames (l : List ByteArray) (hs : ∀ x, x ∈ l → x.size ≤ 1099511627776 ∧ (10 : UInt8) ∉ x.data.toList) (r : ByteArray) : unframedB (l.foldl (fun o s => o ++ frameB s) r) = unframedB r ++ l := by
  induction l generalizing r with
  | nil => simp
  | cons x l ih =>
    rw [List.foldl_cons, ih (fun y hy => hs y (by simp [hy])), unf_app r x (hs x (by simp)).1 (hs x (by simp)).2]
    simp
end Go.Proofs.YtjhahhpcpempgaaDoor
