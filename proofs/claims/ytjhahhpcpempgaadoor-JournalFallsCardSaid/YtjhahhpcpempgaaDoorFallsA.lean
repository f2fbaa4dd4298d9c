/- What every fall leaves of a tape: the plain part of JournalFalls; rows of rows of bytes. -/
import Derived.Test.YtjhahhpcpempgaaDoorTorn
set_option linter.unusedVariables false
set_option linter.unusedSimpArgs false
namespace Go.Proofs.YtjhahhpcpempgaaDoor
open Go.RowKit

/-- Wherever the tape falls, what is opened is l or m. -/
structure Held (T : Tp) (l m : List ByteArray) (a k : Nat) : Prop where
  lim : T.lim a k
  fall : ∀ p, ((openS (T.fall p).s).lines = l ∨ (openS (T.fall p).s).lines = m) ∧ (openS (T.fall p).s).turn ≤ k

theorem Held.ofUp {T : Tp} {J : Jn} {l : List ByteArray} {a k : Nat} (h : Up T J l a k) (m : List ByteArray) : Held T l m a k :=
  ⟨h.lim, fun p => by rw [fall_fine h.fine]; exact ⟨.inl h.lines, h.turn⟩⟩
theorem Held.mono {T : Tp} {l m : List ByteArray} {a k a' k' : Nat} (h : Held T l m a k) (ha : a ≤ a') (hk : k ≤ k') : Held T l m a' k' :=
  ⟨h.lim.mono ha hk, fun p => ⟨(h.fall p).1, by have := (h.fall p).2; omega⟩⟩
theorem Held.next {T : Tp} {l m : List ByteArray} {a k : Nat} (h : Held T l m a k) (p : Pl) (hp : p.room ≤ 9223372036854775807) :
    Up (T.fall p) (openS (T.fall p).s) (openS (T.fall p).s).lines a k ∧ Held (T.fall p) l m a k ∧ ((openS (T.fall p).s).lines = l ∨ (openS (T.fall p).s).lines = m) :=
  ⟨⟨fine_fall _ _, rfl, (fall_lim h.lim p hp).mono (Nat.le_refl _) (Nat.zero_le _), (h.fall p).2⟩,
    ⟨(fall_lim h.lim p hp).mono (Nat.le_refl _) (Nat.zero_le _), fun q => by rw [fall_fine (fine_fall T p)]; exact h.fall p⟩, (h.fall p).1⟩
/-- Behind a writing: it was done, or the tape has fallen. -/
theorem Up.then_ {T : Tp} {J : Jn} {l l' : List ByteArray} {a k m : Nat} {o : Out} (h : Up T J l a k) (hw : Went T J l' m o) :
    (o.e = 0 ∧ Up o.T o.J l' (a + m) (k + 3) ∧ o.T.room = T.room ∧ o.T.down = false) ∨ (o.e = 16 ∧ o.T.down = true ∧ Held o.T l l' (a + m) (k + 3)) := by
  have ht := h.turn
  rcases hw.or with ⟨h1, h2, h3, h4, h5⟩ | ⟨h1, h2, h3, h4⟩
  · exact .inl ⟨h1, ⟨h2, h3, hw.lim a k h.lim, by omega⟩, hw.room, h2.up⟩
  · refine .inr ⟨h1, h2, hw.lim a k h.lim, fun p => ?_⟩
    obtain ⟨h5, h6⟩ := h4 p
    rw [h.lines] at h5
    exact ⟨h5, by omega⟩

/-- A row of rows of bytes, wherever they lie. -/
def RdBB (w : World) (v : Value) (l : List (List UInt8)) : Prop :=
  ∃ A c, v = .slice A l.length c ∧ l.length ≤ c ∧ c ≤ maxLen ∧ ∀ (i : Nat) (h : i < l.length), ∃ g o u, A = some ⟨g, o, none⟩ ∧ g < w.heap.size ∧ w.cell? ⟨g, o + i, none⟩ = some u ∧ RdB w u l[i]
theorem RdBB.form {w : World} {v : Value} {l : List (List UInt8)} (h : RdBB w v l) : ∃ A c, v = .slice A l.length c ∧ l.length ≤ c ∧ c ≤ maxLen := by
  obtain ⟨A, c, h1, h2, h3, _⟩ := h
  exact ⟨A, c, h1, h2, h3⟩
theorem RdBB.cell {w : World} {A : Option Addr} {n c : Nat} {l : List (List UInt8)} (h : RdBB w (.slice A n c) l) {i : Nat} (hi : i < l.length) :
    ∃ g o A' c', A = some ⟨g, o, none⟩ ∧ g < w.heap.size ∧ w.cell? ⟨g, o + i, none⟩ = some (.slice A' l[i].length c') ∧ RdB w (.slice A' l[i].length c') l[i] ∧ l[i].length ≤ c' ∧ c' ≤ maxLen := by
  obtain ⟨A', c', hv, _, _, hc⟩ := h
  injection hv with h1 h2 h3
  subst h1
  obtain ⟨g, o, u, h1, h2, h3, h4⟩ := hc i hi
  obtain ⟨A2, c2, rfl, h5, h6⟩ := h4.form
  exact ⟨g, o, A2, c2, h1, h2, h3, h4, h5, h6⟩
end Go.Proofs.YtjhahhpcpempgaaDoor
