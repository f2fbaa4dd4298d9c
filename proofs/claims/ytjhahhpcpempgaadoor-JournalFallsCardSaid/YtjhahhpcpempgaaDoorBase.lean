/- What a call keeps of memory: footprints; slices that read as lists of strings. -/
import Derived.WalkKit
import Derived.OwnWalk
import Derived.Deep.QuietTactic
import Derived.BigQuiet
import Derived.WalkLawsBesides
import Derived.WalkSpells
import Derived.Below
import Derived.Lib.Hide
import Derived.Deep.RegionHeld3
import Derived.Deep.RegionWith
import Derived.Deep.AppendLies
import Derived.Deep.LoopGhost
import Derived.StillTailTactics
import Derived.Lib.SliceRun
import Derived.Laws.OwnMore
import Derived.Test.YtjhahhpcpempgaaDoorProg
set_option linter.unusedVariables false
set_option linter.unusedSimpArgs false
namespace Go.Proofs.YtjhahhpcpempgaaDoor
open Go.RowKit

/-- The types of blocks that hold state. -/
def ST : List TypeId := [48, 50, 61]
def etype (w : World) (k : Nat) : Option TypeId := match w.heap[k]? with | some (.cells _ e _) => some e | _ => none
/-- All blocks of a footprint hold state. -/
def FT (F : List Nat) (w : World) : Prop := ∀ k, k ∈ F → ∃ e, e ∈ ST ∧ etype w k = some e

/-- All that lay there lies as it lay, but for the blocks of a footprint. -/
structure Keeps (F : List Nat) (w w' : World) : Prop where
  os : w'.os = w.os
  tape : w'.tape = w.tape
  output : w'.output = w.output
  size : w.heap.size ≤ w'.heap.size
  block : ∀ k, k < w.heap.size → k ∉ F → w'.heap[k]? = w.heap[k]?

theorem Keeps.refl (F : List Nat) (w : World) : Keeps F w w := ⟨rfl, rfl, rfl, Nat.le_refl _, fun _ _ _ => rfl⟩
theorem Keeps.ofBelow {F : List Nat} {w w' : World} (h : Below w.heap.size w w') : Keeps F w w' := ⟨h.os, h.tape, h.output, h.size, fun k hk _ => h.block k hk⟩
theorem Keeps.trans {F F1 : List Nat} {w w1 w2 : World} (h : Keeps F w w1) (k : Keeps F1 w1 w2) (hF : ∀ i, i ∈ F1 → i ∈ F ∨ w.heap.size ≤ i) : Keeps F w w2 :=
  ⟨k.os.trans h.os, k.tape.trans h.tape, k.output.trans h.output, Nat.le_trans h.size k.size, fun i hi hn =>
    (k.block i (Nat.lt_of_lt_of_le hi h.size) (fun hm => by rcases hF i hm with q | q; exact hn q; omega)).trans (h.block i hi hn)⟩
theorem Keeps.thenBelow {F : List Nat} {w w1 w2 : World} (h : Keeps F w w1) (k : Below w1.heap.size w1 w2) : Keeps F w w2 :=
  h.trans (Keeps.ofBelow (F := []) k) (fun i hi => by simp at hi)
theorem Keeps.drew {F : List Nat} {w w1 : World} (h : Keeps F w w1) : Keeps F w w1.drew := ⟨h.os, h.tape, h.output, h.size, h.block⟩
theorem Keeps.drewN {F : List Nat} {w w1 : World} (h : Keeps F w w1) (n : Nat) : Keeps F w (w1.drewN n) := ⟨h.os, h.tape, h.output, h.size, h.block⟩
theorem Keeps.alloc {F : List Nat} {w w1 : World} (h : Keeps F w w1) (o : Obj) : Keeps F w (w1.alloc o) :=
  h.thenBelow ((Below.refl _ _).alloc (Nat.le_refl _) _)
theorem Keeps.setCell {F : List Nat} {w w1 : World} (h : Keeps F w w1) {p : Addr} (hp : p.block ∈ F ∨ w.heap.size ≤ p.block) (u : Value) : Keeps F w (w1.setCell p u) :=
  ⟨h.os, h.tape, h.output, by simpa [World.setCell] using h.size, fun i hi hn => by
    have hne : i ≠ p.block := by
      intro e; subst e
      rcases hp with q | q
      · exact hn q
      · omega
    rw [Below.heap_setCell _ _ _ _ hne]; exact h.block i hi hn⟩
theorem Keeps.grown {F : List Nat} {w w1 w2 : World} {row : Option Nat} (h : Keeps F w w1) (hg : w1.grownBy w2 row) (hr : ∀ k, row = some k → k ∈ F ∨ w.heap.size ≤ k) : Keeps F w w2 :=
  ⟨hg.os.trans h.os, hg.tape.trans h.tape, hg.output.trans h.output, Nat.le_trans h.size hg.size, fun i hi hn =>
    (hg.block i (Nat.lt_of_lt_of_le hi h.size) (fun e => by rcases hr i e.symm with q | q; exact hn q; omega)).trans (h.block i hi hn)⟩
theorem Keeps.mono {F F' : List Nat} {w w' : World} (h : Keeps F w w') (hF : ∀ i, i ∈ F → i ∈ F') : Keeps F' w w' :=
  ⟨h.os, h.tape, h.output, h.size, fun i hi hn => h.block i hi (fun q => hn (hF i q))⟩
theorem Keeps.below {F : List Nat} {w w' : World} {B : Nat} (h : Keeps F w w') (hF : ∀ i, i ∈ F → B ≤ i) (hB : B ≤ w.heap.size) : Below B w w' :=
  ⟨h.os, h.tape, h.output, h.size, fun i hi => h.block i (by omega) (fun q => by have := hF i q; omega)⟩
theorem Keeps.cell {F : List Nat} {w w' : World} (h : Keeps F w w') {p : Addr} (hp : p.block < w.heap.size) (hn : p.block ∉ F) : w'.cell? p = w.cell? p :=
  World.cell?_of_block (w := w) (h.block p.block hp hn)
theorem Keeps.frozen {F : List Nat} {w w' : World} (h : Keeps F w w') {p : Addr} (hp : p.block < w.heap.size) (hn : p.block ∉ F) : w'.frozen? p = w.frozen? p :=
  World.frozen?_of_block (w := w) (h.block p.block hp hn)

theorem bcell {W w1 : World} (hb : Below W.heap.size W w1) : (∀ b o, b < W.heap.size → w1.cell? ⟨b, o, none⟩ = W.cell? ⟨b, o, none⟩) ∧ (∀ b o, b < W.heap.size → w1.frozen? ⟨b, o, none⟩ = W.frozen? ⟨b, o, none⟩) :=
  ⟨fun b o h => hb.cell (p := ⟨b, o, none⟩) h, fun b o h => hb.frozen (p := ⟨b, o, none⟩) h⟩

theorem bthen {B : Nat} {w w1 w2 : World} (h : Below B w w1) (hb : Below w1.heap.size w1 w2) (hB : B ≤ w.heap.size) : Below B w w2 := h.trans (hb.mono (Nat.le_trans hB h.size))
theorem cellB {w w1 : World} (h : Below w.heap.size w w1) {p : Addr} {v : Value} (hc : w.cell? p = some v) : w1.cell? p = some v := (h.cell (World.block_lt_of_cell? _ _ hc)).trans hc
theorem blk_lt {w : World} {k : Nat} {o : Obj} (h : w.heap[k]? = some o) : k < w.heap.size := (Array.getElem?_eq_some_iff.1 h).1
theorem blk_cell {w : World} {g : Nat} {t : TypeId} {cs : Array Value} {fr : Nat × Nat} (h : w.heap[g]? = some (.cells cs t fr)) (i : Nat) : w.cell? ⟨g, i, none⟩ = cs[i]? := by
  simp [World.cell?, h]
theorem blk_frozen {w : World} {g : Nat} {t : TypeId} {cs : Array Value} (h : w.heap[g]? = some (.cells cs t (0, 0))) (i : Nat) : w.frozen? ⟨g, i, none⟩ = false := by simp [World.frozen?, h]
theorem blk_set {w : World} {g : Nat} {t : TypeId} {cs : Array Value} {fr : Nat × Nat} (h : w.heap[g]? = some (.cells cs t fr)) (i : Nat) (u : Value) : (w.setCell ⟨g, i, none⟩ u).heap[g]? = some (.cells (cs.setIfInBounds i u) t fr) := by
  simp [World.setCell, Array.getElem?_modify, h]
theorem blk_far {w : World} {g : Nat} {o : Obj} (h : w.heap[g]? = some o) {p : Addr} (hp : g ≠ p.block) (u : Value) : (w.setCell p u).heap[g]? = some o := by
  rw [Below.heap_setCell _ _ _ _ hp]; exact h
theorem blk_new (w : World) (o : Obj) : (w.alloc o).heap[w.heap.size]? = some o := by
  show (w.heap.push o)[w.heap.size]? = _
  simp
theorem blk_newAt {w : World} {n : Nat} (h : w.heap.size = n) (o : Obj) : (w.alloc o).heap[n]? = some o := h ▸ blk_new w o
theorem size_set (w : World) (p : Addr) (u : Value) : (w.setCell p u).heap.size = w.heap.size := by simp [World.setCell]
theorem blk_alloc {w : World} {g : Nat} {o : Obj} (h : w.heap[g]? = some o) (o' : Obj) : (w.alloc o').heap[g]? = some o := (Below.heap_alloc w o' g (blk_lt h)).trans h
theorem blk_keeps {w w1 : World} {F : List Nat} {g : Nat} {o : Obj} (h : w.heap[g]? = some o) (hk : Keeps F w w1) (hn : g ∉ F) : w1.heap[g]? = some o := (hk.block g (blk_lt h) hn).trans h
theorem blk_below {w w1 : World} {g : Nat} {o : Obj} (h : w.heap[g]? = some o) (hk : Below w.heap.size w w1) : w1.heap[g]? = some o := (hk.block g (blk_lt h)).trans h
theorem blk_b {w w1 : World} (hk : Below w.heap.size w w1) {g : Nat} {o : Obj} (h : w.heap[g]? = some o) : w1.heap[g]? = some o := (hk.block g (blk_lt h)).trans h
theorem blk_k {w w1 : World} {F : List Nat} (hk : Keeps F w w1) {g : Nat} {o : Obj} (h : w.heap[g]? = some o) (hn : g ∉ F) : w1.heap[g]? = some o := (hk.block g (blk_lt h) hn).trans h
theorem etype_of {w : World} {g : Nat} {t : TypeId} {cs : Array Value} {fr : Nat × Nat} (h : w.heap[g]? = some (.cells cs t fr)) : etype w g = some t := by simp [etype, h]
theorem notin_FT {w : World} {F : List Nat} {g : Nat} {t : TypeId} (hF : FT F w) (h : etype w g = some t) (ht : t ∉ ST) : g ∉ F := by
  intro hm
  obtain ⟨e, he, h'⟩ := hF g hm
  rw [h] at h'
  injection h' with h'
  exact ht (h' ▸ he)

theorem blk1 {w : World} {g : Nat} {t : TypeId} {x : Value} (h : w.heap[g]? = some (.cells #[x] t (0, 0))) :
    g < w.heap.size ∧ w.cell? ⟨g, 0, none⟩ = some x ∧ w.frozen? ⟨g, 0, none⟩ = false :=
  ⟨blk_lt h, by rw [blk_cell h]; rfl, blk_frozen h _⟩
theorem blk2 {w : World} {g : Nat} {t : TypeId} {x y : Value} (h : w.heap[g]? = some (.cells #[x, y] t (0, 0))) :
    g < w.heap.size ∧ (w.cell? ⟨g, 0, none⟩ = some x ∧ w.cell? ⟨g, 1, none⟩ = some y) ∧ w.frozen? ⟨g, 0, none⟩ = false ∧ w.frozen? ⟨g, 1, none⟩ = false :=
  ⟨blk_lt h, ⟨by rw [blk_cell h]; rfl, by rw [blk_cell h]; rfl⟩, blk_frozen h _, blk_frozen h _⟩
theorem blk3 {w : World} {g : Nat} {t : TypeId} {x y z : Value} (h : w.heap[g]? = some (.cells #[x, y, z] t (0, 0))) :
    g < w.heap.size ∧ (w.cell? ⟨g, 0, none⟩ = some x ∧ w.cell? ⟨g, 1, none⟩ = some y ∧ w.cell? ⟨g, 2, none⟩ = some z) ∧ w.frozen? ⟨g, 0, none⟩ = false ∧ w.frozen? ⟨g, 1, none⟩ = false ∧ w.frozen? ⟨g, 2, none⟩ = false :=
  ⟨blk_lt h, ⟨by rw [blk_cell h]; rfl, by rw [blk_cell h]; rfl, by rw [blk_cell h]; rfl⟩, blk_frozen h _, blk_frozen h _, blk_frozen h _⟩
theorem blk4 {w : World} {g : Nat} {t : TypeId} {x y z u : Value} (h : w.heap[g]? = some (.cells #[x, y, z, u] t (0, 0))) :
    g < w.heap.size ∧ (w.cell? ⟨g, 0, none⟩ = some x ∧ w.cell? ⟨g, 1, none⟩ = some y ∧ w.cell? ⟨g, 2, none⟩ = some z ∧ w.cell? ⟨g, 3, none⟩ = some u) ∧
      w.frozen? ⟨g, 0, none⟩ = false ∧ w.frozen? ⟨g, 1, none⟩ = false ∧ w.frozen? ⟨g, 2, none⟩ = false ∧ w.frozen? ⟨g, 3, none⟩ = false :=
  ⟨blk_lt h, ⟨by rw [blk_cell h]; rfl, by rw [blk_cell h]; rfl, by rw [blk_cell h]; rfl, by rw [blk_cell h]; rfl⟩, blk_frozen h _, blk_frozen h _, blk_frozen h _, blk_frozen h _⟩
theorem blk5 {w : World} {g : Nat} {t : TypeId} {x y z u v : Value} (h : w.heap[g]? = some (.cells #[x, y, z, u, v] t (0, 0))) :
    g < w.heap.size ∧ (w.cell? ⟨g, 0, none⟩ = some x ∧ w.cell? ⟨g, 1, none⟩ = some y ∧ w.cell? ⟨g, 2, none⟩ = some z ∧ w.cell? ⟨g, 3, none⟩ = some u ∧ w.cell? ⟨g, 4, none⟩ = some v) ∧ ∀ i, w.frozen? ⟨g, i, none⟩ = false :=
  ⟨blk_lt h, ⟨by rw [blk_cell h]; rfl, by rw [blk_cell h]; rfl, by rw [blk_cell h]; rfl, by rw [blk_cell h]; rfl, by rw [blk_cell h]; rfl⟩, blk_frozen h⟩
theorem blk9 {w : World} {g : Nat} {t : TypeId} {a b c d e f i j k : Value} (h : w.heap[g]? = some (.cells #[a, b, c, d, e, f, i, j, k] t (0, 0))) :
    g < w.heap.size ∧ (w.cell? ⟨g, 0, none⟩ = some a ∧ w.cell? ⟨g, 1, none⟩ = some b ∧ w.cell? ⟨g, 2, none⟩ = some c ∧ w.cell? ⟨g, 3, none⟩ = some d ∧ w.cell? ⟨g, 4, none⟩ = some e ∧
      w.cell? ⟨g, 5, none⟩ = some f ∧ w.cell? ⟨g, 6, none⟩ = some i ∧ w.cell? ⟨g, 7, none⟩ = some j ∧ w.cell? ⟨g, 8, none⟩ = some k) ∧ ∀ i, w.frozen? ⟨g, i, none⟩ = false :=
  ⟨blk_lt h, ⟨by rw [blk_cell h]; rfl, by rw [blk_cell h]; rfl, by rw [blk_cell h]; rfl, by rw [blk_cell h]; rfl, by rw [blk_cell h]; rfl, by rw [blk_cell h]; rfl, by rw [blk_cell h]; rfl, by rw [blk_cell h]; rfl, by rw [blk_cell h]; rfl⟩, blk_frozen h⟩
theorem blk9_all {w : World} {g : Nat} {t : TypeId} {fr : Nat × Nat} {a b c d e f i j k p0 p1 p2 p3 p4 p5 p6 p7 p8 : Value} (h : w.heap[g]? = some (.cells #[a, b, c, d, e, f, i, j, k] t fr)) :
    ((((((((((w.setCell ⟨g, 0, none⟩ p0).setCell ⟨g, 1, none⟩ p1).setCell ⟨g, 2, none⟩ p2).setCell ⟨g, 3, none⟩ p3).setCell ⟨g, 4, none⟩ p4).setCell ⟨g, 5, none⟩ p5).setCell ⟨g, 6, none⟩ p6).setCell ⟨g, 7, none⟩ p7).setCell ⟨g, 8, none⟩ p8)).heap[g]? = some (.cells #[p0, p1, p2, p3, p4, p5, p6, p7, p8] t fr) := by
  have h0 : (w.setCell ⟨g, 0, none⟩ p0).heap[g]? = some (.cells #[p0, b, c, d, e, f, i, j, k] t fr) := blk_set h 0 p0
  have h1 : ((w.setCell ⟨g, 0, none⟩ p0).setCell ⟨g, 1, none⟩ p1).heap[g]? = some (.cells #[p0, p1, c, d, e, f, i, j, k] t fr) := blk_set h0 1 p1
  have h2 : (((w.setCell ⟨g, 0, none⟩ p0).setCell ⟨g, 1, none⟩ p1).setCell ⟨g, 2, none⟩ p2).heap[g]? = some (.cells #[p0, p1, p2, d, e, f, i, j, k] t fr) := blk_set h1 2 p2
  have h3 : ((((w.setCell ⟨g, 0, none⟩ p0).setCell ⟨g, 1, none⟩ p1).setCell ⟨g, 2, none⟩ p2).setCell ⟨g, 3, none⟩ p3).heap[g]? = some (.cells #[p0, p1, p2, p3, e, f, i, j, k] t fr) := blk_set h2 3 p3
  have h4 : (((((w.setCell ⟨g, 0, none⟩ p0).setCell ⟨g, 1, none⟩ p1).setCell ⟨g, 2, none⟩ p2).setCell ⟨g, 3, none⟩ p3).setCell ⟨g, 4, none⟩ p4).heap[g]? = some (.cells #[p0, p1, p2, p3, p4, f, i, j, k] t fr) := blk_set h3 4 p4
  have h5 : ((((((w.setCell ⟨g, 0, none⟩ p0).setCell ⟨g, 1, none⟩ p1).setCell ⟨g, 2, none⟩ p2).setCell ⟨g, 3, none⟩ p3).setCell ⟨g, 4, none⟩ p4).setCell ⟨g, 5, none⟩ p5).heap[g]? = some (.cells #[p0, p1, p2, p3, p4, p5, i, j, k] t fr) := blk_set h4 5 p5
  have h6 : (((((((w.setCell ⟨g, 0, none⟩ p0).setCell ⟨g, 1, none⟩ p1).setCell ⟨g, 2, none⟩ p2).setCell ⟨g, 3, none⟩ p3).setCell ⟨g, 4, none⟩ p4).setCell ⟨g, 5, none⟩ p5).setCell ⟨g, 6, none⟩ p6).heap[g]? = some (.cells #[p0, p1, p2, p3, p4, p5, p6, j, k] t fr) := blk_set h5 6 p6
  have h7 : ((((((((w.setCell ⟨g, 0, none⟩ p0).setCell ⟨g, 1, none⟩ p1).setCell ⟨g, 2, none⟩ p2).setCell ⟨g, 3, none⟩ p3).setCell ⟨g, 4, none⟩ p4).setCell ⟨g, 5, none⟩ p5).setCell ⟨g, 6, none⟩ p6).setCell ⟨g, 7, none⟩ p7).heap[g]? = some (.cells #[p0, p1, p2, p3, p4, p5, p6, p7, k] t fr) := blk_set h6 7 p7
  have h8 : (((((((((w.setCell ⟨g, 0, none⟩ p0).setCell ⟨g, 1, none⟩ p1).setCell ⟨g, 2, none⟩ p2).setCell ⟨g, 3, none⟩ p3).setCell ⟨g, 4, none⟩ p4).setCell ⟨g, 5, none⟩ p5).setCell ⟨g, 6, none⟩ p6).setCell ⟨g, 7, none⟩ p7).setCell ⟨g, 8, none⟩ p8).heap[g]? = some (.cells #[p0, p1, p2, p3, p4, p5, p6, p7, p8] t fr) := blk_set h7 8 p8
  exact h8

/-- A slice value of n elements of a type of sz cells: what its cells hold. -/
def RowAt (w : World) (e : TypeId) (sz : Nat) (v : Value) (n : Nat) (cs : List Value) : Prop :=
  ∃ A c, v = .slice A n c ∧ n ≤ c ∧ c ≤ maxLen ∧ cs.length = n * sz ∧
    (n = 0 ∨ ∃ g o cells fr, A = some ⟨g, o, none⟩ ∧ w.heap[g]? = some (.cells cells e fr) ∧ ∀ j, j < n * sz → cells[o + j]? = cs[j]?)
theorem RowAt.keeps {w w1 : World} {e : TypeId} {sz n : Nat} {v : Value} {cs : List Value} {F : List Nat} (h : RowAt w e sz v n cs) (hk : Keeps F w w1) (hF : FT F w) (he : e ∉ ST) : RowAt w1 e sz v n cs := by
  obtain ⟨A, c, hv, hn, hc, hl, h⟩ := h
  refine ⟨A, c, hv, hn, hc, hl, ?_⟩
  rcases h with h | ⟨g, o, cells, fr, hA, hg, hj⟩
  · exact .inl h
  · exact .inr ⟨g, o, cells, fr, hA, blk_keeps hg hk (notin_FT hF (etype_of hg) he), hj⟩
theorem RowAt.below {w w1 : World} {e : TypeId} {sz n : Nat} {v : Value} {cs : List Value} (h : RowAt w e sz v n cs) (hk : Below w.heap.size w w1) : RowAt w1 e sz v n cs := by
  obtain ⟨A, c, hv, hn, hc, hl, h⟩ := h
  refine ⟨A, c, hv, hn, hc, hl, ?_⟩
  rcases h with h | ⟨g, o, cells, fr, hA, hg, hj⟩
  · exact .inl h
  · exact .inr ⟨g, o, cells, fr, hA, blk_below hg hk, hj⟩
theorem RowAt.nil (w : World) (e : TypeId) (sz : Nat) : RowAt w e sz (.slice none 0 0) 0 [] := ⟨none, 0, rfl, Nat.le_refl _, by decide, by simp, .inl rfl⟩
theorem RowAt.ofOwn {w : World} {base : Nat} {e : TypeId} {sz n : Nat} {v : Value} {cs : List Value} (h : w.ownsRow base e sz v n cs) : RowAt w e sz v n cs := by
  obtain ⟨hl, h⟩ := h
  rcases h with ⟨rfl, rfl⟩ | ⟨g, cap, cur, rfl, hb, hg, hn, hc, hs, ht⟩
  · exact ⟨none, 0, rfl, Nat.le_refl _, by decide, hl, .inl rfl⟩
  · refine ⟨_, cap, rfl, hn, hc, hl, .inr ⟨g, 0, cur, (0, 0), rfl, hg, fun j hj => ?_⟩⟩
    subst ht
    rw [List.getElem?_take, if_pos hj]
    simp
theorem RowAt.cell {w : World} {e : TypeId} {sz n c : Nat} {A : Option Addr} {cs : List Value} (h : RowAt w e sz (.slice A n c) n cs) {i j : Nat} (hi : i < n) (hj : j < sz) :
    ∃ g o, A = some ⟨g, o, none⟩ ∧ g < w.heap.size ∧ w.cell? ⟨g, o + (i * sz + j), none⟩ = cs[i * sz + j]? := by
  obtain ⟨A', c', hv, hn, hc, hl, h⟩ := h
  injection hv with hA _ _
  subst hA
  rcases h with h | ⟨g, o, cells, fr, hA, hg, hj'⟩
  · omega
  · refine ⟨g, o, hA, blk_lt hg, ?_⟩
    rw [blk_cell hg]
    refine hj' _ ?_
    calc i * sz + j < i * sz + sz := by omega
      _ = (i + 1) * sz := by rw [Nat.add_mul]; omega
      _ ≤ n * sz := Nat.mul_le_mul_right _ hi

/-- A value that reads as a list of texts. -/
def RdStrs (w : World) (v : Value) (l : List ByteArray) : Prop := RowAt w 9 1 v l.length (l.map fun s => Value.string s)
theorem RdStrs.keeps {w w1 : World} {v : Value} {l : List ByteArray} {F : List Nat} (h : RdStrs w v l) (hk : Keeps F w w1) (hF : FT F w) : RdStrs w1 v l := RowAt.keeps h hk hF (by decide)
theorem RdStrs.below {w w1 : World} {v : Value} {l : List ByteArray} (h : RdStrs w v l) (hk : Below w.heap.size w w1) : RdStrs w1 v l := RowAt.below h hk
theorem RdStrs.nil (w : World) : RdStrs w (.slice none 0 0) [] := RowAt.nil w _ _
theorem RdStrs.form {w : World} {v : Value} {l : List ByteArray} (h : RdStrs w v l) : ∃ A c, v = .slice A l.length c ∧ l.length ≤ c ∧ c ≤ maxLen := by
  obtain ⟨A, c, hv, hn, hc, _⟩ := h
  exact ⟨A, c, hv, hn, hc⟩
theorem RdStrs.cell {w : World} {A : Option Addr} {n c : Nat} {l : List ByteArray} (h : RdStrs w (.slice A n c) l) {i : Nat} (hi : i < l.length) :
    ∃ g o, A = some ⟨g, o, none⟩ ∧ g < w.heap.size ∧ w.cell? ⟨g, o + i, none⟩ = some (.string l[i]) := by
  obtain ⟨A', c', hv, _⟩ := id h
  injection hv with hA hn hc
  subst hn
  obtain ⟨g, o, hA, hg, hc⟩ := RowAt.cell h (i := i) (j := 0) hi (by decide)
  refine ⟨g, o, hA, hg, ?_⟩
  simp at hc
  rw [hc]
  simp [hi]

theorem own_keeps {w w' : World} {base : Nat} {e : TypeId} {sz n : Nat} {v : Value} {cs : List Value} {F : List Nat} (h : w.ownsRow base e sz v n cs) (hk : Keeps F w w') (hn : ∀ k, v.ownBlock = some k → k ∉ F) : w'.ownsRow base e sz v n cs := by
  obtain ⟨hl, h⟩ := h
  refine ⟨hl, ?_⟩
  rcases h with h | ⟨g, cap, cur, hv, hb, hg, r⟩
  · exact .inl h
  · exact .inr ⟨g, cap, cur, hv, hb, blk_keeps hg hk (hn g (by rw [hv]; rfl)), r⟩
theorem own_ne {w : World} {base : Nat} {e t : TypeId} {sz n g : Nat} {v : Value} {cs : List Value} {cells : Array Value} {fr : Nat × Nat} (h : w.ownsRow base e sz v n cs) (hg : w.heap[g]? = some (.cells cells t fr)) (hne : e ≠ t) : ∀ k, v.ownBlock = some k → k ≠ g := by
  intro k hk e2
  subst e2
  rcases h.2 with ⟨rfl, _⟩ | ⟨g', cap, cur, rfl, _, hg', _⟩
  · simp [Value.ownBlock] at hk
  · have : g' = k := by simpa [Value.ownBlock] using hk
    subst this
    rw [hg'] at hg
    injection hg with hg
    injection hg with _ ht
    exact hne ht
theorem blk_grown {w w1 : World} {g : Nat} {o : Obj} {row : Option Nat} (h : w.heap[g]? = some o) (hg : w.grownBy w1 row) (hne : row ≠ some g) : w1.heap[g]? = some o := (hg.block g (blk_lt h) (fun e => hne e.symm)).trans h
theorem own_etype {w : World} {base : Nat} {e : TypeId} {sz n : Nat} {v : Value} {cs : List Value} (h : w.ownsRow base e sz v n cs) : ∀ k, v.ownBlock = some k → etype w k = some e := by
  intro k hk
  rcases h.2 with ⟨rfl, _⟩ | ⟨g', cap, cur, rfl, _, hg', _⟩
  · simp [Value.ownBlock] at hk
  · have : g' = k := by simpa [Value.ownBlock] using hk
    subst this
    exact etype_of hg'
theorem own_base {w : World} {base base' : Nat} {e : TypeId} {sz n : Nat} {v : Value} {cs : List Value} (h : w.ownsRow base e sz v n cs) (hb : base' ≤ base) : w.ownsRow base' e sz v n cs := by
  obtain ⟨hl, h⟩ := h
  refine ⟨hl, ?_⟩
  rcases h with h | ⟨g, cap, cur, hv, hg, r⟩
  · exact .inl h
  · exact .inr ⟨g, cap, cur, hv, by omega, r⟩

theorem add_zero_addr (a : Addr) : a.add 0 = a := by simp [Addr.add]
theorem add_pos_addr (g o k : Nat) : (⟨g, o, none⟩ : Addr).add k = ⟨g, o + k, none⟩ := by unfold Addr.add; split <;> simp_all
theorem slice_hi {t e : TypeId} {sz : Nat} (ht : Tryd.prog.underlying t = some (.slice e)) (hs : ∀ w, (sizeOf e).run Tryd.prog w = .ok sz w) (A : Option Addr) (n c k : Nat) (hk : k ≤ c) :
    ∀ w, (Instr.slice t (.slice A n c) none (some (.int .i64 k)) none).run Tryd.prog w = .ok (.slice A k c) w := by
  intro w
  have he : Tryd.prog.elem t = e := by simp [Program.elem, ht]
  rw [run_slice_h w t A n c (by rw [he]; exact ht) .i64 k (by omega) (by omega), he, hs]
  simp [Result.andThen, sliced]
  intro _
  cases A <;> simp [add_zero_addr]
theorem slice_lo {t e : TypeId} {sz : Nat} (ht : Tryd.prog.underlying t = some (.slice e)) (hs : ∀ w, (sizeOf e).run Tryd.prog w = .ok sz w) (A : Option Addr) (n c k : Nat) (hk : k ≤ n) :
    ∀ w, (Instr.slice t (.slice A n c) (some (.int .i64 k)) none none).run Tryd.prog w = .ok (.slice (if c = k then A else A.map (·.add (k * sz))) (n - k) (c - k)) w := by
  intro w
  have he : Tryd.prog.elem t = e := by simp [Program.elem, ht]
  rw [run_slice_l w t A n c (by rw [he]; exact ht) .i64 k (by omega) (by omega), he, hs]
  simp [Result.andThen, sliced]
theorem own_take {w : World} {base : Nat} {e : TypeId} {sz n c : Nat} {A : Option Addr} {cs : List Value} (h : w.ownsRow base e sz (.slice A n c) n cs) {k : Nat} (hk : k ≤ n) : w.ownsRow base e sz (.slice A k c) k (cs.take (k * sz)) := by
  obtain ⟨hl, h⟩ := h
  have hks : k * sz ≤ n * sz := Nat.mul_le_mul_right _ hk
  refine ⟨by rw [List.length_take]; omega, ?_⟩
  rcases h with ⟨hv, rfl⟩ | ⟨g, cap, cur, hv, hb, hg, hn, hc, hs, ht⟩
  · obtain rfl : k = 0 := by omega
    exact .inl ⟨by simpa using hv, rfl⟩
  · refine .inr ⟨g, cap, cur, ?_, hb, hg, by omega, hc, hs, ?_⟩
    · injection hv with h1 h2 h3
      rw [h1, h3]
    · rw [← ht, List.take_take, Nat.min_eq_left hks]
end Go.Proofs.YtjhahhpcpempgaaDoor
