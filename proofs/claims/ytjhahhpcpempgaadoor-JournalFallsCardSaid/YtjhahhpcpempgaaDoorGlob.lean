/- The library's variables, as they are laid. -/
import Derived.Test.YtjhahhpcpempgaaDoorBase
import Derived.Test.YtjhahhpcpempgaaDoorShelf
set_option linter.unusedVariables false
set_option linter.unusedSimpArgs false
namespace Go.Proofs.YtjhahhpcpempgaaDoor
open Go.RowKit

/-- The library's variables that are read hold what they hold at the start, and their blocks hold no state. -/
structure Glob (w : World) : Prop where
  maxlen : ∃ m, w.cell? ⟨0, 0, none⟩ = some (.int .i64 m)
  syn : ∃ ev, w.cell? ⟨1, 0, none⟩ = some ev ∧ (ev = .nilIface ∨ ∃ te pe, ev = .iface te pe)
  rng : ∃ ev, w.cell? ⟨2, 0, none⟩ = some ev ∧ (ev = .nilIface ∨ ∃ te pe, ev = .iface te pe)
  tab : Lib.TabIs Tryd.prog w "internal/strconv.uint64pow10" .u64 Lib.pow10Tab
  types : ∀ k, k < 8 → ∃ e, etype w k = some e ∧ e ∉ ST

theorem etype_lt {w : World} {k : Nat} {e : TypeId} (h : etype w k = some e) : k < w.heap.size := by
  unfold etype at h
  split at h
  · rename_i h1; exact blk_lt h1
  · cases h
theorem Glob.size {w : World} (h : Glob w) : 8 ≤ w.heap.size := by
  obtain ⟨e, he, _⟩ := h.types (8 - 1) (by decide)
  have := etype_lt he
  omega
theorem var_kept {W W' : World} {g : Nat} {n : String} {cs : Array Value} (hg : Tryd.prog.globalNamed n = some g) (h : W.var? Tryd.prog n = some cs) (hb : W'.heap[g]? = W.heap[g]?) : W'.var? Tryd.prog n = some cs := by
  unfold World.var? at h ⊢
  rw [hg] at h ⊢
  simp only [Option.bind_some] at h ⊢
  rw [hb]; exact h
theorem Glob.of {w w' : World} (h : Glob w) (hb : Below 8 w w') : Glob w' := by
  have hs := h.size
  obtain ⟨m, hm⟩ := h.maxlen
  obtain ⟨ev, he, hv⟩ := h.syn
  obtain ⟨ev2, he2, hv2⟩ := h.rng
  refine ⟨⟨m, (hb.cell (p := ⟨0, 0, none⟩) (by decide)).trans hm⟩, ⟨ev, (hb.cell (p := ⟨1, 0, none⟩) (by decide)).trans he, hv⟩, ⟨ev2, (hb.cell (p := ⟨2, 0, none⟩) (by decide)).trans he2, hv2⟩,
    var_kept (g := 3) (by kernel_rfl) h.tab (hb.block _ (by decide)), fun k hk => ?_⟩
  obtain ⟨e, h1, h2⟩ := h.types k hk
  exact ⟨e, by unfold etype at h1 ⊢; rw [hb.block k hk]; exact h1, h2⟩
theorem Glob.below {w w' : World} (h : Glob w) (hb : Below w.heap.size w w') : Glob w' := h.of (hb.mono h.size)
theorem Glob.keeps {w w' : World} {F : List Nat} (h : Glob w) (hk : Keeps F w w') (hF : FT F w) : Glob w' :=
  h.of ⟨hk.os, hk.tape, hk.output, hk.size, fun k hn => hk.block k (Nat.lt_of_lt_of_le hn h.size) (by
    obtain ⟨e, h1, h2⟩ := h.types k hn
    exact notin_FT hF h1 h2)⟩
end Go.Proofs.YtjhahhpcpempgaaDoor
