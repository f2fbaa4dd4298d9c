/- From a row's reading to what the walks ask. -/
import Derived.Test.YtjhahhpcpempgaaDoorTorn
import Derived.Test.YtjhahhpcpempgaaDoorCards
import Derived.Test.YtjhahhpcpempgaaDoorTie
import Derived.ProofKit
import Derived.OpenShut
import Derived.Deep.DeepHandedRow
import Derived.Lib.LaidTab
import Derived.Stop.LaidErr
import Derived.Lib.LaidU8
import Derived.Deep.DeepWitnessRowRef
set_option linter.unusedVariables false
set_option linter.unusedSimpArgs false
namespace Go.Proofs.YtjhahhpcpempgaaDoor
open Go.RowKit

theorem gPow : Tryd.prog.globalNamed "internal/strconv.uint64pow10" = some 3 := by kernel_rfl
theorem gRange : Tryd.prog.globalNamed "strconv.ErrRange" = some 2 := by kernel_rfl
theorem gSyntax : Tryd.prog.globalNamed "strconv.ErrSyntax" = some 1 := by kernel_rfl
theorem types_ok : ((List.range 8).all fun k => match (((begin Tryd.prog (fun _ _ => 0) default).world.heap[k]?).bind Obj.row?).map (·.2) with | some t => !ST.contains t | none => false) = true := by kernel_rfl
theorem globs : Tryd.prog.globals.size = 8 := by kernel_rfl
theorem types_of {W : World} (hs : W.ShapedOpen Tryd.prog) (k : Nat) (hk : k < 8) : ∃ e, etype W k = some e ∧ e ∉ ST := by
  have h := List.all_eq_true.1 types_ok k (List.mem_range.2 hk)
  cases h0 : ((begin Tryd.prog (fun _ _ => 0) default).world.heap[k]?).bind Obj.row? with
  | none => rw [h0] at h; simp at h
  | some x =>
    obtain ⟨zero, t⟩ := x
    rw [h0] at h
    obtain ⟨cs, hh, _⟩ := hs.1 k zero t (by rw [globs]; exact hk) h0
    exact ⟨t, etype_of hh, by simpa using h⟩
theorem star : "*" ++ "errors.errorString" = "*errors.errorString" := by decide
theorem rowErr (u : TypeId) (h : Tryd.prog.typeName? 3 u = some "*errors.errorString") : u = 114 :=
  typeName_ptr_named (nm := "errors.errorString") (by rw [star]; kernel_rfl) (by kernel_rfl) (by decide) u (by rw [star]; exact h)
theorem glob_of {W : World} (hs : W.ShapedOpen Tryd.prog) (hL : laidMetH Tryd.prog Rows.journalTornRow.laid W) : Glob W := by
  have hl : laidMet Tryd.prog Rows.journalTornRow.laid W := hL
  refine ⟨?_, ?_, ?_, ?_, fun k hk => types_of hs k hk⟩
  · exact cell_of_shapedOpen_int (zero := #[.int .i64 0]) (t := 3) hs (of_decide_eq_true (by kernel_rfl)) (by kernel_rfl) rfl (by kernel_rfl) (by kernel_rfl) Tryd.underlying3
  · obtain ⟨a, s, hv, _⟩ := laid_sentinel hl.tail.tail.tail.tail.tail gSyntax (by kernel_rfl) Tryd.underlying66 rowErr Tryd.underlying114 Tryd.underlying116 rfl rfl Tryd.underlying9 (by kernel_rfl) (by kernel_rfl)
    exact ⟨_, World.var?_cell gSyntax hv 0, .inr ⟨_, _, rfl⟩⟩
  · obtain ⟨a, s, hv, _⟩ := laid_sentinel hl.tail.tail.tail.tail gRange (by kernel_rfl) Tryd.underlying66 rowErr Tryd.underlying114 Tryd.underlying116 rfl rfl Tryd.underlying9 (by kernel_rfl) (by kernel_rfl)
    exact ⟨_, World.var?_cell gRange hv 0, .inr ⟨_, _, rfl⟩⟩
  · exact Lib.tabIs_of_head gPow (by kernel_rfl) Tryd.underlying123 Tryd.underlying77 (by kernel_rfl) (by kernel_rfl) hl.tail.tail

/-- THE WITNESS: the settled world, the variables holding what their initialisers lay, two blocks more. -/
noncomputable def laidWorld (os : Os) : World :=
  let N := (World.settled Tryd.prog os).heap.size
  let w0 := World.holding Tryd.prog os ⟨#[.cells #[.string ⟨#[118, 97, 108, 117, 101, 32, 111, 117, 116, 32, 111, 102, 32, 114, 97, 110, 103, 101]⟩] 116, .cells #[.string ⟨#[105, 110, 118, 97, 108, 105, 100, 32, 115, 121, 110, 116, 97, 120]⟩] 116], #[], []⟩
  let put (h : Array Obj) (g : Nat) (cs : Array Value) : Array Obj := h.modify g fun
    | .cells _ t frozen => .cells cs t frozen
    | o => o
  let h0 := put (put w0.heap 2 #[.iface 114 (.pointer (some ⟨N, 0, none⟩))]) 1 #[.iface 114 (.pointer (some ⟨N + 1, 0, none⟩))]
  let h1 := put h0 4 (Lib.firstTab.map fun z => Value.int .u8 z).toArray
  let h2 := put h1 5 ((List.range 16).flatMap fun i => [Value.int .u8 (Lib.accLo i), Value.int .u8 (Lib.accHi i)]).toArray
  let h3 := put h2 3 (Lib.pow10Tab.map fun z => Value.int .u64 z).toArray
  let h4 := put h3 6 (([0, 1, 28, 2, 29, 14, 24, 3, 30, 22, 20, 15, 25, 17, 4, 8, 31, 27, 13, 23, 21, 19, 16, 7, 26, 12, 18, 6, 11, 5, 10, 9] : List Int).map fun z => Value.int .u8 z).toArray
  let h5 := put h4 7 (([0, 1, 56, 2, 57, 49, 28, 3, 61, 58, 42, 50, 38, 29, 17, 4, 62, 47, 59, 36, 45, 43, 51, 22, 53, 39, 33, 30, 24, 18, 12, 5, 63, 55, 48, 27, 60, 41, 37, 16, 46, 35, 44, 21, 52, 32, 23, 11, 54, 26, 40, 15, 34, 20, 31, 10, 25, 14, 19, 9, 13, 8, 7, 6] : List Int).map fun z => Value.int .u8 z).toArray
  { w0 with heap := h5 }
set_option maxRecDepth 1000000 in
theorem laid_met (os : Os) (args : Array Value) : laidMet Tryd.prog Rows.journalTornRow.laid ((laidWorld os).forCall (fun _ _ => 0) ⟨#[], args, []⟩).memory :=
  laidMet_of_run' 8 (by kernel_rfl) (by kernel_rfl)
end Go.Proofs.YtjhahhpcpempgaaDoor
