/- JournalFalls: liftedF, saidF, the cardF. -/
import Derived.Test.YtjhahhpcpempgaaDoorFallsRow
set_option linter.unusedVariables false
set_option linter.unusedSimpArgs false
namespace Go.Proofs.YtjhahhpcpempgaaDoor
open Go.ChangeShapes Go.WideShapes Go.ChangeAt Go.RowKit

def wargsF : Array Value := #[.slice none 0 0, .int .u8 0, .slice none 0 0, .int .i64 0, .int .i64 0]
theorem witness_rowF (os : Os) {H : Type} (enc : TypeId × Value → H) :
    (OpenSpec.ofChange Rows.journalFallsSpec).preRow enc Tryd.prog Tryd.f3 Rows.journalFallsRow.domain false Rows.journalFallsRow.laid ((laidWorld os).forCall (fun _ _ => 0) ⟨#[], wargsF, []⟩).memory wargsF := by
  have hw : (DataW.whole enc Tryd.prog ((laidWorld os).forCall (fun _ _ => 0) ⟨#[], wargsF, []⟩).memory Tryd.f3.params.toList Rows.journalFallsSpec.vars false wargsF.toList 8).map (fun x => (x.1, x.2.1)) =
      some ([.nil, .lit (.int .u8 0), .nil, .lit (.int .i64 0), .lit (.int .i64 0)], []) := by kernel_rfl
  obtain ⟨⟨x1, x2, x3⟩, hx, hx1⟩ := Option.map_eq_some_iff.1 hw
  simp only [Prod.mk.injEq] at hx1
  obtain ⟨rfl, rfl⟩ := hx1
  exact OpenSpec.preRow_of_cond 8 hx (by kernel_rfl) (fun k hk => by cases hk) (by kernel_rfl) (laid_met os _)
set_option maxRecDepth 100000 in
theorem liftedF (os : Os) (started : os.Started) (H : Type) (enc : TypeId × Value → H) (F : Stop.Interp) :
    ReturnsInHanded {} Tryd.checked os 3 .any ((OpenSpec.ofChange Rows.journalFallsSpec).preRow enc Tryd.prog Tryd.f3 Rows.journalFallsRow.domain false Rows.journalFallsRow.laid) (((OpenSpec.ofChange Rows.journalFallsSpec).at F).post enc Tryd.prog Tryd.f3 false true false false) := by
  refine returnsInHanded_of_row (C := Tryd.checked) (s := OpenSpec.ofChange Rows.journalFallsSpec) own started (by kernel_rfl) Tryd.func3
    (witness_row_atRef (enc := enc) (C := Tryd.checked) false (laidWorld os) wargsF rfl (by kernel_rfl) (by kernel_rfl) (by kernel_rfl) (witness_rowF os enc)) ?_
  intro W base args ds gs before hval hW _ _ _ hL hs _
  exact contractF H enc W base args ds gs before hval hW hL hs
theorem saidF : Rows.JournalFallsSaid :=
  OpenClaim.holds_of_cond 3 Tryd.f3 rfl rfl rfl rfl rfl rfl rfl ⟨rfl, rfl, rfl, rfl, rfl⟩ rfl rfl rfl rfl rfl (by kernel_rfl) Tryd.func3 (by kernel_rfl)
    (of_decide_eq_true (by kernel_rfl)) (by unfold Func.isWrapper; first | (rw [if_pos (by decide +kernel)]; kernel_rfl) | (rw [if_neg (by decide +kernel)]; exact ⟨rfl, rfl⟩))
    (fun os started H enc _ F => by rw [OpenClaim.pre_eq_preRow]; exact liftedF os started H enc F)
theorem standsF : ((List.range Tryd.f3.params.size).all fun j => match Tryd.f3.params[j]? with | some t => !Tryd.prog.wantsStandIn t | none => true) = true := by kernel_rfl
theorem plainF (f : FuncId) (fn : Func) (hf : Tryd.pinned.checked.prog.funcNamed "doorkeeper/doorkeeperlaw22.JournalFalls" = some f) (hfn : Tryd.pinned.checked.prog.funcs[f]? = some fn) :
    true = Tryd.pinned.checked.prog.looks [] ∧ ∀ (j : Nat) t, fn.params[j]? = some t → Tryd.pinned.checked.prog.wantsStandIn t = false := by
  obtain rfl : f = 3 := Option.some.inj ((show Tryd.prog.funcNamed "doorkeeper/doorkeeperlaw22.JournalFalls" = some 3 by kernel_rfl).symm.trans hf) |>.symm
  obtain rfl : fn = Tryd.f3 := (Option.some.inj (Tryd.func3.symm.trans hfn)).symm
  refine ⟨by kernel_rfl, fun j t ht => ?_⟩
  have h := List.all_eq_true.1 standsF j (List.mem_range.2 (Array.getElem?_eq_some_iff.1 ht).1)
  rw [ht] at h
  have h2 : Tryd.prog.wantsStandIn t = false := by simpa using h
  exact h2
theorem cardF : Rows.JournalFallsCardSaid :=
  Claim7.holds_tied_plain_at .later [] _ _ _ _ saidF (fun _ h => by cases h) (by kernel_rfl) (fun _ h => by cases h) journalFalls_row_tie rfl ⟨rfl, rfl⟩ (by kernel_rfl) rfl plainF (by kernel_rfl)
#print axioms cardF
end Go.Proofs.YtjhahhpcpempgaaDoor
