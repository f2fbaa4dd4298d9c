/- append onto a literal of nothing, and onto an own row, as equations of runs (guarded operations). -/
import Derived.Test.YtjhahhpcpempgaaDoorLaw2
import Derived.Laws.OwnMore
set_option linter.unusedVariables false
set_option linter.unusedSimpArgs false
namespace Go.Proofs.YtjhahhpcpempgaaDoor
open Go.RowKit

theorem run_pure0 (W : World) : (pure #[] : Sem (Array Value)).run Tryd.prog W = .ok #[] W := rfl
theorem run_store0 (a : Addr) (W : World) : (storeCells a []).run Tryd.prog W = .ok () W := by simp [storeCells, Sem.run_pure]
theorem own_lit0 (W : World) : (W.alloc (.cells #[] 9)).ownsRow W.heap.size 9 1 (.slice (some ⟨W.heap.size, 0, none⟩) 0 0) 0 [] :=
  ⟨by simp, .inr ⟨W.heap.size, 0, #[], rfl, Nat.le_refl _, blk_new W _, by simp, by simp, by simp, by simp⟩⟩
set_option maxRecDepth 100000 in
theorem run_app_lit (W : World) (v : Value) (x : List ByteArray) (hx : RdStrs W v x) (hlen : x.length ≤ 1000) :
    ∃ v' W', (Builtin.append_ #[33, 33] 33 #[.slice (some ⟨W.heap.size, 0, none⟩) 0 0, v]).run Tryd.prog (W.alloc (.cells #[] 9)) = .ok v' W' ∧
      W'.ownsRow W.heap.size 9 1 v' x.length (x.map Value.string) ∧ Below W.heap.size W W' := by
  obtain ⟨i0, hi, hz0, hz1, hz2⟩ := info_parts Tryd.infoStr
  have hx2 : RdStrs (W.alloc (.cells #[] 9)) v x := hx.below ((Below.refl _ _).alloc (Nat.le_refl _) _)
  have HX := hx2
  obtain ⟨A, c, rfl, hc, hcm, hll, h⟩ := hx2
  cases A with
  | none =>
    have h0 : x.length = 0 := by
      rcases h with h | ⟨g, o, cells, fr, hA, _⟩
      · exact h
      · cases hA
    obtain rfl : x = [] := List.eq_nil_of_length_eq_zero h0
    refine ⟨_, _, ?_, own_lit0 W, (Below.refl _ _).alloc (Nat.le_refl _) _⟩
    simp [Builtin.append_, run_underlying Tryd.underlying33, sizeOf, typeInfo, hi, Builtin.lenOf, Builtin.firstCells, storeCells]
  | some ad =>
    obtain ⟨v', W', h1, h2, h3, _⟩ := run_append_own (P := Tryd.prog) (W.alloc (.cells #[] 9)) W.heap.size 33 33 9 i0 (.string ⟨#[]⟩) 1 16 Tryd.underlying33 hi hz0 hz1 hz2 rfl (by decide) (.slice (some ⟨W.heap.size, 0, none⟩) 0 0) 0 [] (own_lit0 W) ad x.length c (x.map Value.string) (by simp) (fun j u hu => by
        have hj : j < x.length := by have := (List.getElem?_eq_some_iff.1 hu).1; simpa using this
        obtain ⟨g, o, hA, hg, hcell⟩ := HX.cell hj
        injection hA with hA
        subst hA
        have : (⟨g, o, none⟩ : Addr).add j = ⟨g, o + j, none⟩ := by unfold Addr.add; split <;> simp_all
        rw [this, hcell]
        rw [List.getElem?_map, List.getElem?_eq_getElem hj] at hu
        simpa using hu) (fun u hu => by
        obtain ⟨s, _, rfl⟩ := List.mem_map.1 hu; simp [Value.oneCell']) (by unfold maxLen; omega) (by omega) (by simp)
    refine ⟨v', W', h1, by rw [Nat.zero_add, List.nil_append] at h2; exact h2, ?_⟩
    exact ((Below.refl W.heap.size W).alloc (Nat.le_refl _) _).grown h3 (by simp) (fun j hj => by simp [Value.ownBlock] at hj; omega)
theorem run_app_one (W : World) (base n c : Nat) (A : Option Addr) (x : List ByteArray) (y : ByteArray) (hx : W.ownsRow base 9 1 (.slice A n c) n (x.map Value.string)) (hlen : n ≤ 1000) (hb : base ≤ W.heap.size) :
    ∃ g' c' W', (Builtin.append_ #[33, 33] 33 #[.slice A n c, .slice (some ⟨W.heap.size, 0, none⟩) 1 1]).run Tryd.prog (W.alloc (.cells #[.string y] 9)) = .ok (.slice (some ⟨g', 0, none⟩) (n + 1) c') W' ∧
      W'.ownsRow base 9 1 (.slice (some ⟨g', 0, none⟩) (n + 1) c') (n + 1) ((x ++ [y]).map Value.string) ∧ Below base W W' := by
  obtain ⟨i0, hi, hz0, hz1, hz2⟩ := info_parts Tryd.infoStr
  obtain ⟨v', W', h1, h2, h3, _⟩ := run_append_own (P := Tryd.prog) (W.alloc (.cells #[.string y] 9)) base 33 33 9 i0 (.string ⟨#[]⟩) 1 16 Tryd.underlying33 hi hz0 hz1 hz2 rfl (by decide) _ n _ (hx.alloc _) ⟨W.heap.size, 0, none⟩ 1 1 [.string y] rfl (cell_one_new _ _ _) (by simp [Value.oneCell']) (by unfold maxLen; omega) (by omega) (by simp; omega)
  obtain ⟨g', c', rfl⟩ := ownsRow_succ h2
  refine ⟨g', c', W', h1, by rw [List.map_append]; exact h2, ?_⟩
  exact ((Below.refl base W).alloc hb _).grown h3 (by simp; omega) (fun j hj => by have := (hx.lt _ hj).1; omega)

theorem step_append {P : Program} {w : World} {ops : Array Oper} {rest : List Oper} {o : Oper} {a : Act} {Q : Exit → Act → World → Prop} (hw : Region.wanted o (yielded ops a.tmps) = true) (s x : Operand) (t : TypeId)
    (ho : o.op = .call { callee := .builtin .append, args := #[s, x], argTypes := #[t, t] }) (ty : TypeId) (hty : o.type = ty) (v u v' : Value) (w' : World) (hs : a.eval s = v) (hx : a.eval x = u)
    (hr : (Builtin.append_ #[t, t] ty #[v, u]).run P w = .ok v' w') (h : wpList P ops Q rest (a.put o.dst v') w') : wpList P ops Q (o :: rest) a w := by
  refine wpList_step fun K hK => ?_
  simp only [hw, if_true]
  subst hty
  unfold Oper.wp
  simp [execOp, ho, resolve, invoke, builtin, hs, hx, hr, Result.andThen]
  exact hK _ _ h
end Go.Proofs.YtjhahhpcpempgaaDoor
