/- append within a region that draws its order: onto an own row, of a row that reads as texts; of one text more. -/
import Derived.Test.YtjhahhpcpempgaaDoorApp
set_option linter.unusedVariables false
set_option linter.unusedSimpArgs false
namespace Go.Proofs.YtjhahhpcpempgaaDoor
open Go.RowKit

set_option maxRecDepth 100000 in
theorem run_app_rd (w : World) (base n0 c0 : Nat) (A0 : Option Addr) (l0 : List ByteArray) (hown : w.ownsRow base 9 1 (.slice A0 n0 c0) n0 (l0.map Value.string)) (hbase : base ≤ w.heap.size) (v : Value) (x : List ByteArray) (hx : RdStrs w v x) (hlen : n0 + x.length ≤ 1000) :
    ∃ v' W', (Builtin.append_ #[33, 33] 33 #[.slice A0 n0 c0, v]).run Tryd.prog w = .ok v' W' ∧
      W'.ownsRow base 9 1 v' (n0 + x.length) ((l0 ++ x).map Value.string) ∧ Below base w W' := by
  obtain ⟨i0, hi, hz0, hz1, hz2⟩ := info_parts Tryd.infoStr
  have HX := hx
  obtain ⟨A, c, rfl, hc, hcm, hll, h⟩ := hx
  cases A with
  | none =>
    have h0 : x.length = 0 := by
      rcases h with h | ⟨g, o, cells, fr, hA, _⟩
      · exact h
      · cases hA
    obtain rfl : x = [] := List.eq_nil_of_length_eq_zero h0
    have hnc : n0 ≤ c0 := by
      obtain ⟨_, _, hv, hn, _⟩ := RowAt.ofOwn hown
      injection hv with _ _ h3
      omega
    refine ⟨_, _, ?_, by simpa using hown, Below.refl _ _⟩
    cases A0 with
    | none =>
      simp [Builtin.append_, run_underlying Tryd.underlying33, sizeOf, typeInfo, hi, Builtin.lenOf, Builtin.firstCells, storeCells]
      intro h9
      omega
    | some B =>
      simp [Builtin.append_, run_underlying Tryd.underlying33, sizeOf, typeInfo, hi, Builtin.lenOf, Builtin.firstCells, storeCells]
      omega
  | some ad =>
    obtain ⟨v', W', h1, h2, h3, _⟩ := run_append_own (P := Tryd.prog) w base 33 33 9 i0 (.string ⟨#[]⟩) 1 16 Tryd.underlying33 hi hz0 hz1 hz2 rfl (by decide) _ n0 _ hown ad x.length c (x.map Value.string) (by simp) (fun j u hu => by
        have hj : j < x.length := by have := (List.getElem?_eq_some_iff.1 hu).1; simpa using this
        obtain ⟨g, o, hA, hg, hcell⟩ := HX.cell hj
        injection hA with hA
        subst hA
        have : (⟨g, o, none⟩ : Addr).add j = ⟨g, o + j, none⟩ := by unfold Addr.add; split <;> simp_all
        rw [this, hcell]
        rw [List.getElem?_map, List.getElem?_eq_getElem hj] at hu
        simpa using hu) (fun u hu => by
        obtain ⟨s, _, rfl⟩ := List.mem_map.1 hu; simp [Value.oneCell']) (by unfold maxLen; omega) (by omega) hbase
    refine ⟨v', W', h1, by rw [List.map_append]; exact h2, ?_⟩
    exact (Below.refl base w).grown h3 hbase (fun j hj => by have := (hown.lt _ hj).1; omega)
theorem stepD_append {P : Program} {w : World} {ops : Array Oper} {o : Oper} {a : Act} {K : Act → World → Prop} {Q : Exit → Act → World → Prop} {E : Prop} (hgd : o.guard = none) (s x : Operand) (t : TypeId)
    (ho : o.op = .call { callee := .builtin .append, args := #[s, x], argTypes := #[t, t] }) (ty : TypeId) (hty : o.type = ty) (v u v' : Value) (w' : World) (hs : a.eval s = v) (hx : a.eval x = u)
    (hr : (Builtin.append_ #[t, t] ty #[v, u]).run P w = .ok v' w') (h : K (a.put o.dst v') w') : if Region.wanted o (yielded ops a.tmps) = true then Oper.wp P o a w K Q else E := by
  have hw : Region.wanted o (yielded ops a.tmps) = true := by simp [Region.wanted, hgd]
  rw [if_pos hw]
  subst hty
  unfold Oper.wp
  simp [execOp, ho, resolve, invoke, builtin, hs, hx, hr, Result.andThen]
  exact h
theorem stepD_rd {w : World} {ops : Array Oper} {o : Oper} {a : Act} {K : Act → World → Prop} {Q : Exit → Act → World → Prop} {E : Prop} (hgd : o.guard = none) (s x : Operand)
    (ho : o.op = .call { callee := .builtin .append, args := #[s, x], argTypes := #[33, 33] }) (hty : o.type = 33) (base n0 c0 : Nat) (A0 : Option Addr) (l0 : List ByteArray) (v : Value) (y : List ByteArray)
    (hs : a.eval s = .slice A0 n0 c0) (hx : a.eval x = v) (hown : w.ownsRow base 9 1 (.slice A0 n0 c0) n0 (l0.map Value.string)) (hbase : base ≤ w.heap.size) (hrd : RdStrs w v y) (hlen : n0 + y.length ≤ 1000)
    (h : ∀ v' w', w'.ownsRow base 9 1 v' (n0 + y.length) ((l0 ++ y).map Value.string) → Below base w w' → K (a.put o.dst v') w') : if Region.wanted o (yielded ops a.tmps) = true then Oper.wp Tryd.prog o a w K Q else E := by
  obtain ⟨v', w', h1, h2, h3⟩ := run_app_rd w base n0 c0 A0 l0 hown hbase v y hrd hlen
  exact stepD_append hgd s x 33 ho 33 hty _ _ v' w' hs hx h1 (h v' w' h2 h3)
theorem step_rd {w : World} {ops : Array Oper} {rest : List Oper} {o : Oper} {a : Act} {Q : Exit → Act → World → Prop} (hw : Region.wanted o (yielded ops a.tmps) = true) (s x : Operand)
    (ho : o.op = .call { callee := .builtin .append, args := #[s, x], argTypes := #[33, 33] }) (hty : o.type = 33) (base n0 c0 : Nat) (A0 : Option Addr) (l0 : List ByteArray) (v : Value) (y : List ByteArray)
    (hs : a.eval s = .slice A0 n0 c0) (hx : a.eval x = v) (hown : w.ownsRow base 9 1 (.slice A0 n0 c0) n0 (l0.map Value.string)) (hbase : base ≤ w.heap.size) (hrd : RdStrs w v y) (hlen : n0 + y.length ≤ 1000)
    (h : ∀ v' w', w'.ownsRow base 9 1 v' (n0 + y.length) ((l0 ++ y).map Value.string) → Below base w w' → wpList Tryd.prog ops Q rest (a.put o.dst v') w') : wpList Tryd.prog ops Q (o :: rest) a w := by
  obtain ⟨v', w', h1, h2, h3⟩ := run_app_rd w base n0 c0 A0 l0 hown hbase v y hrd hlen
  exact step_append hw s x 33 ho 33 hty _ _ v' w' hs hx h1 (h v' w' h2 h3)
theorem own_drew {w : World} {base : Nat} {e : TypeId} {sz n : Nat} {v : Value} {cs : List Value} (h : w.ownsRow base e sz v n cs) : w.drew.ownsRow base e sz v n cs := own_keeps h ((Keeps.refl [] _).drew) (by simp)
end Go.Proofs.YtjhahhpcpempgaaDoor
