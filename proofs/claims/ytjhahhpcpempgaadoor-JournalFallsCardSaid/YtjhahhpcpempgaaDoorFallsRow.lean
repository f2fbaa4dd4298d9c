/- JournalFalls: the row. -/
import Derived.Test.YtjhahhpcpempgaaDoorTornRow
import Derived.Test.YtjhahhpcpempgaaDoorFalls
import Derived.Deep.Matrix
set_option linter.unusedVariables false
set_option linter.unusedSimpArgs false
namespace Go.Proofs.YtjhahhpcpempgaaDoor
open Go.ChangeShapes Go.WideShapes Go.ChangeAt Go.RowKit Go.Deep

theorem add_none {a : Addr} {i : Nat} (h : (a.add i).spot = none) (h0 : i = 0) : a.spot = none := by
  subst h0
  simpa [Addr.add] using h
theorem cells_rdB {W : World} (A : Option Addr) (L C : Nat) (Z : List Int) (hL : L ≤ C) (hC : C ≤ maxLen) (hZ : Z.length = C) (hw : ∀ n ∈ Z, (Lit.int .u8 n).wf = true) (hA : A = none → C = 0)
    (hc : ∀ a', A = some a' → ∀ c, c < C → W.cell? (a'.add c) = some (.int .u8 (Z.getD c 0))) : RdB W (.slice A L C) ((Z.take L).map fun z => UInt8.ofNat z.toNat) := by
  have hlen : ((Z.take L).map fun z => UInt8.ofNat z.toNat).length = L := by simp; omega
  refine ⟨A, C, by rw [hlen], by omega, hC, fun i hi => ?_⟩
  rw [hlen] at hi
  cases A with
  | none => have := hA rfl; omega
  | some a' =>
    have h0 := hc a' rfl 0 (by omega)
    have hsp : a'.spot = none := add_none (World.cell?_spot h0) rfl
    obtain ⟨g, o, sp⟩ := a'
    simp only at hsp
    subst hsp
    have hi' : i < Z.length := by omega
    have hcell := hc _ rfl i (by omega)
    have ha : (⟨g, o, none⟩ : Addr).add i = ⟨g, o + i, none⟩ := by unfold Addr.add; split <;> simp_all
    rw [ha] at hcell
    have hlt : g < W.heap.size := by
      rcases Nat.lt_or_ge g W.heap.size with q | q
      · exact q
      · simp [World.cell?, Array.getElem?_eq_none q] at hcell
    refine ⟨g, o, rfl, hlt, hcell.trans ?_⟩
    have hm2 : Z.getD i 0 ∈ Z := by
      rw [List.getD_eq_getElem?_getD, List.getElem?_eq_getElem hi']; exact List.getElem_mem hi'
    obtain ⟨b, hb⟩ := u8_of (hw _ hm2)
    have : Z[i] = Z.getD i 0 := by rw [List.getD_eq_getElem?_getD, List.getElem?_eq_getElem hi']; rfl
    simp only [List.getElem_map, List.getElem_take, this, hb]
    simp
set_option maxRecDepth 100000 in
theorem rdBB_of {H : Type} {enc : TypeId × Value → H} {W : World} {base : Nat} {v : Value} {d : DataW H} {p : List MemPlace} (hv : Value.okWide Tryd.prog W .any base 22 v)
    (h : DataW.Trod enc Tryd.prog W 0 (fun _ => true) true 22 v d p) : ∃ ops, RdBB W v ops := by
  obtain ⟨fuel, hf⟩ := h
  obtain ⟨a0, len0, cap0, rfl⟩ := okWide_slice Tryd.underlying22 hv
  rcases open_int_rows Tryd.underlying22 Tryd.underlying23 Tryd.underlying5 (by kernel_rfl) (by kernel_rfl) hf with ⟨hcs, hx⟩ | ⟨a, len, cap, A, L, C, Z, hcs, _, hl, hm, hx, hr⟩
  · have e : Value.slice a0 len0 cap0 = .slice none 0 0 := (List.cons.inj hcs).1
    rw [e]
    exact ⟨[], none, 0, rfl, Nat.le_refl _, Nat.zero_le _, fun i hi => by simp at hi⟩
  · have e : Value.slice a0 len0 cap0 = .slice (some a) len cap := (List.cons.inj hcs).1
    rw [e]
    refine ⟨(List.range len).map fun r => ((Z r).take (L r)).map fun z => UInt8.ofNat z.toNat, some a, cap, by simp, by simpa using hl, hm, fun i hi => ?_⟩
    have hi' : i < len := by simpa using hi
    obtain ⟨hc, h1, h2, h3, h4, h5, h6⟩ := hr i (by omega)
    have hsp : a.spot = none := add_none (World.cell?_spot (hr 0 (by omega)).1) rfl
    obtain ⟨g, o, sp⟩ := a
    simp only at hsp
    subst hsp
    have ha : (⟨g, o, none⟩ : Addr).add i = ⟨g, o + i, none⟩ := by unfold Addr.add; split <;> simp_all
    rw [ha] at hc
    have hlt : g < W.heap.size := by
      rcases Nat.lt_or_ge g W.heap.size with q | q
      · exact q
      · simp [World.cell?, Array.getElem?_eq_none q] at hc
    refine ⟨g, o, _, rfl, hlt, hc, ?_⟩
    have := cells_rdB (W := W) (A i) (L i) (C i) (Z i) h1 h2 h3 h4 h5 (fun a' ha' => (h6 a' ha').2)
    simpa using this
set_option maxRecDepth 100000 in
theorem contractF (H : Type) (enc : TypeId × Value → H) (W : World) (base : Nat) (args : Array Value) (ds gs : List (DataW H)) (before : List MemPlace)
    (hval : ∀ (j : Nat) t v, Tryd.f3.params[j]? = some t → args[j]? = some v → Value.okWide Tryd.prog W .any base t v)
    (hW : DataW.Whole enc Tryd.prog Tryd.f3.params.toList Rows.journalFallsSpec.vars false W args.toList ds gs before) (hL : laidMetH Tryd.prog Rows.journalFallsRow.laid W) (hs : W.ShapedOpen Tryd.prog) :
    Calls Tryd.prog 3 args W fun e W' => ∃ v, e = .returned v ∧ Rows.journalFallsSpec.post enc Tryd.prog Tryd.f3 false true false false W args v W' := by
  have hW' := hW
  obtain ⟨p, q, hA0, hV, rfl, hfz, hnd⟩ := hW
  have hA : DataW.TrodAll enc Tryd.prog W 0 (fun _ => true) true Tryd.f3.params.toList args.toList ds p := hA0
  rw [Tryd.params3] at hA hval
  obtain ⟨v0, vs0, d0, ds0, p0, q0, hargs, rfl, rfl, h0, r0⟩ := trodAll_cons hA
  obtain ⟨v1, vs1, d1, ds1, p1, q1, rfl, rfl, rfl, h1, r1⟩ := trodAll_cons r0
  obtain ⟨v2, vs2, d2, ds2, p2, q2, rfl, rfl, rfl, h2, r2⟩ := trodAll_cons r1
  obtain ⟨v3, vs3, d3, ds3, p3, q3, rfl, rfl, rfl, h3, r3⟩ := trodAll_cons r2
  obtain ⟨v4, vs4, d4, ds4, p4, q4, rfl, rfl, rfl, h4, r4⟩ := trodAll_cons r3
  obtain ⟨rfl, rfl, rfl⟩ := trodAll_nil r4
  obtain rfl : args = #[v0, v1, v2, v3, v4] := by cases args; simp_all
  obtain ⟨rfl, rfl⟩ := trodVars_none hV
  obtain ⟨a, rfl, rfl, rfl, wa⟩ := open_int Tryd.underlying5 (hval 1 5 v1 rfl rfl) h1
  obtain ⟨keep, rfl, rfl, rfl, wk⟩ := open_int Tryd.underlying3 (hval 3 3 v3 rfl rfl) h3
  obtain ⟨torn, rfl, rfl, rfl, wt⟩ := open_int Tryd.underlying3 (hval 4 3 v4 rfl rfl) h4
  obtain ⟨a, rfl⟩ := u8_of wa
  obtain ⟨ops, hr⟩ := rdBB_of (hval 0 22 v0 rfl rfl) h0
  obtain ⟨fs, hf⟩ := rdB_of (hval 2 23 v2 rfl rfl) h2
  refine (Falls_c v0 v2 ops fs a keep torn W (glob_of hs hL) hr hf (i64_of wk) (i64_of wt)).mono fun e W' ⟨he, hb⟩ => ?_
  subst he
  have hlt : ∀ x ∈ p0, x.block < W.heap.size := fun x hx => hA.lt x (by simp [hx])
  have hlt2 : ∀ x ∈ p2, x.block < W.heap.size := fun x hx => hA.lt x (by simp [hx])
  refine ⟨_, rfl, _, _, _, [], p0 ++ ([] ++ (p2 ++ ([] ++ ([] ++ [])))), [], hW', trodAll_cons_mk (shut_bool Tryd.underlying4 _) trodAll_mk0, ?_, rfl, hb.frame _, fun h => by cases h⟩
  exact trodAll_cons_mk (Below.trod laidOut (by kernel_rfl) (of_decide_eq_true (by kernel_rfl)) h0 hb hlt)
    (trodAll_cons_mk (shut_int Tryd.underlying5 wa) (trodAll_cons_mk (Below.trod laidOut (by kernel_rfl) (of_decide_eq_true (by kernel_rfl)) h2 hb hlt2) (trodAll_cons_mk (shut_int Tryd.underlying3 wk) (trodAll_cons_mk (shut_int Tryd.underlying3 wt) trodAll_mk0))))
end Go.Proofs.YtjhahhpcpempgaaDoor
