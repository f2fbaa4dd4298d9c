/- unframed: all lines that stand whole in a text. -/
import Derived.Test.YtjhahhpcpempgaaDoorSplit
set_option linter.unusedVariables false
set_option linter.unusedSimpArgs false
namespace Go.Proofs.YtjhahhpcpempgaaDoor
open Go.RowKit
attribute [local go_sem] Oper.semAt_some

theorem segs_length (c : UInt8) (l : List UInt8) : (segs c l).length ≤ l.length + 1 := by
  induction l with
  | nil => simp [segs]
  | cons x l ih =>
    simp only [segs]
    split
    · simp; omega
    · split <;> rename_i h <;> simp only [h, List.length_cons, List.length_nil] at ih ⊢ <;> omega
theorem segs_mem (c : UInt8) (l : List UInt8) : ∀ y, y ∈ segs c l → y.length ≤ l.length := by
  induction l with
  | nil => simp [segs]
  | cons x l ih =>
    intro y hy
    simp only [segs] at hy
    split at hy
    · rcases List.mem_cons.1 hy with rfl | hy
      · simp
      · have := ih y hy; simp; omega
    · split at hy
      · simp at hy; subst hy; simp
      · rename_i y' r h
        rcases List.mem_cons.1 hy with rfl | hy
        · have := ih y' (by rw [h]; simp); simp; omega
        · have := ih y (by rw [h]; simp [hy]); simp; omega
theorem parts_length (c : UInt8) (s : ByteArray) : (parts c s).length ≤ s.size + 1 := by
  have := segs_length c s.data.toList
  have hl : s.data.toList.length = s.size := by rw [Array.length_toList]; rfl
  unfold parts; rw [List.length_map]; omega
theorem parts_mem (c : UInt8) (s : ByteArray) : ∀ y, y ∈ parts c s → y.size ≤ s.size := by
  intro y hy
  obtain ⟨l, hl, rfl⟩ := List.mem_map.1 hy
  have := segs_mem c _ l hl
  have hl : s.data.toList.length = s.size := by rw [Array.length_toList]; rfl
  rw [bs_size]; omega

/-- What is behind the first blank of a text; whether there is one. -/
def cutT (x : ByteArray) (c : UInt8) : ByteArray := bs (Lib.cut x.data.toList [c]).2.1
def cutH (x : ByteArray) (c : UInt8) : ByteArray := bs (Lib.cut x.data.toList [c]).1
def cutIs (x : ByteArray) (c : UInt8) : Bool := (Lib.cut x.data.toList [c]).2.2
theorem cutT_size (x : ByteArray) (c : UInt8) : (cutT x c).size ≤ x.size := by
  have hl : x.data.toList.length = x.size := by rw [Array.length_toList]; rfl
  unfold cutT; rw [bs_size]; unfold Lib.cut
  split
  · simp only [List.length_drop]; omega
  · simp
theorem cutH_size (x : ByteArray) (c : UInt8) : (cutH x c).size ≤ x.size := by
  have hl : x.data.toList.length = x.size := by rw [Array.length_toList]; rfl
  unfold cutH; rw [bs_size]; unfold Lib.cut
  split
  · simp only [List.length_take]; omega
  · simp only; omega
theorem Cut_c (x : ByteArray) (c : UInt8) (w : World) (hG : Glob w) (hx : x.size ≤ 4294967280) :
    Calls Tryd.prog 29 #[.string x, .string ⟨#[c]⟩] w fun e w' => e = .returned (.tuple #[.string (cutH x c), .string (cutT x c), .bool (cutIs x c)]) ∧ ∃ n, w' = w.drewN n := by
  obtain ⟨m, hm⟩ := hG.maxlen
  exact Tryd.strings_Cut x ⟨#[c]⟩ m w (by omega) hm

def keepB (x : ByteArray) : Option ByteArray := if cutIs x 32 && ((frameB (cutT x 32)).toList == (⟨#[10]⟩ ++ x : ByteArray).toList) then some (cutT x 32) else none
def unframedB (s : ByteArray) : List ByteArray := (parts 10 s).filterMap keepB

def UnfI (w : World) (pre : List ByteArray) (W : World) : Prop :=
  (Below w.heap.size w W ∧ w.heap.size + 4 ≤ W.heap.size) ∧ ∃ v, W.heap[w.heap.size]? = some (.cells #[v] 33 (0, 0)) ∧ W.ownsRow (w.heap.size + 4) 9 1 v (pre.filterMap keepB).length ((pre.filterMap keepB).map fun s => Value.string s)

theorem Below.drewN0 (w : World) (n : Nat) : Below w.heap.size w (w.drewN n) := ⟨rfl, rfl, rfl, Nat.le_refl _, fun _ _ => rfl⟩
theorem KO_below {W W' : World} (h : Below W.heap.size W W') : KeepsOthers W W' := ⟨h.size, fun k o hk _ => (h.block k (blk_lt hk)).trans hk⟩

theorem UnfI.keeps {w : World} {pre : List ByteArray} {A B : World} (h : UnfI w pre A) (hk : Keeps [w.heap.size + 1] A B) : UnfI w pre B := by
  obtain ⟨⟨hb, hz⟩, v, hv, ho⟩ := h
  refine ⟨⟨hb.trans (hk.below (by simp) (by have := blk_lt hv; omega)), Nat.le_trans hz hk.size⟩, v, blk_keeps hv hk (by simp), own_keeps ho hk fun k hk => ?_⟩
  have := (ho.lt k hk).1
  simp; omega
theorem UnfI.put (w : World) : OwnFrom (w.heap.size + 4) (UnfI w) := by
  intro s A B row h hg hr
  obtain ⟨⟨hb, hz⟩, v, hv, ho⟩ := h
  refine ⟨⟨hb.trans (Below.grown (Below.refl _ _) hg (by have := blk_lt hv; omega) fun k hk => by have := (hr k hk).1; omega), Nat.le_trans hz hg.size⟩, v, ?_, ?_⟩
  · exact blk_grown hv hg (fun e => by have := (hr _ e).1; omega)
  · refine ho.kept hg ?_
    cases hv2 : v.ownBlock with
    | none => exact .inl rfl
    | some k =>
      right
      intro e
      obtain ⟨_, o, ho1, ho2⟩ := hr k e.symm
      have := own_etype ho k hv2
      unfold etype at this
      rw [ho1] at this
      cases o <;> simp [Obj.isCells] at ho2 this

theorem Tryd.infoStr : (Tryd.prog.info? 9).map (fun i => (i.zero, i.size, i.bytes)) = some (some (.string ⟨#[]⟩), 1, 16) := by kernel_rfl

set_option maxRecDepth 100000 in
set_option maxHeartbeats 1600000 in
theorem unframed_c (s : ByteArray) (w : World) (hG : Glob w) (hs : s.size ≤ 1073741824) :
    Calls Tryd.prog 33 #[.string s] w fun e w' => ∃ v, e = .returned v ∧ RdStrs w' v (unframedB s) ∧ Below w.heap.size w w' := by
  have HG := Lib.hid hG
  refine (callsIn_wide (n := 6)).1 ?_
  refine callsIn_of_wp_marks Tryd.func33 rfl trivial ?_
  simp only [Tryd.ntmps33, List.size_toArray, List.length_cons, List.length_nil, Nat.reduceAdd, Nat.reduceSub, Array.replicate_succ, Array.replicate_zero, List.push_toArray, List.append_toArray, List.nil_append, List.cons_append]
  clear hG
  gi_wp2_with fail
  refine ⟨trivial, (callsIn_wide.2 (SplitSeq_c s ⟨#[10]⟩ _)).mono ?_⟩
  rintro e w1 ⟨rfl, rfl⟩
  gi_wp2_with fail
  have hsz : ((((w.alloc (.cells #[.slice none 0 0] 33)).alloc (.cells #[.string s] 9)).alloc (.cells #[.string ⟨#[10]⟩] 9)).alloc (.cells #[.int .i64 0] 3)).heap.size = w.heap.size + 4 := by simp
  have q3 : ((((w.alloc (.cells #[.slice none 0 0] 33)).alloc (.cells #[.string s] 9)).alloc (.cells #[.string ⟨#[10]⟩] 9)).alloc (.cells #[.int .i64 0] 3)).heap[w.heap.size]? = some (.cells #[.slice none 0 0] 33 (0, 0)) := blk_alloc (blk_alloc (blk_alloc (blk_new w _) _) _) _
  have q0 : ((((w.alloc (.cells #[.slice none 0 0] 33)).alloc (.cells #[.string s] 9)).alloc (.cells #[.string ⟨#[10]⟩] 9)).alloc (.cells #[.int .i64 0] 3)).heap[w.heap.size + 1]? = some (.cells #[.string s] 9 (0, 0)) := blk_alloc (blk_alloc (blk_newAt (by simp) _) _) _
  have q1 : ((((w.alloc (.cells #[.slice none 0 0] 33)).alloc (.cells #[.string s] 9)).alloc (.cells #[.string ⟨#[10]⟩] 9)).alloc (.cells #[.int .i64 0] 3)).heap[w.heap.size + 1 + 1]? = some (.cells #[.string ⟨#[10]⟩] 9 (0, 0)) := blk_alloc (blk_newAt (by simp) _) _
  have q2 : ((((w.alloc (.cells #[.slice none 0 0] 33)).alloc (.cells #[.string s] 9)).alloc (.cells #[.string ⟨#[10]⟩] 9)).alloc (.cells #[.int .i64 0] 3)).heap[w.heap.size + 1 + 2]? = some (.cells #[.int .i64 0] 3 (0, 0)) := blk_newAt (by simp) _
  have qb : Below w.heap.size w ((((w.alloc (.cells #[.slice none 0 0] 33)).alloc (.cells #[.string s] 9)).alloc (.cells #[.string ⟨#[10]⟩] 9)).alloc (.cells #[.int .i64 0] 3)) :=
    ((((Below.refl _ _).alloc (Nat.le_refl _) _).alloc (by simp) _).alloc (by simp; omega) _).alloc (by simp; omega) _
  generalize ((((w.alloc (.cells #[.slice none 0 0] 33)).alloc (.cells #[.string s] 9)).alloc (.cells #[.string ⟨#[10]⟩] 9)).alloc (.cells #[.int .i64 0] 3)) = W0 at hsz q0 q1 q2 q3 qb ⊢
  refine range_cell (F := Fence.wide) (n := 6) rfl (by omega) (gf := 71) rfl trivial (enters_of Tryd.func71 (by kernel_rfl) rfl)
    (splitGives 10 s (w.heap.size + 1) (w.heap.size + 1 + 1) (w.heap.size + 1 + 2) W0 (by omega) (by omega) (by omega) q0 q1 q2 5 (by omega))
    (fun {A B k o} hk hm ho => blk_keeps ho hm (by simp; omega)) (fun {A B C} h1 h2 k hk => (h2 k hk).trans (h1 k hk)) (fun W l o hl k hk => World.putObj_heap_other (by simp at hk; omega)) (fun _ => rfl)
    (UnfI w) (fun _ _ _ h hm => h.keeps hm) (by rw [hsz]; exact UnfI.put w) ⟨⟨qb, by omega⟩, _, q3, World.ownsRow_nil _ _ _ _⟩ ?a1 ?assign ?body ?done
  case a1 => exact fun x => { tmps := #[.string s, undef, .slice none 0 0, .pointer (some ⟨w.heap.size, 0, none⟩), .string x, undef, undef, undef, .string s, .func (.func 71) #[] #[.pointer (some ⟨w.heap.size + 1 + 1, 0, none⟩), .pointer (some ⟨w.heap.size + 1, 0, none⟩), .pointer (some ⟨w.heap.size + 1 + 2, 0, none⟩)],
          .string x, undef, undef, undef, undef, undef, undef, undef, undef, undef, undef, undef, undef, undef, undef, undef, undef, undef, undef, undef], defers := [] }
  case assign =>
    intro l x W K hK
    gi_wp2
    exact hK
  case body =>
    rintro l pre x W ⟨⟨hbel, hw4⟩, v, hv, ho⟩ hpre
    have hxm : x ∈ parts 10 s := hpre.subset (by simp)
    have hxs := parts_mem 10 s x hxm
    have hpl : pre.length < (parts 10 s).length := by have := hpre.length_le; simp at this; omega
    have hpl2 := parts_length 10 s
    have hGW := Lib.hid (HG.out.below hbel)
    have hts := cutT_size x 32
    have HC := Lib.hid (Cut_c x 32)
    obtain ⟨g1, g2, g3⟩ := blk1 hv
    have HV := Lib.hid hv
    have HO := Lib.hid ho
    have HB := Lib.hid hbel
    have hbs := hbel.size
    clear hv ho hbel hxm hpre
    cases h1 : cutIs x 32
    · have HE1 := Lib.hid (show (pre ++ [x]).filterMap keepB = pre.filterMap keepB by simp [List.filterMap_append, keepB, h1])
      gi_wp2_with fail
      refine ⟨trivial, CallsIn.inRound l ((callsIn_wide.2 (HC.out W hGW.out (by omega))).mono ?_)⟩
      rintro e w9 ⟨rfl, k, rfl⟩
      gi_wp2_with fail
      refine ⟨trivial, ?_⟩
      gi_wp2
      exact ⟨KO_below (Below.drewN0 _ k), fun _ _ => rfl, ⟨bthen HB.out (Below.drewN0 _ k) (Nat.le_refl _), hw4⟩, v, HV.out, by rw [HE1.out]; exact HO.out⟩
    · cases h2 : ((frameB (cutT x 32)).toList == (⟨#[10]⟩ ++ x : ByteArray).toList)
      · have HE := Lib.hid (show (pre ++ [x]).filterMap keepB = pre.filterMap keepB by simp [List.filterMap_append, keepB, h1, h2])
        gi_wp2_with fail
        refine ⟨trivial, CallsIn.inRound l ((callsIn_wide.2 (HC.out W hGW.out (by omega))).mono ?_)⟩
        rintro e w9 ⟨rfl, k, rfl⟩
        gi_wp2_with fail
        refine ⟨trivial, CallsIn.inRound l ((callsIn_wide.2 (frame_c _ _ (hGW.out.below (Below.drewN0 _ k)) (by omega))).mono ?_)⟩
        rintro e w8 ⟨rfl, hb8⟩
        have HB8 := Lib.hid ((Below.drewN0 W k).trans (hb8.mono (Nat.le_refl _)))
        clear hb8
        gi_wp2_with fail
        exact ⟨KO_below HB8.out, fun k hk => HB8.out.block k (by simp at hk; omega), ⟨bthen HB.out HB8.out (Nat.le_refl _), Nat.le_trans hw4 HB8.out.size⟩, v, blk_b HB8.out HV.out, by rw [HE.out]; exact own_keeps HO.out (Keeps.ofBelow (F := []) HB8.out) (by simp)⟩
      · have HE := Lib.hid (show (pre ++ [x]).filterMap keepB = pre.filterMap keepB ++ [cutT x 32] by simp [List.filterMap_append, keepB, h1, h2])
        gi_wp2_with fail
        refine ⟨trivial, CallsIn.inRound l ((callsIn_wide.2 (HC.out W hGW.out (by omega))).mono ?_)⟩
        rintro e w9 ⟨rfl, k, rfl⟩
        gi_wp2_with fail
        refine ⟨trivial, CallsIn.inRound l ((callsIn_wide.2 (frame_c _ _ (hGW.out.below (Below.drewN0 _ k)) (by omega))).mono ?_)⟩
        rintro e w8 ⟨rfl, hb8⟩
        have HB8 := Lib.hid ((Below.drewN0 W k).trans (hb8.mono (Nat.le_refl _)))
        clear hb8
        have hv8 := blk_b HB8.out HV.out
        obtain ⟨e1, e2, e3⟩ := blk1 hv8
        have HV8 := Lib.hid hv8
        have HO8 := Lib.hid (own_keeps HO.out (Keeps.ofBelow (F := []) HB8.out) (by simp))
        have hlen : (pre.filterMap keepB).length ≤ pre.length := List.length_filterMap_le _ _
        have hb8s := HB8.out.size
        clear hv8 g2 g3
        obtain ⟨i0, hi, hz0, hz1, hz2⟩ := info_parts Tryd.infoStr
        gi_wp2_with (gi_at_builtin; go_loud (refine wpListIn_append_own _ rfl _ _ 33 rfl (w.heap.size + 4) 9 i0 (.string ⟨#[]⟩) 1 16 Tryd.underlying33 hi hz0 hz1 hz2 rfl (by decide) _ _ _ rfl (HO8.out.alloc _) ⟨w8.heap.size, 0, none⟩ 1 1 [.string (cutT x 32)] rfl rfl (cell_one_new _ _ _) (by simp [Value.oneCell']) (by unfold maxLen; omega) (by omega) (by simp; omega) ?_); intro v' w2 hown' hgrow _; obtain ⟨g', cap', rfl⟩ := ownsRow_succ hown'; have hv2 := blk_grown (blk_alloc HV8.out _) hgrow (fun e => by have := (HO8.out.lt _ e).1; omega); obtain ⟨f1, f2, f3⟩ := blk1 hv2; have HV2 := Lib.hid hv2; have HO2 := Lib.hid hown'; have HG2 := Lib.hid hgrow; clear hv2 hown' hgrow)
        refine ⟨(KO_below HB8.out).trans ((KeepsOthers.alloc _ _).trans ((KeepsOthers.of_grownBy HG2.out (fun j o hj ho => ?_)).trans (KeepsOthers.setCell _ _ _))), fun k hk => ?_, ⟨?_, ?_⟩, _, blk_set HV2.out 0 _, ?_⟩
        · have := own_etype (HO8.out.alloc (.cells #[.string (cutT x 32)] 9)) j hj
          unfold etype at this
          rw [ho] at this
          cases o <;> simp [Obj.isCells] at this ⊢
        · have hk' : k < W.heap.size ∧ k < w.heap.size + 4 ∧ w.heap.size < k := by simp at hk; omega
          rw [Below.heap_setCell _ _ _ _ (by simp; omega), HG2.out.block k (by simp; omega) (fun e => by have := (HO8.out.lt _ e.symm).1; omega), Below.heap_alloc _ _ _ (by omega), HB8.out.block k hk'.1]
        · exact ((((bthen HB.out HB8.out (Nat.le_refl _)).alloc (by omega) _).grown HG2.out (by simp; omega) (fun j hj => by have := (HO8.out.lt _ hj).1; omega))).setCell (by simp) _
        · have := HG2.out.size; simp at this; simp [World.setCell]; omega
        · rw [HE.out, List.length_append, List.map_append]
          refine own_keeps HO2.out ((Keeps.refl [w.heap.size] _).setCell (by simp) _) (fun k hk => ?_)
          have := (HO2.out.lt _ hk).1
          simp; omega
  case done =>
    rintro D W hD ⟨⟨hbel, hw4⟩, v, hv, ho⟩ hK
    obtain ⟨g1, g2, g3⟩ := blk1 hv
    obtain ⟨A, c, hvf, _⟩ := RowAt.ofOwn ho
    have HO := Lib.hid ho
    have HB := Lib.hid hbel
    have HK := Lib.hid hK
    have HVF := Lib.hid hvf
    clear hv ho hbel hK hvf
    gi_wp2
    refine ⟨by simp, .inl ⟨_, _, rfl, run_takeDeferred HK.out, ?_⟩⟩
    refine ⟨_, results_tmp rfl _ _ _, _, rfl, ?_, ?_⟩
    · have := RowAt.ofOwn (HO.out.kept (grownBy_putObj' W D (.deferred none)) (by
        cases hv2 : v.ownBlock with
        | none => exact .inl rfl
        | some k =>
          right
          intro e
          have h1 := own_etype HO.out k hv2
          injection e with e
          unfold etype at h1
          rw [e, HK.out] at h1
          cases h1))
      exact this
    · exact HB.out.trans (Below.grown (Below.refl w.heap.size W) (grownBy_putObj' W D (.deferred none)) (by omega) (fun k hk => by cases hk; omega))
end Go.Proofs.YtjhahhpcpempgaaDoor
