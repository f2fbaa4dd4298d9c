/- The tape: what its functions compute, and that they do. -/
import Derived.Test.YtjhahhpcpempgaaDoorBase
set_option linter.unusedVariables false
set_option linter.unusedSimpArgs false
namespace Go.Proofs.YtjhahhpcpempgaaDoor
open Go.RowKit

structure Chg where
  side : Int
  wipe : Bool
  more : ByteArray
structure Sd where
  a : ByteArray
  b : ByteArray
structure Tp where
  s : Sd
  loose : List Chg
  room : Int
  crash : Int
  keep : Int
  torn : Int
  calls : Int
  down : Bool

def mt : ByteArray := ⟨#[]⟩
def Sd.app (s : Sd) (c : Chg) : Sd :=
  if c.side = 0 then ⟨(if c.wipe then mt else s.a) ++ c.more, s.b⟩ else ⟨s.a, (if c.wipe then mt else s.b) ++ c.more⟩
def Sd.size (s : Sd) : Nat := s.a.size + s.b.size
def Tp.now (T : Tp) : Sd := T.loose.foldl Sd.app T.s
def moreSum : List Chg → Nat
  | [] => 0
  | c :: l => c.more.size + moreSum l
def Tp.tot (T : Tp) : Nat := T.s.size + moreSum T.loose
def Chg.ok (c : Chg) : Prop := c.side = 0 ∨ c.side = 1

def chgCells (c : Chg) : List Value := [.int .i64 c.side, .bool c.wipe, .string c.more]

theorem Num_c (n : Int) (w : World) : Calls Tryd.prog 13 #[.int .i64 n] w fun e w' => e = .returned (.int .i64 n) ∧ w = w' := by
  go_enter Tryd.func13, Tryd.ntmps13
  go_wp2
  go_ret
  exact ⟨rfl, rfl⟩

theorem ret_v {u v : Value} (h : u = v) : Ending.returned u = .returned v := by rw [h]

theorem with_c (s : Sd) (c : Chg) (w : World) (hc : c.ok) (hs : s.size + c.more.size ≤ 9223372036854775807) :
    Calls Tryd.prog 42 #[.agg #[.string s.a, .string s.b], .agg #[.int .i64 c.side, .bool c.wipe, .string c.more]] w fun e w' => e = .returned (.agg #[.string (s.app c).a, .string (s.app c).b]) ∧ Below w.heap.size w w' := by
  obtain ⟨a, b⟩ := s
  obtain ⟨n, wp, m⟩ := c
  simp only [Sd.size] at hs
  have hm : m.size ≤ 9223372036854775807 := by omega
  have ha : a.size + m.size ≤ 9223372036854775807 := by omega
  have hb : b.size + m.size ≤ 9223372036854775807 := by omega
  clear hs
  rcases hc with hc | hc <;> simp only at hc <;> subst hc <;> cases wp
  all_goals
    go_enter Tryd.func42, Tryd.ntmps42
    go_wp2
    go_region
    go_wp2
    refine bodyPost_ret (v := _) (by simp [results, Tryd.results42, go_sem]; exact ⟨rfl, rfl⟩) rfl ⟨rfl, ?_⟩
    exact ((((Below.refl _ _).alloc (Nat.le_refl _) _).alloc (by simp) _).alloc (by simp; omega) _).drew

theorem size_c (s : Sd) (w : World) (hs : s.size ≤ 9223372036854775807) :
    Calls Tryd.prog 52 #[.agg #[.string s.a, .string s.b]] w fun e w' => e = .returned (.int .i64 s.size) ∧ Below w.heap.size w w' := by
  obtain ⟨a, b⟩ := s
  simp only [Sd.size] at *
  have i0 : ∀ w, (Instr.index 45 (.agg #[.string a, .string b]) (.int .i64 0)).run Tryd.prog w = .ok (.string a) w := fun _ => by kernel_rfl
  have i1 : ∀ w, (Instr.index 45 (.agg #[.string a, .string b]) (.int .i64 1)).run Tryd.prog w = .ok (.string b) w := fun _ => by kernel_rfl
  go_enter Tryd.func52, Tryd.ntmps52
  go_wp2
  refine wp_loop_rounds 3 ?_
  rw [rounds_succ]
  go_wp2
  rw [rounds_succ]
  go_wp2
  rw [rounds_succ]
  go_wp2
  go_ret
  exact ⟨by simp, (Below.refl _ _).alloc (Nat.le_refl _) _⟩

/-- A tape at block b; F: the blocks that it alone holds. -/
def TAt (b : Nat) (F : List Nat) (T : Tp) (w : World) : Prop :=
  ∃ lv, F = b :: lv.ownBlock.toList ∧
    w.heap[b]? = some (.cells #[.string T.s.a, .string T.s.b, lv, .int .i64 T.room, .int .i64 T.crash, .int .i64 T.keep, .int .i64 T.torn, .int .i64 T.calls, .bool T.down] 48 (0, 0)) ∧
    w.ownsRow 0 61 3 lv T.loose.length (T.loose.flatMap chgCells)

theorem flat_len (l : List Chg) : (l.flatMap chgCells).length = l.length * 3 := by
  induction l with
  | nil => rfl
  | cons c l ih => simp [List.flatMap_cons, chgCells, ih]; omega
theorem flat_get (l : List Chg) (i j : Nat) (hi : i < l.length) (hj : j < 3) : (l.flatMap chgCells)[i * 3 + j]? = (chgCells l[i])[j]? := by
  induction l generalizing i with
  | nil => simp at hi
  | cons c l ih =>
    rw [List.flatMap_cons]
    cases i with
    | zero => rw [List.getElem?_append_left (by simp [chgCells]; omega)]; simp
    | succ i =>
      rw [List.getElem?_append_right (by simp [chgCells]; omega)]
      have : (i + 1) * 3 + j - (chgCells c).length = i * 3 + j := by simp [chgCells]; omega
      rw [this, ih i (by simpa using hi)]
      simp

theorem now_snoc (l : List Chg) (k : Nat) (h : k < l.length) (s : Sd) : (l.take (k + 1)).foldl Sd.app s = ((l.take k).foldl Sd.app s).app l[k] := by
  rw [List.take_succ_eq_append_getElem h, List.foldl_append]
  rfl
theorem app_size (s : Sd) (c : Chg) : (s.app c).size ≤ s.size + c.more.size := by
  have h0 : mt.size = 0 := rfl
  unfold Sd.app Sd.size
  split <;> cases c.wipe <;> simp only [if_true, if_false, Bool.false_eq_true, ByteArray.size_append] <;> omega
theorem fold_size (l : List Chg) (s : Sd) : (l.foldl Sd.app s).size ≤ s.size + moreSum l := by
  induction l generalizing s with
  | nil => simp [moreSum]
  | cons c l ih =>
    simp only [List.foldl_cons, moreSum]
    have := ih (s.app c)
    have := app_size s c
    omega
theorem more_take (l : List Chg) (k : Nat) (h : k < l.length) : moreSum (l.take k) + l[k].more.size ≤ moreSum l := by
  induction l generalizing k with
  | nil => simp at h
  | cons c l ih =>
    cases k with
    | zero => simp [moreSum]
    | succ k =>
      have := ih k (by simpa using h)
      simp only [List.take_succ_cons, moreSum, List.getElem_cons_succ]
      omega

theorem TAt.ft {b : Nat} {F : List Nat} {T : Tp} {w : World} (h : TAt b F T w) : FT F w := by
  obtain ⟨lv, rfl, hb, hown⟩ := h
  intro k hk
  rcases List.mem_cons.1 hk with rfl | hk
  · exact ⟨_, by decide, etype_of hb⟩
  · exact ⟨_, by decide, own_etype hown k (by simpa using hk)⟩
theorem TAt.lt {b : Nat} {F : List Nat} {T : Tp} {w : World} (h : TAt b F T w) : ∀ k, k ∈ F → k < w.heap.size := by
  intro k hk
  obtain ⟨e, _, he⟩ := h.ft k hk
  unfold etype at he
  split at he
  · rename_i h1; exact blk_lt h1
  · cases he
theorem TAt.mem {b : Nat} {F : List Nat} {T : Tp} {w : World} (h : TAt b F T w) : b ∈ F := by
  obtain ⟨lv, rfl, hb, hown⟩ := h
  simp
theorem TAt.keeps {b : Nat} {F G : List Nat} {T : Tp} {w w' : World} (h : TAt b F T w) (hk : Keeps G w w') (hd : ∀ k, k ∈ F → k ∉ G) : TAt b F T w' := by
  obtain ⟨lv, rfl, hb, hown⟩ := h
  exact ⟨lv, rfl, blk_keeps hb hk (hd _ (by simp)), own_keeps hown hk fun k hk => hd k (by simp [hk])⟩
theorem TAt.below {b : Nat} {F : List Nat} {T : Tp} {w w' : World} (h : TAt b F T w) (hk : Below w.heap.size w w') : TAt b F T w' :=
  h.keeps (Keeps.ofBelow (F := []) hk) (fun _ _ q => by simp at q)
/-- The tape's own block was written, its changes were not. -/
theorem TAt.set {b : Nat} {lv : Value} {T T' : Tp} {w w' : World} (hb : w.heap[b]? = some (.cells #[.string T.s.a, .string T.s.b, lv, .int .i64 T.room, .int .i64 T.crash, .int .i64 T.keep, .int .i64 T.torn, .int .i64 T.calls, .bool T.down] 48 (0, 0)))
    (hown : w.ownsRow 0 61 3 lv T.loose.length (T.loose.flatMap chgCells)) (hl : T'.loose = T.loose) (hk : Keeps [b] w w')
    (hb' : w'.heap[b]? = some (.cells #[.string T'.s.a, .string T'.s.b, lv, .int .i64 T'.room, .int .i64 T'.crash, .int .i64 T'.keep, .int .i64 T'.torn, .int .i64 T'.calls, .bool T'.down] 48 (0, 0))) :
    TAt b (b :: lv.ownBlock.toList) T' w' :=
  ⟨lv, rfl, hb', by rw [hl]; exact own_keeps hown hk fun k hk => by simpa using own_ne hown hb (by decide) k hk⟩

theorem chg_row {w : World} {base n c : Nat} {A : Option Addr} {l : List Chg} (h : w.ownsRow base 61 3 (.slice A n c) l.length (l.flatMap chgCells)) {k : Nat} (hk : k < l.length) :
    ∃ g o, A = some ⟨g, o, none⟩ ∧ g < w.heap.size ∧ w.cell? ⟨g, o + k * 3, none⟩ = some (.int .i64 l[k].side) ∧ w.cell? ⟨g, o + k * 3 + 1, none⟩ = some (.bool l[k].wipe) ∧ w.cell? ⟨g, o + k * 3 + 2, none⟩ = some (.string l[k].more) := by
  obtain ⟨A', c', hv, _, _, _, hr⟩ := RowAt.ofOwn h
  injection hv with hA _ _
  subst hA
  rcases hr with hr | ⟨g, o, cells, fr, hA, hg, hj⟩
  · omega
  · refine ⟨g, o, hA, blk_lt hg, ?_, ?_, ?_⟩
    · rw [blk_cell hg, hj _ (by omega), show k * 3 = k * 3 + 0 from rfl, flat_get _ _ _ hk (by decide)]; rfl
    · rw [blk_cell hg, Nat.add_assoc, hj _ (by omega), flat_get _ _ _ hk (by decide)]; rfl
    · rw [blk_cell hg, Nat.add_assoc, hj _ (by omega), flat_get _ _ _ hk (by decide)]; rfl

theorem now_c (b : Nat) (F : List Nat) (T : Tp) (w : World) (h : TAt b F T w) (hok : ∀ c, c ∈ T.loose → c.ok) (htot : T.tot ≤ 1152921504606846976) (hn : T.loose.length ≤ 1152921504606846976) :
    Calls Tryd.prog 27 #[.pointer (some ⟨b, 0, none⟩)] w fun e w' => e = .returned (.agg #[.string T.now.a, .string T.now.b]) ∧ Below w.heap.size w w' := by
  obtain ⟨lv, hF, hb, hown⟩ := h
  obtain ⟨A, c, rfl, hnc, hcm⟩ : ∃ A c, lv = .slice A T.loose.length c ∧ T.loose.length ≤ c ∧ c ≤ maxLen := by
    obtain ⟨A, c, h1, h2, h3, _⟩ := RowAt.ofOwn hown
    exact ⟨A, c, h1, h2, h3⟩
  have hblt := blk_lt hb
  have h0 := blk_cell hb 0
  have h1 := blk_cell hb 1
  have h2 := blk_cell hb 2
  simp at h0 h1 h2
  have HF := Lib.hid hF
  have HB := Lib.hid hb
  have HO := Lib.hid hown
  have HK := Lib.hid hok
  obtain ⟨s, loose, r1, r2, r3, r4, r5, r6⟩ := T
  obtain ⟨a0, b0⟩ := s
  simp only at *
  obtain ⟨n, hn'⟩ : ∃ n, loose.length = n := ⟨_, rfl⟩
  rw [hn'] at hnc hn h2
  clear hF hb hown hok
  have HN := Lib.hid hn'
  clear hn'
  go_enter Tryd.func27, Tryd.ntmps27
  go_wp2
  go_loopw [15] (fun i wr => ∃ k : Nat, k ≤ n ∧ i = .int .i64 k ∧ Below w.heap.size w wr ∧
      (∃ cs, wr.heap[w.heap.size]? = some (.cells #[.string ⟨#[]⟩, .string ⟨#[]⟩] 45 (0, 0)) ∧ cs = (loose.take k).foldl Sd.app ⟨a0, b0⟩ ∧ wr.heap[w.heap.size + 1]? = some (.cells #[.string cs.a, .string cs.b] 45 (0, 0)))) (fun i _ => n - (intOf i).toNat)
  case atStart =>
    refine ⟨0, Nat.zero_le _, rfl, (((Below.refl _ _).alloc (Nat.le_refl _) _).alloc (by simp) _), ⟨a0, b0⟩, ?_, rfl, ?_⟩
    · exact blk_alloc (blk_new w _) _
    · have := blk_new (w.alloc (.cells #[.string ⟨#[]⟩, .string ⟨#[]⟩] 45 (0, 0))) (.cells #[.string a0, .string b0] 45 (0, 0))
      simpa using this
  case round =>
    obtain ⟨k, hk, rfl, hbel, cs, hr, hcs, hs⟩ := hrel
    have hle := fold_size (loose.take k) ⟨a0, b0⟩
    rw [← hcs] at hle
    by_cases hlt : k < n
    · have hl : k < loose.length := by rw [HN.out]; exact hlt
      obtain ⟨x, hx⟩ : ∃ x, loose[k] = x := ⟨_, rfl⟩
      have hsn : cs.app x = (loose.take (k + 1)).foldl Sd.app ⟨a0, b0⟩ := by rw [now_snoc _ _ hl, ← hcs, hx]
      have hmo := more_take loose k hl
      rw [hx] at hmo
      have hx2 : x.ok := hx ▸ HK.out _ (List.getElem_mem hl)
      obtain ⟨g, o, rfl, hg, hc0, hc1, hc2⟩ := chg_row HO.out hl
      rw [hx] at hc0 hc1 hc2
      have hw0 := (hbel.cell (p := ⟨g, o + k * 3, none⟩) hg).trans hc0
      have hw1 := (hbel.cell (p := ⟨g, o + k * 3 + 1, none⟩) hg).trans hc1
      have hw2 := (hbel.cell (p := ⟨g, o + k * 3 + 2, none⟩) hg).trans hc2
      have HS := Lib.hid hsn
      have HC := Lib.hid hcs
      clear hsn hcs hx hc0 hc1 hc2
      obtain ⟨hs2, ⟨hs0, hs1⟩, hsf0, hsf1⟩ := blk2 hs
      have HSB := Lib.hid hs
      have HRB := Lib.hid hr
      clear hs hr
      have hsz := hbel.size
      go_wp2_with fail
      refine (with_c cs x _ hx2 ?_).mono ?_
      · simp only [Tp.tot] at htot
        omega
      rintro e w1 ⟨rfl, hb1⟩
      have hs' := blk_below (blk_alloc HSB.out _) hb1
      have hr' := blk_below (blk_alloc HRB.out _) hb1
      obtain ⟨hs2', ⟨hs0', hs1'⟩, hsf0', hsf1'⟩ := blk2 hs'
      have HSB' := Lib.hid hs'
      have HRB' := Lib.hid hr'
      have HB1 := Lib.hid hb1
      clear hs' hr' hb1
      go_wp2
      go_roundw
      case rel =>
        refine ⟨k + 1, by omega, by go_num, ?_, cs.app x, ?_, HS.out, ?_⟩
        · exact ((hbel.trans ((((Below.refl _ _).alloc (by omega) _).trans (HB1.out.mono (by simp; omega))))).setCell (by simp) _).setCell (by simp) _
        · exact blk_far (blk_far HRB'.out (by simp) _) (by simp) _
        · exact blk_set (blk_set HSB'.out 0 _) 1 _
      case measure => simp [intOf]; omega
    · obtain rfl : k = n := by omega
      have hx : List.take k loose = loose := by rw [← HN.out, List.take_length]
      rw [hx] at hcs
      have HC := Lib.hid hcs
      obtain ⟨hs2, ⟨hs0, hs1⟩, hsf0, hsf1⟩ := blk2 hs
      obtain ⟨hr2, ⟨hr0, hr1⟩, hrf0, hrf1⟩ := blk2 hr
      clear hcs hx hs hr
      go_wp2
      refine bodyPost_ret (v := _) (by simp [results, Tryd.results27, go_sem, hr0, hr1]; rfl) rfl ⟨?_, ?_⟩
      · simp only [Tp.now]; rw [← HC.out]
      · exact (hbel.setCell (by simp) _).setCell (by simp) _

theorem part_neg (n m : Int) (w : World) (hn : n < 0) : Calls Tryd.prog 26 #[.int .i64 n, .int .i64 m] w fun e w' => e = .returned (.int .i64 0) ∧ w = w' := by
  go_enter Tryd.func26, Tryd.ntmps26
  go_wp2
  go_ret
  exact ⟨rfl, rfl⟩
/-- So much of n as goes into what there is. -/
def partOf (n : Int) (there : Nat) : Nat := if n < 0 then 0 else (n % ((there : Int) + 1)).toNat
theorem partOf_le (n : Int) (t : Nat) : partOf n t ≤ t := by
  unfold partOf
  split
  · omega
  · have h1 := Int.emod_lt_of_pos n (show (0 : Int) < (t : Int) + 1 by omega)
    have h2 := Int.emod_nonneg n (show ((t : Int) + 1) ≠ 0 by omega)
    omega
theorem part_c (n : Int) (t : Nat) (w : World) (hn : n ≤ 9223372036854775807) (ht : t ≤ 4611686018427387904) : Calls Tryd.prog 26 #[.int .i64 n, .int .i64 t] w fun e w' => e = .returned (.int .i64 (partOf n t)) ∧ w = w' := by
  by_cases h : n < 0
  · refine (part_neg n t w h).mono ?_
    rintro e w' ⟨rfl, rfl⟩
    exact ⟨by simp [partOf, h], rfl⟩
  · have h2 : ((partOf n t : Nat) : Int) = n % ((t : Int) + 1) := by
      have := Int.emod_nonneg n (show ((t : Int) + 1) ≠ 0 by omega)
      simp only [partOf, if_neg h]; omega
    have H2 := Lib.hid h2
    clear h2
    have h0 : 0 ≤ n := by omega
    have h3 : ¬ ((t : Int) + 1 = 0) := by omega
    go_enter Tryd.func26, Tryd.ntmps26
    go_wp2
    go_ret
    exact ⟨by rw [H2.out]; rfl, rfl⟩

theorem gate_c (b : Nat) (F : List Nat) (T : Tp) (n : Int) (w : World) (h : TAt b F T w) :
    Calls Tryd.prog 28 #[.pointer (some ⟨b, 0, none⟩), .int .i64 n] w fun e w' => e = .returned (.int .i64 (if T.down then 16 else if n < 0 ∨ n ≥ 2 then 1 else 0)) ∧ w = w' := by
  obtain ⟨lv, hF, hb, hown⟩ := h
  obtain ⟨hlt, ⟨_, _, _, _, _, _, _, _, h8⟩, _⟩ := blk9 hb
  cases hd : T.down
  · rw [hd] at h8
    by_cases h1 : n < 0
    · clear hd hb hF hown
      go_enter Tryd.func28, Tryd.ntmps28
      go_wp2
      go_ret
      exact ⟨by simp [h1], rfl⟩
    · by_cases h2 : n ≥ 2
      · clear hd hb hF hown
        go_enter Tryd.func28, Tryd.ntmps28
        go_wp2
        go_ret
        exact ⟨by simp [h2], rfl⟩
      · clear hd hb hF hown
        have h3 : n < 2 := by omega
        go_enter Tryd.func28, Tryd.ntmps28
        go_wp2
        go_ret
        exact ⟨by simp [h2, h1], rfl⟩
  · rw [hd] at h8
    clear hd hb hF hown
    go_enter Tryd.func28, Tryd.ntmps28
    go_wp2
    go_ret
    exact ⟨by simp, rfl⟩
end Go.Proofs.YtjhahhpcpempgaaDoor
