/- The tape's Add, Fall, New. -/
import Derived.Test.YtjhahhpcpempgaaDoorTape2
set_option linter.unusedVariables false
set_option linter.unusedSimpArgs false
namespace Go.Proofs.YtjhahhpcpempgaaDoor
open Go.RowKit

def catAll (l : List ByteArray) : ByteArray := l.foldl (· ++ ·) mt
theorem catAll_snoc (l : List ByteArray) (k : Nat) (h : k < l.length) : catAll (l.take (k + 1)) = catAll (l.take k) ++ l[k] := by
  unfold catAll
  rw [List.take_succ_eq_append_getElem h, List.foldl_append]
  rfl
theorem fold_cat (l : List ByteArray) (a : ByteArray) : (l.foldl (· ++ ·) a).size = a.size + (l.map ByteArray.size).sum := by
  induction l generalizing a with
  | nil => simp
  | cons s l ih => simp only [List.foldl_cons, List.map_cons, List.sum_cons]; rw [ih, ByteArray.size_append]; omega
theorem catAll_size (l : List ByteArray) : (catAll l).size = (l.map ByteArray.size).sum := by
  rw [catAll, fold_cat]; show 0 + _ = _; omega
theorem catAll_take (l : List ByteArray) (k : Nat) (h : k < l.length) : (catAll (l.take k)).size + l[k].size ≤ (catAll l).size := by
  rw [← ByteArray.size_append, ← catAll_snoc l k h, catAll_size, catAll_size]
  conv => rhs; rw [← List.take_append_drop (k + 1) l]
  rw [List.map_append, List.sum_append]
  omega

def Tp.addFull (T : Tp) (n : Int) (m : ByteArray) : Bool := decide (T.room < ((T.now.app ⟨n, false, m⟩).size : Int))
def Tp.addT (T : Tp) (n : Int) (m : ByteArray) : Tp := if T.addFull n m then T else T.put ⟨n, false, m⟩
def Tp.addE (T : Tp) (n : Int) (m : ByteArray) : Int := if T.addFull n m then 15 else downE (T.put ⟨n, false, m⟩).down

set_option maxHeartbeats 800000 in
theorem Add_c (b : Nat) (F : List Nat) (T : Tp) (n : Int) (lv : Value) (l : List ByteArray) (w : World) (h : TAt b F T w) (hok : T.ok) (hd : T.down = false) (hn : n = 0 ∨ n = 1)
    (hl : RdStrs w lv l) (hsum : (catAll l).size ≤ 1099511627776) :
    Calls Tryd.prog 38 #[.pointer (some ⟨b, 0, none⟩), .int .i64 n, lv] w (Put b F (T.addT n (catAll l)) w (T.addE n (catAll l))) := by
  obtain ⟨A, c, rfl, hlc, hcm⟩ := hl.form
  have hFlt := h.lt
  have H := Lib.hid h
  have HOK := Lib.hid hok
  have HL := Lib.hid hl
  have HG := gate_up b F T n w h hd hn
  have HG' := Lib.hid HG
  have hN : (⟨n, false, mt⟩ : Chg).ok := hn
  have HN := Lib.hid hN
  have HFL := Lib.hid hFlt
  have hblt : b < w.heap.size := hFlt b h.mem
  unfold maxLen at hcm
  clear h hd hok HG hn hl hN hFlt
  obtain ⟨ll, hll⟩ : ∃ ll, l.length = ll := ⟨_, rfl⟩
  rw [hll] at hlc
  go_enter Tryd.func38, Tryd.ntmps38
  go_wp2_with fail
  refine HG'.out.mono ?_
  rintro e w1 ⟨rfl, rfl⟩
  rw [hll]
  have HLL := Lib.hid hll
  clear hll
  go_wp2
  go_loopw [21] (fun i wr => ∃ k : Nat, k ≤ ll ∧ i = .int .i64 k ∧ Below w.heap.size w wr ∧ wr.heap[w.heap.size]? = some (.cells #[.int .i64 n, .bool false, .string (catAll (l.take k))] 61 (0, 0))) (fun i _ => ll - (intOf i).toNat)
  case atStart =>
    exact ⟨0, Nat.zero_le _, rfl, (Below.refl _ _).alloc (Nat.le_refl _) _, blk_new w _⟩
  case round =>
    obtain ⟨k, hk, rfl, hbel, hc⟩ := hrel
    obtain ⟨m, hm⟩ : ∃ m, catAll (l.take k) = m := ⟨_, rfl⟩
    rw [hm] at hc
    by_cases hlt : k < ll
    · have hkl : k < l.length := by rw [HLL.out]; exact hlt
      have hsn := catAll_snoc l k hkl
      have hct := catAll_take l k hkl
      obtain ⟨x, hx⟩ : ∃ x, l[k] = x := ⟨_, rfl⟩
      rw [hx, hm] at hsn hct
      obtain ⟨g, o, rfl, hg, hcell⟩ := HL.out.cell hkl
      rw [hx] at hcell
      have hcr := (hbel.cell (p := ⟨g, o + k, none⟩) hg).trans hcell
      obtain ⟨c0, ⟨c1, c2, c3⟩, f1, f2, f3⟩ := blk3 hc
      have HS := Lib.hid hsn
      have HC := Lib.hid hc
      have hsz : m.size + x.size ≤ 9223372036854775807 := by omega
      clear hsn hx hcell hm hc hct
      go_wp2
      go_roundw
      case rel =>
        exact ⟨k + 1, by omega, by go_num, hbel.setCell (by simp) _, by rw [HS.out]; exact blk_set HC.out 2 _⟩
      case measure => simp [intOf]; omega
    · obtain rfl : k = ll := by omega
      have hcm2 : m = catAll l := by rw [← hm, ← HLL.out, List.take_length]
      subst hcm2
      have HC := Lib.hid hc
      clear hm hc
      have ht : TAt b F T wr := H.out.below hbel
      have HT := Lib.hid ht
      have hr : wr.cell? ⟨b, 3, none⟩ = some (.int .i64 T.room) := by
        obtain ⟨lv, _, hb, _⟩ := HT.out
        rw [blk_cell hb]; rfl
      obtain ⟨c0, ⟨c1, c2, c3⟩, f1, f2, f3⟩ := blk3 HC.out
      have hnow : T.now.size ≤ T.tot := fold_size _ _
      have happ := app_size T.now ⟨n, false, catAll l⟩
      obtain ⟨o1, o2, o3, o4, o5, o6⟩ := HOK.out
      have O1 := Lib.hid o1
      have hz1 : T.now.size + (catAll l).size ≤ 9223372036854775807 := by omega
      have hz2 : (T.now.app ⟨n, false, catAll l⟩).size ≤ 9223372036854775807 := by simp only at happ; omega
      clear o1 ht happ
      obtain ⟨Bc, hBc⟩ : ∃ B, B = w.heap.size := ⟨_, rfl⟩
      rw [← hBc] at c0 c1 c2 c3 f1 f2 f3 HC ⊢
      have HBC := Lib.hid hBc
      clear hBc
      have hbr : b < wr.heap.size := by have := hbel.size; omega
      have S0 := Lib.hid (show ∀ w', Below wr.heap.size wr w' → Below wr.heap.size wr w' ∧ w'.cell? ⟨b, 3, none⟩ = some (.int .i64 T.room) ∧ w'.cell? ⟨Bc, 0, none⟩ = some (.int .i64 n) ∧ w'.cell? ⟨Bc, 1, none⟩ = some (.bool false) ∧ w'.cell? ⟨Bc, 2, none⟩ = some (.string (catAll l)) from fun w' hb => ⟨hb, cellB hb hr, cellB hb c1, cellB hb c2, cellB hb c3⟩)
      cases hfull : T.addFull n (catAll l)
      · have hlt1 : ¬ T.room < ((T.now.app ⟨n, false, catAll l⟩).size : Int) := by simpa [Tp.addFull] using hfull
        have e1 := Lib.hid (show T.addT n (catAll l) = T.put ⟨n, false, catAll l⟩ by simp [Tp.addT, hfull])
        have e2 := Lib.hid (show T.addE n (catAll l) = downE (T.put ⟨n, false, catAll l⟩).down by simp [Tp.addE, hfull])
        clear hfull
        go_wp2_with fail
        go_region_held3 (fun w' => Below wr.heap.size wr w' ∧ w'.cell? ⟨b, 3, none⟩ = some (.int .i64 T.room) ∧ w'.cell? ⟨Bc, 0, none⟩ = some (.int .i64 n) ∧ w'.cell? ⟨Bc, 1, none⟩ = some (.bool false) ∧ w'.cell? ⟨Bc, 2, none⟩ = some (.string (catAll l))) (first | exact S0.out _ (bthen (‹Below wr.heap.size wr _ ∧ _›).1 (by assumption) (Nat.le_refl _)) | exact S0.out _ (Below.refl _ _).drew)
          (first | (go_at_call 27; refine (now_c b F T _ (HT.out.below (‹Below wr.heap.size wr _ ∧ _›).1) O1.out (by omega) (by omega)).mono ?_; rintro e w9 ⟨rfl, hb9⟩) | (go_at_call 42; refine (with_c T.now ⟨n, false, catAll l⟩ _ HN.out (by simp only; omega)).mono ?_; rintro e w9 ⟨rfl, hb9⟩) | (go_at_call 52; refine (size_c (T.now.app ⟨n, false, catAll l⟩) _ (by omega)).mono ?_; rintro e w9 ⟨rfl, hb9⟩))
        all_goals
          obtain ⟨hbw, d1, d2, d3, d4⟩ := ‹Below wr.heap.size wr _ ∧ _›
          have HBW := Lib.hid hbw
          clear hbw
          go_wp2_with fail
          refine (put_c b F T ⟨n, false, catAll l⟩ _ (HT.out.below HBW.out) HOK.out).mono ?_
          rintro e wz ⟨rfl, hp⟩
          go_wp2
          go_ret
          rw [e1.out, e2.out]
          obtain ⟨F', p1, p2, p3⟩ := hp
          refine ⟨rfl, F', p1, ((Keeps.ofBelow (F := F) hbel).trans (Keeps.ofBelow (F := F) HBW.out) (fun i hi => .inl hi)).trans p2 (fun i hi => .inl hi), fun i hi => ?_⟩
          have q1 := hbel.size
          have q2 := HBW.out.size
          rcases p3 i hi with q | q
          · exact .inl q
          · exact .inr (by omega)
      · have hlt1 : T.room < ((T.now.app ⟨n, false, catAll l⟩).size : Int) := by simpa [Tp.addFull] using hfull
        have e1 := Lib.hid (show T.addT n (catAll l) = T by simp [Tp.addT, hfull])
        have e2 := Lib.hid (show T.addE n (catAll l) = 15 by simp [Tp.addE, hfull])
        clear hfull
        go_wp2_with fail
        go_region_held3 (fun w' => Below wr.heap.size wr w' ∧ w'.cell? ⟨b, 3, none⟩ = some (.int .i64 T.room) ∧ w'.cell? ⟨Bc, 0, none⟩ = some (.int .i64 n) ∧ w'.cell? ⟨Bc, 1, none⟩ = some (.bool false) ∧ w'.cell? ⟨Bc, 2, none⟩ = some (.string (catAll l))) (first | exact S0.out _ (bthen (‹Below wr.heap.size wr _ ∧ _›).1 (by assumption) (Nat.le_refl _)) | exact S0.out _ (Below.refl _ _).drew)
          (first | (go_at_call 27; refine (now_c b F T _ (HT.out.below (‹Below wr.heap.size wr _ ∧ _›).1) O1.out (by omega) (by omega)).mono ?_; rintro e w9 ⟨rfl, hb9⟩) | (go_at_call 42; refine (with_c T.now ⟨n, false, catAll l⟩ _ HN.out (by simp only; omega)).mono ?_; rintro e w9 ⟨rfl, hb9⟩) | (go_at_call 52; refine (size_c (T.now.app ⟨n, false, catAll l⟩) _ (by omega)).mono ?_; rintro e w9 ⟨rfl, hb9⟩))
        all_goals
          obtain ⟨hbw, d1, d2, d3, d4⟩ := ‹Below wr.heap.size wr _ ∧ _›
          have HBW := Lib.hid hbw
          clear hbw
          go_wp2
          go_ret
          rw [e1.out, e2.out]
          exact ⟨rfl, F, HT.out.below HBW.out, (Keeps.ofBelow (F := F) hbel).trans (Keeps.ofBelow (F := F) HBW.out) (fun i hi => .inl hi), fun i hi => .inl hi⟩

structure Pl where
  room : Int
  crash : Int
  keep : Int
  torn : Int
def Pl.v (p : Pl) : Value := .agg #[.int .i64 p.room, .int .i64 p.crash, .int .i64 p.keep, .int .i64 p.torn]
def tornIn (l : List Chg) (torn : Int) : List Chg := match l with
  | [] => []
  | c :: _ => if c.wipe then [] else [{ c with more := c.more.extract 0 (partOf torn c.more.size) }]
def fallLoose (l : List Chg) (p : Pl) : List Chg := l.take (partOf p.keep l.length) ++ tornIn (l.drop (partOf p.keep l.length)) p.torn
def Tp.fall (T : Tp) (p : Pl) : Tp := { s := (fallLoose T.loose p).foldl Sd.app T.s, loose := [], room := p.room, crash := p.crash, keep := p.keep, torn := p.torn, calls := 0, down := false }
def Tp.new (p : Pl) : Tp := { s := ⟨mt, mt⟩, loose := [], room := p.room, crash := p.crash, keep := p.keep, torn := p.torn, calls := 0, down := false }

theorem New_c (p : Pl) (w : World) : Calls Tryd.prog 6 #[.agg #[.int .i64 p.room, .int .i64 p.crash, .int .i64 p.keep, .int .i64 p.torn]] w fun e w' =>
    e = .returned (.pointer (some ⟨w.heap.size + 1, 0, none⟩)) ∧ TAt (w.heap.size + 1) [w.heap.size + 1] (Tp.new p) w' ∧ Below w.heap.size w w' := by
  go_enter Tryd.func6, Tryd.ntmps6
  go_wp2
  go_ret
  refine ⟨rfl, ⟨.slice none 0 0, rfl, ?_, World.ownsRow_nil _ _ _ _⟩, ((Below.refl _ _).alloc (Nat.le_refl _) _).alloc (by simp) _⟩
  have := blk_new (w.alloc (.cells #[.int .i64 p.room, .int .i64 p.crash, .int .i64 p.keep, .int .i64 p.torn] 28)) (.cells #[.string mt, .string mt, .slice none 0 0, .int .i64 p.room, .int .i64 p.crash, .int .i64 p.keep, .int .i64 p.torn, .int .i64 0, .bool false] 48)
  rw [World.size_alloc] at this
  exact this

theorem Down_c (b : Nat) (F : List Nat) (T : Tp) (w : World) (h : TAt b F T w) : Calls Tryd.prog 8 #[.pointer (some ⟨b, 0, none⟩)] w fun e w' => e = .returned (.bool T.down) ∧ w = w' := by
  obtain ⟨lv, hF, hb, hown⟩ := h
  obtain ⟨hlt, ⟨_, _, _, _, _, _, _, _, h8⟩, _⟩ := blk9 hb
  clear hF hb hown
  go_enter Tryd.func8, Tryd.ntmps8
  go_wp2
  go_ret
  exact ⟨rfl, rfl⟩

theorem chgSize : ∀ w, (sizeOf 61).run Tryd.prog w = .ok 3 w := fun _ => by kernel_rfl

theorem flat_take (l : List Chg) (k : Nat) : (l.take k).flatMap chgCells = (l.flatMap chgCells).take (k * 3) := by
  induction l generalizing k with
  | nil => simp
  | cons c l ih =>
    cases k with
    | zero => simp
    | succ k =>
      have h3 : (chgCells c).length = 3 := rfl
      simp only [List.take_succ_cons, List.flatMap_cons, ih]
      rw [List.take_append, List.take_of_length_le (l := chgCells c) (by omega), h3, show (k + 1) * 3 - 3 = k * 3 by omega]

end Go.Proofs.YtjhahhpcpempgaaDoor
