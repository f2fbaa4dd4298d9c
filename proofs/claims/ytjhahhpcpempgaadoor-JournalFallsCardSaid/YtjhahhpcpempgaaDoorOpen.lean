/- The journal's state; Open. -/
import Derived.Test.YtjhahhpcpempgaaDoorRead
set_option linter.unusedVariables false
set_option linter.unusedSimpArgs false
namespace Go.Proofs.YtjhahhpcpempgaaDoor
open Go.RowKit

structure Jn where
  side : Int
  turn : Int
  lines : List ByteArray
  dead : Bool

/-- A journal at block jb, of the tape at block b. -/
def JAt (jb b : Nat) (J : Jn) (w : World) : Prop :=
  ∃ lv, w.heap[jb]? = some (.cells #[.pointer (some ⟨b, 0, none⟩), .int .i64 J.side, .int .i64 J.turn, lv, .bool J.dead] 50 (0, 0)) ∧ RdStrs w lv J.lines
theorem JAt.lt {jb b : Nat} {J : Jn} {w : World} (h : JAt jb b J w) : jb < w.heap.size := by obtain ⟨lv, hb, _⟩ := h; exact blk_lt hb
theorem JAt.ft {jb b : Nat} {J : Jn} {w : World} (h : JAt jb b J w) : FT [jb] w := by
  obtain ⟨lv, hb, _⟩ := h
  intro k hk
  simp at hk; subst hk
  exact ⟨_, by decide, etype_of hb⟩
theorem JAt.keeps {jb b : Nat} {J : Jn} {F : List Nat} {w w' : World} (h : JAt jb b J w) (hk : Keeps F w w') (hF : FT F w) (hn : jb ∉ F) : JAt jb b J w' := by
  obtain ⟨lv, hb, hl⟩ := h
  exact ⟨lv, blk_keeps hb hk hn, hl.keeps hk hF⟩
theorem JAt.below {jb b : Nat} {J : Jn} {w w' : World} (h : JAt jb b J w) (hk : Below w.heap.size w w') : JAt jb b J w' := by
  obtain ⟨lv, hb, hl⟩ := h
  exact ⟨lv, blk_below hb hk, hl.below hk⟩
/-- A tape and a journal lie apart. -/
theorem JAt.apart {jb b b' : Nat} {F : List Nat} {J : Jn} {T : Tp} {w : World} (h : JAt jb b' J w) (ht : TAt b F T w) : jb ∉ F := by
  obtain ⟨lv, hb, _⟩ := h
  obtain ⟨lv', rfl, hb', hown⟩ := ht
  intro hm
  rcases List.mem_cons.1 hm with rfl | hm
  · rw [hb] at hb'
    injection hb' with hb'
    injection hb' with _ e
    revert e; decide
  · have := own_etype hown jb (by simpa using hm)
    rw [etype_of hb] at this
    revert this; decide

def openStep (J : Jn) (n : Int) (r : Int × List ByteArray) : Jn := if J.turn < r.1 then { J with side := n, turn := r.1, lines := r.2 } else J
def openK (T : Tp) : Nat → Jn
  | 0 => { side := 0, turn := 0, lines := [], dead := false }
  | k + 1 => openStep (openK T k) k (readB (T.side k))
def openJ (T : Tp) : Jn := openK T 2

theorem side_size (T : Tp) (n : Int) : (T.side n).size ≤ T.tot := by
  have h1 : T.now.size ≤ T.tot := fold_size _ _
  unfold Tp.side
  unfold Sd.size at h1
  split <;> omega
theorem readB_turn (s : ByteArray) : -9223372036854775808 ≤ (readB s).1 ∧ (readB s).1 ≤ 9223372036854775807 := by
  unfold readB
  split
  · simp
  · exact atoiV_bounds _

def OpenPost (b : Nat) (T : Tp) (w : World) (e : Ending) (w' : World) : Prop :=
  ∃ jb, e = .returned (.tuple #[.pointer (some ⟨jb, 0, none⟩), .int .i64 0]) ∧ w.heap.size ≤ jb ∧ JAt jb b (openJ T) w' ∧ Below w.heap.size w w'

theorem Open_down (b : Nat) (F : List Nat) (T : Tp) (w : World) (h : TAt b F T w) (hd : T.down = true) :
    Calls Tryd.prog 7 #[.pointer (some ⟨b, 0, none⟩)] w fun e w' => e = .returned (.tuple #[.pointer none, .int .i64 16]) ∧ Below w.heap.size w w' := by
  have H := Lib.hid (Side_down b F T 0 _ (h.below ((Below.refl _ w).alloc (Nat.le_refl _) (.cells #[.pointer (some ⟨b, 0, none⟩), .int .i64 0, .int .i64 0, .slice none 0 0, .bool false] 50))) hd)
  clear h hd
  go_enter Tryd.func7, Tryd.ntmps7
  go_wp2
  refine wp_loop_rounds 1 ?_
  rw [rounds_succ]
  go_wp2_with fail
  refine H.out.mono ?_
  rintro e w1 ⟨rfl, rfl⟩
  go_wp2
  go_ret2
  exact ⟨rfl, (Below.refl _ _).alloc (Nat.le_refl _) _⟩

set_option maxHeartbeats 1600000 in
theorem Open_c (b : Nat) (F : List Nat) (T : Tp) (w : World) (h : TAt b F T w) (hok : T.ok) (hd : T.down = false) (htot : T.tot ≤ 1073741824) (hG : Glob w) :
    Calls Tryd.prog 7 #[.pointer (some ⟨b, 0, none⟩)] w (OpenPost b T w) := by
  have HT := Lib.hid h
  have HOK := Lib.hid hok
  have HD := Lib.hid hd
  have HG := Lib.hid hG
  clear h hok hd hG
  go_enter Tryd.func7, Tryd.ntmps7
  go_wp2
  go_loopw [13] (fun i wr => ∃ k : Nat, k ≤ 2 ∧ i = .int .i64 k ∧ JAt w.heap.size b (openK T k) wr ∧ Below w.heap.size w wr) (fun i _ => 2 - (intOf i).toNat)
  case atStart =>
    exact ⟨0, by omega, rfl, ⟨.slice none 0 0, blk_new w _, RdStrs.nil _⟩, (Below.refl _ _).alloc (Nat.le_refl _) _⟩
  case round =>
    obtain ⟨k, hk, rfl, hj, hbel⟩ := hrel
    by_cases hlt : k < 2
    · obtain ⟨J, hJ⟩ : ∃ J, openK T k = J := ⟨_, rfl⟩
      rw [hJ] at hj
      have hJ1 : openK T (k + 1) = openStep J k (readB (T.side k)) := by rw [← hJ]; rfl
      have hjf := hj.ft
      obtain ⟨lv, hb, hrd⟩ := hj
      obtain ⟨j0, ⟨j1, j2, j3, j4, j5⟩, j6⟩ := blk5 hb
      have HJB := Lib.hid hb
      have HRD := Lib.hid hrd
      have HJ1 := Lib.hid hJ1
      have HFT := Lib.hid hjf
      clear hb hrd hJ hJ1 hjf
      go_wp2_with fail
      refine (Side_c b F T k _ (HT.out.below hbel) HOK.out HD.out (by omega)).mono ?_
      rintro e w1 ⟨rfl, hb1⟩
      have HB1 := Lib.hid (bthen hbel hb1 (Nat.le_refl _))
      have h1 := blk_b hb1 HJB.out
      have HRD1 := Lib.hid (HRD.out.below hb1)
      clear hb1 j0 j1 j2 j3 j4 j5 j6
      have HJB1 := Lib.hid h1
      clear h1
      have hss := side_size T k
      go_wp2_with fail
      refine (read_c (T.side k) _ (HG.out.below HB1.out) (by omega)).mono ?_
      rintro e w2 ⟨v, rfl, hrv, hb2⟩
      obtain ⟨A, c, rfl, _⟩ := hrv.form
      have HB2 := Lib.hid (bthen HB1.out hb2 (Nat.le_refl _))
      have h2 := blk_b hb2 HJB1.out
      have HRD2 := Lib.hid (HRD1.out.below hb2)
      have HRV := Lib.hid hrv
      have HFT2 := Lib.hid (JAt.ft (b := b) (J := J) ⟨_, h2, HRD2.out⟩)
      obtain ⟨j0, ⟨j1, j2, j3, j4, j5⟩, j6⟩ := blk5 h2
      have HJB2 := Lib.hid h2
      clear hb2 hrv h2
      by_cases ht : J.turn < (readB (T.side k)).1
      · have E := Lib.hid (show openStep J k (readB (T.side k)) = { J with side := k, turn := (readB (T.side k)).1, lines := (readB (T.side k)).2 } by simp [openStep, ht])
        go_wp2
        go_roundw
        case rel =>
          refine ⟨k + 1, by omega, by go_num, ?_, ((HB2.out.setCell (by simp) _).setCell (by simp) _).setCell (by simp) _⟩
          rw [HJ1.out, E.out]
          exact ⟨_, blk_set (blk_set (blk_set HJB2.out 1 _) 2 _) 3 _, HRV.out.keeps ((((Keeps.refl [w.heap.size] _).setCell (by simp) _).setCell (by simp) _).setCell (by simp) _) HFT2.out⟩
        case measure => simp [intOf]; omega
      · have E := Lib.hid (show openStep J k (readB (T.side k)) = J by simp [openStep, ht])
        go_wp2
        go_roundw
        case rel =>
          refine ⟨k + 1, by omega, by go_num, ?_, HB2.out⟩
          rw [HJ1.out, E.out]
          exact ⟨_, HJB2.out, HRD2.out⟩
        case measure => simp [intOf]; omega
    · obtain rfl : k = 2 := by omega
      have HJ := Lib.hid hj
      clear hj
      go_wp2
      go_ret2
      exact ⟨w.heap.size, rfl, Nat.le_refl _, HJ.out, hbel⟩
end Go.Proofs.YtjhahhpcpempgaaDoor
