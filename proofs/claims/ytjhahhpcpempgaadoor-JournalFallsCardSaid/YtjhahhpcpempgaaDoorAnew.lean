/- The journal's writing: gate, told, anew, behind. -/
import Derived.Test.YtjhahhpcpempgaaDoorOpen
set_option linter.unusedVariables false
set_option linter.unusedSimpArgs false
namespace Go.Proofs.YtjhahhpcpempgaaDoor
open Go.RowKit

/-- Bounds of a tape: its bytes, its changes and calls. -/
def Tp.lim (T : Tp) (a b : Nat) : Prop := (∀ c, c ∈ T.loose → c.ok) ∧ T.tot ≤ a ∧ T.loose.length ≤ b ∧ 0 ≤ T.calls ∧ T.calls ≤ b ∧ T.room ≤ 9223372036854775807
theorem Tp.lim.ok {T : Tp} {a b : Nat} (h : T.lim a b) (ha : a ≤ 1099511627776) (hb : b ≤ 1000000) : T.ok := by
  obtain ⟨h1, h2, h3, h4, h5, h6⟩ := h
  exact ⟨h1, by omega, by omega, h4, by omega, h6⟩
theorem Tp.lim.mono {T : Tp} {a b a' b' : Nat} (h : T.lim a b) (ha : a ≤ a') (hb : b ≤ b') : T.lim a' b' := by
  obtain ⟨h1, h2, h3, h4, h5, h6⟩ := h
  exact ⟨h1, by omega, by omega, h4, by omega, h6⟩
theorem Tp.lim.count {T : Tp} {a b : Nat} (h : T.lim a b) : T.count.lim a (b + 1) := by
  obtain ⟨h1, h2, h3, h4, h5, h6⟩ := h
  exact ⟨h1, h2, by show T.loose.length ≤ _; omega, by show 0 ≤ T.calls + 1; omega, by show T.calls + 1 ≤ _; omega, h6⟩
theorem Tp.lim.put {T : Tp} {a b : Nat} (h : T.lim a b) {c : Chg} (hc : c.ok) : (T.put c).lim (a + c.more.size) (b + 1) := by
  unfold Tp.put
  split
  · exact h.count.mono (by omega) (Nat.le_refl _)
  · obtain ⟨h1, h2, h3, h4, h5, h6⟩ := h
    refine ⟨fun x hx => ?_, ?_, by show (T.loose ++ [c]).length ≤ _; simp; omega, by show 0 ≤ T.calls + 1; omega, by show T.calls + 1 ≤ _; omega, h6⟩
    · rcases List.mem_append.1 hx with hx | hx
      · exact h1 x hx
      · simp at hx; subst hx; exact hc
    · show T.s.size + moreSum (T.loose ++ [c]) ≤ _
      simp only [Tp.tot] at h2
      simp only [moreSum_append, moreSum]; omega
theorem Tp.lim.addT {T : Tp} {a b : Nat} (h : T.lim a b) {n : Int} {m : ByteArray} (hn : n = 0 ∨ n = 1) : (T.addT n m).lim (a + m.size) (b + 1) := by
  unfold Tp.addT
  split
  · exact h.mono (by omega) (by omega)
  · exact h.put (c := ⟨n, false, m⟩) hn
theorem Tp.lim.sealed {T : Tp} {a b : Nat} (h : T.lim a b) : T.sealed.lim a (b + 1) := by
  unfold Tp.sealed
  split
  · exact h.count
  · obtain ⟨h1, h2, h3, h4, h5, h6⟩ := h
    refine ⟨by simp, ?_, by simp, by show 0 ≤ T.calls + 1; omega, by show T.calls + 1 ≤ _; omega, h6⟩
    have : T.now.size ≤ T.tot := fold_size _ _
    simp only [Tp.tot, moreSum] at *
    omega

def Jn.told (J : Jn) (e : Int) : Jn := { J with dead := J.dead || (e != 0 && e != 15) }

theorem told_c (jb b : Nat) (J : Jn) (e : Int) (w : World) (h : JAt jb b J w) :
    Calls Tryd.prog 24 #[.pointer (some ⟨jb, 0, none⟩), .int .i64 e] w fun en w' => en = .returned (.int .i64 e) ∧ JAt jb b (J.told e) w' ∧ Keeps [jb] w w' := by
  have HF := Lib.hid h.ft
  obtain ⟨lv, hb, hl⟩ := h
  obtain ⟨j0, ⟨j1, j2, j3, j4, j5⟩, j6⟩ := blk5 hb
  have HB := Lib.hid hb
  have HL := Lib.hid hl
  clear hb hl
  have fin : ∀ (x : Bool) (w' : World), w' = w.setCell ⟨jb, 4, none⟩ (.bool x) → x = (J.told e).dead → JAt jb b (J.told e) w' ∧ Keeps [jb] w w' := by
    rintro x w' rfl hx
    have hk : Keeps [jb] w (w.setCell ⟨jb, 4, none⟩ (.bool x)) := (Keeps.refl _ _).setCell (by simp) _
    refine ⟨⟨lv, ?_, HL.out.keeps hk HF.out⟩, hk⟩
    have := blk_set HB.out 4 (.bool x)
    rw [← hx]; exact this
  have FIN := Lib.hid fin
  clear fin
  cases hd : J.dead
  · rw [hd] at j5
    by_cases h0 : e = 0
    · have E := Lib.hid (show false = (J.told e).dead by simp [Jn.told, hd, h0])
      have q0 : (e != 0) = false := by simp [h0]
      clear h0 hd
      go_enter Tryd.func24, Tryd.ntmps24
      go_wp2
      go_ret
      exact ⟨rfl, FIN.out _ _ rfl E.out⟩
    · by_cases h1 : e = 15
      · have E := Lib.hid (show false = (J.told e).dead by simp [Jn.told, hd, h1])
        subst h1
        clear h0 hd
        go_enter Tryd.func24, Tryd.ntmps24
        go_wp2
        go_ret
        exact ⟨rfl, FIN.out _ _ rfl E.out⟩
      · have E := Lib.hid (show true = (J.told e).dead by simp [Jn.told, hd, h1, h0])
        have q0 : (e != 0) = true := by simp [h0]
        have q1 : (e != 15) = true := by simp [h1]
        clear h0 h1 hd
        go_enter Tryd.func24, Tryd.ntmps24
        go_wp2
        go_ret
        exact ⟨rfl, FIN.out _ _ rfl E.out⟩
  · rw [hd] at j5
    have E := Lib.hid (show true = (J.told e).dead by simp [Jn.told, hd])
    clear hd
    go_enter Tryd.func24, Tryd.ntmps24
    go_wp2
    go_ret
    exact ⟨rfl, FIN.out _ _ rfl E.out⟩

theorem gateL_c (x : ByteArray) (w : World) (hx : x.size ≤ 1099511627776) : Calls Tryd.prog 35 #[.string x] w fun e w' => e = .returned (.bool (!lineOk x)) ∧ Below w.heap.size w w' := by
  have H := Lib.hid (line_c x w hx)
  go_enter Tryd.func35, Tryd.ntmps35
  go_wp2_with fail
  refine H.out.mono ?_
  rintro e w1 ⟨rfl, hb⟩
  go_wp2
  go_ret
  exact ⟨rfl, hb⟩

def Jn.gateE (J : Jn) (l : List ByteArray) : Int := if J.dead then 16 else if l.any (fun s => !lineOk s) then 1 else 0
theorem jgate_c (jb b : Nat) (J : Jn) (lv : Value) (l : List ByteArray) (w : World) (h : JAt jb b J w) (hl : RdStrs w lv l) (hs : ∀ x, x ∈ l → x.size ≤ 1099511627776) :
    Calls Tryd.prog 19 #[.pointer (some ⟨jb, 0, none⟩), lv] w fun e w' => e = .returned (.int .i64 (J.gateE l)) ∧ Below w.heap.size w w' := by
  obtain ⟨lv', hb, _⟩ := h
  obtain ⟨j0, ⟨j1, j2, j3, j4, j5⟩, j6⟩ := blk5 hb
  have HA := Lib.hid (IdxSAny_c 35 #[] (fun s => !lineOk s) lv l w hl (fun x hx w1 _ => gateL_c x w1 (hs x hx)) (enters_of Tryd.func35 (by kernel_rfl) rfl))
  obtain ⟨A, c, rfl, _⟩ := hl.form
  clear hb hl hs
  cases hd : J.dead
  · rw [hd] at j5
    cases ha : l.any (fun s => !lineOk s)
    · have E := Lib.hid (show J.gateE l = 0 by simp [Jn.gateE, hd, ha])
      have HAA := Lib.hid ha
      clear hd ha
      go_enter Tryd.func19, Tryd.ntmps19
      go_wp2_with fail
      refine HA.out.mono ?_
      rintro e w1 ⟨rfl, hb⟩
      rw [HAA.out]
      go_wp2
      go_ret
      exact ⟨by rw [E.out]; rfl, hb⟩
    · have E := Lib.hid (show J.gateE l = 1 by simp [Jn.gateE, hd, ha])
      have HAA := Lib.hid ha
      clear hd ha
      go_enter Tryd.func19, Tryd.ntmps19
      go_wp2_with fail
      refine HA.out.mono ?_
      rintro e w1 ⟨rfl, hb⟩
      rw [HAA.out]
      go_wp2
      go_ret
      exact ⟨by rw [E.out]; rfl, hb⟩
  · rw [hd] at j5
    have E := Lib.hid (show J.gateE l = 16 by simp [Jn.gateE, hd])
    clear hd
    go_enter Tryd.func19, Tryd.ntmps19
    go_wp2
    go_ret
    exact ⟨by rw [E.out]; rfl, Below.refl _ _⟩

/-- A copy of texts. -/
def CloneSPost (l : List ByteArray) (w : World) (e : Ending) (w' : World) : Prop :=
  ∃ v, e = .returned v ∧ w'.ownsRow w.heap.size 9 1 v l.length (l.map fun s => Value.string s) ∧ Below w.heap.size w w'
theorem CloneS_c (lv : Value) (l : List ByteArray) (w : World) (hl : RdStrs w lv l) (hn : l.length ≤ 1099511627776) : Calls Tryd.prog 25 #[lv] w (CloneSPost l w) := by
  obtain ⟨A, c, rfl, hc, _⟩ := hl.form
  rcases Nat.eq_zero_or_pos l.length with h0 | h0
  · obtain rfl : l = [] := List.eq_nil_of_length_eq_zero h0
    cases A with
    | none =>
      refine (Tryd.slices_Clone_string_nil _ c w).mono ?_
      rintro e w' ⟨rfl, rfl⟩
      exact ⟨_, rfl, World.ownsRow_nil _ _ _ _, Below.refl _ _⟩
    | some a =>
      refine (Tryd.slices_Clone_string_zero a c w).mono ?_
      rintro e w' ⟨v, rfl, ho, _, hb⟩
      exact ⟨v, rfl, ho, hb⟩
  · obtain ⟨g, o, rfl, hg, _⟩ := hl.cell h0
    refine (Tryd.slices_Clone_string g o _ c l w (Nat.le_refl _) (by omega) (fun j hj => ?_)).mono ?_
    · obtain ⟨g', o', he, _, hcell⟩ := hl.cell hj
      obtain ⟨rfl, rfl⟩ : g = g' ∧ o = o' := by simpa using he
      rw [hcell, List.getD_eq_getElem?_getD, List.getElem?_eq_getElem hj]; rfl
    · rintro e w' ⟨v, rfl, ho, _, hb⟩
      rw [List.take_length] at ho
      exact ⟨v, rfl, ho, hb⟩
theorem Lines_c (jb b : Nat) (J : Jn) (w : World) (h : JAt jb b J w) (hn : J.lines.length ≤ 1099511627776) : Calls Tryd.prog 16 #[.pointer (some ⟨jb, 0, none⟩)] w (CloneSPost J.lines w) := by
  obtain ⟨lv, hb, hl⟩ := h
  obtain ⟨j0, ⟨j1, j2, j3, j4, j5⟩, j6⟩ := blk5 hb
  have H := Lib.hid (CloneS_c lv J.lines w hl hn)
  clear hb hl
  go_enter Tryd.func16, Tryd.ntmps16
  go_wp2_with fail
  refine H.out.mono ?_
  rintro e w1 ⟨v, rfl, ho, hbb⟩
  have HO := Lib.hid ho
  have HB := Lib.hid hbb
  clear ho hbb
  go_wp2
  go_ret
  exact ⟨_, rfl, HO.out, HB.out⟩
end Go.Proofs.YtjhahhpcpempgaaDoor
