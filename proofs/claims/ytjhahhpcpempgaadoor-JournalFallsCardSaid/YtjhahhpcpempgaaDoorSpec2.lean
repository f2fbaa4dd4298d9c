/- What is opened behind a writing, and behind every fall in it. -/
import Derived.Test.YtjhahhpcpempgaaDoorSpec
import Derived.Test.YtjhahhpcpempgaaDoorSave
set_option linter.unusedVariables false
set_option linter.unusedSimpArgs false
namespace Go.Proofs.YtjhahhpcpempgaaDoor
open Go.RowKit

theorem app_mt (X : ByteArray) : X ++ mt = X := ba_ext (by rw [ba_append]; show X.data.toList ++ [] = _; simp)
theorem extract_all (X : ByteArray) : X.extract 0 X.size = X := ba_ext (by rw [extract_bs, bs_data, Nat.sub_zero, List.drop_zero, List.take_of_length_le (by rw [ba_size]; omega)])

/-- A tape that is up and sealed, and what is opened of it. -/
structure Fine (T : Tp) (J : Jn) : Prop where
  up : T.down = false
  loose : T.loose = []
  is : J = openS T.s

/-- What a writing did. -/
structure Went (T : Tp) (J : Jn) (l : List ByteArray) (m : Nat) (o : Out) : Prop where
  room : o.T.room = T.room
  crash : o.T.crash = T.crash
  calls : T.calls ≤ o.T.calls
  lim : ∀ a k, T.lim a k → o.T.lim (a + m) (k + 3)
  or : (o.e = 0 ∧ Fine o.T o.J ∧ o.J.lines = l ∧ 1 ≤ o.J.turn ∧ o.J.turn ≤ J.turn + 1) ∨
    (o.e = 16 ∧ o.T.down = true ∧ T.calls < T.crash ∧ ∀ p, ((openS (o.T.fall p).s).lines = J.lines ∨ (openS (o.T.fall p).s).lines = l) ∧ (openS (o.T.fall p).s).turn ≤ J.turn + 1)

theorem app_wipe (d : Sd) (n : Int) : d.app ⟨n, true, mt⟩ = d.put n mt := by
  unfold Sd.app Sd.put
  by_cases h : n = 0 <;> simp [h, mt_app]
theorem app_put (d : Sd) (n : Int) (X Y : ByteArray) : (d.put n X).app ⟨n, false, Y⟩ = d.put n (X ++ Y) := by
  unfold Sd.app Sd.put
  by_cases h : n = 0 <;> simp [h]
theorem put_at (d : Sd) (n : Int) : d.put n (d.at n) = d := by
  unfold Sd.put Sd.at
  by_cases h : n = 0 <;> simp [h]
theorem app_at (d : Sd) (n : Int) (Y : ByteArray) : d.app ⟨n, false, Y⟩ = d.put n (d.at n ++ Y) := by
  have := app_put d n (d.at n) Y
  rwa [put_at] at this
theorem partOf_zero (n : Int) : partOf n 0 = 0 := Nat.le_zero.1 (partOf_le n 0)
theorem fall_none (T : Tp) (p : Pl) (h : T.loose = []) : (T.fall p).s = T.s := by
  simp [Tp.fall, fallLoose, h, tornIn]
theorem fall_wipe (T : Tp) (p : Pl) (n : Int) (h : T.loose = [⟨n, true, mt⟩]) : (T.fall p).s = T.s ∨ (T.fall p).s = T.s.put n mt := by
  have hk := partOf_le p.keep 1
  simp only [Tp.fall, fallLoose, h, List.length_cons, List.length_nil, Nat.zero_add]
  match hp : partOf p.keep 1, hk with
  | 0, _ => left; simp [tornIn]
  | 1, _ => right; simp [tornIn, app_wipe]
theorem fall_anew (T : Tp) (p : Pl) (n : Int) (X : ByteArray) (h : T.loose = [⟨n, true, mt⟩, ⟨n, false, X⟩]) :
    (T.fall p).s = T.s ∨ (∃ q, q ≤ X.size ∧ (T.fall p).s = T.s.put n (X.extract 0 q)) ∨ (T.fall p).s = T.s.put n X := by
  have hk := partOf_le p.keep 2
  simp only [Tp.fall, fallLoose, h, List.length_cons, List.length_nil, Nat.zero_add, Nat.reduceAdd]
  match hp : partOf p.keep 2, hk with
  | 0, _ => left; simp [tornIn]
  | 1, _ => right; left; exact ⟨_, partOf_le p.torn X.size, by simp [tornIn, app_wipe, app_put, mt_app]⟩
  | 2, _ => right; right; simp [tornIn, app_wipe, app_put, mt_app]
theorem fall_behind (T : Tp) (p : Pl) (n : Int) (X : ByteArray) (h : T.loose = [⟨n, false, X⟩]) :
    (∃ q, q ≤ X.size ∧ (T.fall p).s = T.s.put n (T.s.at n ++ X.extract 0 q)) := by
  have hk := partOf_le p.keep 1
  simp only [Tp.fall, fallLoose, h, List.length_cons, List.length_nil, Nat.zero_add]
  match hp : partOf p.keep 1, hk with
  | 0, _ => exact ⟨_, partOf_le p.torn X.size, by simp [tornIn, app_at]⟩
  | 1, _ => exact ⟨_, Nat.le_refl _, by simp [tornIn, app_at, extract_all]⟩

theorem open_torn (d : Sd) (l : List ByteArray) (q : Nat) (hl : LinesOk l) (ht : (openS d).turn ≤ 4611686018427387904) (hf : (framesB l).size ≤ 1099511627776) (hq : q ≤ (anewB l ((openS d).turn + 1)).size) :
    openS (d.put (1 - (openS d).side) ((anewB l ((openS d).turn + 1)).extract 0 q)) = openS d ∨
    openS (d.put (1 - (openS d).side) ((anewB l ((openS d).turn + 1)).extract 0 q)) = ⟨1 - (openS d).side, (openS d).turn + 1, l, false⟩ := by
  have h0 := openS_turn d
  rcases Nat.lt_or_ge q (anewB l ((openS d).turn + 1)).size with h | h
  · left
    exact open_put_none d _ (read_torn l _ q (by omega) (by omega) hf h)
  · right
    obtain rfl : q = (anewB l ((openS d).turn + 1)).size := by omega
    rw [extract_all]
    exact open_put_whole d _ l (read_anew l _ hl (by omega) (by omega) hf)

theorem count_room (T : Tp) : T.count.room = T.room := rfl
theorem count_crash (T : Tp) : T.count.crash = T.crash := rfl
theorem count_down {T : Tp} (h : T.count.down = true) : T.crash = T.calls + 1 := by simpa [Tp.count] using h
theorem put_shape (T : Tp) (c : Chg) : (T.put c).room = T.room ∧ (T.put c).crash = T.crash ∧ (T.put c).calls = T.calls + 1 ∧ (T.put c).s = T.s ∧
    (((T.put c).down = true ∧ (T.put c).loose = T.loose ∧ T.crash = T.calls + 1) ∨ ((T.put c).down = false ∧ (T.put c).loose = T.loose ++ [c])) := by
  unfold Tp.put
  cases h : T.count.down
  · rw [if_neg (by decide)]
    exact ⟨rfl, rfl, rfl, rfl, .inr ⟨h, rfl⟩⟩
  · rw [if_pos rfl]
    exact ⟨rfl, rfl, rfl, rfl, .inl ⟨h, rfl, count_down h⟩⟩
theorem seal_shape (T : Tp) : T.sealed.room = T.room ∧ T.sealed.crash = T.crash ∧ T.sealed.calls = T.calls + 1 ∧
    ((T.sealed.down = true ∧ T.sealed.loose = T.loose ∧ T.sealed.s = T.s ∧ T.crash = T.calls + 1) ∨ (T.sealed.down = false ∧ T.sealed.loose = [] ∧ T.sealed.s = T.now)) := by
  unfold Tp.sealed
  cases h : T.count.down
  · rw [if_neg (by decide)]
    exact ⟨rfl, rfl, rfl, .inr ⟨h, rfl, rfl⟩⟩
  · rw [if_pos rfl]
    exact ⟨rfl, rfl, rfl, .inl ⟨h, rfl, rfl, count_down h⟩⟩
theorem addT_fits (T : Tp) (n : Int) (m : ByteArray) (h : (T.tot + m.size : Int) ≤ T.room) : T.addT n m = T.put ⟨n, false, m⟩ ∧ T.addE n m = downE (T.put ⟨n, false, m⟩).down := by
  have : T.addFull n m = false := by
    unfold Tp.addFull
    have h1 := app_size T.now ⟨n, false, m⟩
    have h2 := fold_size T.loose T.s
    unfold Tp.tot at h
    unfold Tp.now at *
    simp only [decide_eq_false_iff_not]
    simp only at h1
    omega
  unfold Tp.addT Tp.addE
  rw [this]; simp

theorem anew_spec (T : Tp) (J : Jn) (l : List ByteArray) (m : Nat) (hf : Fine T J) (hl : LinesOk l) (ht : J.turn ≤ 4611686018427387904) (hm : (framesB l).size + 44 ≤ m) (hm2 : m ≤ 1099511627776)
    (hr : (T.tot + m : Int) ≤ T.room) : Went T J l m (anewM T J l) := by
  obtain ⟨hu, hlo, rfl⟩ := hf
  have h0 := openS_turn T.s
  have hside := openS_side T.s
  have hsz := anewB_size l ((openS T.s).turn + 1) (by omega) (by omega) (by omega)
  have hms : mt.size = 0 := rfl
  obtain ⟨n, hn⟩ : ∃ n, 1 - (openS T.s).side = n := ⟨_, rfl⟩
  have hnn : n = 0 ∨ n = 1 := by omega
  obtain ⟨X, hX⟩ : ∃ X, anewB l ((openS T.s).turn + 1) = X := ⟨_, rfl⟩
  have hwhole : openS (T.s.put n X) = ⟨n, (openS T.s).turn + 1, l, false⟩ := by
    rw [← hn, ← hX]; exact open_put_whole _ _ l (read_anew l _ hl (by omega) (by omega) (by omega))
  have hempty : openS (T.s.put n mt) = openS T.s := by rw [← hn]; exact open_put_none _ _ read_mt
  have htorn : ∀ q, q ≤ X.size → openS (T.s.put n (X.extract 0 q)) = openS T.s ∨ openS (T.s.put n (X.extract 0 q)) = ⟨n, (openS T.s).turn + 1, l, false⟩ := by
    rw [← hn, ← hX]; intro q hq; exact open_torn T.s l q hl ht (by omega) hq
  rw [hX] at hsz
  obtain ⟨r1, c1, k1, s1, o1⟩ := put_shape T ⟨n, true, mt⟩
  unfold anewM
  simp only [hn, hX]
  rcases o1 with ⟨d1, l1, q1⟩ | ⟨d1, l1⟩
  · rw [d1]; simp only [if_true]
    refine ⟨r1, c1, by simp only; omega, fun a k hlim => (hlim.put (c := ⟨n, true, mt⟩) hnn).mono (by simp only; omega) (by omega), .inr ⟨rfl, d1, by omega, fun p => ?_⟩⟩
    simp only
    rw [fall_none _ p (l1.trans hlo), s1]
    exact ⟨.inl rfl, by omega⟩
  · rw [d1]; simp only [Bool.false_eq_true, if_false]
    have hlim1 : ∀ a k, T.lim a k → (T.put ⟨n, true, mt⟩).lim (a + 0) (k + 1) := fun a k hlim => hlim.put (c := ⟨n, true, mt⟩) hnn
    generalize T.put ⟨n, true, mt⟩ = T1 at r1 c1 k1 s1 d1 l1 hlim1 ⊢
    have htot : T1.tot = T.tot := by unfold Tp.tot; rw [s1, l1, hlo]; simp [moreSum, hms]
    obtain ⟨a1, a2⟩ := addT_fits T1 n X (by rw [htot, r1]; omega)
    rw [a1, a2]
    obtain ⟨r2, c2, k2, s2, o2⟩ := put_shape T1 ⟨n, false, X⟩
    have hlim2 : ∀ a k, T.lim a k → (T1.put ⟨n, false, X⟩).lim (a + m) (k + 2) := fun a k hlim => ((hlim1 a k hlim).put (c := ⟨n, false, X⟩) hnn).mono (by simp only; omega) (by omega)
    clear a1 a2
    generalize T1.put ⟨n, false, X⟩ = T2 at r2 c2 k2 s2 o2 hlim2 ⊢
    rcases o2 with ⟨d2, l2, q2⟩ | ⟨d2, l2⟩
    · rw [d2]
      simp only [downE, if_true]
      rw [if_pos (by decide)]
      refine ⟨by simp only; omega, by simp only; omega, by simp only; omega, fun a k hlim => (hlim2 a k hlim).mono (by omega) (by omega), .inr ⟨rfl, d2, by omega, fun p => ?_⟩⟩
      simp only
      rcases fall_wipe T2 p n (by rw [l2, l1, hlo]; rfl) with h | h <;> rw [h, s2, s1]
      · exact ⟨.inl rfl, by omega⟩
      · rw [hempty]; exact ⟨.inl rfl, by omega⟩
    · rw [d2]
      simp only [downE, Bool.false_eq_true, if_false]
      rw [if_neg (by decide)]
      have hlo2 : T2.loose = [⟨n, true, mt⟩, ⟨n, false, X⟩] := by rw [l2, l1, hlo]; rfl
      have hnow : T2.now = T.s.put n X := by
        unfold Tp.now; rw [hlo2, s2, s1]; simp [app_wipe, app_put, mt_app]
      obtain ⟨r3, c3, k3, o3⟩ := seal_shape T2
      have hlim3 : ∀ a k, T.lim a k → T2.sealed.lim (a + m) (k + 3) := fun a k hlim => (hlim2 a k hlim).sealed
      rcases o3 with ⟨d3, l3, s3, q3⟩ | ⟨d3, l3, s3⟩
      · rw [d3]; simp only [if_true]
        refine ⟨by simp only; omega, by simp only; omega, by simp only; omega, hlim3, .inr ⟨rfl, d3, by omega, fun p => ?_⟩⟩
        simp only
        rcases fall_anew T2.sealed p n X (l3.trans hlo2) with h | ⟨q, hq, h⟩ | h <;> rw [h, s3, s2, s1]
        · exact ⟨.inl rfl, by omega⟩
        · rcases htorn q hq with h | h <;> rw [h]
          · exact ⟨.inl rfl, by omega⟩
          · exact ⟨.inr rfl, by simp⟩
        · rw [hwhole]; exact ⟨.inr rfl, by simp⟩
      · rw [d3]; simp only [Bool.false_eq_true, if_false]
        refine ⟨by simp only; omega, by simp only; omega, by simp only; omega, hlim3, .inl ⟨rfl, ⟨d3, l3, ?_⟩, rfl, by simp only; omega, by simp only; omega⟩⟩
        simp only
        rw [s3, hnow, hwhole, openS_dead]

theorem behind_spec (T : Tp) (J : Jn) (s : ByteArray) (m : Nat) (hf : Fine T J) (hs : lineOk s = true) (ht0 : J.turn ≠ 0) (hm : s.size + 67 ≤ m) (hm2 : m ≤ 1099511627776)
    (hr : (T.tot + m : Int) ≤ T.room) : Went T J (J.lines ++ [s]) m (behindM T J s) := by
  obtain ⟨hu, hlo, rfl⟩ := hf
  have h0 := openS_turn T.s
  have hside := openS_side T.s
  have hsz := frameB_size s (by omega)
  have hms : mt.size = 0 := rfl
  have hso := lineOk_size hs
  have hno := lineOk_no hs
  obtain ⟨hat, h1⟩ := open_at T.s ht0
  have h1' : 1 ≤ (readB (T.s.at (openS T.s).side)).1 := by rw [hat]; exact h1
  have hX : mt ++ frameB s = frameB s := mt_app _
  have hwhole : openS (T.s.put (openS T.s).side (T.s.at (openS T.s).side ++ frameB s)) = { openS T.s with lines := (openS T.s).lines ++ [s] } := by
    obtain ⟨r, e1, e2⟩ := read_behind _ (frameB s) h1'
    refine open_put_same _ _ _ ht0 ?_
    rw [e2, unf_app r s (by omega) hno]
    rw [hat] at e1 ⊢
    rw [← (Prod.mk.inj e1).2]
  have htorn : ∀ q, q ≤ (frameB s).size → openS (T.s.put (openS T.s).side (T.s.at (openS T.s).side ++ (frameB s).extract 0 q)) = openS T.s ∨
      openS (T.s.put (openS T.s).side (T.s.at (openS T.s).side ++ (frameB s).extract 0 q)) = { openS T.s with lines := (openS T.s).lines ++ [s] } := by
    intro q hq
    rcases Nat.lt_or_ge q (frameB s).size with h | h
    · left
      obtain ⟨r, e1, e2⟩ := read_behind _ ((frameB s).extract 0 q) h1'
      have := open_put_same T.s (T.s.at (openS T.s).side ++ (frameB s).extract 0 q) (openS T.s).lines ht0 (by
        rw [e2, unf_torn r s q (by omega) hno h]
        rw [hat] at e1 ⊢
        rw [← (Prod.mk.inj e1).2])
      rw [this]
    · right
      obtain rfl : q = (frameB s).size := by omega
      rw [extract_all]; exact hwhole
  obtain ⟨n, hn⟩ : ∃ n, (openS T.s).side = n := ⟨_, rfl⟩
  have hnn : n = 0 ∨ n = 1 := by omega
  rw [hn] at hwhole htorn
  unfold behindM
  simp only [hn, hX]
  obtain ⟨a1, a2⟩ := addT_fits T n (frameB s) (by omega)
  rw [a1, a2]
  obtain ⟨r1, c1, k1, s1, o1⟩ := put_shape T ⟨n, false, frameB s⟩
  have hlim1 : ∀ a k, T.lim a k → (T.put ⟨n, false, frameB s⟩).lim (a + m) (k + 1) := fun a k hlim => (hlim.put (c := ⟨n, false, frameB s⟩) hnn).mono (by simp only; omega) (by omega)
  clear a1 a2
  generalize T.put ⟨n, false, frameB s⟩ = T1 at r1 c1 k1 s1 o1 hlim1 ⊢
  rcases o1 with ⟨d1, l1, q1⟩ | ⟨d1, l1⟩
  · rw [d1]; simp only [downE, if_true]
    rw [if_pos (by decide)]
    refine ⟨by simp only; omega, by simp only; omega, by simp only; omega, fun a k hlim => (hlim1 a k hlim).mono (by omega) (by omega), .inr ⟨rfl, d1, by omega, fun p => ?_⟩⟩
    simp only
    rw [fall_none _ p (l1.trans hlo), s1]
    exact ⟨.inl rfl, by omega⟩
  · rw [d1]; simp only [downE, Bool.false_eq_true, if_false]
    rw [if_neg (by decide)]
    have hlo1 : T1.loose = [⟨n, false, frameB s⟩] := by rw [l1, hlo]; rfl
    have hnow : T1.now = T.s.put n (T.s.at n ++ frameB s) := by
      unfold Tp.now; rw [hlo1, s1]; simp [app_at]
    obtain ⟨r3, c3, k3, o3⟩ := seal_shape T1
    have hlim3 : ∀ a k, T.lim a k → T1.sealed.lim (a + m) (k + 3) := fun a k hlim => ((hlim1 a k hlim).sealed).mono (by omega) (by omega)
    rcases o3 with ⟨d3, l3, s3, q3⟩ | ⟨d3, l3, s3⟩
    · rw [d3]; simp only [if_true]
      refine ⟨by simp only; omega, by simp only; omega, by simp only; omega, hlim3, .inr ⟨rfl, d3, by omega, fun p => ?_⟩⟩
      simp only
      obtain ⟨q, hq, h⟩ := fall_behind T1.sealed p n (frameB s) (l3.trans hlo1)
      rw [h, s3, s1]
      rcases htorn q hq with h | h <;> rw [h]
      · exact ⟨.inl rfl, by omega⟩
      · exact ⟨.inr rfl, by simp only; omega⟩
    · rw [d3]; simp only [Bool.false_eq_true, if_false]
      refine ⟨by simp only; omega, by simp only; omega, by simp only; omega, hlim3, .inl ⟨rfl, ⟨d3, l3, ?_⟩, rfl, by simp only; omega, by simp only; omega⟩⟩
      simp only
      rw [s3, hnow, hwhole]
      simp only [hn]

theorem gate_fine {T : Tp} {J : Jn} {l : List ByteArray} (hf : Fine T J) (hl : LinesOk l) : J.gateE l = 0 := by
  unfold Jn.gateE
  rw [hf.is, openS_dead, if_neg (by decide), if_neg]
  rw [Bool.not_eq_true, List.any_eq_false]
  intro x hx
  rw [hl x hx]; decide
theorem Went.e15 {T : Tp} {J : Jn} {l : List ByteArray} {m : Nat} {o : Out} (h : Went T J l m o) : o.e ≠ 15 := by
  rcases h.or with ⟨h, _⟩ | ⟨h, _⟩ <;> rw [h] <;> decide
theorem framesB_one (s : ByteArray) : framesB [s] = frameB s := mt_app _
theorem fine_none {T : Tp} {J : Jn} (hf : Fine T J) (h : J.turn = 0) : J.lines = [] := by
  have := hf.is
  subst this
  rw [openS_eq] at h ⊢
  split at h
  · split at h
    · simp at h; omega
    · simp at h; omega
  · split at h
    · simp at h; omega
    · rename_i a b; rw [if_neg a, if_neg b]; rfl
theorem save_spec (T : Tp) (J : Jn) (l : List ByteArray) (m : Nat) (hf : Fine T J) (hl : LinesOk l) (ht : J.turn ≤ 4611686018427387904) (hm : (framesB l).size + 44 ≤ m) (hm2 : m ≤ 1099511627776)
    (hr : (T.tot + m : Int) ≤ T.room) : Went T J l m (saveM T J l) := by
  unfold saveM
  rw [gate_fine hf hl]
  exact anew_spec T J l m hf hl ht hm hm2 hr
theorem note_spec (T : Tp) (J : Jn) (s : ByteArray) (m : Nat) (hf : Fine T J) (hl : lineOk s = true) (ht : J.turn ≤ 4611686018427387904) (hm : s.size + 67 ≤ m) (hm2 : m ≤ 1099511627776)
    (hr : (T.tot + m : Int) ≤ T.room) : Went T J (J.lines ++ [s]) m (noteM T J s) := by
  have hl1 : LinesOk [s] := fun x hx => by simp at hx; subst hx; exact hl
  have hfs := frameB_size s (by omega)
  unfold noteM
  rw [gate_fine hf hl1]
  by_cases h : J.turn = 0
  · rw [h, fine_none hf h]
    exact anew_spec T J [s] m hf hl1 ht (by rw [framesB_one]; omega) hm2 hr
  · rw [show (J.turn == 0) = false from by simpa using h]
    exact behind_spec T J s m hf hl h hm hm2 hr
theorem fall_lim {T : Tp} {a k : Nat} (h : T.lim a k) (p : Pl) (hp : p.room ≤ 9223372036854775807) : (T.fall p).lim a 0 := by
  obtain ⟨h1, h2, h3, h4, h5, h6⟩ := h
  refine ⟨by simp [Tp.fall], ?_, by simp [Tp.fall], by simp [Tp.fall], by simp [Tp.fall], hp⟩
  have e1 := fold_size (fallLoose T.loose p) T.s
  have e2 : moreSum (fallLoose T.loose p) ≤ moreSum T.loose := by
    unfold fallLoose
    have e : moreSum T.loose = moreSum (T.loose.take (partOf p.keep T.loose.length)) + moreSum (T.loose.drop (partOf p.keep T.loose.length)) := by
      rw [← moreSum_append, List.take_append_drop]
    rw [moreSum_append, e]
    refine Nat.add_le_add_left ?_ _
    cases T.loose.drop (partOf p.keep T.loose.length) with
    | nil => simp [tornIn]
    | cons c l =>
      unfold tornIn
      simp only
      split
      · simp [moreSum]
      · simp only [moreSum, ByteArray.size_extract]; omega
  show ((fallLoose T.loose p).foldl Sd.app T.s).size + moreSum [] ≤ a
  unfold Tp.tot at h2
  simp only [moreSum]; omega
theorem fine_fall (T : Tp) (p : Pl) : Fine (T.fall p) (openS (T.fall p).s) := ⟨rfl, rfl, rfl⟩
theorem fine_new (p : Pl) : Fine (Tp.new p) J0 := ⟨rfl, rfl, by
  show J0 = openS ⟨mt, mt⟩
  rw [openS_eq]
  simp only [read_mt]; simp⟩
theorem new_lim (p : Pl) (hp : p.room ≤ 9223372036854775807) : (Tp.new p).lim 0 0 := ⟨by simp [Tp.new], Nat.le_refl _, by simp [Tp.new], by simp [Tp.new], by simp [Tp.new], hp⟩
theorem fine_openJ {T : Tp} (hl : T.loose = []) : openJ T = openS T.s := by
  rw [openJ_eq]; unfold Tp.now; rw [hl]; rfl
theorem fall_fine {T : Tp} {J : Jn} (h : Fine T J) (p : Pl) : openS (T.fall p).s = J := by
  rw [fall_none _ _ h.loose]; exact h.is.symm
end Go.Proofs.YtjhahhpcpempgaaDoor
