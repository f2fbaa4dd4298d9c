/- The tape's Fall. -/
import Derived.Test.YtjhahhpcpempgaaDoorTape3
set_option linter.unusedVariables false
set_option linter.unusedSimpArgs false
namespace Go.Proofs.YtjhahhpcpempgaaDoor
open Go.RowKit

set_option maxHeartbeats 800000 in
theorem Fall_whole (b : Nat) (F : List Nat) (T : Tp) (p : Pl) (w : World) (h : TAt b F T w) (hok : T.ok) (hkeep : p.keep ≤ 9223372036854775807) (hk : T.loose.length = partOf p.keep T.loose.length) :
    Calls Tryd.prog 14 #[.pointer (some ⟨b, 0, none⟩), .agg #[.int .i64 p.room, .int .i64 p.crash, .int .i64 p.keep, .int .i64 p.torn]] w fun e w' => e = .returned (.tuple #[]) ∧ TAt b [b] (T.fall p) w' ∧ Keeps F w w' := by
  obtain ⟨o1, o2, o3, _⟩ := hok
  have O1 := Lib.hid o1
  have E := Lib.hid (show T.fall p = { s := T.now, loose := [], room := p.room, crash := p.crash, keep := p.keep, torn := p.torn, calls := 0, down := false } by
    simp only [Tp.fall, fallLoose, ← hk, List.take_length, List.drop_length, tornIn, List.append_nil]; rfl)
  obtain ⟨lv, hF, hb, hown⟩ := h
  obtain ⟨A, c, rfl, hnc, hcm⟩ : ∃ A c, lv = .slice A T.loose.length c ∧ T.loose.length ≤ c ∧ c ≤ maxLen := by
    obtain ⟨A, c, h1, h2, h3, _⟩ := RowAt.ofOwn hown
    exact ⟨A, c, h1, h2, h3⟩
  obtain ⟨n, hn⟩ : ∃ n, T.loose.length = n := ⟨_, rfl⟩
  have HK := Lib.hid hk
  rw [hn] at hnc o3 hb hown hF hk
  obtain ⟨A', hA'⟩ : ∃ A', A' = (if c = n then A else A.map (·.add (n * 3))) := ⟨_, rfl⟩
  have s1 := slice_lo Tryd.underlying46 chgSize A n c n (Nat.le_refl _)
  have s2 := slice_hi Tryd.underlying46 chgSize A n c n hnc
  rw [← hA', Nat.sub_self] at s1
  clear hA'
  have HB := Lib.hid hb
  have HO := Lib.hid hown
  have HF := Lib.hid hF
  have HN := Lib.hid hn
  obtain ⟨hlt, ⟨k0, k1, k2, k3, k4, k5, k6, k7, k8⟩, hfz⟩ := blk9 hb
  have HP := Lib.hid (fun w => (part_c p.keep n w hkeep (by omega)).mono (R' := fun e w' => e = .returned (.int .i64 (partOf p.keep n)) ∧ w' = w) fun e w' h => ⟨h.1, h.2.symm⟩)
  have HT := Lib.hid (show ∀ W, Keeps [b] w W → W.heap[b]? = some (.cells #[.string T.s.a, .string T.s.b, .slice A n c, .int .i64 T.room, .int .i64 T.crash, .int .i64 T.keep, .int .i64 T.torn, .int .i64 T.calls, .bool T.down] 48 (0, 0)) → TAt b F T W from
    fun W k1 k2 => by rw [hF]; exact TAt.set hb (by rw [hn]; exact hown) rfl k1 k2)
  have HKN := Lib.hid hk
  clear hb hown hF hn hk o1
  go_enter Tryd.func14, Tryd.ntmps14
  go_wp2_with fail
  go_quiet ((go_at_call 26; exact Calls.quiet_of_same (HP.out _)))
  rw [← HKN.out]
  go_wp2_with fail
  all_goals
    go_wp2_with fail
    go_region_with (go_at_call 27; refine (now_c b F T _ (HT.out _ ?_ ?_) O1.out ?_ ?_).mono ?_; exact ((((Keeps.refl _ _).alloc _).drewN _).setCell (by simp) _).drew; exact blk_set (blk_alloc HB.out _) 2 _; omega; (rw [HN.out]; omega); rintro e w9 ⟨rfl, hb9⟩; have hx9 := blk_b hb9 (blk_set (blk_alloc HB.out _) 2 _); obtain ⟨x0, x1, x2⟩ := blk9 hx9; have hp9 := blk_b hb9 (blk_far (blk_new w _) (by simp; omega) _); obtain ⟨y0, y1, y2⟩ := blk4 hp9; have HB9 := Lib.hid hb9; have HX9 := Lib.hid hx9; clear hb9 hx9 hp9)
    all_goals
      go_wp2
      go_end0
      rw [E.out]
      refine ⟨rfl, ⟨.slice none 0 0, rfl, ?_, World.ownsRow_nil _ _ _ _⟩, ?_⟩
      · exact blk9_all HX9.out
      · have hb' : b ∈ F := by rw [HF.out]; simp
        exact (((((((((((((Keeps.refl F w).alloc _).drewN _).setCell (.inl hb') _).drew.thenBelow HB9.out).setCell (.inl hb') _).setCell (.inl hb') _).setCell (.inl hb') _).setCell (.inl hb') _).setCell (.inl hb') _).setCell (.inl hb') _).setCell (.inl hb') _).setCell (.inl hb') _).setCell (.inl hb') _

theorem moreSum_append (l m : List Chg) : moreSum (l ++ m) = moreSum l + moreSum m := by
  induction l with
  | nil => simp [moreSum]
  | cons c l ih => simp only [List.cons_append, moreSum, ih]; omega

/-- What a tape's block holds while it falls. -/
theorem own_form {w : World} {base : Nat} {e : TypeId} {sz n : Nat} {v : Value} {cs : List Value} (h : w.ownsRow base e sz v n cs) (hn : 0 < n) :
    ∃ g c, v = .slice (some ⟨g, 0, none⟩) n c ∧ g < w.heap.size ∧ n ≤ c ∧ c ≤ maxLen := by
  rcases h.2 with ⟨_, h0⟩ | ⟨g, cap, cur, hv, _, hg, hc, hm, _⟩
  · omega
  · exact ⟨g, cap, hv, blk_lt hg, hc, hm⟩

set_option maxHeartbeats 1600000 in
theorem Fall_wipe (b : Nat) (F : List Nat) (T : Tp) (p : Pl) (w : World) (h : TAt b F T w) (hok : T.ok) (hkeep : p.keep ≤ 9223372036854775807) (hk : partOf p.keep T.loose.length < T.loose.length)
    (hw : T.loose[partOf p.keep T.loose.length].wipe = true) :
    Calls Tryd.prog 14 #[.pointer (some ⟨b, 0, none⟩), .agg #[.int .i64 p.room, .int .i64 p.crash, .int .i64 p.keep, .int .i64 p.torn]] w fun e w' => e = .returned (.tuple #[]) ∧ TAt b [b] (T.fall p) w' ∧ Keeps F w w' := by
  obtain ⟨o1, o2, o3, _⟩ := hok
  obtain ⟨k, hkk⟩ : ∃ k, partOf p.keep T.loose.length = k := ⟨_, rfl⟩
  obtain ⟨n, hn⟩ : ∃ n, T.loose.length = n := ⟨_, rfl⟩
  simp only [hkk] at hk hw
  have hdrop : T.loose.drop k = T.loose[k] :: T.loose.drop (k + 1) := List.drop_eq_getElem_cons hk
  obtain ⟨x, hx⟩ : ∃ x, T.loose[k] = x := ⟨_, rfl⟩
  rw [hx] at hdrop hw
  have E := Lib.hid (show T.fall p = { s := (T.loose.take k).foldl Sd.app T.s, loose := [], room := p.room, crash := p.crash, keep := p.keep, torn := p.torn, calls := 0, down := false } by
    simp only [Tp.fall, fallLoose, hkk, hdrop, tornIn, hw, if_true, List.append_nil])
  obtain ⟨lv, hF, hb, hown⟩ := h
  obtain ⟨g, c, rfl, hg, hnc, hcm⟩ := own_form hown (by omega)
  have hrow := chg_row hown hk
  obtain ⟨g', o', he, _, c0, c1, c2⟩ := hrow
  obtain ⟨rfl, rfl⟩ : g = g' ∧ 0 = o' := by simpa using he
  rw [hx] at c0 c1 c2
  rw [hw] at c1
  rw [Nat.zero_add] at c0 c1 c2
  have hgb := own_ne hown hb (by decide) g rfl
  have hbg : ¬ b = g := fun e => hgb e.symm
  rw [hn] at hnc o3 hb hown hF hk hkk
  obtain ⟨m, hm⟩ : ∃ m, n - k = m := ⟨_, rfl⟩
  obtain ⟨c', hc'⟩ : ∃ c', c - k = c' := ⟨_, rfl⟩
  have s1 := slice_lo Tryd.underlying46 chgSize (some ⟨g, 0, none⟩) n c k (by omega)
  have s2 := slice_hi Tryd.underlying46 chgSize (some ⟨g, 0, none⟩) n c k (by omega)
  rw [if_neg (by omega), hm, hc', Option.map_some, add_pos_addr, Nat.zero_add] at s1
  have hmp : 0 < m := by omega
  have T1 := Lib.hid (show ∀ W, Keeps [b] w W → W.heap[b]? = some (.cells #[.string T.s.a, .string T.s.b, .slice (some ⟨g, 0, none⟩) k c, .int .i64 T.room, .int .i64 T.crash, .int .i64 T.keep, .int .i64 T.torn, .int .i64 T.calls, .bool T.down] 48 (0, 0)) →
      TAt b F { T with loose := T.loose.take k } W from fun W k1 k2 => by
    rw [hF]
    refine ⟨.slice (some ⟨g, 0, none⟩) k c, rfl, k2, ?_⟩
    have ho := own_keeps (own_take hown (show k ≤ n by omega)) k1 (fun i hi => by
      have : i = g := by simpa [Value.ownBlock] using hi.symm
      subst this; simpa using hgb)
    rw [flat_take, List.length_take, hn, Nat.min_eq_left (by omega)]
    exact ho)
  have O1 := Lib.hid (show ∀ y, y ∈ T.loose.take k → y.ok from fun y hy => o1 y (List.mem_of_mem_take hy))
  have O2 := Lib.hid (show ({ T with loose := T.loose.take k } : Tp).tot ≤ 1152921504606846976 from by
    have : moreSum (T.loose.take k) ≤ moreSum T.loose := by have := more_take T.loose k (by omega); omega
    simp only [Tp.tot] at o2 ⊢; omega)
  have O3 := Lib.hid (show ({ T with loose := T.loose.take k } : Tp).loose.length ≤ 1152921504606846976 from by
    simp only [List.length_take]; omega)
  have HB := Lib.hid hb
  have HO := Lib.hid hown
  have HF := Lib.hid hF
  have HN := Lib.hid hn
  obtain ⟨hlt, ⟨k0, k1, k2, k3, k4, k5, k6, k7, k8⟩, hfz⟩ := blk9 hb
  have HP := Lib.hid (fun w => (part_c p.keep n w hkeep (by omega)).mono (R' := fun e w' => e = .returned (.int .i64 k) ∧ w' = w) fun e w' h => ⟨by rw [h.1, hkk], h.2.symm⟩)
  clear hb hown hF hn hk o1 hkk hm hc' hw hx hdrop he
  go_enter Tryd.func14, Tryd.ntmps14
  go_wp2_with fail
  go_quiet ((go_at_call 26; exact Calls.quiet_of_same (HP.out _)))
  go_wp2_with fail
  go_region_with (go_at_call 27; refine (now_c b F { T with loose := T.loose.take k } _ (T1.out _ ?_ ?_) O1.out O2.out O3.out).mono ?_; exact ((((Keeps.refl _ _).alloc _).drewN _).setCell (by simp) _).drew; exact blk_set (blk_alloc HB.out _) 2 _; rintro e w9 ⟨rfl, hb9⟩; have hx9 := blk_b hb9 (blk_set (blk_alloc HB.out _) 2 _); obtain ⟨x0, x1, x2⟩ := blk9 hx9; have hp9 := blk_b hb9 (blk_far (blk_new w _) (by simp; omega) _); obtain ⟨y0, y1, y2⟩ := blk4 hp9; have HB9 := Lib.hid hb9; have HX9 := Lib.hid hx9; clear hb9 hx9 hp9)
  all_goals
    go_wp2
    go_end0
    rw [E.out]
    refine ⟨rfl, ⟨.slice none 0 0, rfl, ?_, World.ownsRow_nil _ _ _ _⟩, ?_⟩
    · exact blk9_all HX9.out
    · have hb' : b ∈ F := by rw [HF.out]; simp
      exact (((((((((((((Keeps.refl F w).alloc _).drewN _).setCell (.inl hb') _).drew.thenBelow HB9.out).setCell (.inl hb') _).setCell (.inl hb') _).setCell (.inl hb') _).setCell (.inl hb') _).setCell (.inl hb') _).setCell (.inl hb') _).setCell (.inl hb') _).setCell (.inl hb') _).setCell (.inl hb') _
set_option maxRecDepth 100000 in
set_option maxHeartbeats 1600000 in
theorem Fall_torn (b : Nat) (F : List Nat) (T : Tp) (p : Pl) (w : World) (h : TAt b F T w) (hok : T.ok) (hkeep : p.keep ≤ 9223372036854775807) (htorn : p.torn ≤ 9223372036854775807) (hk : partOf p.keep T.loose.length < T.loose.length)
    (hw : T.loose[partOf p.keep T.loose.length].wipe = false) :
    Calls Tryd.prog 14 #[.pointer (some ⟨b, 0, none⟩), .agg #[.int .i64 p.room, .int .i64 p.crash, .int .i64 p.keep, .int .i64 p.torn]] w fun e w' => e = .returned (.tuple #[]) ∧ TAt b [b] (T.fall p) w' ∧ Keeps F w w' := by
  obtain ⟨o1, o2, o3, _⟩ := hok
  obtain ⟨k, hkk⟩ : ∃ k, partOf p.keep T.loose.length = k := ⟨_, rfl⟩
  obtain ⟨n, hn⟩ : ∃ n, T.loose.length = n := ⟨_, rfl⟩
  simp only [hkk] at hk hw
  have hdrop : T.loose.drop k = T.loose[k] :: T.loose.drop (k + 1) := List.drop_eq_getElem_cons hk
  obtain ⟨x, hx⟩ : ∃ x, T.loose[k] = x := ⟨_, rfl⟩
  rw [hx] at hdrop hw
  obtain ⟨q, hq⟩ : ∃ q, partOf p.torn x.more.size = q := ⟨_, rfl⟩
  have hql : q ≤ x.more.size := hq ▸ partOf_le _ _
  have E := Lib.hid (show T.fall p = { s := (T.loose.take k ++ [{ x with more := x.more.extract 0 q }]).foldl Sd.app T.s, loose := [], room := p.room, crash := p.crash, keep := p.keep, torn := p.torn, calls := 0, down := false } by
    simp only [Tp.fall, fallLoose, hkk, hdrop, tornIn, hw, Bool.false_eq_true, if_false, hq])
  obtain ⟨lv, hF, hb, hown⟩ := h
  obtain ⟨g, c, rfl, hg, hnc, hcm⟩ := own_form hown (by omega)
  have hrow := chg_row hown hk
  obtain ⟨g', o', he, _, c0, c1, c2⟩ := hrow
  obtain ⟨rfl, rfl⟩ : g = g' ∧ 0 = o' := by simpa using he
  rw [hx] at c0 c1 c2
  rw [hw] at c1
  rw [Nat.zero_add] at c0 c1 c2
  have hgb := own_ne hown hb (by decide) g rfl
  have hbg : ¬ b = g := fun e => hgb e.symm
  rw [hn] at hnc o3 hb hown hF hk hkk
  obtain ⟨m, hm⟩ : ∃ m, n - k = m := ⟨_, rfl⟩
  obtain ⟨c', hc'⟩ : ∃ c', c - k = c' := ⟨_, rfl⟩
  have s1 := slice_lo Tryd.underlying46 chgSize (some ⟨g, 0, none⟩) n c k (by omega)
  have s2 := slice_hi Tryd.underlying46 chgSize (some ⟨g, 0, none⟩) n c k (by omega)
  rw [if_neg (by omega), hm, hc', Option.map_some, add_pos_addr, Nat.zero_add] at s1
  have hmp : 0 < m := by omega
  have hxs : x.more.size ≤ 1099511627776 := by
    have := more_take T.loose k (by omega)
    rw [hx] at this; simp only [Tp.tot] at o2; omega
  have WPF := Lib.hid hw
  have O1 := Lib.hid (show ∀ y, y ∈ T.loose.take k ++ [{ x with more := x.more.extract 0 q }] → y.ok from fun y hy => by
    rcases List.mem_append.1 hy with hy | hy
    · exact o1 y (List.mem_of_mem_take hy)
    · have hx' : x.ok := hx ▸ o1 _ (List.getElem_mem _)
      simp only [List.mem_singleton] at hy
      subst hy; exact hx')
  have O2 := Lib.hid (show ({ T with loose := T.loose.take k ++ [{ x with more := x.more.extract 0 q }] } : Tp).tot ≤ 1152921504606846976 from by
    have h1 : moreSum (T.loose.take k) ≤ moreSum T.loose := by have := more_take T.loose k (by omega); omega
    have h2 : (x.more.extract 0 q).size ≤ 1099511627776 := by simp [ByteArray.size_extract]; omega
    simp only [Tp.tot, moreSum_append, moreSum] at o2 ⊢; omega)
  have O3 := Lib.hid (show ({ T with loose := T.loose.take k ++ [{ x with more := x.more.extract 0 q }] } : Tp).loose.length ≤ 1152921504606846976 from by
    simp only [List.length_append, List.length_take, List.length_singleton]; omega)
  have HB := Lib.hid hb
  have HO := Lib.hid hown
  have HF := Lib.hid hF
  have HN := Lib.hid hn
  obtain ⟨hlt, ⟨k0, k1, k2, k3, k4, k5, k6, k7, k8⟩, hfz⟩ := blk9 hb
  have HKN := Lib.hid (show k ≤ n by omega)
  have HP2 := Lib.hid (fun w => (part_c p.torn x.more.size w htorn (by omega)).mono (R' := fun e w' => e = .returned (.int .i64 q) ∧ w' = w) fun e w' h => ⟨by rw [h.1, hq], h.2.symm⟩)
  have HP := Lib.hid (fun w => (part_c p.keep n w hkeep (by omega)).mono (R' := fun e w' => e = .returned (.int .i64 k) ∧ w' = w) fun e w' h => ⟨by rw [h.1, hkk], h.2.symm⟩)
  clear hb hown hF hn hk o1 hkk hm hc' hw hx hdrop he hq
  go_enter Tryd.func14, Tryd.ntmps14
  go_wp2_with fail
  go_quiet ((go_at_call 26; exact Calls.quiet_of_same (HP.out _)))
  go_wp2_with fail
  have V0 : (((w.alloc (.cells #[.int .i64 p.room, .int .i64 p.crash, .int .i64 p.keep, .int .i64 p.torn] 28)).drewN nq).setCell ⟨b, 2, none⟩ (.slice (some ⟨g, 0, none⟩) k c)).heap.size = w.heap.size + 1 := by simp [World.setCell]
  generalize hW : (((w.alloc (.cells #[.int .i64 p.room, .int .i64 p.crash, .int .i64 p.keep, .int .i64 p.torn] 28)).drewN nq).setCell ⟨b, 2, none⟩ (.slice (some ⟨g, 0, none⟩) k c)).alloc (.cells #[.int .i64 x.side, .bool false, .string x.more] 61) = W
  have VK := Lib.hid (show Keeps [b] w W by rw [← hW]; exact ((((Keeps.refl _ _).alloc _).drewN _).setCell (by simp) _).alloc _)
  have VS : W.heap.size = w.heap.size + 1 + 1 := by rw [← hW, World.size_alloc, V0]
  have vb : W.heap[b]? = some (.cells #[.string T.s.a, .string T.s.b, .slice (some ⟨g, 0, none⟩) k c, .int .i64 T.room, .int .i64 T.crash, .int .i64 T.keep, .int .i64 T.torn, .int .i64 T.calls, .bool T.down] 48 (0, 0)) := by rw [← hW]; exact blk_alloc (blk_set (blk_alloc HB.out _) 2 _) _
  have vp : W.heap[w.heap.size]? = some (.cells #[.int .i64 p.room, .int .i64 p.crash, .int .i64 p.keep, .int .i64 p.torn] 28 (0, 0)) := by rw [← hW]; exact blk_alloc (blk_far (blk_new w _) (by simp; omega) _) _
  have vc : W.heap[w.heap.size + 1]? = some (.cells #[.int .i64 x.side, .bool false, .string x.more] 61 (0, 0)) := by rw [← hW]; exact blk_newAt V0 _
  have VB := Lib.hid vb
  have VC := Lib.hid vc
  have VP := Lib.hid vp
  obtain ⟨b1, b2, b3⟩ := blk9 vb
  obtain ⟨d1, d2, d3⟩ := blk3 vc
  obtain ⟨f1, f2, f3⟩ := blk4 vp
  have HWW := Lib.hid hW
  have VSS := Lib.hid VS
  clear hW vb vc vp V0 VS
  refine wp_region_still_tail 10 (by kernel_rfl) (by kernel_rfl) ?_
  simp only [List.take_succ_cons, List.take_zero, List.drop_succ_cons, List.drop_zero]
  show wpStill Tryd.prog _ W.drew (fun a' => wpList _ _ _ _ a' W.drew) _ _
  repeat still_step
  still_call (HP2.out _)
  repeat still_step
  refine wpStill_nil ?_
  have hbc : ¬ b = w.heap.size + 1 := by omega
  obtain ⟨i0, hi, hz0, hz1, hz2⟩ := info_parts Tryd.infoChg
  go_wp2_with fail
  generalize hW2 : (W.setCell ⟨w.heap.size + 1, 2, none⟩ (.string (x.more.extract 0 q))).drew = W2
  have VK2 : Keeps [b] w W2 := by rw [← hW2]; exact (VK.out.setCell (.inr (by simp)) _).drew
  have VS2 : W2.heap.size = w.heap.size + 1 + 1 := by rw [← hW2]; simpa [World.setCell] using VSS.out
  have vb : W2.heap[b]? = some (.cells #[.string T.s.a, .string T.s.b, .slice (some ⟨g, 0, none⟩) k c, .int .i64 T.room, .int .i64 T.crash, .int .i64 T.keep, .int .i64 T.torn, .int .i64 T.calls, .bool T.down] 48 (0, 0)) := by rw [← hW2]; exact blk_far VB.out hbc _
  have vp : W2.heap[w.heap.size]? = some (.cells #[.int .i64 p.room, .int .i64 p.crash, .int .i64 p.keep, .int .i64 p.torn] 28 (0, 0)) := by rw [← hW2]; exact blk_far VP.out (by simp) _
  have vc : W2.heap[w.heap.size + 1]? = some (.cells #[.int .i64 x.side, .bool false, .string (x.more.extract 0 q)] 61 (0, 0)) := by rw [← hW2]; exact blk_set VC.out 2 _
  have VO2 := Lib.hid (own_keeps (own_take HO.out HKN.out) VK2 (fun i hi => by
    have : i = g := by simpa [Value.ownBlock] using hi.symm
    subst this; simpa using hgb))
  have VKK2 := Lib.hid VK2
  have VB2 := Lib.hid vb
  have VP2 := Lib.hid vp
  have VC2 := Lib.hid vc
  have VSS2 := Lib.hid VS2
  clear b1 b2 b3 d1 d2 d3 f1 f2 f3
  obtain ⟨b1, b2, b3⟩ := blk9 vb
  obtain ⟨d1, d2, d3⟩ := blk3 vc
  obtain ⟨f1, f2, f3⟩ := blk4 vp
  have HWW2 := Lib.hid hW2
  clear hW2 vb vc vp VK2 VS2
  have hbb : b < W2.heap.size := b1
  have hkn := HKN.out
  go_region_law (refine step_append_lies _ rfl (.tmp 59) (.tmp 61) 46 rfl 0 61 i0 (.agg #[.int .i64 0, .bool false, .string ⟨#[]⟩]) 3 32 Tryd.underlying46 hi hz0 hz1 hz2 rfl (by decide) (.slice (some ⟨g, 0, none⟩) k c) k _ (by simp [Act.eval, Act.put]) (own_keeps VO2.out ((Keeps.refl [] _).drew.alloc _) (by simp)) ⟨W2.heap.size, 0, none⟩ 1 1 [.int .i64 x.side, .bool false, .string (x.more.extract 0 q)] (by simp [Act.eval, Act.put]) (by rfl) (World.news_of_block (blk_new _ _)) (by simp [Value.oneCell']) (by decide) (by unfold maxLen; omega) (by omega) (Nat.zero_le _) _ rfl ?_; intro gg cap w2 hown2 hgrow hg2 hglt; have hb2 := blk_grown (blk_alloc (w := W2.drew) VB2.out _) hgrow (fun e => by simp [Value.ownBlock] at e; exact hgb e); have hp2 := blk_grown (blk_alloc (w := W2.drew) VP2.out _) hgrow (fun e => by simp [Value.ownBlock] at e; omega); obtain ⟨hx1, ⟨_, _, hx2, _⟩, hx3⟩ := blk9 hb2; have HB2 := Lib.hid hb2; have HP9 := Lib.hid hp2; have HO2 := Lib.hid hown2; have HG := Lib.hid hgrow; have Hg := Lib.hid hg2; clear hb2 hown2 hgrow hg2 hp2)
  all_goals
    go_wp2_with fail
    have hx4 := blk_set HB2.out 2 (.slice (some ⟨gg, 0, none⟩) (k + 1) cap)
    have hp4 := blk_far HP9.out (show w.heap.size ≠ b by omega) (p := ⟨b, 2, none⟩) (.slice (some ⟨gg, 0, none⟩) (k + 1) cap)
    have HX4 := Lib.hid hx4
    have HP4 := Lib.hid hp4
    have HT4 := Lib.hid (show TAt b [b, gg] { T with loose := T.loose.take k ++ [{ x with more := x.more.extract 0 q }] } (w2.setCell ⟨b, 2, none⟩ (.slice (some ⟨gg, 0, none⟩) (k + 1) cap)) from by
      refine ⟨.slice (some ⟨gg, 0, none⟩) (k + 1) cap, rfl, hx4, ?_⟩
      have hg2 := own_ne HO2.out HB2.out (by decide) gg rfl
      have := own_keeps HO2.out ((Keeps.refl [b] _).setCell (p := ⟨b, 2, none⟩) (by simp) (.slice (some ⟨gg, 0, none⟩) (k + 1) cap)) (fun i hi => by
        have : i = gg := by simpa [Value.ownBlock] using hi.symm
        subst this; simpa using hg2)
      rw [List.length_append, List.length_take, HN.out, Nat.min_eq_left hkn, List.flatMap_append, flat_take]
      simpa [chgCells, WPF.out] using this)
    have HT5 := Lib.hid (show TAt b [b, gg] { T with loose := T.loose.take k ++ [{ x with more := x.more.extract 0 q }] } (w2.setCell ⟨b, 2, none⟩ (.slice (some ⟨gg, 0, none⟩) (k + 1) cap)).drew from HT4.out.below (Below.refl _ _).drew)
    obtain ⟨z0, z1, z2⟩ := blk4 HP9.out
    clear hx4 hp4
    go_region_with (go_at_call 27; refine (now_c b [b, gg] { T with loose := T.loose.take k ++ [{ x with more := x.more.extract 0 q }] } _ HT5.out O1.out O2.out O3.out).mono ?_; rintro e w9 ⟨rfl, hb9⟩; have hx9 := blk_b hb9 HX4.out; obtain ⟨x0, x1, x2⟩ := blk9 hx9; have hp9 := blk_b hb9 HP4.out; obtain ⟨y0, y1, y2⟩ := blk4 hp9; have HB9 := Lib.hid hb9; have HX9 := Lib.hid hx9; clear hb9 hx9 hp9)
    all_goals
      go_wp2
      go_end0
      rw [E.out]
      refine ⟨rfl, ⟨.slice none 0 0, rfl, ?_, World.ownsRow_nil _ _ _ _⟩, ?_⟩
      · exact blk9_all HX9.out
      · have hb' : b ∈ F := by rw [HF.out]; simp
        have hg' : g ∈ F := by rw [HF.out]; simp [Value.ownBlock]
        have k1 : Keeps F w W2 := VKK2.out.mono (fun i hi => by simp at hi; subst hi; exact hb')
        have k2 : Keeps F w w2 := (k1.drew.alloc _).grown HG.out (fun i hi => by
          left; simp [Value.ownBlock] at hi; subst hi; exact hg')
        exact (((((((((((k2.setCell (.inl hb') _).drew.thenBelow HB9.out).setCell (.inl hb') _).setCell (.inl hb') _).setCell (.inl hb') _).setCell (.inl hb') _).setCell (.inl hb') _).setCell (.inl hb') _).setCell (.inl hb') _).setCell (.inl hb') _).setCell (.inl hb') _)

theorem Fall_c (b : Nat) (F : List Nat) (T : Tp) (p : Pl) (w : World) (h : TAt b F T w) (hok : T.ok) (hkeep : p.keep ≤ 9223372036854775807) (htorn : p.torn ≤ 9223372036854775807) :
    Calls Tryd.prog 14 #[.pointer (some ⟨b, 0, none⟩), .agg #[.int .i64 p.room, .int .i64 p.crash, .int .i64 p.keep, .int .i64 p.torn]] w fun e w' => e = .returned (.tuple #[]) ∧ TAt b [b] (T.fall p) w' ∧ Keeps F w w' := by
  by_cases h1 : partOf p.keep T.loose.length < T.loose.length
  · cases h2 : T.loose[partOf p.keep T.loose.length].wipe
    · exact Fall_torn b F T p w h hok hkeep htorn h1 h2
    · exact Fall_wipe b F T p w h hok hkeep h1 h2
  · exact Fall_whole b F T p w h hok hkeep (by have := partOf_le p.keep T.loose.length; omega)
end Go.Proofs.YtjhahhpcpempgaaDoor
