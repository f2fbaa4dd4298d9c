/- The tape's writing functions. -/
import Derived.Test.YtjhahhpcpempgaaDoorTape
import Derived.Deep.RegionLawGrows
set_option linter.unusedVariables false
set_option linter.unusedSimpArgs false
namespace Go.Proofs.YtjhahhpcpempgaaDoor
open Go.RowKit

/-- The error of a tape that is down. -/
def downE (b : Bool) : Int := if b then 16 else 0
def Tp.count (T : Tp) : Tp := { T with calls := T.calls + 1, down := decide (T.crash = T.calls + 1) }

theorem counted_c (b : Nat) (F : List Nat) (T : Tp) (w : World) (h : TAt b F T w) (h0 : 0 ≤ T.calls) (h1 : T.calls ≤ 1152921504606846976) :
    Calls Tryd.prog 53 #[.pointer (some ⟨b, 0, none⟩)] w fun e w' => e = .returned (.int .i64 (downE T.count.down)) ∧ TAt b F T.count w' ∧ Keeps F w w' := by
  obtain ⟨lv, rfl, hb, hown⟩ := h
  have HB := Lib.hid hb
  have HO := Lib.hid hown
  obtain ⟨hlt, ⟨_, _, _, _, h4, _, _, h7, h8⟩, hfz⟩ := blk9 hb
  clear hb hown
  by_cases hd : T.crash = T.calls + 1
  · have e : T.count = { T with calls := T.calls + 1, down := true } := by simp [Tp.count, hd]
    have E := Lib.hid e
    rw [hd] at h4
    clear hd e
    go_enter Tryd.func53, Tryd.ntmps53
    go_wp2
    go_region
    go_wp2
    go_ret
    rw [E.out]
    exact ⟨rfl, TAt.set HB.out HO.out rfl (((Keeps.refl _ _).setCell (by simp) _).drew.setCell (by simp) _) (blk_set (blk_set HB.out 7 _) 8 _), ((Keeps.refl _ _).setCell (by simp) _).drew.setCell (by simp) _⟩
  · have e : T.count = { T with calls := T.calls + 1, down := false } := by simp [Tp.count, hd]
    have E := Lib.hid e
    have hd2 : (T.crash == T.calls + 1) = false := by simpa using hd
    clear hd e
    go_enter Tryd.func53, Tryd.ntmps53
    go_wp2
    go_region
    go_wp2
    go_ret
    rw [E.out]
    exact ⟨rfl, TAt.set HB.out HO.out rfl (((Keeps.refl _ _).setCell (by simp) _).drew.setCell (by simp) _) (blk_set (blk_set HB.out 7 _) 8 _), ((Keeps.refl _ _).setCell (by simp) _).drew.setCell (by simp) _⟩

/-- A change is put: counted; behind the others, unless the tape falls. -/
def Tp.put (T : Tp) (c : Chg) : Tp := if T.count.down then T.count else { T.count with loose := T.loose ++ [c] }
def Tp.ok (T : Tp) : Prop := (∀ c, c ∈ T.loose → c.ok) ∧ T.tot ≤ 1099511627776 ∧ T.loose.length ≤ 1000000 ∧ 0 ≤ T.calls ∧ T.calls ≤ 1099511627776 ∧ T.room ≤ 9223372036854775807

theorem Tryd.infoChg : (Tryd.prog.info? 61).map (fun i => (i.zero, i.size, i.bytes)) = some (some (.agg #[.int .i64 0, .bool false, .string ⟨#[]⟩]), 3, 32) := by kernel_rfl

theorem put_c (b : Nat) (F : List Nat) (T : Tp) (c : Chg) (w : World) (h : TAt b F T w) (hok : T.ok) :
    Calls Tryd.prog 41 #[.pointer (some ⟨b, 0, none⟩), .agg #[.int .i64 c.side, .bool c.wipe, .string c.more]] w fun e w' => e = .returned (.int .i64 (downE (T.put c).down)) ∧
      ∃ F', TAt b F' (T.put c) w' ∧ Keeps F w w' ∧ ∀ i, i ∈ F' → i ∈ F ∨ w.heap.size ≤ i := by
  have hlt : b < w.heap.size := h.lt b h.mem
  obtain ⟨_, _, hll, hc0, hc1, _⟩ := hok
  have H := Lib.hid h
  have HT := Lib.hid (h.below ((Below.refl _ _).alloc (Nat.le_refl _) (.cells #[.int .i64 c.side, .bool c.wipe, .string c.more] 61)))
  clear h
  cases hd : T.count.down
  · have e : T.put c = { T.count with loose := T.loose ++ [c] } := by simp [Tp.put, hd]
    have E := Lib.hid e
    have HD := Lib.hid hd
    clear hd e
    go_enter Tryd.func41, Tryd.ntmps41
    go_wp2_with fail
    refine (counted_c b F T _ HT.out hc0 (by omega)).mono ?_
    rintro e w1 ⟨rfl, ht1, hk1⟩
    rw [HD.out]
    have hcell := blk_keeps (blk_new w (.cells #[.int .i64 c.side, .bool c.wipe, .string c.more] 61)) hk1 (fun q => by have := H.out.lt _ q; omega)
    obtain ⟨lv, hF, hb1, hown⟩ := ht1
    obtain ⟨hlt1, ⟨hc0', hc1', hc2'⟩, _⟩ := blk3 hcell
    obtain ⟨hlt2, ⟨_, _, h2, _, _, _, _, _, _⟩, hfz⟩ := blk9 hb1
    have HB := Lib.hid hb1
    have HO := Lib.hid hown
    have HF := Lib.hid hF
    have HK := Lib.hid hk1
    have HC := Lib.hid hcell
    clear hb1 hown hF hcell hk1
    go_wp2_with fail
    obtain ⟨i0, hi, hz0, hz1, hz2⟩ := info_parts Tryd.infoChg
    have hlt3 : b < w1.heap.size := hlt2
    go_region_law (refine step_append_lies _ rfl (.tmp 15) (.tmp 17) 46 rfl 0 61 i0 (.agg #[.int .i64 0, .bool false, .string ⟨#[]⟩]) 3 32 Tryd.underlying46 hi hz0 hz1 hz2 rfl (by decide) lv T.count.loose.length _ (by simp [Act.eval, Act.put]) (own_keeps HO.out ((Keeps.refl [] _).drew.alloc _) (by simp)) ⟨w1.heap.size, 0, none⟩ 1 1 [.int .i64 c.side, .bool c.wipe, .string c.more] (by simp [Act.eval, Act.put]) (by rfl) (World.news_of_block (blk_new _ _)) (by simp [Value.oneCell']) (by decide) (by unfold maxLen; simp [Tp.count]; omega) (by simp [Tp.count]; omega) (Nat.zero_le _) _ rfl ?_; intro g cap w2 hown2 hgrow hg hglt; have hb2 := blk_grown (blk_alloc (w := w1.drew) HB.out _) hgrow (fun e => own_ne HO.out HB.out (by decide) _ e rfl); obtain ⟨hx1, ⟨_, _, hx2, _⟩, hx3⟩ := blk9 hb2; have HB2 := Lib.hid hb2; have HO2 := Lib.hid hown2; have HG := Lib.hid hgrow; have Hg := Lib.hid hg; clear hb2 hown2 hgrow hg)
    all_goals
      go_wp2
      go_ret
      rw [E.out]
      have hF' := HF.out
      refine ⟨(by show _ = Ending.returned (.int .i64 (downE T.count.down)); rw [HD.out]; rfl), [b, g], ⟨_, rfl, blk_set HB2.out 2 _, ?_⟩, ?_, ?_⟩
      · have hg2 := own_ne HO2.out HB2.out (by decide) g rfl
        have := own_keeps HO2.out ((Keeps.refl [b] _).setCell (p := ⟨b, 2, none⟩) (by simp) (.slice (some ⟨g, 0, none⟩) (T.count.loose.length + 1) cap)) (fun k hk => by
          have : k = g := by simpa [Value.ownBlock] using hk.symm
          subst this; simpa using hg2)
        simpa [List.flatMap_append, chgCells, show T.count.loose = T.loose from rfl] using this
      · subst hF'
        have k1 := ((Keeps.refl (b :: lv.ownBlock.toList) w).alloc (.cells #[.int .i64 c.side, .bool c.wipe, .string c.more] 61)).trans HK.out (fun i hi => .inl hi)
        refine ((k1.drew.alloc _).grown HG.out (fun k hk => ?_)).setCell (by simp) _
        left; simp [hk]
      · intro i hi
        simp only [List.mem_cons, List.not_mem_nil, or_false] at hi
        rcases hi with rfl | rfl
        · left; rw [hF']; simp
        · rcases Hg.out with e | e
          · left; rw [hF']; simp [e]
          · right; have := HK.out.size; simp at e this; omega
  · have e : T.put c = T.count := by simp [Tp.put, hd]
    have E := Lib.hid e
    have HD := Lib.hid hd
    clear hd e
    go_enter Tryd.func41, Tryd.ntmps41
    go_wp2_with fail
    refine (counted_c b F T _ HT.out hc0 (by omega)).mono ?_
    rintro e w1 ⟨rfl, ht1, hk1⟩
    rw [HD.out]
    go_wp2
    go_ret
    rw [E.out, HD.out]
    exact ⟨rfl, F, ht1, ((Keeps.refl F w).alloc _).trans hk1 (fun i hi => .inl hi), fun i hi => .inl hi⟩

/-- What is on a side. -/
theorem side0 (s : Sd) : ∀ w, (Instr.index 45 (.agg #[.string s.a, .string s.b]) (.int .i64 0)).run Tryd.prog w = .ok (.string s.a) w := fun _ => by kernel_rfl
theorem side1 (s : Sd) : ∀ w, (Instr.index 45 (.agg #[.string s.a, .string s.b]) (.int .i64 1)).run Tryd.prog w = .ok (.string s.b) w := fun _ => by kernel_rfl

def Tp.side (T : Tp) (n : Int) : ByteArray := if n = 0 then T.now.a else T.now.b

theorem Side_c (b : Nat) (F : List Nat) (T : Tp) (n : Int) (w : World) (h : TAt b F T w) (hok : T.ok) (hd : T.down = false) (hn : n = 0 ∨ n = 1) :
    Calls Tryd.prog 17 #[.pointer (some ⟨b, 0, none⟩), .int .i64 n] w fun e w' => e = .returned (.tuple #[.string (T.side n), .int .i64 0]) ∧ Below w.heap.size w w' := by
  have H := Lib.hid h
  obtain ⟨h1, h2, h3, _⟩ := hok
  have H1 := Lib.hid h1
  have HD := Lib.hid hd
  have HG := gate_c b F T n w h
  have e0 : (if T.down then 16 else if n < 0 ∨ n ≥ 2 then 1 else 0 : Int) = 0 := by
    rw [hd]; rcases hn with rfl | rfl <;> simp
  rw [e0] at HG
  have HG' := Lib.hid HG
  clear h hd h1 e0 HG
  rcases hn with rfl | rfl
  · go_enter Tryd.func17, Tryd.ntmps17
    go_wp2_with fail
    refine HG'.out.mono ?_
    rintro e w1 ⟨rfl, rfl⟩
    go_wp2_with fail
    refine (now_c b F T _ H.out H1.out (by omega) (by omega)).mono ?_
    rintro e w1 ⟨rfl, hb⟩
    have hi := side0 T.now
    go_wp2
    go_ret2
    exact ⟨rfl, hb⟩
  · go_enter Tryd.func17, Tryd.ntmps17
    go_wp2_with fail
    refine HG'.out.mono ?_
    rintro e w1 ⟨rfl, rfl⟩
    go_wp2_with fail
    refine (now_c b F T _ H.out H1.out (by omega) (by omega)).mono ?_
    rintro e w1 ⟨rfl, hb⟩
    have hi := side1 T.now
    go_wp2
    go_ret2
    exact ⟨rfl, hb⟩

theorem Side_down (b : Nat) (F : List Nat) (T : Tp) (n : Int) (w : World) (h : TAt b F T w) (hd : T.down = true) :
    Calls Tryd.prog 17 #[.pointer (some ⟨b, 0, none⟩), .int .i64 n] w fun e w' => e = .returned (.tuple #[.string ⟨#[]⟩, .int .i64 16]) ∧ w = w' := by
  have HG := gate_c b F T n w h
  rw [hd] at HG
  have HG' := Lib.hid HG
  clear h hd HG
  go_enter Tryd.func17, Tryd.ntmps17
  go_wp2_with fail
  refine HG'.out.mono ?_
  rintro e w1 ⟨rfl, rfl⟩
  go_wp2
  go_ret2
  exact ⟨rfl, rfl⟩

theorem gate_up (b : Nat) (F : List Nat) (T : Tp) (n : Int) (w : World) (h : TAt b F T w) (hd : T.down = false) (hn : n = 0 ∨ n = 1) :
    Calls Tryd.prog 28 #[.pointer (some ⟨b, 0, none⟩), .int .i64 n] w fun e w' => e = .returned (.int .i64 0) ∧ w = w' := by
  have HG := gate_c b F T n w h
  have e0 : (if T.down then 16 else if n < 0 ∨ n ≥ 2 then 1 else 0 : Int) = 0 := by
    rw [hd]; rcases hn with rfl | rfl <;> simp
  rw [e0] at HG
  exact HG

/-- The new state of a tape in which a change was put: what a call of it tells. -/
def Put (b : Nat) (F : List Nat) (T' : Tp) (w : World) (er : Int) (e : Ending) (w' : World) : Prop :=
  e = .returned (.int .i64 er) ∧ ∃ F', TAt b F' T' w' ∧ Keeps F w w' ∧ ∀ i, i ∈ F' → i ∈ F ∨ w.heap.size ≤ i

theorem Wipe_c (b : Nat) (F : List Nat) (T : Tp) (n : Int) (w : World) (h : TAt b F T w) (hok : T.ok) (hd : T.down = false) (hn : n = 0 ∨ n = 1) :
    Calls Tryd.prog 23 #[.pointer (some ⟨b, 0, none⟩), .int .i64 n] w (Put b F (T.put ⟨n, true, mt⟩) w (downE (T.put ⟨n, true, mt⟩).down)) := by
  have H := Lib.hid h
  have HOK := Lib.hid hok
  have HG := gate_up b F T n w h hd hn
  have HG' := Lib.hid HG
  clear h hd hok HG hn
  go_enter Tryd.func23, Tryd.ntmps23
  go_wp2_with fail
  refine HG'.out.mono ?_
  rintro e w1 ⟨rfl, rfl⟩
  go_wp2_with fail
  refine (put_c b F T ⟨n, true, ⟨#[]⟩⟩ w H.out HOK.out).mono ?_
  rintro e w1 ⟨rfl, hp⟩
  go_wp2
  go_ret
  exact ⟨rfl, hp⟩

def Tp.sealed (T : Tp) : Tp := if T.count.down then T.count else { T.count with s := T.now, loose := [] }

theorem Seal_c (b : Nat) (F : List Nat) (T : Tp) (w : World) (h : TAt b F T w) (hok : T.ok) (hd : T.down = false) :
    Calls Tryd.prog 39 #[.pointer (some ⟨b, 0, none⟩)] w (Put b F T.sealed w (downE T.sealed.down)) := by
  have H := Lib.hid h
  obtain ⟨h1, h2, h3, h4, h5, _⟩ := hok
  have H1 := Lib.hid h1
  have HG := gate_up b F T 0 w h hd (.inl rfl)
  have HG' := Lib.hid HG
  clear h hd HG h1
  cases hd : T.count.down
  · have e : T.sealed = { T.count with s := T.now, loose := [] } := by simp [Tp.sealed, hd]
    have E := Lib.hid e
    have HD := Lib.hid hd
    clear hd e
    go_enter Tryd.func39, Tryd.ntmps39
    go_wp2_with fail
    refine HG'.out.mono ?_
    rintro e w1 ⟨rfl, rfl⟩
    go_wp2_with fail
    refine (counted_c b F T _ H.out h4 (by omega)).mono ?_
    rintro e w1 ⟨rfl, ht1, hk1⟩
    rw [HD.out]
    have HT1 := Lib.hid ht1
    have HK1 := Lib.hid hk1
    clear ht1 hk1
    go_wp2_with fail
    refine (now_c b F T.count _ HT1.out H1.out (by exact Nat.le_trans h2 (by decide)) (by exact Nat.le_trans h3 (by decide))).mono ?_
    rintro e w2 ⟨rfl, hb2⟩
    obtain ⟨lv, hF, hb1, hown⟩ := HT1.out.below hb2
    obtain ⟨hlt2, ⟨k0, k1, k2, _⟩, hfz⟩ := blk9 hb1
    have f0 := hfz 0
    have f1 := hfz 1
    have f2 := hfz 2
    have HB := Lib.hid hb1
    have HO := Lib.hid hown
    have HF := Lib.hid hF
    have HB2 := Lib.hid hb2
    clear hb1 hown hF hb2 hfz
    go_wp2
    go_ret
    rw [E.out]
    refine ⟨(by show _ = Ending.returned (.int .i64 (downE T.count.down)); rw [HD.out]; rfl), [b], ⟨.slice none 0 0, rfl, blk_set (blk_set (blk_set HB.out 0 _) 1 _) 2 _, World.ownsRow_nil _ _ _ _⟩, ?_, ?_⟩
    · have hF := HF.out
      exact (((HK1.out.thenBelow HB2.out).setCell (by simp [hF]) _).setCell (by simp [hF]) _).setCell (by simp [hF]) _
    · intro i hi
      left
      have hF := HF.out
      rw [hF]
      simp at hi
      simp [hi]
  · have e : T.sealed = T.count := by simp [Tp.sealed, hd]
    have E := Lib.hid e
    have HD := Lib.hid hd
    clear hd e
    go_enter Tryd.func39, Tryd.ntmps39
    go_wp2_with fail
    refine HG'.out.mono ?_
    rintro e w1 ⟨rfl, rfl⟩
    go_wp2_with fail
    refine (counted_c b F T _ H.out h4 (by omega)).mono ?_
    rintro e w1 ⟨rfl, ht1, hk1⟩
    rw [HD.out]
    go_wp2
    go_ret
    rw [E.out, HD.out]
    exact ⟨rfl, F, ht1, hk1, fun i hi => .inl hi⟩
end Go.Proofs.YtjhahhpcpempgaaDoor
