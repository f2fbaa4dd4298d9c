/- Writings by what they do; and the example that every law ends in. -/
import Derived.Test.YtjhahhpcpempgaaDoorLaw1
import Derived.Test.YtjhahhpcpempgaaDoorTape4
set_option linter.unusedVariables false
set_option linter.unusedSimpArgs false
namespace Go.Proofs.YtjhahhpcpempgaaDoor
open Go.RowKit

/-- The state behind a writing, by what it did. -/
def Did (jb b : Nat) (F : List Nat) (T : Tp) (J : Jn) (l : List ByteArray) (m : Nat) (w : World) (e : Ending) (w' : World) : Prop :=
  ∃ o, Went T J l m o ∧ e = .returned (.int .i64 o.e) ∧ JAt jb b o.J w' ∧ ∃ F', TAt b F' o.T w' ∧ Keeps (jb :: F) w w' ∧ ∀ i, i ∈ F' → i ∈ F ∨ w.heap.size ≤ i

theorem Save_s (jb b : Nat) (F : List Nat) (T : Tp) (J : Jn) (lv : Value) (l : List ByteArray) (m a k : Nat) (w : World) (hJ : JAt jb b J w) (hT : TAt b F T w) (hG : Glob w) (hl : RdStrs w lv l)
    (hf : Fine T J) (hlo : LinesOk l) (ht : J.turn ≤ 4611686018427387904) (hm : (framesB l).size + 44 ≤ m) (hlim : T.lim a k) (ha : a + m ≤ 1099511627776) (hk : k ≤ 999000) (hr : (a + m : Int) ≤ T.room) (hn : l.length ≤ 1099511627776) :
    Calls Tryd.prog 10 #[.pointer (some ⟨jb, 0, none⟩), lv] w (Did jb b F T J l m w) := by
  have hw := save_spec T J l m hf hlo ht hm (by omega) (by have := hlim.2.1; omega)
  have hside := openS_side T.s
  have hturn := openS_turn T.s
  rw [← hf.is] at hside hturn
  have he : J.gateE l = 0 → (anewM T J l).e ≠ 15 := fun h => by
    have := hw.e15
    unfold saveM at this
    rw [h] at this
    exact this
  refine (Save_c jb b F T J lv l w hJ hT hG hl hf.up a k hlim (by omega) hk hside hturn ht hn (fun x hx => by have := lineOk_size (hlo x hx); omega) he).mono ?_
  rintro e w1 ⟨h1, h2, h3⟩
  exact ⟨_, hw, h1, h2, h3⟩
theorem Note_s (jb b : Nat) (F : List Nat) (T : Tp) (J : Jn) (s : ByteArray) (m a k : Nat) (w : World) (hJ : JAt jb b J w) (hT : TAt b F T w) (hG : Glob w)
    (hf : Fine T J) (hlo : lineOk s = true) (ht : J.turn ≤ 4611686018427387904) (hm : s.size + 100 ≤ m) (hlim : T.lim a k) (ha : a + m ≤ 1099511627776) (hk : k ≤ 999000) (hr : (a + m : Int) ≤ T.room) (hn : J.lines.length ≤ 1000000000) :
    Calls Tryd.prog 12 #[.pointer (some ⟨jb, 0, none⟩), .string s] w (Did jb b F T J (J.lines ++ [s]) m w) := by
  have hw := note_spec T J s m hf hlo ht (by omega) (by omega) (by have := hlim.2.1; omega)
  have hside := openS_side T.s
  have hturn := openS_turn T.s
  rw [← hf.is] at hside hturn
  have he : J.gateE [s] = 0 → J.turn ≠ 0 → (behindM T J s).e ≠ 15 := fun h h0 => by
    have := hw.e15
    unfold noteM at this
    rw [h, show (J.turn == 0) = false from by simpa using h0] at this
    exact this
  refine (Note_c jb b F T J s w hJ hT hG hf.up a k hlim (by omega) hk hside hturn ht hn he).mono ?_
  rintro e w1 ⟨h1, h2, h3⟩
  exact ⟨_, hw, h1, h2, h3⟩

/-- A journal that is up, with what bounds it. -/
structure Up (T : Tp) (J : Jn) (l : List ByteArray) (a k : Nat) : Prop where
  fine : Fine T J
  lines : J.lines = l
  lim : T.lim a k
  turn : J.turn ≤ k

theorem Up.did {T : Tp} {J : Jn} {l l' : List ByteArray} {a k m : Nat} {o : Out} (h : Up T J l a k) (hw : Went T J l' m o) (hc : T.crash ≤ T.calls) : o.e = 0 ∧ Up o.T o.J l' (a + m) (k + 3) ∧ o.T.crash ≤ o.T.calls ∧ o.T.room = T.room := by
  rcases hw.or with ⟨h1, h2, h3, h4, h5⟩ | ⟨h1, h2, h3, _⟩
  · have := h.turn
    have hca := hw.calls
    exact ⟨h1, ⟨h2, h3, hw.lim a k h.lim, by omega⟩, by rw [hw.crash]; omega, hw.room⟩
  · exact absurd h3 (by omega)
theorem up_new (p : Pl) (hp : p.room ≤ 9223372036854775807) : Up (Tp.new p) (openJ (Tp.new p)) [] 0 0 := by
  have e : openJ (Tp.new p) = J0 := by rw [fine_openJ rfl]; exact (fine_new p).is.symm
  rw [e]
  exact ⟨fine_new p, rfl, new_lim p hp, Int.le_refl _⟩

/-- A tape in a law: nothing of the caller's is touched. -/
structure TL (w0 : World) (b : Nat) (F : List Nat) (T : Tp) (W : World) : Prop where
  at_ : TAt b F T W
  glob : Glob W
  below : Below w0.heap.size w0 W
  fresh : ∀ i, i ∈ F → w0.heap.size ≤ i
structure JL (w0 : World) (jb b : Nat) (J : Jn) (W : World) : Prop where
  at_ : JAt jb b J W
  fresh : w0.heap.size ≤ jb
theorem TL.then_ {w0 W W' : World} {b : Nat} {F : List Nat} {T : Tp} (h : TL w0 b F T W) (hb : Below W.heap.size W W') : TL w0 b F T W' :=
  ⟨h.at_.below hb, h.glob.below hb, bthen h.below hb (Nat.le_refl _), h.fresh⟩
theorem JL.then_ {w0 W W' : World} {jb b : Nat} {J : Jn} (h : JL w0 jb b J W) (hb : Below W.heap.size W W') : JL w0 jb b J W' := ⟨h.at_.below hb, h.fresh⟩
/-- Only what holds state is touched. -/
def Kept (W W' : World) : Prop := ∃ F, FT F W ∧ Keeps F W W'
theorem Kept.below {W W' : World} (h : Below W.heap.size W W') : Kept W W' := ⟨[], fun i hi => by simp at hi, Keeps.ofBelow h⟩
theorem Kept.strs {W W' : World} {v : Value} {x : List ByteArray} (h : Kept W W') (hx : RdStrs W v x) : RdStrs W' v x := by
  obtain ⟨F, h1, h2⟩ := h
  exact hx.keeps h2 h1
theorem Kept.blk {W W' : World} {k : Nat} {cs : Array Value} {e : TypeId} {fr : Nat × Nat} (h : Kept W W') (hx : W.heap[k]? = some (.cells cs e fr)) (he : e ∉ ST) : W'.heap[k]? = some (.cells cs e fr) := by
  obtain ⟨F, h1, h2⟩ := h
  refine (h2.block k (blk_lt hx) (fun hk => ?_)).trans hx
  obtain ⟨e', h3, h4⟩ := h1 k hk
  rw [etype_of hx] at h4
  cases h4
  exact he h3
theorem FT_cons {jb : Nat} {F : List Nat} {W : World} (h : FT [jb] W) (k : FT F W) : FT (jb :: F) W := fun i hi => by
  rcases List.mem_cons.1 hi with rfl | hi
  · exact h _ (by simp)
  · exact k i hi
def DidL (w0 : World) (jb b : Nat) (T : Tp) (J : Jn) (l : List ByteArray) (m : Nat) (W : World) (e : Ending) (w' : World) : Prop :=
  ∃ o F', Went T J l m o ∧ e = .returned (.int .i64 o.e) ∧ TL w0 b F' o.T w' ∧ JL w0 jb b o.J w' ∧ Kept W w'
theorem Did.l {w0 W w' : World} {jb b m : Nat} {F : List Nat} {T : Tp} {J : Jn} {l : List ByteArray} {e : Ending} (hT : TL w0 b F T W) (hJ : JL w0 jb b J W) (h : Did jb b F T J l m W e w') : DidL w0 jb b T J l m W e w' := by
  obtain ⟨o, h1, h2, h3, F', h4, h5, h6⟩ := h
  have hft : FT (jb :: F) W := FT_cons hJ.at_.ft hT.at_.ft
  have hs := hT.below.size
  refine ⟨o, F', h1, h2, ⟨h4, hT.glob.keeps h5 hft, hT.below.trans (h5.below (fun i hi => ?_) hs), fun i hi => ?_⟩, ⟨h3, hJ.fresh⟩, ⟨_, hft, h5⟩⟩
  · rcases List.mem_cons.1 hi with rfl | hi
    · exact hJ.fresh
    · exact hT.fresh i hi
  · rcases h6 i hi with q | q
    · exact hT.fresh i q
    · omega
theorem Save_u {w0 W : World} {jb b a k m : Nat} {F : List Nat} {T : Tp} {J : Jn} {l0 l : List ByteArray} {lv : Value} (hT : TL w0 b F T W) (hJ : JL w0 jb b J W) (hl : RdStrs W lv l) (hu : Up T J l0 a k)
    (hlo : LinesOk l) (hm : (framesB l).size + 44 ≤ m) (ha : a + m ≤ 1099511627776) (hk : k ≤ 999000) (hr : (a + m : Int) ≤ T.room) (hn : l.length ≤ 1099511627776) :
    Calls Tryd.prog 10 #[.pointer (some ⟨jb, 0, none⟩), lv] W (DidL w0 jb b T J l m W) :=
  (Save_s jb b F T J lv l m a k W hJ.at_ hT.at_ hT.glob hl hu.fine hlo (by have := hu.turn; omega) hm hu.lim ha hk hr hn).mono fun e w' h => h.l hT hJ
theorem Note_u {w0 W : World} {jb b a k m : Nat} {F : List Nat} {T : Tp} {J : Jn} {l0 : List ByteArray} {s : ByteArray} (hT : TL w0 b F T W) (hJ : JL w0 jb b J W) (hu : Up T J l0 a k)
    (hlo : lineOk s = true) (hm : s.size + 100 ≤ m) (ha : a + m ≤ 1099511627776) (hk : k ≤ 999000) (hr : (a + m : Int) ≤ T.room) (hn : l0.length ≤ 1000000000) :
    Calls Tryd.prog 12 #[.pointer (some ⟨jb, 0, none⟩), .string s] W (DidL w0 jb b T J (l0 ++ [s]) m W) := by
  have hll := hu.lines
  subst hll
  exact (Note_s jb b F T J s m a k W hJ.at_ hT.at_ hT.glob hu.fine hlo (by have := hu.turn; omega) hm hu.lim ha hk hr hn).mono fun e w' h => h.l hT hJ
def NewL (w0 W : World) (p : Pl) (e : Ending) (w' : World) : Prop := ∃ b, e = .returned (.pointer (some ⟨b, 0, none⟩)) ∧ TL w0 b [b] (Tp.new p) w' ∧ Below W.heap.size W w'
theorem New_u {w0 W : World} (p : Pl) (hG : Glob W) (hb : Below w0.heap.size w0 W) : Calls Tryd.prog 6 #[.agg #[.int .i64 p.room, .int .i64 p.crash, .int .i64 p.keep, .int .i64 p.torn]] W (NewL w0 W p) :=
  (New_c p W).mono fun e w' h => ⟨_, h.1, ⟨h.2.1, hG.below h.2.2, bthen hb h.2.2 (Nat.le_refl _), fun i hi => by have := hb.size; simp at hi; omega⟩, h.2.2⟩
def OpenL (w0 W : World) (b : Nat) (F : List Nat) (T : Tp) (e : Ending) (w' : World) : Prop :=
  ∃ jb, e = .returned (.tuple #[.pointer (some ⟨jb, 0, none⟩), .int .i64 0]) ∧ JL w0 jb b (openS T.s) w' ∧ TL w0 b F T w' ∧ Below W.heap.size W w'
theorem Open_u {w0 W : World} {b a k : Nat} {F : List Nat} {T : Tp} (hT : TL w0 b F T W) (hd : T.down = false) (hlo : T.loose = []) (hlim : T.lim a k) (ha : a ≤ 1073741824) (hk : k ≤ 999000) :
    Calls Tryd.prog 7 #[.pointer (some ⟨b, 0, none⟩)] W (OpenL w0 W b F T) :=
  (Open_c b F T W hT.at_ (hlim.ok (by omega) (by omega)) hd (by have := hlim.2.1; omega) hT.glob).mono fun e w' h => by
    obtain ⟨jb, h1, h2, h3, h4⟩ := h
    rw [fine_openJ hlo] at h3
    exact ⟨jb, h1, ⟨h3, Nat.le_trans hT.below.size h2⟩, hT.then_ h4, h4⟩
def FallL (w0 W : World) (b : Nat) (T : Tp) (p : Pl) (e : Ending) (w' : World) : Prop := e = .returned (.tuple #[]) ∧ TL w0 b [b] (T.fall p) w' ∧ Kept W w'
theorem Fall_u {w0 W : World} {b a k : Nat} {F : List Nat} {T : Tp} (p : Pl) (hT : TL w0 b F T W) (hlim : T.lim a k) (ha : a ≤ 1073741824) (hk : k ≤ 999000) (hkeep : p.keep ≤ 9223372036854775807) (htorn : p.torn ≤ 9223372036854775807) :
    Calls Tryd.prog 14 #[.pointer (some ⟨b, 0, none⟩), .agg #[.int .i64 p.room, .int .i64 p.crash, .int .i64 p.keep, .int .i64 p.torn]] W (FallL w0 W b T p) :=
  (Fall_c b F T p W hT.at_ (hlim.ok (by omega) (by omega)) hkeep htorn).mono fun e w' h => by
    obtain ⟨h1, h2, h3⟩ := h
    exact ⟨h1, ⟨h2, hT.glob.keeps h3 hT.at_.ft, hT.below.trans (h3.below hT.fresh hT.below.size), fun i hi => by
      simp at hi; subst hi; exact hT.fresh _ hT.at_.mem⟩, ⟨F, hT.at_.ft, h3⟩⟩

theorem TL.other {w0 W W' : World} {b q : Nat} {F : List Nat} {T : Tp} (h : TL w0 b F T W) (hk : Keeps [q] W W') (hq : w0.heap.size ≤ q) (hg : 8 ≤ w0.heap.size) (hn : q ∉ F) : TL w0 b F T W' := by
  have hs := h.below.size
  refine ⟨h.at_.keeps hk (fun i hi => by simp; rintro rfl; exact hn hi), h.glob.of (hk.below (fun i hi => by simp at hi; omega) (by omega)), h.below.trans (hk.below (fun i hi => by simp at hi; omega) hs), h.fresh⟩
def la : ByteArray := ⟨#[97]⟩
def lb : ByteArray := ⟨#[98]⟩
theorem la_ok : lineOk la = true := by unfold lineOk; rw [ByteArray.toList_eq]; decide
theorem lb_ok : lineOk lb = true := by unfold lineOk; rw [ByteArray.toList_eq]; decide
theorem la_fr : (framesB [la]).size + 44 ≤ 100 := by
  rw [framesB_one]
  have := frameB_size la (by decide)
  have e : la.size = 1 := rfl
  omega
def p1000 : Pl := ⟨1000, 0, 0, 0⟩
set_option maxRecDepth 100000 in
set_option maxHeartbeats 1600000 in
theorem awake_c (w : World) (hG : Glob w) : Calls Tryd.prog 5 #[] w fun e w' => e = .returned (.bool true) ∧ Below w.heap.size w w' := by
  have HU := Lib.hid (up_new p1000 (by decide))
  rw [fine_openJ rfl] at HU
  have HN := Lib.hid (New_u (w0 := w) (W := w) p1000 hG (Below.refl _ _))
  clear hG
  go_enter Tryd.func5, Tryd.ntmps5
  go_wp2_with fail
  refine HN.out.mono ?_
  rintro e w1 ⟨b, rfl, hT1, hb1⟩
  have HT1 := Lib.hid hT1
  clear hT1 hb1
  go_wp2_with fail
  refine (Open_u HT1.out rfl rfl HU.out.lim (by omega) (by omega)).mono ?_
  rintro e w2 ⟨jb, rfl, hJ2, hT2, hb2⟩
  have HT2 := Lib.hid hT2
  have HJ2 := Lib.hid hJ2
  clear hT2 hJ2 hb2
  go_wp2_with fail
  refine (Num_c 0 _).mono ?_
  rintro e w3 ⟨rfl, rfl⟩
  go_wp2_with fail
  refine (Lines_c jb b _ _ HJ2.out.at_ (by rw [HU.out.lines]; simp)).mono ?_
  rw [HU.out.lines]
  rintro e w4 ⟨v4, rfl, ho4, hb4⟩
  obtain ⟨A4, c4, rfl, _⟩ := RowAt.ofOwn ho4
  have HT4 := Lib.hid (HT2.out.then_ hb4)
  have HJ4 := Lib.hid (HJ2.out.then_ hb4)
  clear ho4 hb4
  have HB5 := Lib.hid (fun x => (Below.refl w4.heap.size w4).alloc (Nat.le_refl _) (.cells #[.string x] 9))
  go_wp2_with fail
  refine (Save_u (l := [la]) (m := 100) (HT4.out.then_ (HB5.out _)) (HJ4.out.then_ (HB5.out _)) (rd_lit1 _ la) HU.out (fun x hx => by simp at hx; subst hx; exact la_ok) la_fr (by omega) (by omega) (by decide) (by decide)).mono ?_
  rintro e w6 ⟨o6, F6, h6, rfl, hT6, hJ6, _⟩
  obtain ⟨e0, hu6, hc6, hr6⟩ := HU.out.did h6 (Int.le_refl _)
  rw [e0]
  have HU6 := Lib.hid hu6
  have HT6 := Lib.hid hT6
  have HJ6 := Lib.hid hJ6
  clear h6 hu6 hT6 hJ6 e0
  have hr6' : o6.T.room = 1000 := hr6
  clear hr6
  go_wp2_with fail
  refine (Num_c 0 _).mono ?_
  rintro e w7 ⟨rfl, rfl⟩
  go_wp2_with fail
  refine (Note_u (s := lb) (m := 200) HT6.out HJ6.out HU6.out lb_ok (by decide) (by omega) (by omega) (by omega) (by decide)).mono ?_
  rintro e w8 ⟨o8, F8, h8, rfl, hT8, hJ8, _⟩
  obtain ⟨e0, hu8, hc8, hr8⟩ := HU6.out.did h8 hc6
  rw [e0]
  have HU8 := Lib.hid hu8
  have HT8 := Lib.hid hT8
  have HJ8 := Lib.hid hJ8
  clear h8 hu8 hT8 hJ8 e0 hc6 hc8 hr8
  go_wp2_with fail
  refine (Num_c 0 _).mono ?_
  rintro e w9 ⟨rfl, rfl⟩
  go_wp2_with fail
  refine (Lines_c jb b _ _ HJ8.out.at_ (by rw [HU8.out.lines]; simp)).mono ?_
  rw [HU8.out.lines]
  rintro e w10 ⟨v10, rfl, ho10, hb10⟩
  obtain ⟨A10, c10, rfl, _⟩ := RowAt.ofOwn ho10
  have HT10 := Lib.hid (HT8.out.then_ hb10)
  clear ho10 hb10
  go_wp2
  go_ret
  exact ⟨rfl, HT10.out.below⟩
end Go.Proofs.YtjhahhpcpempgaaDoor
