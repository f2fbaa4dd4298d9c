/- The laws' own helpers: Digits, Line, lines, Texts. -/
import Derived.Test.YtjhahhpcpempgaaDoorSpec2
import Derived.IntWalk
set_option linter.unusedVariables false
set_option linter.unusedSimpArgs false
namespace Go.Proofs.YtjhahhpcpempgaaDoor
open Go.RowKit

theorem conv_one (W : World) (v : Int) (h0 : 0 ≤ v) (h1 : v ≤ 255) : (convert 23 9 (.slice (some ⟨W.heap.size, 0, none⟩) 1 1)).run Tryd.prog (W.alloc (.cells #[.int .u8 v] 5)) = .ok (.string ⟨#[UInt8.ofNat v.toNat]⟩) (W.alloc (.cells #[.int .u8 v] 5)) := by
  have hv : ((UInt8.ofNat v.toNat).toNat : Int) = v := by
    rw [UInt8.toNat_ofNat']; omega
  refine run_convert_bytes_back _ _ _ _ ⟨W.heap.size, 0, none⟩ 1 [UInt8.ofNat v.toNat] Tryd.underlying23 Tryd.underlying5 Tryd.underlying9 (fun j hj => ?_)
  simp only [List.length_cons, List.length_nil] at hj
  obtain rfl : j = 0 := by omega
  show (W.alloc _).cell? ⟨W.heap.size, 0, none⟩ = _
  rw [blk_cell (blk_new W _)]
  simp only [List.getElem_cons_zero, hv]; rfl
theorem dec_step (u : Nat) (h : 10 ≤ u) : Lib.decDigits u = Lib.decDigits (u / 10) ++ [UInt8.ofNat (48 + u % 10)] := by
  rw [Lib.decDigits, dif_neg (by omega)]
theorem dec_small (u : Nat) (h : u < 10) : Lib.decDigits u = [UInt8.ofNat (48 + u)] := by
  rw [Lib.decDigits, dif_pos h]

theorem itoa_nat (n : Nat) : Lib.itoa n = Lib.decDigits n := by
  unfold Lib.itoa
  rw [if_neg (by omega)]; rfl
theorem itoaB_nat (n : Nat) {t : ByteArray} (h : t.data.toList = Lib.decDigits n) : t = itoaB n := ba_ext (by rw [itoaB_data, itoa_nat, h])
set_option maxRecDepth 100000 in
theorem Digits_c (n : Nat) (w : World) (hn : n ≤ 4611686018427387904) : Calls Tryd.prog 21 #[.int .i64 n] w fun e w' => e = .returned (.string (itoaB n)) ∧ Below w.heap.size w w' := by
  have HL := Lib.hid (show ∀ (k : Nat) (t : ByteArray), Lib.decDigits k ++ t.data.toList = Lib.decDigits n → t.size ≤ 1000 from fun k t h => by
    have h1 := itoaB_size n (by omega) (by omega)
    have h2 := ba_size (itoaB n)
    have h3 := ba_size t
    rw [itoaB_data, itoa_nat, ← h, List.length_append] at h2
    omega)
  go_enter Tryd.func21, Tryd.ntmps21
  go_wp2
  go_loopw [3, 4] (fun u s wr => ∃ (k : Nat) (t : ByteArray), k ≤ n ∧ u = .int .u64 k ∧ s = .string t ∧ Hid (Lib.decDigits k ++ t.data.toList = Lib.decDigits n) ∧ t.size ≤ 1000 ∧ Below w.heap.size w wr) (fun u _ _ => (intOf u).toNat)
  case atStart => exact ⟨n, ⟨#[]⟩, Nat.le_refl _, rfl, rfl, Lib.hid (by simp), by show 0 ≤ 1000; omega, Below.refl _ _⟩
  case round =>
    obtain ⟨k, t, hk, rfl, rfl, hd, ht, hbel⟩ := hrel
    by_cases hlt : 10 ≤ k
    · have hcv := fun W => conv_one W (48 + (k : Int) % 10) (by omega) (by omega)
      go_wp2
      go_roundw
      case rel =>
        refine ⟨k / 10, _, by omega, by go_num, rfl, ?_, ?_, hbel.alloc hbel.size _⟩
        · exact Lib.hid (by
            have := hd.out
            rw [dec_step k (by omega)] at this
            rw [ba_append, ← this]
            have e : (48 : UInt8) + UInt8.ofNat (k % 10) = UInt8.ofNat (48 + k % 10) := by rw [UInt8.ofNat_add]; rfl
            rw [e]; simp)
        · have e1 : ∀ t' : ByteArray, (⟨#[48 + UInt8.ofNat (k % 10)]⟩ : ByteArray) ++ t = t' → Lib.decDigits (k / 10) ++ t'.data.toList = Lib.decDigits n → t'.size ≤ 1000 := fun t' _ h => HL.out _ _ h
          refine e1 _ rfl ?_
          have := hd.out
          rw [dec_step k (by omega)] at this
          rw [ba_append, ← this]
          have e : (48 : UInt8) + UInt8.ofNat (k % 10) = UInt8.ofNat (48 + k % 10) := by rw [UInt8.ofNat_add]; rfl
          rw [e]; simp
      case measure => simp [intOf]; omega
    · have hcv := fun W => conv_one W (48 + (k : Int)) (by omega) (by omega)
      go_wp2
      go_ret
      refine ⟨?_, hbel.alloc hbel.size _⟩
      refine ret_v (congrArg Value.string (itoaB_nat n ?_))
      have := hd.out
      rw [dec_small k (by omega)] at this
      rw [ba_append, ← this]
      have e : (48 : UInt8) + UInt8.ofNat k = UInt8.ofNat (48 + k) := by rw [UInt8.ofNat_add]; rfl
      rw [e]

/-- A line by a number: the first k of its letters behind the digits. -/
def lineT (n k : Nat) : ByteArray := bs ((List.range k).map fun i => UInt8.ofNat (32 + (n + i) % 200))
def lineB (n : Nat) : ByteArray := (bs [108, 105, 110, 101, 32] ++ itoaB n) ++ lineT n (n % 30)
theorem lineT_succ (n k : Nat) : lineT n (k + 1) = lineT n k ++ ⟨#[UInt8.ofNat (32 + (n + k) % 200)]⟩ := ba_ext (by
  rw [ba_append]; unfold lineT
  rw [bs_data, bs_data, List.range_succ, List.map_append]; rfl)
theorem lineT_size (n k : Nat) : (lineT n k).size = k := by unfold lineT; rw [bs_size]; simp
theorem lineB_size (n : Nat) (h : n < 256) : (lineB n).size ≤ 60 := by
  have := itoaB_size n (by omega) (by omega)
  unfold lineB
  rw [ByteArray.size_append, ByteArray.size_append, lineT_size, bs_size]
  simp only [List.length_cons, List.length_nil]; omega
theorem lineB_ok (n : Nat) (h : n < 256) : lineOk (lineB n) = true := by
  have hs := lineB_size n h
  have hd : (lineB n).data.toList = [108, 105, 110, 101, 32] ++ Lib.itoa n ++ (List.range (n % 30)).map fun i => UInt8.ofNat (32 + (n + i) % 200) := by
    unfold lineB lineT
    rw [ba_append, ba_append, bs_data, bs_data, itoaB_data]
  unfold lineOk
  rw [Bool.and_eq_true, Bool.not_eq_true', List.any_eq_false]
  refine ⟨?_, fun c hc => ?_⟩
  · rw [Bool.and_eq_true, decide_eq_true_eq]
    refine ⟨?_, by omega⟩
    have : (lineB n).toList = (lineB n).data.toList := by rw [ByteArray.toList_eq]
    rw [this, hd]; rfl
  · rw [hd] at hc
    rcases List.mem_append.1 hc with hc | hc
    · rcases List.mem_append.1 hc with hc | hc
      · clear hd
        simp only [List.mem_cons, List.not_mem_nil, or_false] at hc
        rcases hc with rfl | rfl | rfl | rfl | rfl <;> decide
      · have := itoa_mem _ c hc
        simp only [decide_eq_true_eq]; omega
    · obtain ⟨i, hi, rfl⟩ := List.mem_map.1 hc
      simp only [decide_eq_true_eq]
      rw [UInt8.toNat_ofNat']; omega
set_option maxRecDepth 100000 in
theorem Line_c (n : Nat) (w : World) (hn : n < 256) : Calls Tryd.prog 11 #[.int .u8 n] w fun e w' => e = .returned (.string (lineB n)) ∧ Below w.heap.size w w' := by
  obtain ⟨m, hm⟩ : ∃ m, n % 30 = m := ⟨_, rfl⟩
  have hm2 : m < 30 := by omega
  have hmi : (n : Int) % 30 = m := by omega
  obtain ⟨p, hp⟩ : ∃ p, bs [108, 105, 110, 101, 32] ++ itoaB n = p := ⟨_, rfl⟩
  have hps : p.size ≤ 30 := by
    have := itoaB_size n (by omega) (by omega)
    rw [← hp, ByteArray.size_append, bs_size]; simp only [List.length_cons, List.length_nil]; omega
  have HD := Lib.hid (Digits_c n)
  have E := Lib.hid (show lineB n = p ++ lineT n m by unfold lineB; rw [hp, hm])
  have HP := Lib.hid (show ∀ x : ByteArray, x = itoaB n → (⟨#[108, 105, 110, 101, 32]⟩ : ByteArray) ++ x = p from fun x h => by rw [h, ← hp]; rfl)
  have hid := itoaB_size n (by omega) (by omega)
  clear hp hm
  go_enter Tryd.func11, Tryd.ntmps11
  go_wp2_with fail
  refine (HD.out w (by omega)).mono ?_
  rintro e w1 ⟨rfl, hb1⟩
  go_wp2
  rw [HP.out _ rfl]
  go_loopw [3, 4] (fun s i wr => ∃ (k : Nat), k ≤ m ∧ i = .int .i64 k ∧ s = .string (p ++ lineT n k) ∧ Below w.heap.size w wr) (fun _ i _ => m - (intOf i).toNat)
  case atStart => exact ⟨0, by omega, rfl, congrArg Value.string (app_mt p).symm, hb1⟩
  case round =>
    obtain ⟨k, hk, rfl, rfl, hbel⟩ := hrel
    by_cases hlt : k < m
    · have hcv := fun W => conv_one W (32 + ((n : Int) + k) % 200) (by omega) (by omega)
      have hsz := lineT_size n k
      have hsn := Lib.hid (lineT_succ n k)
      generalize lineT n k = q at hsz hsn ⊢
      have hpq : (p ++ q).size ≤ 100 := by rw [ByteArray.size_append]; omega
      have HQ := Lib.hid (show ∀ y : ByteArray, p ++ q ++ y = p ++ (q ++ y) from fun y => ByteArray.append_assoc)
      generalize p ++ q = pq at hpq HQ ⊢
      go_wp2
      go_roundw
      case rel =>
        refine ⟨k + 1, by omega, by go_num, ?_, hbel.alloc hbel.size _⟩
        rw [hsn.out, ← HQ.out]
        have e : (32 : UInt8) + UInt8.ofNat ((n + k) % 200) = UInt8.ofNat (32 + (n + k) % 200) := by rw [UInt8.ofNat_add]; rfl
        rw [e]
      case measure => simp [intOf]; omega
    · obtain rfl : k = m := by omega
      go_wp2
      go_ret
      exact ⟨by rw [E.out]; rfl, hbel⟩

/-- A row of bytes, wherever it lies. -/
def RdB (w : World) (v : Value) (l : List UInt8) : Prop :=
  ∃ A c, v = .slice A l.length c ∧ l.length ≤ c ∧ c ≤ maxLen ∧ ∀ (i : Nat) (h : i < l.length), ∃ g o, A = some ⟨g, o, none⟩ ∧ g < w.heap.size ∧ w.cell? ⟨g, o + i, none⟩ = some (.int .u8 (l[i].toNat : Int))
theorem RdB.form {w : World} {v : Value} {l : List UInt8} (h : RdB w v l) : ∃ A c, v = .slice A l.length c ∧ l.length ≤ c ∧ c ≤ maxLen := by
  obtain ⟨A, c, h1, h2, h3, _⟩ := h
  exact ⟨A, c, h1, h2, h3⟩
theorem RdB.cell {w : World} {A : Option Addr} {n c : Nat} {l : List UInt8} (h : RdB w (.slice A n c) l) {i : Nat} (hi : i < l.length) :
    ∃ g o, A = some ⟨g, o, none⟩ ∧ g < w.heap.size ∧ w.cell? ⟨g, o + i, none⟩ = some (.int .u8 (l[i].toNat : Int)) := by
  obtain ⟨A', c', hv, _, _, hc⟩ := h
  injection hv with h1 h2 h3
  subst h1
  exact hc i hi
theorem RdB.below {w w' : World} {v : Value} {l : List UInt8} (h : RdB w v l) (hb : Below w.heap.size w w') : RdB w' v l := by
  obtain ⟨A, c, h1, h2, h3, hc⟩ := h
  refine ⟨A, c, h1, h2, h3, fun i hi => ?_⟩
  obtain ⟨g, o, e1, e2, e3⟩ := hc i hi
  exact ⟨g, o, e1, Nat.lt_of_lt_of_le e2 hb.size, (hb.cell (p := ⟨g, o + i, none⟩) e2).trans e3⟩
def lineBs (ns : List UInt8) : List ByteArray := ns.map fun n => lineB n.toNat
theorem lineBs_ok (ns : List UInt8) : LinesOk (lineBs ns) := fun x hx => by
  obtain ⟨n, _, rfl⟩ := List.mem_map.1 hx
  exact lineB_ok _ n.toNat_lt
theorem lineBs_snoc (ns : List UInt8) (k : Nat) (h : k < ns.length) : lineBs (ns.take (k + 1)) = lineBs (ns.take k) ++ [lineB ns[k].toNat] := by
  unfold lineBs
  rw [List.take_succ_eq_append_getElem h, List.map_append]; rfl
theorem lineBs_len (ns : List UInt8) : (lineBs ns).length = ns.length := by simp [lineBs]
set_option maxRecDepth 100000 in
set_option maxHeartbeats 800000 in
theorem lines_c (lv : Value) (ns : List UInt8) (w : World) (hl : RdB w lv ns) (hn : ns.length ≤ 1000) :
    Calls Tryd.prog 9 #[lv] w (CloneSPost (lineBs ns) w) := by
  obtain ⟨A, c, rfl, hlc, hcm⟩ := hl.form
  have HL := Lib.hid hl
  unfold maxLen at hcm
  obtain ⟨n, hn'⟩ : ∃ n, ns.length = n := ⟨_, rfl⟩
  rw [hn'] at hlc hn
  have HN := Lib.hid hn'
  rw [hn']
  clear hl hn'
  obtain ⟨i0, hi, hz0, hz1, hz2⟩ := info_parts Tryd.infoStr
  have HI := Lib.hid hi
  clear hi
  go_enter Tryd.func9, Tryd.ntmps9
  go_wp2
  go_loopw [3, 4] (fun o i wr => ∃ k : Nat, k ≤ n ∧ i = .int .i64 k ∧ Below w.heap.size w wr ∧ wr.ownsRow w.heap.size 9 1 o k ((lineBs (ns.take k)).map fun s => Value.string s)) (fun _ i _ => n - (intOf i).toNat)
  case atStart => exact ⟨0, Nat.zero_le _, rfl, Below.refl _ _, World.ownsRow_nil _ _ _ _⟩
  case round =>
    obtain ⟨k, hk, rfl, hbel, ho⟩ := hrel
    by_cases hlt : k < n
    · have hkl : k < ns.length := by rw [HN.out]; exact hlt
      have hsn := lineBs_snoc ns k hkl
      obtain ⟨x, hx⟩ : ∃ x, ns[k] = x := ⟨_, rfl⟩
      rw [hx] at hsn
      generalize lineBs (ns.take k) = l at ho hsn
      obtain ⟨g, o, rfl, hg, hcell⟩ := HL.out.cell hkl
      rw [hx] at hcell
      have hcr := (hbel.cell (p := ⟨g, o + k, none⟩) hg).trans hcell
      have HS := Lib.hid hsn
      have HO := Lib.hid ho
      obtain ⟨A1, c1, rfl, _⟩ := RowAt.ofOwn ho
      clear hsn hx hcell ho
      have hx256 := x.toNat_lt
      go_wp2_with fail
      refine (Line_c x.toNat _ hx256).mono ?_
      rintro e w1 ⟨rfl, hb1⟩
      have hs1 := hb1.size
      have hs0 := hbel.size
      have HB1 := Lib.hid hb1
      have HO1 := Lib.hid (own_keeps HO.out (Keeps.ofBelow (F := []) hb1) (by simp))
      clear hb1
      go_wp2_with (at_builtin; go_loud (refine wpList_append_own _ rfl _ _ 33 rfl w.heap.size 9 i0 (.string ⟨#[]⟩) 1 16 Tryd.underlying33 HI.out hz0 hz1 hz2 rfl (by decide) _ _ _ rfl (HO1.out.alloc _) ⟨w1.heap.size, 0, none⟩ 1 1 [.string (lineB x.toNat)] rfl rfl (cell_one_new _ _ _) (by simp [Value.oneCell']) (by unfold maxLen; omega) (by omega) (by simp; omega) ?_); intro v' w7 hown' hgrow _; have HO7 := Lib.hid hown'; have HG7 := Lib.hid hgrow; clear hown' hgrow)
      go_roundw
      case rel =>
        refine ⟨k + 1, by omega, by go_num, ?_, ?_⟩
        · exact (((bthen hbel HB1.out (Nat.le_refl _)).alloc (by omega) _).grown HG7.out (by simp; omega) (fun j hj => by have := (HO1.out.lt _ hj).1; omega))
        · rw [HS.out, List.map_append]; exact HO7.out
      case measure => simp [intOf]; omega
    · obtain rfl : k = n := by omega
      rw [show ns.take k = ns by rw [← HN.out, List.take_length]] at ho
      have HO := Lib.hid ho
      clear ho
      go_wp2
      go_ret
      exact ⟨_, rfl, by rw [lineBs_len, HN.out]; exact HO.out, hbel⟩

def textsB (a b : List ByteArray) : Bool := decide (a = b)
set_option maxRecDepth 100000 in
set_option maxHeartbeats 800000 in
theorem Texts_c (av bv : Value) (a b : List ByteArray) (w : World) (ha : RdStrs w av a) (hb : RdStrs w bv b) : Calls Tryd.prog 15 #[av, bv] w fun e w' => e = .returned (.bool (decide (a = b))) ∧ Below w.heap.size w w' := by
  obtain ⟨A, ca, rfl, hac, ham⟩ := ha.form
  obtain ⟨B, cb, rfl, hbc, hbm⟩ := hb.form
  have HA := Lib.hid ha
  have HB := Lib.hid hb
  unfold maxLen at ham hbm
  clear ha hb
  by_cases hl : a.length = b.length
  · obtain ⟨n, hn⟩ : ∃ n, b.length = n := ⟨_, rfl⟩
    rw [hn] at hl hbc ⊢
    rw [hl] at hac ⊢
    have HN := Lib.hid hn
    have HM := Lib.hid hl
    clear hn hl
    go_enter Tryd.func15, Tryd.ntmps15
    go_wp2
    go_loopw [5] (fun i wr => ∃ k : Nat, k ≤ n ∧ i = .int .i64 k ∧ Below w.heap.size w wr ∧ Hid (a.take k = b.take k)) (fun i _ => n - (intOf i).toNat)
    case atStart => exact ⟨0, Nat.zero_le _, rfl, Below.refl _ _, Lib.hid rfl⟩
    case round =>
      obtain ⟨k, hk, rfl, hbel, he⟩ := hrel
      by_cases hlt : k < n
      · have hka : k < a.length := by rw [HM.out]; exact hlt
        have hkb : k < b.length := by rw [HN.out]; exact hlt
        have HE := Lib.hid (show a[k] = b[k] → a.take (k + 1) = b.take (k + 1) from fun h => by
          rw [List.take_succ_eq_append_getElem hka, List.take_succ_eq_append_getElem hkb, he.out, h])
        have HF := Lib.hid (show a[k] ≠ b[k] → decide (a = b) = false from fun h => by
          rw [decide_eq_false_iff_not]; rintro rfl; exact h rfl)
        obtain ⟨x, hx⟩ : ∃ x, a[k] = x := ⟨_, rfl⟩
        obtain ⟨y, hy⟩ : ∃ y, b[k] = y := ⟨_, rfl⟩
        rw [hx, hy] at HE HF
        obtain ⟨g, o, rfl, hg, hcell⟩ := HA.out.cell hka
        obtain ⟨g', o', rfl, hg', hcell'⟩ := HB.out.cell hkb
        rw [hx] at hcell
        rw [hy] at hcell'
        have hcr := (hbel.cell (p := ⟨g, o + k, none⟩) hg).trans hcell
        have hcr' := (hbel.cell (p := ⟨g', o' + k, none⟩) hg').trans hcell'
        clear hx hy hcell hcell'
        have hq := ba_beq x y
        by_cases hxy : x = y
        · have hq2 : (x.toList == y.toList) = true := by rw [hq]; simpa using hxy
          have HE2 := Lib.hid (HE.out hxy)
          clear HE HF hq hxy
          go_wp2
          go_quiet (fail)
          go_wp2
          go_roundw
          case rel => exact ⟨k + 1, by omega, by go_num, bthen hbel (Below.drewN0 wr _) (Nat.le_refl _), HE2⟩
          case measure => simp [intOf]; omega
        · have hq2 : (x.toList == y.toList) = false := by rw [hq]; simpa using hxy
          have HF2 := Lib.hid (HF.out hxy)
          clear HE HF hq hxy
          go_wp2
          go_quiet (fail)
          go_wp2
          go_ret
          exact ⟨by rw [HF2.out]; rfl, bthen hbel (Below.drewN0 wr _) (Nat.le_refl _)⟩
      · obtain rfl : k = n := by omega
        have HE := Lib.hid (show a = b from by
          have := he.out
          rwa [List.take_of_length_le (by rw [HM.out]; exact Nat.le_refl _), List.take_of_length_le (by rw [HN.out]; exact Nat.le_refl _)] at this)
        clear he
        go_wp2
        go_ret
        exact ⟨by rw [decide_eq_true HE.out]; rfl, hbel⟩
  · have HF := Lib.hid (show decide (a = b) = false by rw [decide_eq_false_iff_not]; rintro rfl; exact hl rfl)
    go_enter Tryd.func15, Tryd.ntmps15
    go_wp2
    go_ret
    exact ⟨by rw [HF.out]; rfl, Below.refl _ _⟩
end Go.Proofs.YtjhahhpcpempgaaDoor
