/- Sums, differences, products, shifts of the references' numbers. -/
import Derived.Test.YtdljgifoboiaeaaR01b
namespace Go.Proofs.Ytdljgifoboiaeaa
open Go.RowKit

set_option maxHeartbeats 4000000 in
attribute [local go_sem] max2_int min2_int max_two min_two in
/-- sums -/
theorem add_ref (w : World) (S : Nat → Prop) (hS : There S w) (v u : Value) (a b : Nat) (hx : Row kBool w S v (natBits a)) (hy : Row kBool w S u (natBits b)) (ha : nbits a ≤ 549755813888) (hb : nbits b ≤ 549755813888) :
    Calls Try.prog 42 #[v, u] w fun e w' => ∃ v', e = .returned v' ∧ Row kBool w' S v' (natBits (a + b)) ∧ Below w.heap.size w w' := by
  obtain ⟨A, c, rfl, hc1, hc2⟩ := hx.shape
  obtain ⟨A', c', rfl, hc1', hc2'⟩ := hy.shape
  unfold maxLen at hc2 hc2'
  have hla := natBits_length a
  have hlb := natBits_length b
  obtain ⟨m, hm⟩ : ∃ m : Nat, m = max (natBits a).length (natBits b).length := ⟨_, rfl⟩
  have hsum : a + b < 2 ^ (m + 1) := by
    have h1 := Nat.lt_of_lt_of_le (lt_nbits a) (Nat.pow_le_pow_right (by decide) (show nbits a ≤ m by omega))
    have h2 := Nat.lt_of_lt_of_le (lt_nbits b) (Nat.pow_le_pow_right (by decide) (show nbits b ≤ m by omega))
    rw [Nat.pow_succ]; omega
  have hmb : m ≤ 549755813888 := by omega
  have ha2 : nbits a ≤ 1099511627776 := by omega
  have hb2 : nbits b ≤ 1099511627776 := by omega
  have HX := Lib.hid hx
  have HY := Lib.hid hy
  have HSUM := Lib.hid hsum
  have HM := Lib.hid hm
  have HLA := Lib.hid hla
  have HLB := Lib.hid hlb
  clear hx hy hsum hm hla hlb
  go_enter Try.func42, Try.ntmps42
  go_wp2
  go_loopw [5, 6, 7] (fun v cy i wr => ∃ k : Nat, k ≤ m + 1 ∧ i = .int .i64 k ∧ cy = .bool (carry a b k) ∧ Own kBool 4 wr none w.heap.size v (lowBits (a + b) k) ∧ Below w.heap.size w wr)
    (fun _ _ i _ => m + 1 - (intOf i).toNat)
  case atStart => exact ⟨0, by omega, rfl, by rw [carry_zero], Own.lit0 kBool _ w, (Below.refl _ _).alloc (Nat.le_refl _) _⟩
  case round =>
    obtain ⟨k, hk, rfl, rfl, ho, hbl⟩ := hrel
    obtain ⟨A2, c2, rfl, -, -⟩ := ho.shape
    have hlen : (lowBits (a + b) k).length ≤ 1099511627777 := by rw [lowBits_length]; omega
    have HS := Lib.hid (lowBits_succ (a + b) k)
    have HT := Lib.hid (testBit_add a b k)
    have HC := Lib.hid (carry_succ a b k)
    by_cases hlt : k ≤ m
    · have hmax : (k : Int) ≤ max ((natBits a).length : Int) ((natBits b).length : Int) := by have := HM.out; omega
      generalize lowBits (a + b) k = ys at ho HS hlen
      have HXR := Lib.hid (HX.out.below hbl)
      have HYR := Lib.hid (HY.out.below hbl)
      cases hbx : a.testBit k <;> cases hby : b.testBit k <;> cases hcy : carry a b k
      all_goals
        have HBX := Lib.hid hbx
        have HBY := Lib.hid hby
        have hte := HT.out
        have hce := HC.out
        rw [hbx, hby, hcy] at hte hce
        have HT2 := Lib.hid hte
        have HC2 := Lib.hid hce
        clear hbx hby hcy hte hce HT HC
        go_wp2_with (first
          | (go_at_call 72; ((with_reducible refine (bit_at _ S _ a k _ HXR.out ha2 HBX.out).mono ?_); rintro e w2 ⟨rfl, rfl⟩))
          | (go_at_call 72; ((with_reducible refine (bit_at _ S _ b k _ HYR.out hb2 HBY.out).mono ?_); rintro e w2 ⟨rfl, rfl⟩))
          | (at_builtin; refine app1 kBool 4 42 (.bool false) 1 rfl (.tmp 26) (.tmp 32) rfl Try.underlying42 infoBool rfl (by decide) (by decide) none w.heap.size ho (FootIn.none _) (by have := hbl.size; omega) rfl _ _ rfl rfl (by omega) ?_; intro v' w3 q1 q2 _ _ _ _))
        go_roundw
        case rel => exact ⟨k + 1, by omega, by go_num, by rw [HC2.out]; rfl, by rw [HS.out, HT2.out]; exact q1, hbl.trans q2.below⟩
        case measure => simp [intOf]; omega
    · obtain rfl : k = m + 1 := by omega
      have hmax : ¬ ((m : Int) + 1 ≤ max ((natBits a).length : Int) ((natBits b).length : Int)) := by have := HM.out; omega
      have hr := Lib.hid (ho.bools hS)
      have hmod : (a + b) % 2 ^ (m + 1) = a + b := Nat.mod_eq_of_lt HSUM.out
      have HMOD := Lib.hid hmod
      clear ho hlen hmod
      go_wp2_with (go_at_call 95; refine (cut_ref _ S _ _ _ hr.out (by omega)).mono ?_; rintro e w2 ⟨v2, rfl, hrow, rfl⟩; have HR := Lib.hid hrow; clear hrow)
      go_ret
      exact ⟨_, rfl, by have := HR.out; rwa [HMOD.out] at this, hbl⟩

set_option maxHeartbeats 4000000 in
/-- differences -/
theorem sub_ref (w : World) (S : Nat → Prop) (hS : There S w) (v u : Value) (a b : Nat) (hx : Row kBool w S v (natBits a)) (hy : Row kBool w S u (natBits b)) (ha : nbits a ≤ 1099511627776) (hb : nbits b ≤ 1099511627776) (hab : b ≤ a) :
    Calls Try.prog 109 #[v, u] w fun e w' => ∃ v', e = .returned v' ∧ Row kBool w' S v' (natBits (a - b)) ∧ Below w.heap.size w w' := by
  obtain ⟨A, c, rfl, hc1, hc2⟩ := hx.shape
  obtain ⟨A', c', rfl, hc1', hc2'⟩ := hy.shape
  unfold maxLen at hc2 hc2'
  have hla := natBits_length a
  obtain ⟨m, hm⟩ : ∃ m : Nat, m = (natBits a).length := ⟨_, rfl⟩
  have hsum : a - b < 2 ^ m := by
    have h1 := Nat.lt_of_lt_of_le (lt_nbits a) (Nat.pow_le_pow_right (by decide) (show nbits a ≤ m by omega))
    omega
  have hmb : m ≤ 1099511627776 := by omega
  have hmn : m = nbits a := by omega
  have HX := Lib.hid hx
  have HY := Lib.hid hy
  have HSUM := Lib.hid hsum
  have HM := Lib.hid hm
  have HAB := Lib.hid hab
  have HMN := Lib.hid hmn
  clear hx hy hsum hm hla hab hmn
  go_enter Try.func109, Try.ntmps109
  go_wp2
  go_loopw [5, 6, 7] (fun v cy i wr => ∃ k : Nat, k ≤ m ∧ i = .int .i64 k ∧ cy = .bool (borrow a b k) ∧ Own kBool 4 wr none w.heap.size v (lowBits (a - b) k) ∧ Below w.heap.size w wr)
    (fun _ _ i _ => m - (intOf i).toNat)
  case atStart => exact ⟨0, by omega, rfl, by rw [borrow_zero], Own.lit0 kBool _ w, (Below.refl _ _).alloc (Nat.le_refl _) _⟩
  case round =>
    obtain ⟨k, hk, rfl, rfl, ho, hbl⟩ := hrel
    obtain ⟨A2, c2, rfl, -, -⟩ := ho.shape
    have hlen : (lowBits (a - b) k).length ≤ 1099511627777 := by rw [lowBits_length]; omega
    have HS := Lib.hid (lowBits_succ (a - b) k)
    have HT := Lib.hid (testBit_sub a b k HAB.out)
    have HC := Lib.hid (borrow_succ a b k)
    by_cases hlt : k < m
    · have hkl : k < (natBits a).length := by have := HM.out; omega
      generalize lowBits (a - b) k = ys at ho HS hlen
      obtain ⟨bb, off, rfl, hcell⟩ := (HX.out.below hbl).bool_at hkl
      have hbit : (natBits a)[k] = a.testBit k := by simp [natBits, lowBits]
      rw [hbit] at hcell
      clear hbit
      have HYR := Lib.hid (HY.out.below hbl)
      cases hbx : a.testBit k <;> cases hby : b.testBit k <;> cases hcy : borrow a b k
      all_goals
        have HBY := Lib.hid hby
        have hte := HT.out
        have hce := HC.out
        rw [hbx, hby, hcy] at hte hce
        rw [hbx] at hcell
        have HT2 := Lib.hid hte
        have HC2 := Lib.hid hce
        clear hbx hby hcy hte hce HT HC
        go_wp2_with (first
          | (go_at_call 72; refine (bit_at _ S _ b k _ HYR.out hb HBY.out).mono ?_; rintro e w2 ⟨rfl, rfl⟩)
          | (at_builtin; refine app1 kBool 4 42 (.bool false) 1 rfl (.tmp 24) (.tmp 30) rfl Try.underlying42 infoBool rfl (by decide) (by decide) none w.heap.size ho (FootIn.none _) (by have := hbl.size; omega) rfl _ _ rfl rfl (by omega) ?_; intro v' w3 q1 q2 _ _ _ _))
        go_roundw
        case rel => exact ⟨k + 1, by omega, by go_num, by rw [HC2.out]; rfl, by rw [HS.out, HT2.out]; exact q1, hbl.trans q2.below⟩
        case measure => simp [intOf]; omega
    · obtain rfl : k = m := by omega
      have hkl : ¬ k < (natBits a).length := by have := HM.out; omega
      have hr := Lib.hid (ho.bools hS)
      have hmod : (a - b) % 2 ^ k = a - b := Nat.mod_eq_of_lt HSUM.out
      have HMOD := Lib.hid hmod
      clear ho hlen hmod
      go_wp2_with (go_at_call 95; refine (cut_ref _ S _ _ _ hr.out (by omega)).mono ?_; rintro e w2 ⟨v2, rfl, hrow, rfl⟩; have HR := Lib.hid hrow; clear hrow)
      go_ret
      exact ⟨_, rfl, by have := HR.out; rwa [HMOD.out] at this, hbl⟩

theorem flat_bools (xs : List Bool) : (xs.map fun x => [Value.bool x]).flatten = xs.map fun x => Value.bool x := by
  induction xs with
  | nil => rfl
  | cons x xs ih => simp [ih]
theorem bools_pairs (w : World) (S : Nat → Prop) (xs : List Bool) : Pairs kBool w S xs (xs.map fun x => [Value.bool x]) :=
  ⟨by simp, fun i x cs hx hc => by rw [List.getElem?_map, hx] at hc; injection hc with hc; exact hc.symm⟩
theorem lit_bools (w : World) (l : List Bool) (hl : l.length ≤ 1099511627776) : Own kBool 4 (w.alloc (.cells (l.map fun x => Value.bool x).toArray 4)) none w.heap.size (.slice (some ⟨w.heap.size, 0, none⟩) l.length l.length) l := by
  have h := World.ownsRow_lit (base := w.heap.size) (e := 4) (size := 1) w (l.map fun x => Value.bool x).toArray l.length (Nat.le_refl _) (by simp only [maxLen]; omega) (by simp)
  exact ⟨_, by rw [flat_bools]; exact h, bools_pairs _ _ _, fun _ _ => foot_none _ _⟩
theorem div_succ (a k : Nat) : a / 2 ^ k = 2 * (a / 2 ^ (k + 1)) + (if a.testBit k then 1 else 0) := by
  rw [Nat.pow_succ, ← Nat.div_div_eq_div_mul, testBit_div]
  rcases Nat.mod_two_eq_zero_or_one (a / 2 ^ k) with h | h <;> simp [h] <;> omega
theorem lt_of_div_lt {a b k : Nat} (h : a / 2 ^ k < b / 2 ^ k) : a < b := by
  rcases Nat.lt_or_ge a b with h1 | h1
  · exact h1
  · exact absurd (Nat.div_le_div_right (c := 2 ^ k) h1) (by omega)
def cmpNat (a b : Nat) : Int := if b < a then 1 else if a < b then -1 else 0

set_option maxHeartbeats 2000000 in
attribute [local go_sem] max2_int min2_int max_two min_two in
/-- which is greater -/
theorem cmp_ref (w : World) (S : Nat → Prop) (v u : Value) (a b : Nat) (hx : Row kBool w S v (natBits a)) (hy : Row kBool w S u (natBits b)) (ha : nbits a ≤ 1099511627776) (hb : nbits b ≤ 1099511627776) :
    Calls Try.prog 71 #[v, u] w fun e w' => e = .returned (.int .i64 (cmpNat a b)) ∧ w = w' := by
  obtain ⟨A, c, rfl, hc1, hc2⟩ := hx.shape
  obtain ⟨A', c', rfl, hc1', hc2'⟩ := hy.shape
  unfold maxLen at hc2 hc2'
  have hla := natBits_length a
  have hlb := natBits_length b
  obtain ⟨m, hm⟩ : ∃ m : Nat, (max ((natBits a).length : Int) ((natBits b).length : Int)) = m := ⟨max (natBits a).length (natBits b).length, by omega⟩
  have hA : a / 2 ^ m = 0 := Nat.div_eq_of_lt (Nat.lt_of_lt_of_le (lt_nbits a) (Nat.pow_le_pow_right (by decide) (show nbits a ≤ m by omega)))
  have hBd : b / 2 ^ m = 0 := Nat.div_eq_of_lt (Nat.lt_of_lt_of_le (lt_nbits b) (Nat.pow_le_pow_right (by decide) (show nbits b ≤ m by omega)))
  have hmb : m ≤ 1099511627776 := by omega
  have HX := Lib.hid hx
  have HY := Lib.hid hy
  have HA := Lib.hid (hA.trans hBd.symm)
  clear hx hy hla hlb hA hBd
  go_enter Try.func71, Try.ntmps71
  go_wp2
  go_loop [5] (fun i => ∃ k : Nat, k ≤ m ∧ i = .int .i64 ((k : Int) - 1) ∧ a / 2 ^ k = b / 2 ^ k) (fun i => (intOf i + 1).toNat)
  case atStart => exact ⟨m, Nat.le_refl _, rfl, HA.out⟩
  case round =>
    obtain ⟨k, hk, rfl, he⟩ := hrel
    have HE := Lib.hid he
    clear he hm
    rcases Nat.eq_zero_or_pos k with h0 | h0
    · subst h0
      go_wp2
      go_ret
      have := HE.out
      simp only [Nat.pow_zero, Nat.div_one] at this
      exact ⟨by simp [cmpNat, this], rfl⟩
    · obtain ⟨q, rfl⟩ : ∃ q, k = q + 1 := ⟨k - 1, by omega⟩
      have hq : ((q + 1 : Nat) : Int) - 1 = (q : Int) := by omega
      have da := div_succ a q
      have db := div_succ b q
      rw [hq]
      clear hq h0
      cases hbx : a.testBit q <;> cases hby : b.testBit q
      all_goals
        have HBX := Lib.hid hbx
        have HBY := Lib.hid hby
        rw [hbx] at da
        rw [hby] at db
        have HDA := Lib.hid da
        have HDB := Lib.hid db
        clear hbx hby da db
        go_wp2_with (first
          | (go_at_call 72; ((with_reducible refine (bit_at _ S _ a q _ HX.out ha HBX.out).mono ?_); rintro e w2 ⟨rfl, rfl⟩))
          | (go_at_call 72; ((with_reducible refine (bit_at _ S _ b q _ HY.out hb HBY.out).mono ?_); rintro e w2 ⟨rfl, rfl⟩)))
      · go_round
        case rel => exact ⟨q, by omega, rfl, by rw [HDA.out, HDB.out, HE.out]⟩
        case measure => simp [intOf]
      · go_ret
        have : a / 2 ^ q < b / 2 ^ q := by rw [HDA.out, HDB.out, HE.out]; simp
        have := lt_of_div_lt this
        exact ⟨by simp [cmpNat, show ¬ b < a by omega, this], rfl⟩
      · go_ret
        have : b / 2 ^ q < a / 2 ^ q := by rw [HDA.out, HDB.out, HE.out]; simp
        have := lt_of_div_lt this
        exact ⟨by simp [cmpNat, this], rfl⟩
      · go_round
        case rel => exact ⟨q, by omega, rfl, by rw [HDA.out, HDB.out, HE.out]⟩
        case measure => simp [intOf]

/-- shifted to the left -/
theorem left_ref (w : World) (S : Nat → Prop) (hS : There S w) (v : Value) (a n : Nat) (hx : Row kBool w S v (natBits a)) (ha : nbits a ≤ 549755813888) (hn : n ≤ 549755813888) :
    Calls Try.prog 43 #[v, .int .i64 n] w fun e w' => ∃ v', e = .returned v' ∧ Row kBool w' S v' (natBits (a * 2 ^ n)) ∧ Below w.heap.size w w' := by
  obtain ⟨A, c, css, rfl, h1, h2, h0, h3, h4⟩ := hx
  have hx : Row kBool w S (.slice A (natBits a).length c) (natBits a) := ⟨A, c, css, rfl, h1, h2, h0, h3, h4⟩
  have hl := natBits_length a
  rcases Nat.eq_zero_or_pos a with hz | hp
  · subst hz
    have hl0 : (natBits 0).length = 0 := rfl
    go_enter Try.func43, Try.ntmps43
    go_wp2
    go_ret
    exact ⟨_, rfl, by rw [Nat.zero_mul]; exact hx, Below.refl _ _⟩
  · have hlp : 0 < (natBits a).length := by have := nbits_pos.2 hp; omega
    obtain ⟨b, off, rfl, hb, hSb, hc⟩ := h4 hlp
    have hmk : ∀ W : World, (Instr.makeSlice 42 (.int .i64 (n : Int)) (.int .i64 (n : Int))).run Try.prog W = .ok (.slice (some ⟨W.heap.size, 0, none⟩) n n) (W.alloc (.cells (madeCells #[.bool false] n) 4)) := by
      intro W
      obtain ⟨i0, hi, hz0, hz1, hz2⟩ := info_parts infoBool
      have hr := run_make (P := Try.prog) W 42 4 i0 (.bool false) Try.underlying42 hi hz0 .i64 .i64 n n (by omega) (Int.le_refl _) (by rw [hz2]; omega) (by omega)
      rw [hz1] at hr
      simp only [Int.toNat_natCast, Nat.mul_one] at hr
      exact hr
    have HO : Own kBool 4 (w.alloc (.cells (madeCells #[.bool false] n) 4)) none w.heap.size (.slice (some ⟨w.heap.size, 0, none⟩) n n) (List.replicate n false) := by
      have h := World.ownsRow_lit (base := w.heap.size) (e := 4) (size := 1) w (madeCells #[.bool false] n) n (Nat.le_refl _) (by simp only [maxLen]; omega) (by simp [size_madeCells])
      refine ⟨_, ?_, bools_pairs _ _ _, fun _ _ => foot_none _ _⟩
      have e : ((List.replicate n false).map fun x => [Value.bool x]).flatten = (madeCells #[.bool false] n).toList := by rw [toList_madeCells_one, flat_bools]; simp
      rw [e, List.length_replicate]
      exact h
    have HP : Pairs kBool (w.alloc (.cells (madeCells #[.bool false] n) 4)) (fun i => foot (w.alloc (.cells (madeCells #[.bool false] n) 4)) none i ∨ (Value.slice (some ⟨w.heap.size, 0, none⟩) n n).ownBlock = some i) (natBits a) css := ⟨h3.1, fun i x cs hx hc => h3.2 i x cs hx hc⟩
    have HC : ∀ j u, css.flatten[j]? = some u → (w.alloc (.cells (madeCells #[.bool false] n) 4)).cell? ((⟨b, off, none⟩ : Addr).add j) = some u := fun j u hu => by
      rw [Addr.add_lit, World.cell?_alloc_lt _ _ _ hb]; exact hc j u hu
    have H1 := Lib.hid HO
    have H2 := Lib.hid HP
    have H3 := Lib.hid HC
    have hll : (natBits a).length ≤ 549755813888 := by omega
    have hne : ((natBits a).length : Int) ≠ 0 := by omega
    clear HO HP HC hx h3 h4 hc h1 h2 hl
    go_enter Try.func43, Try.ntmps43
    go_wp2_with (at_builtin; refine app kBool 4 42 (.bool false) 1 rfl (.tmp 10) (.tmp 11) rfl Try.underlying42 infoBool rfl (by decide) (by decide) none w.heap.size H1.out (FootIn.none _) (by simp) rfl ⟨b, off, none⟩ (natBits a).length c (natBits a) css rfl rfl H2.out H3.out (by simp; omega) ?_; intro v' w' q1 q2 _ _ _ _; have Q := Lib.hid (And.intro q1 q2.below); clear q1 q2)
    go_ret
    exact ⟨v', rfl, by rw [natBits_left a n hp]; exact Q.out.1.bools hS, ((Below.refl _ _).alloc (Nat.le_refl _) _).trans Q.out.2⟩

/-- a bit as a number -/
theorem one_ref (w : World) (S : Nat → Prop) (hS : There S w) (b : Bool) :
    Calls Try.prog 64 #[.bool b] w fun e w' => ∃ v', e = .returned v' ∧ Row kBool w' S v' (natBits b.toNat) ∧ Below w.heap.size w w' := by
  cases b
  · go_enter Try.func64, Try.ntmps64
    go_wp2
    go_ret
    exact ⟨_, rfl, (Own.lit0 kBool 4 w).bools hS, (Below.refl _ _).alloc (Nat.le_refl _) _⟩
  · go_enter Try.func64, Try.ntmps64
    go_wp2
    go_ret
    exact ⟨_, rfl, (lit_bools w [true] (by decide)).bools hS, (Below.refl _ _).alloc (Nat.le_refl _) _⟩

end Go.Proofs.Ytdljgifoboiaeaa

