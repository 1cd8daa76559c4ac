/- References 17 (shift), 01's Right. -/
import Derived.Test.YtdljgifoboiaeaaJR01
import Derived.Test.YtdljgifoboiaeaaRowW
import Derived.Test.YtdljgifoboiaeaaShift
namespace Go.Proofs.Ytdljgifoboiaeaa
open Go.RowKit

theorem Row.nilAt {α : Type} (k : Kd α) (w : World) (S : Nat → Prop) (ad : Addr) (c : Nat) (hc : c ≤ maxLen) : Row k w S (.slice (some ad) 0 c) [] := ⟨some ad, c, [], rfl, Nat.zero_le _, hc, (fun h => nomatch h), Pairs.nil _ _ _, fun h => by simp at h⟩

set_option maxHeartbeats 1000000 in
attribute [local go_sem] max2_int min2_int max_two min_two in
/-- a number shifted to the right; was a 1 lost? -/
theorem right01_ref (w : World) (S : Nat → Prop) (v : Value) (a n : Nat) (hx : Row kBool w S v (natBits a)) (ha : nbits a ≤ 4294967296) (hn : n ≤ 4294967296) :
    Calls Try.prog 119 #[v, .int .i64 n] w fun e w' => ∃ v', e = .returned (.tuple #[v', .bool (decide (a % 2 ^ n ≠ 0))]) ∧ Row kBool w S v' (natBits (a / 2 ^ n)) ∧ w = w' := by
  obtain ⟨A, c, rfl, hc1, hc2⟩ := hx.shape
  unfold maxLen at hc2
  have hl := natBits_length a
  rw [hl] at hc1 hx ⊢
  obtain ⟨m, hm⟩ : ∃ m, min n (nbits a) = m := ⟨_, rfl⟩
  have e0 : min (max (n : Int) 0) ((nbits a : Nat) : Int) = m := by omega
  have hsem : natBits (a / 2 ^ n) = (natBits a).drop m ∧ decide (a % 2 ^ n ≠ 0) = decide (a % 2 ^ m ≠ 0) := by
    rw [natBits_right]
    rcases Nat.lt_or_ge n (nbits a) with h | h
    · rw [show m = n by omega]; exact ⟨rfl, rfl⟩
    · have hla := lt_nbits a
      have hle : 2 ^ nbits a ≤ 2 ^ n := Nat.pow_le_pow_right (by decide) h
      rw [show m = nbits a by omega, List.drop_of_length_le (by omega), List.drop_of_length_le (by omega), Nat.mod_eq_of_lt (by omega), Nat.mod_eq_of_lt hla]
      exact ⟨rfl, rfl⟩
  have hmn : m ≤ nbits a := by omega
  have HM := Lib.hid hm
  have HS := Lib.hid hsem
  have HX := Lib.hid hx
  rw [hsem.1, hsem.2]
  clear hm hsem hx hl
  go_enter Try.func119, Try.ntmps119
  go_wp2
  go_loop [6, 7] (fun lv iv => ∃ i : Nat, i ≤ m ∧ iv = .int .i64 i ∧ lv = .bool (decide (a % 2 ^ i ≠ 0))) (fun _ iv => m - (intOf iv).toNat)
  case atStart => exact ⟨0, by omega, rfl, by simp [Nat.mod_one]⟩
  case round =>
    obtain ⟨i, hi, rfl, rfl⟩ := hrel
    by_cases hlt : i < m
    · obtain ⟨b, off, rfl, hcell⟩ := HX.out.bool_at (i := i) (by rw [natBits_length]; omega)
      have hb : (natBits a)[i]'(by rw [natBits_length]; omega) = a.testBit i := by simp [natBits, lowBits]
      rw [hb] at hcell
      have hstep : decide (a % 2 ^ (i + 1) ≠ 0) = (decide (a % 2 ^ i ≠ 0) || a.testBit i) := by
        rw [mod_succ]
        have hp := Nat.two_pow_pos i
        generalize a % 2 ^ i = q
        cases a.testBit i
        · simp
        · rw [if_pos rfl, Bool.or_true]; exact decide_eq_true (by omega)
      have HT := Lib.hid hstep
      have hin : i < nbits a := by omega
      clear hb hstep
      obtain ⟨d, hd⟩ : ∃ d, decide (a % 2 ^ i ≠ 0) = d := ⟨_, rfl⟩
      rw [hd]
      have HD := Lib.hid hd
      clear hd
      cases d
      · go_wp2
        go_round
        case rel => exact ⟨i + 1, by omega, by go_num, by rw [HT.out, HD.out]; rfl⟩
        case measure => simp [intOf]; omega
      · go_wp2
        go_round
        case rel => exact ⟨i + 1, by omega, by go_num, by rw [HT.out, HD.out]; rfl⟩
        case measure => simp [intOf]; omega
    · obtain rfl : i = m := by omega
      have e2 : i ≤ nbits a := hmn
      cases A with
      | none =>
        obtain ⟨A', c', css, he, -, -, h0, -⟩ := HX.out
        injection he with q1 q2 q3
        subst q1; subst q3
        have hc0 := h0 rfl
        subst hc0
        have hi0 : i = 0 := by omega
        subst hi0
        have hb0 : nbits a = 0 := by omega
        rw [hb0]
        have HB0 := Lib.hid hb0
        clear hb0 e2 h0 css
        go_wp2
        go_ret2
        have h := HX.out
        rw [HB0.out] at h
        exact ⟨.slice none 0 0, rfl, by simpa using h, rfl⟩
      | some ad =>
        by_cases hci : c = i
        · have h0 : Hid ((natBits a).drop i = []) := Lib.hid (List.drop_of_length_le (by rw [natBits_length]; omega))
          have hib : Hid (nbits a - i = 0) := Lib.hid (by omega)
          go_wp2
          go_ret2
          refine ⟨_, rfl, ?_, rfl⟩
          rw [h0.out]
          have ht : (min (n : Int) ((nbits a : Nat) : Int)).toNat = i := by have := HM.out; omega
          show Row kBool w S (.slice (some ad) (nbits a - (min (n : Int) ((nbits a : Nat) : Int)).toNat) (i - (min (n : Int) ((nbits a : Nat) : Int)).toNat)) []
          rw [ht, hib.out]
          exact Row.nilAt _ _ _ _ _ (by omega)
        · by_cases hz : nbits a = 0
          · have h0 : Hid ((natBits a).drop i = []) := Lib.hid (List.drop_of_length_le (by rw [natBits_length]; omega))
            go_wp2
            go_ret2
            refine ⟨_, rfl, ?_, rfl⟩
            rw [h0.out]
            exact Row.nilAt _ _ _ _ _ (by unfold maxLen; omega)
          · obtain ⟨b, off, he, -⟩ := HX.out.bool_at (i := 0) (by rw [natBits_length]; omega)
            injection he with he
            subst he
            have h2 := HX.out.drop i e2
            rw [show i * kBool.size = i from Nat.mul_one i] at h2
            have H2 := Lib.hid h2
            clear h2
            go_wp2
            go_ret2
            refine ⟨_, rfl, ?_, rfl⟩
            have ht : (min (n : Int) ((nbits a : Nat) : Int)).toNat = i := by have := HM.out; omega
            show Row kBool w S (.slice (some ⟨b, off + (min (n : Int) ((nbits a : Nat) : Int)).toNat, none⟩) (nbits a - (min (n : Int) ((nbits a : Nat) : Int)).toNat) (c - (min (n : Int) ((nbits a : Nat) : Int)).toNat)) ((natBits a).drop i)
            rw [ht]
            exact H2.out

set_option maxHeartbeats 1000000 in
/-- a number, but no more than a bound -/
theorem amount_ref (w : World) (S : Nat → Prop) (v : Value) (a n : Nat) (hx : Row kBool w S v (natBits a)) (ha : nbits a ≤ 4294967296) (hn : n ≤ 4294967296) :
    Calls Try.prog 120 #[v, .int .i64 n] w fun e w' => e = .returned (.int .i64 (min a n : Nat)) ∧ w = w' := by
  obtain ⟨A, c, rfl, hc1, hc2⟩ := hx.shape
  unfold maxLen at hc2
  rw [natBits_length] at hc1 hx ⊢
  have HX := Lib.hid hx
  clear hx
  go_enter Try.func120, Try.ntmps120
  go_wp2
  go_loop [5, 6] (fun nv iv => ∃ (j : Nat) (i : Int), i = (j : Int) - 1 ∧ j ≤ nbits a ∧ iv = .int .i64 i ∧ nv = .int .i64 (a / 2 ^ j : Nat) ∧ a / 2 ^ j ≤ n) (fun _ iv => (intOf iv + 1).toNat)
  case atStart => exact ⟨nbits a, _, rfl, Nat.le_refl _, rfl, by rw [Nat.div_eq_of_lt (lt_nbits a)]; rfl, by rw [Nat.div_eq_of_lt (lt_nbits a)]; omega⟩
  case round =>
    obtain ⟨j, i, rfl, hj, rfl, rfl, hle⟩ := hrel
    rcases Nat.eq_zero_or_pos j with rfl | hp
    · rw [Nat.pow_zero, Nat.div_one] at hle ⊢
      rw [show ((0 : Nat) : Int) - 1 = -1 by omega]
      have HLE := Lib.hid hle
      clear hle
      go_wp2
      go_ret
      exact ⟨by rw [Nat.min_eq_left HLE.out]; rfl, rfl⟩
    · obtain ⟨q, rfl⟩ : ∃ q, j = q + 1 := ⟨j - 1, by omega⟩
      have e1 : ((q + 1 : Nat) : Int) - 1 = q := by omega
      rw [e1]
      obtain ⟨b, off, rfl, hcell⟩ := HX.out.bool_at (i := q) (by rw [natBits_length]; omega)
      have hb : (natBits a)[q]'(by rw [natBits_length]; omega) = a.testBit q := by simp [natBits, lowBits]
      rw [hb] at hcell
      have hlt : q < nbits a := by omega
      have hstep : a / 2 ^ q = 2 * (a / 2 ^ (q + 1)) + (a.testBit q).toNat := by
        rw [Nat.pow_succ, ← Nat.div_div_eq_div_mul, Nat.testBit_eq_decide_div_mod_eq]
        have := Nat.div_add_mod (a / 2 ^ q) 2
        rcases Nat.mod_two_eq_zero_or_one (a / 2 ^ q) with h | h <;> simp [h] <;> omega
      have hle2 : a / 2 ^ q ≤ a := Nat.div_le_self _ _
      have HS := Lib.hid hstep
      have HL2 := Lib.hid hle2
      clear hstep hle2 hb e1
      obtain ⟨m, hm⟩ : ∃ m, a / 2 ^ (q + 1) = m := ⟨_, rfl⟩
      rw [hm] at hle ⊢
      have HM := Lib.hid hm
      clear hm
      have hmul : IntKind.i64.wrap ((m : Int) * 2) = ((m * 2 : Nat) : Int) := by rw [show (m : Int) * 2 = ((m * 2 : Nat) : Int) by omega]; exact IntWalk.i64_in _ (by omega)
      obtain ⟨t, ht⟩ : ∃ t, a.testBit q = t := ⟨_, rfl⟩
      rw [ht] at hcell
      have HT := Lib.hid ht
      clear ht
      cases t
      · have e2 : a / 2 ^ q = m * 2 := by rw [HS.out, HM.out, HT.out]; simp; omega
        have HE := Lib.hid e2
        clear e2
        by_cases hgt : n < m * 2
        · go_wp2
          go_ret
          exact ⟨by rw [Nat.min_eq_right (by have := HE.out; have := HL2.out; omega)]; rfl, rfl⟩
        · go_wp2
          go_round
          case rel => exact ⟨q, _, rfl, by omega, by go_num, by rw [HE.out]; go_num, by rw [HE.out]; omega⟩
          case measure => simp [intOf] <;> omega
      · have e2 : a / 2 ^ q = m * 2 + 1 := by rw [HS.out, HM.out, HT.out]; simp; omega
        have HE := Lib.hid e2
        clear e2
        by_cases hgt : n < m * 2 + 1
        · go_wp2
          go_ret
          exact ⟨by rw [Nat.min_eq_right (by have := HE.out; have := HL2.out; omega)]; rfl, rfl⟩
        · go_wp2
          go_round
          case rel => exact ⟨q, _, rfl, by omega, by go_num, by rw [HE.out]; go_num, by rw [HE.out]; omega⟩
          case measure => simp [intOf] <;> omega

/-- shifted to the left -/
theorem left17_ref (w : World) (S : Nat → Prop) (hS : There S w) (v u : Value) (a b n : Nat) (hx : Row kBool w S v (natBits a)) (hy : Row kBool w S u (natBits b)) (ha : nbits a ≤ 4294967296) (hb : nbits b ≤ 4294967296) (hn : n ≤ 4294967296) :
    Calls Try.prog 63 #[v, u, .int .i64 n] w fun e w' => ∃ v', e = .returned v' ∧ Row kBool w' S v' (natBits (a * 2 ^ min b n % 2 ^ n)) ∧ Below w.heap.size w w' := by
  go_enter Try.func63, Try.ntmps63
  go_wp2_with fail
  refine (amount_ref _ S u b n hy hb hn).mono ?_
  rintro e w1 ⟨rfl, rfl⟩
  go_wp2_with fail
  refine (left_ref _ S hS v a (min b n) hx (by omega) (by omega)).mono ?_
  rintro e w1 ⟨v1, rfl, h1, hb1⟩
  have hS1 : There S w1 := hS.later hb1.size
  have hnb : nbits (a * 2 ^ min b n) ≤ 1099511627776 := by
    have h := nbits_le (n := a * 2 ^ min b n) (k := nbits a + min b n) (by rw [Nat.pow_add]; exact Nat.mul_lt_mul_of_pos_right (lt_nbits a) (Nat.two_pow_pos _))
    omega
  have HNB := Lib.hid hnb
  clear hnb
  go_wp2_with fail
  refine (low_ref _ S hS1 v1 _ n h1 HNB.out (by omega)).mono ?_
  rintro e w2 ⟨v2, rfl, h2, hb2⟩
  go_wp2
  go_ret
  exact ⟨v2, rfl, h2, hb1.trans (hb2.mono hb1.size)⟩

/-- shifted to the right, and was a 1 lost? -/
theorem right17_ref (w : World) (S : Nat → Prop) (v u : Value) (a b n : Nat) (hx : Row kBool w S v (natBits a)) (hy : Row kBool w S u (natBits b)) (ha : nbits a ≤ 4294967296) (hb : nbits b ≤ 4294967296) (hn : n ≤ 4294967296) :
    Calls Try.prog 62 #[v, u, .int .i64 n] w fun e w' => ∃ v', e = .returned (.tuple #[v', .bool (decide (a % 2 ^ min b n ≠ 0))]) ∧ Row kBool w S v' (natBits (a / 2 ^ min b n)) ∧ w = w' := by
  obtain ⟨d, hd⟩ : ∃ d, decide (a % 2 ^ min b n ≠ 0) = d := ⟨_, rfl⟩
  have h0 := right01_ref w S v a (min b n) hx ha (by omega)
  rw [hd] at h0 ⊢
  have H0 := Lib.hid h0
  clear hd h0
  go_enter Try.func62, Try.ntmps62
  go_wp2_with fail
  refine (amount_ref _ S u b n hy hb hn).mono ?_
  rintro e w1 ⟨rfl, rfl⟩
  go_wp2_with fail
  refine H0.out.mono ?_
  rintro e w1 ⟨v1, rfl, h1, rfl⟩
  go_wp2
  go_ret2
  exact ⟨v1, rfl, h1, rfl⟩

/-- how many bits a count has -/
theorem wide17_ref (w : World) (n : Nat) (hn : n ≤ 4294967296) :
    Calls Try.prog 67 #[.int .i64 n] w fun e w' => e = .returned (.int .i64 (nbits n : Nat)) ∧ w = w' := by
  go_enter Try.func67, Try.ntmps67
  go_wp2
  go_loop [3, 4] (fun kv pv => ∃ k p : Nat, kv = .int .i64 k ∧ pv = .int .i64 p ∧ p = 2 ^ k ∧ k ≤ nbits n) (fun _ pv => n + 1 - (intOf pv).toNat)
  case atStart => exact ⟨0, 1, rfl, rfl, rfl, by omega⟩
  case round =>
    obtain ⟨k, p, rfl, rfl, hp, hk⟩ := hrel
    have hp0 : 0 < p := hp ▸ Nat.two_pow_pos k
    have HP := Lib.hid hp
    clear hp
    have hnb : nbits n ≤ 33 := nbits_le (by omega)
    have HNB := Lib.hid hnb
    have hk33 : k ≤ 33 := by omega
    clear hnb
    by_cases hle : p ≤ n
    · have HK := Lib.hid hk
      clear hk
      go_wp2
      go_round
      case rel => exact ⟨k + 1, 2 * p, by go_num, by go_num, by rw [HP.out, Nat.pow_succ, Nat.mul_comm], by
        rcases Nat.lt_or_ge k (nbits n) with h | h
        · exact h
        · have h1 := lt_nbits n
          have h2 : 2 ^ nbits n ≤ 2 ^ k := Nat.pow_le_pow_right (by decide) h
          have := HP.out
          omega⟩
      case measure => simp [intOf]; omega
    · have hke : k = nbits n := by
        have h1 : nbits n ≤ k := nbits_le (by have := HP.out; omega)
        omega
      subst hke
      go_wp2
      go_ret
      exact ⟨rfl, rfl⟩

/-- how many bits 0 lead -/
theorem lead17_ref (w : World) (S : Nat → Prop) (v : Value) (a n : Nat) (hx : Row kBool w S v (natBits a)) (ha : nbits a ≤ n) (hn : n ≤ 4294967296) :
    Calls Try.prog 69 #[v, .int .i64 n] w fun e w' => e = .returned (.int .i64 (n - nbits a : Nat)) ∧ w = w' := by
  obtain ⟨A, c, rfl, hc1, hc2⟩ := hx.shape
  rw [natBits_length]
  have e1 : (n : Int) - (nbits a : Nat) = ((n - nbits a : Nat) : Int) := by omega
  go_enter Try.func69, Try.ntmps69
  go_wp2
  go_ret
  exact ⟨by rw [← e1]; rfl, rfl⟩
end Go.Proofs.Ytdljgifoboiaeaa
