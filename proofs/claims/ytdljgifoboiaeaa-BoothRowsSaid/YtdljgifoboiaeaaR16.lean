/- References: slipstickref01.Mul, slipstickref16. -/
import Derived.Test.YtdljgifoboiaeaaBMath
import Derived.Test.YtdljgifoboiaeaaJR01
import Derived.StillTailTactics
namespace Go.Proofs.Ytdljgifoboiaeaa
open Go.RowKit

theorem mul01_ref (w : World) (S : Nat → Prop) (hS : There S w) (v u : Value) (a b : Nat) (hx : Row kBool w S v (natBits a)) (hy : Row kBool w S u (natBits b)) (ha : nbits a ≤ 4294967296) (hb : nbits b ≤ 4294967296) :
    Calls Try.prog 80 #[v, u] w fun e w' => ∃ v', e = .returned v' ∧ Row kBool w' S v' (natBits (a * b)) ∧ Below w.heap.size w w' := by
  obtain ⟨A, c, rfl, hc1, hc2⟩ := hy.shape
  unfold maxLen at hc2
  rw [natBits_length] at hc1 hy ⊢
  have HX := Lib.hid hx
  have HY := Lib.hid hy
  clear hx hy
  have hl0 : Row kBool (w.alloc (.cells #[] 4)) S (.slice (some ⟨w.heap.size, 0, none⟩) 0 0) (natBits 0) := ⟨some ⟨w.heap.size, 0, none⟩, 0, [], rfl, Nat.le_refl _, Nat.zero_le _, (fun h => nomatch h), Pairs.nil _ _ _, fun h => by simp [natBits_zero] at h⟩
  have hb0 : Below w.heap.size w (w.alloc (.cells #[] 4)) := (Below.refl _ _).alloc (Nat.le_refl _) _
  have HL := Lib.hid hl0
  have HB0 := Lib.hid hb0
  clear hl0 hb0
  go_enter Try.func80, Try.ntmps80
  go_wp2
  go_loopw [5, 6] (fun ov iv wr => ∃ i : Nat, iv = .int .i64 (i : Nat) ∧ i ≤ nbits b ∧ Hid (Row kBool wr S ov (natBits (a * (b % 2 ^ i)))) ∧ Hid (Below w.heap.size w wr)) (fun _ iv _ => nbits b - (intOf iv).toNat)
  case atStart => exact ⟨0, rfl, by omega, Lib.hid (by rw [Nat.pow_zero, Nat.mod_one, Nat.mul_zero]; exact HL.out), HB0⟩
  case round =>
    obtain ⟨i, rfl, hi, HO, HB⟩ := hrel
    by_cases hlt : i < nbits b
    · have HX2 := Lib.hid (HX.out.later HB.out)
      have hy2 := HY.out.later HB.out
      obtain ⟨b1, o1, rfl, hcell⟩ := hy2.bool_at (i := i) (by rw [natBits_length]; omega)
      have hbit : (natBits b)[i]'(by rw [natBits_length]; omega) = b.testBit i := by simp [natBits, lowBits]
      rw [hbit] at hcell
      obtain ⟨t, ht⟩ : ∃ t, b.testBit i = t := ⟨_, rfl⟩
      rw [ht] at hcell
      have HT := Lib.hid ht
      clear hy2 hbit ht
      cases t
      · go_wp2
        go_roundw
        case rel => exact ⟨i + 1, by go_num, by omega, Lib.hid (by rw [mod_succ, HT.out]; simpa using HO.out), HB⟩
        case measure => simp [intOf]; omega
      · have hn1 : nbits (a * 2 ^ i) ≤ 549755813888 := by
          have h := nbits_le (n := a * 2 ^ i) (k := nbits a + i) (by rw [Nat.pow_add]; exact Nat.mul_lt_mul_of_pos_right (lt_nbits a) (Nat.two_pow_pos _))
          omega
        have hn2 : nbits (a * (b % 2 ^ i)) ≤ 549755813888 := by
          have h := nbits_le (n := a * (b % 2 ^ i)) (k := nbits a + i) (by rw [Nat.pow_add]; exact Nat.mul_lt_mul'' (lt_nbits a) (Nat.mod_lt _ (Nat.two_pow_pos _)))
          omega
        go_wp2_with fail
        refine (left_ref _ S (hS.later HB.out.size) _ a i HX2.out (by omega) (by omega)).mono ?_
        rintro e w2 ⟨v2, rfl, hr2, hb2⟩
        have HR2 := Lib.hid hr2
        have HB2 := Lib.hid (HB.out.trans (hb2.mono HB.out.size))
        have HO2 := Lib.hid (HO.out.later hb2)
        clear hr2 hb2
        go_wp2_with fail
        refine (add_ref _ S (hS.later HB2.out.size) _ _ _ (a * 2 ^ i) HO2.out HR2.out hn2 hn1).mono ?_
        rintro e w3 ⟨v3, rfl, hr3, hb3⟩
        have HR3 := Lib.hid hr3
        have HB3 := Lib.hid (HB2.out.trans (hb3.mono HB2.out.size))
        clear hr3 hb3
        go_wp2
        go_roundw
        case rel => exact ⟨i + 1, by go_num, by omega, Lib.hid (by rw [mod_succ, HT.out, if_pos rfl, Nat.mul_add]; exact HR3.out), HB3⟩
        case measure => simp [intOf]; omega
    · obtain rfl : i = nbits b := by omega
      rw [Nat.mod_eq_of_lt (lt_nbits b)] at HO
      go_wp2
      go_ret
      exact ⟨_, rfl, HO.out, HB.out⟩

theorem flag16_ref (w : World) (b : Bool) : Calls Try.prog 122 #[.bool b] w fun e w' => e = .returned (.int .i64 (b.toNat : Nat)) ∧ w = w' := by
  cases b
  · go_enter Try.func122, Try.ntmps122
    go_wp2
    go_ret
    exact ⟨rfl, rfl⟩
  · go_enter Try.func122, Try.ntmps122
    go_wp2
    go_ret
    exact ⟨rfl, rfl⟩
theorem digits16_ref (w : World) (n : Nat) (hn : n ≤ 4294967296) : Calls Try.prog 75 #[.int .i64 n] w fun e w' => e = .returned (.int .i64 ((n / 2 + 1 : Nat) : Int)) ∧ w = w' := by
  go_enter Try.func75, Try.ntmps75
  go_wp2
  go_ret
  exact ⟨by go_num, rfl⟩

theorem bitZ_ref (w : World) (S : Nat → Prop) (v : Value) (n : Nat) (i : Int) (hx : Row kBool w S v (natBits n)) (hn : nbits n ≤ 1099511627776) :
    Calls Try.prog 72 #[v, .int .i64 i] w fun e w' => e = .returned (.bool (bitZ n i)) ∧ w = w' :=
  (bit_ref w S v n i hx hn).mono fun e w' h => by
    have e1 : bitZ n i = (decide (0 ≤ i) && n.testBit i.toNat) := by
      by_cases h0 : i < 0
      · rw [bitZ_neg h0, decide_eq_false (by omega)]; rfl
      · rw [bitZ_at (by omega), decide_eq_true (by omega)]; rfl
    rw [e1]; exact h
theorem digit16_ref (w : World) (S : Nat → Prop) (v : Value) (b i : Nat) (hx : Row kBool w S v (natBits b)) (hb : nbits b ≤ 1099511627776) (hi : i ≤ 4294967296) :
    Calls Try.prog 78 #[v, .int .i64 i] w fun e w' => e = .returned (.int .i64 (dig b i)) ∧ w = w' := by
  obtain ⟨d, hd⟩ : ∃ d, dig b i = d := ⟨_, rfl⟩
  rw [hd]
  have HD := Lib.hid hd
  have HX := Lib.hid hx
  clear hd hx
  go_enter Try.func78, Try.ntmps78
  go_wp2_with fail
  refine (bitZ_ref _ S _ b _ HX.out hb).mono ?_
  rintro e w1 ⟨rfl, rfl⟩
  go_wp2_with fail
  refine (flag16_ref _ _).mono ?_
  rintro e w1 ⟨rfl, rfl⟩
  go_wp2_with fail
  refine (bitZ_ref _ S _ b _ HX.out hb).mono ?_
  rintro e w1 ⟨rfl, rfl⟩
  go_wp2_with fail
  refine (flag16_ref _ _).mono ?_
  rintro e w1 ⟨rfl, rfl⟩
  go_wp2_with fail
  refine (bitZ_ref _ S _ b _ HX.out hb).mono ?_
  rintro e w1 ⟨rfl, rfl⟩
  go_wp2_with fail
  refine (flag16_ref _ _).mono ?_
  rintro e w1 ⟨rfl, rfl⟩
  obtain ⟨b1, hb1⟩ : ∃ b1, bitZ b (2 * (i : Int) - 1) = b1 := ⟨_, rfl⟩
  obtain ⟨b2, hb2⟩ : ∃ b1, bitZ b (2 * (i : Int)) = b1 := ⟨_, rfl⟩
  obtain ⟨b3, hb3⟩ : ∃ b1, bitZ b (2 * (i : Int) + 1) = b1 := ⟨_, rfl⟩
  rw [hb1, hb2, hb3]
  have hdd : d = (b1.toNat : Int) + (b2.toNat : Int) - 2 * (b3.toNat : Int) := by rw [← HD.out, dig, hb1, hb2, hb3]
  clear hb1 hb2 hb3
  cases b1 <;> cases b2 <;> cases b3 <;> (simp at hdd; subst hdd; simp only [Bool.toNat_false, Bool.toNat_true]; go_wp2; go_ret; exact ⟨by (try simp only [wrap64]); go_num, rfl⟩)

theorem dig_is (b i : Nat) : dig b i = -2 ∨ dig b i = -1 ∨ dig b i = 0 ∨ dig b i = 1 ∨ dig b i = 2 := by
  unfold dig
  cases bitZ b (2 * i - 1) <;> cases bitZ b (2 * i) <;> cases bitZ b (2 * i + 1) <;> simp
def row16N (a b i w : Nat) : Nat := if dig b i < 0 then (2 ^ w - a * (dig b i).natAbs * 2 ^ (2 * i) % 2 ^ w) % 2 ^ w else a * (dig b i).natAbs * 2 ^ (2 * i) % 2 ^ w


set_option maxHeartbeats 2000000 in
theorem row16_ref (w : World) (S : Nat → Prop) (hS : There S w) (v u : Value) (a b i n : Nat) (hx : Row kBool w S v (natBits a)) (hy : Row kBool w S u (natBits b)) (ha : nbits a ≤ 1000) (hb : nbits b ≤ 1000) (hi : i ≤ 1000) (hn : n ≤ 1000) :
    Calls Try.prog 79 #[v, u, .int .i64 i, .int .i64 n] w fun e w' => ∃ v', e = .returned v' ∧ Row kBool w' S v' (natBits (row16N a b i n)) ∧ Below w.heap.size w w' := by
  have HX := Lib.hid hx
  have HY := Lib.hid hy
  have HB0 := Lib.hid (Below.refl w.heap.size w)
  clear hx hy
  go_enter Try.func79, Try.ntmps79
  go_wp2_with fail
  refine (digit16_ref _ S _ b i HY.out (by omega) (by omega)).mono ?_
  rintro e w1 ⟨rfl, rfl⟩
  have hdi := dig_is b i
  obtain ⟨d, hd⟩ : ∃ d, dig b i = d := ⟨_, rfl⟩
  rw [hd] at hdi ⊢
  have HD := Lib.hid hd
  clear hd
  rcases hdi with rfl | rfl | rfl | rfl | rfl
  · skip
    go_wp2_with fail
    refine (word01_ref _ S (hS.later HB0.out.size) 2 (by decide)).mono ?_
    rintro e w1 ⟨v1, rfl, hr, hb1⟩
    have HR := Lib.hid hr
    have HB := Lib.hid (HB0.out.trans (hb1.mono HB0.out.size))
    clear hr hb1
    go_wp2_with fail
    refine (mul01_ref _ S (hS.later HB.out.size) _ _ a 2 (HX.out.later HB.out) HR.out (by omega) (by decide)).mono ?_
    rintro e w2 ⟨v2, rfl, hr, hb1⟩
    have HR2 := Lib.hid hr
    have HB2 := Lib.hid (HB.out.trans (hb1.mono HB.out.size))
    clear hr hb1
    have hn2 : nbits (a * 2) ≤ nbits a + 2 := nbits_le (by rw [Nat.pow_add]; exact Nat.mul_lt_mul_of_lt_of_le (lt_nbits a) (show 2 ≤ 2 ^ 2 by decide) (by decide))
    obtain ⟨q, hq⟩ : ∃ q, a * 2 = q := ⟨_, rfl⟩
    rw [hq] at HR2 hn2
    have HQ := Lib.hid hq
    clear hq
    go_wp2_with fail
    refine (left_ref _ S (hS.later HB2.out.size) _ q (2 * i) HR2.out (by omega) (by omega)).mono ?_
    rintro e w3 ⟨v3, rfl, hr, hb1⟩
    have HR3 := Lib.hid hr
    have HB3 := Lib.hid (HB2.out.trans (hb1.mono HB2.out.size))
    clear hr hb1
    have hn3 : nbits (q * 2 ^ (2 * i)) ≤ nbits q + 2 * i := nbits_le (by rw [Nat.pow_add]; exact Nat.mul_lt_mul_of_pos_right (lt_nbits q) (Nat.two_pow_pos _))
    go_wp2_with fail
    refine (low_ref _ S (hS.later HB3.out.size) _ _ n HR3.out (by omega) (by omega)).mono ?_
    rintro e w4 ⟨v4, rfl, hr, hb1⟩
    have HR4 := Lib.hid hr
    have HB4 := Lib.hid (HB3.out.trans (hb1.mono HB3.out.size))
    clear hr hb1
    go_wp2_with fail
    have hl1 : Row kBool (w4.alloc (.cells #[.bool true] 4)) S (.slice (some ⟨w4.heap.size, 0, none⟩) 1 1) (natBits 1) := lit_any kBool 4 w4 S (hS.later HB4.out.size) [true] [[.bool true]] #[.bool true] rfl (bools_pairs _ _ [true]) (by simp)
    have hb5 : Below w4.heap.size w4 (w4.alloc (.cells #[.bool true] 4)) := (Below.refl _ _).alloc (Nat.le_refl _) _
    have HL := Lib.hid hl1
    have HB5 := Lib.hid (HB4.out.trans (hb5.mono HB4.out.size))
    have HR5 := Lib.hid (HR4.out.later hb5)
    clear hl1 hb5
    refine (left_ref _ S (hS.later HB5.out.size) _ 1 n HL.out (by decide) (by omega)).mono ?_
    rintro e w6 ⟨v6, rfl, hr, hb1⟩
    rw [Nat.one_mul] at hr
    have HR6 := Lib.hid hr
    have HB6 := Lib.hid (HB5.out.trans (hb1.mono HB5.out.size))
    have HR7 := Lib.hid (HR5.out.later hb1)
    clear hr hb1
    have hnp : nbits (2 ^ n) ≤ 10000 := by have := nbits_pow n; omega
    have hnm : nbits (q * 2 ^ (2 * i) % 2 ^ n) ≤ 10000 := by have := nbits_low (q * 2 ^ (2 * i)) n; omega
    have hle : q * 2 ^ (2 * i) % 2 ^ n ≤ 2 ^ n := Nat.le_of_lt (Nat.mod_lt _ (Nat.two_pow_pos n))
    go_wp2_with fail
    refine (sub_ref _ S (hS.later HB6.out.size) _ _ (2 ^ n) (q * 2 ^ (2 * i) % 2 ^ n) HR6.out HR7.out (by omega) (by omega) hle).mono ?_
    rintro e w7 ⟨v7, rfl, hr, hb1⟩
    have HR8 := Lib.hid hr
    have HB7 := Lib.hid (HB6.out.trans (hb1.mono HB6.out.size))
    clear hr hb1
    go_wp2_with fail
    refine (low_ref _ S (hS.later HB7.out.size) _ _ n HR8.out (by have := nbits_mono (Nat.sub_le (2 ^ n) (q * 2 ^ (2 * i) % 2 ^ n)); omega) (by omega)).mono ?_
    rintro e w8 ⟨v8, rfl, hr, hb1⟩
    have HR9 := Lib.hid hr
    have HB8 := Lib.hid (HB7.out.trans (hb1.mono HB7.out.size))
    clear hr hb1
    go_wp2
    go_ret
    exact ⟨v8, rfl, by rw [row16N, HD.out, if_pos (by decide), show (-2 : Int).natAbs = 2 from rfl, HQ.out]; exact HR9.out, HB8.out⟩
  · skip
    go_wp2_with fail
    refine (word01_ref _ S (hS.later HB0.out.size) 1 (by decide)).mono ?_
    rintro e w1 ⟨v1, rfl, hr, hb1⟩
    have HR := Lib.hid hr
    have HB := Lib.hid (HB0.out.trans (hb1.mono HB0.out.size))
    clear hr hb1
    go_wp2_with fail
    refine (mul01_ref _ S (hS.later HB.out.size) _ _ a 1 (HX.out.later HB.out) HR.out (by omega) (by decide)).mono ?_
    rintro e w2 ⟨v2, rfl, hr, hb1⟩
    have HR2 := Lib.hid hr
    have HB2 := Lib.hid (HB.out.trans (hb1.mono HB.out.size))
    clear hr hb1
    have hn2 : nbits (a * 1) ≤ nbits a + 2 := nbits_le (by rw [Nat.pow_add]; exact Nat.mul_lt_mul_of_lt_of_le (lt_nbits a) (show 1 ≤ 2 ^ 2 by decide) (by decide))
    obtain ⟨q, hq⟩ : ∃ q, a * 1 = q := ⟨_, rfl⟩
    rw [hq] at HR2 hn2
    have HQ := Lib.hid hq
    clear hq
    go_wp2_with fail
    refine (left_ref _ S (hS.later HB2.out.size) _ q (2 * i) HR2.out (by omega) (by omega)).mono ?_
    rintro e w3 ⟨v3, rfl, hr, hb1⟩
    have HR3 := Lib.hid hr
    have HB3 := Lib.hid (HB2.out.trans (hb1.mono HB2.out.size))
    clear hr hb1
    have hn3 : nbits (q * 2 ^ (2 * i)) ≤ nbits q + 2 * i := nbits_le (by rw [Nat.pow_add]; exact Nat.mul_lt_mul_of_pos_right (lt_nbits q) (Nat.two_pow_pos _))
    go_wp2_with fail
    refine (low_ref _ S (hS.later HB3.out.size) _ _ n HR3.out (by omega) (by omega)).mono ?_
    rintro e w4 ⟨v4, rfl, hr, hb1⟩
    have HR4 := Lib.hid hr
    have HB4 := Lib.hid (HB3.out.trans (hb1.mono HB3.out.size))
    clear hr hb1
    go_wp2_with fail
    have hl1 : Row kBool (w4.alloc (.cells #[.bool true] 4)) S (.slice (some ⟨w4.heap.size, 0, none⟩) 1 1) (natBits 1) := lit_any kBool 4 w4 S (hS.later HB4.out.size) [true] [[.bool true]] #[.bool true] rfl (bools_pairs _ _ [true]) (by simp)
    have hb5 : Below w4.heap.size w4 (w4.alloc (.cells #[.bool true] 4)) := (Below.refl _ _).alloc (Nat.le_refl _) _
    have HL := Lib.hid hl1
    have HB5 := Lib.hid (HB4.out.trans (hb5.mono HB4.out.size))
    have HR5 := Lib.hid (HR4.out.later hb5)
    clear hl1 hb5
    refine (left_ref _ S (hS.later HB5.out.size) _ 1 n HL.out (by decide) (by omega)).mono ?_
    rintro e w6 ⟨v6, rfl, hr, hb1⟩
    rw [Nat.one_mul] at hr
    have HR6 := Lib.hid hr
    have HB6 := Lib.hid (HB5.out.trans (hb1.mono HB5.out.size))
    have HR7 := Lib.hid (HR5.out.later hb1)
    clear hr hb1
    have hnp : nbits (2 ^ n) ≤ 10000 := by have := nbits_pow n; omega
    have hnm : nbits (q * 2 ^ (2 * i) % 2 ^ n) ≤ 10000 := by have := nbits_low (q * 2 ^ (2 * i)) n; omega
    have hle : q * 2 ^ (2 * i) % 2 ^ n ≤ 2 ^ n := Nat.le_of_lt (Nat.mod_lt _ (Nat.two_pow_pos n))
    go_wp2_with fail
    refine (sub_ref _ S (hS.later HB6.out.size) _ _ (2 ^ n) (q * 2 ^ (2 * i) % 2 ^ n) HR6.out HR7.out (by omega) (by omega) hle).mono ?_
    rintro e w7 ⟨v7, rfl, hr, hb1⟩
    have HR8 := Lib.hid hr
    have HB7 := Lib.hid (HB6.out.trans (hb1.mono HB6.out.size))
    clear hr hb1
    go_wp2_with fail
    refine (low_ref _ S (hS.later HB7.out.size) _ _ n HR8.out (by have := nbits_mono (Nat.sub_le (2 ^ n) (q * 2 ^ (2 * i) % 2 ^ n)); omega) (by omega)).mono ?_
    rintro e w8 ⟨v8, rfl, hr, hb1⟩
    have HR9 := Lib.hid hr
    have HB8 := Lib.hid (HB7.out.trans (hb1.mono HB7.out.size))
    clear hr hb1
    go_wp2
    go_ret
    exact ⟨v8, rfl, by rw [row16N, HD.out, if_pos (by decide), show (-1 : Int).natAbs = 1 from rfl, HQ.out]; exact HR9.out, HB8.out⟩
  · skip
    go_wp2_with fail
    refine (word01_ref _ S (hS.later HB0.out.size) 0 (by decide)).mono ?_
    rintro e w1 ⟨v1, rfl, hr, hb1⟩
    have HR := Lib.hid hr
    have HB := Lib.hid (HB0.out.trans (hb1.mono HB0.out.size))
    clear hr hb1
    go_wp2_with fail
    refine (mul01_ref _ S (hS.later HB.out.size) _ _ a 0 (HX.out.later HB.out) HR.out (by omega) (by decide)).mono ?_
    rintro e w2 ⟨v2, rfl, hr, hb1⟩
    have HR2 := Lib.hid hr
    have HB2 := Lib.hid (HB.out.trans (hb1.mono HB.out.size))
    clear hr hb1
    have hn2 : nbits (a * 0) ≤ nbits a + 2 := nbits_le (by rw [Nat.pow_add]; exact Nat.mul_lt_mul_of_lt_of_le (lt_nbits a) (show 0 ≤ 2 ^ 2 by decide) (by decide))
    obtain ⟨q, hq⟩ : ∃ q, a * 0 = q := ⟨_, rfl⟩
    rw [hq] at HR2 hn2
    have HQ := Lib.hid hq
    clear hq
    go_wp2_with fail
    refine (left_ref _ S (hS.later HB2.out.size) _ q (2 * i) HR2.out (by omega) (by omega)).mono ?_
    rintro e w3 ⟨v3, rfl, hr, hb1⟩
    have HR3 := Lib.hid hr
    have HB3 := Lib.hid (HB2.out.trans (hb1.mono HB2.out.size))
    clear hr hb1
    have hn3 : nbits (q * 2 ^ (2 * i)) ≤ nbits q + 2 * i := nbits_le (by rw [Nat.pow_add]; exact Nat.mul_lt_mul_of_pos_right (lt_nbits q) (Nat.two_pow_pos _))
    go_wp2_with fail
    refine (low_ref _ S (hS.later HB3.out.size) _ _ n HR3.out (by omega) (by omega)).mono ?_
    rintro e w4 ⟨v4, rfl, hr, hb1⟩
    have HR4 := Lib.hid hr
    have HB4 := Lib.hid (HB3.out.trans (hb1.mono HB3.out.size))
    clear hr hb1
    go_wp2
    go_ret
    exact ⟨v4, rfl, by rw [row16N, HD.out, if_neg (by decide), show (0 : Int).natAbs = 0 from rfl, HQ.out]; exact HR4.out, HB4.out⟩
  · skip
    go_wp2_with fail
    refine (word01_ref _ S (hS.later HB0.out.size) 1 (by decide)).mono ?_
    rintro e w1 ⟨v1, rfl, hr, hb1⟩
    have HR := Lib.hid hr
    have HB := Lib.hid (HB0.out.trans (hb1.mono HB0.out.size))
    clear hr hb1
    go_wp2_with fail
    refine (mul01_ref _ S (hS.later HB.out.size) _ _ a 1 (HX.out.later HB.out) HR.out (by omega) (by decide)).mono ?_
    rintro e w2 ⟨v2, rfl, hr, hb1⟩
    have HR2 := Lib.hid hr
    have HB2 := Lib.hid (HB.out.trans (hb1.mono HB.out.size))
    clear hr hb1
    have hn2 : nbits (a * 1) ≤ nbits a + 2 := nbits_le (by rw [Nat.pow_add]; exact Nat.mul_lt_mul_of_lt_of_le (lt_nbits a) (show 1 ≤ 2 ^ 2 by decide) (by decide))
    obtain ⟨q, hq⟩ : ∃ q, a * 1 = q := ⟨_, rfl⟩
    rw [hq] at HR2 hn2
    have HQ := Lib.hid hq
    clear hq
    go_wp2_with fail
    refine (left_ref _ S (hS.later HB2.out.size) _ q (2 * i) HR2.out (by omega) (by omega)).mono ?_
    rintro e w3 ⟨v3, rfl, hr, hb1⟩
    have HR3 := Lib.hid hr
    have HB3 := Lib.hid (HB2.out.trans (hb1.mono HB2.out.size))
    clear hr hb1
    have hn3 : nbits (q * 2 ^ (2 * i)) ≤ nbits q + 2 * i := nbits_le (by rw [Nat.pow_add]; exact Nat.mul_lt_mul_of_pos_right (lt_nbits q) (Nat.two_pow_pos _))
    go_wp2_with fail
    refine (low_ref _ S (hS.later HB3.out.size) _ _ n HR3.out (by omega) (by omega)).mono ?_
    rintro e w4 ⟨v4, rfl, hr, hb1⟩
    have HR4 := Lib.hid hr
    have HB4 := Lib.hid (HB3.out.trans (hb1.mono HB3.out.size))
    clear hr hb1
    go_wp2
    go_ret
    exact ⟨v4, rfl, by rw [row16N, HD.out, if_neg (by decide), show (1 : Int).natAbs = 1 from rfl, HQ.out]; exact HR4.out, HB4.out⟩
  · skip
    go_wp2_with fail
    refine (word01_ref _ S (hS.later HB0.out.size) 2 (by decide)).mono ?_
    rintro e w1 ⟨v1, rfl, hr, hb1⟩
    have HR := Lib.hid hr
    have HB := Lib.hid (HB0.out.trans (hb1.mono HB0.out.size))
    clear hr hb1
    go_wp2_with fail
    refine (mul01_ref _ S (hS.later HB.out.size) _ _ a 2 (HX.out.later HB.out) HR.out (by omega) (by decide)).mono ?_
    rintro e w2 ⟨v2, rfl, hr, hb1⟩
    have HR2 := Lib.hid hr
    have HB2 := Lib.hid (HB.out.trans (hb1.mono HB.out.size))
    clear hr hb1
    have hn2 : nbits (a * 2) ≤ nbits a + 2 := nbits_le (by rw [Nat.pow_add]; exact Nat.mul_lt_mul_of_lt_of_le (lt_nbits a) (show 2 ≤ 2 ^ 2 by decide) (by decide))
    obtain ⟨q, hq⟩ : ∃ q, a * 2 = q := ⟨_, rfl⟩
    rw [hq] at HR2 hn2
    have HQ := Lib.hid hq
    clear hq
    go_wp2_with fail
    refine (left_ref _ S (hS.later HB2.out.size) _ q (2 * i) HR2.out (by omega) (by omega)).mono ?_
    rintro e w3 ⟨v3, rfl, hr, hb1⟩
    have HR3 := Lib.hid hr
    have HB3 := Lib.hid (HB2.out.trans (hb1.mono HB2.out.size))
    clear hr hb1
    have hn3 : nbits (q * 2 ^ (2 * i)) ≤ nbits q + 2 * i := nbits_le (by rw [Nat.pow_add]; exact Nat.mul_lt_mul_of_pos_right (lt_nbits q) (Nat.two_pow_pos _))
    go_wp2_with fail
    refine (low_ref _ S (hS.later HB3.out.size) _ _ n HR3.out (by omega) (by omega)).mono ?_
    rintro e w4 ⟨v4, rfl, hr, hb1⟩
    have HR4 := Lib.hid hr
    have HB4 := Lib.hid (HB3.out.trans (hb1.mono HB3.out.size))
    clear hr hb1
    go_wp2
    go_ret
    exact ⟨v4, rfl, by rw [row16N, HD.out, if_neg (by decide), show (2 : Int).natAbs = 2 from rfl, HQ.out]; exact HR4.out, HB4.out⟩
end Go.Proofs.Ytdljgifoboiaeaa
