/- slipstickref14, and a word of 64 bits as bits. -/
import Derived.Test.YtdljgifoboiaeaaR01d
namespace Go.Proofs.Ytdljgifoboiaeaa
open Go.RowKit

theorem power_ref (w : World) (S : Nat → Prop) (hS : There S w) (n : Nat) (hn : n ≤ 549755813888) :
    Calls Try.prog 110 #[.int .i64 n] w fun e w' => ∃ v', e = .returned v' ∧ Row kBool w' S v' (natBits (2 ^ n)) ∧ Below w.heap.size w w' := by
  have h1 : Row kBool (w.alloc (.cells #[.bool true] 4)) S (.slice (some ⟨w.heap.size, 0, none⟩) 1 1) (natBits 1) := (lit_bools w [true] (by decide)).bools hS
  have hb : Below w.heap.size w (w.alloc (.cells #[.bool true] 4)) := (Below.refl _ _).alloc (Nat.le_refl _) _
  have H1 := Lib.hid h1
  have HB := Lib.hid hb
  clear h1 hb
  go_enter Try.func110, Try.ntmps110
  go_wp2_with fail
  refine (left_ref _ S (hS.later HB.out.size) _ 1 n H1.out (by decide) hn).mono ?_
  rintro e w1 ⟨v1, rfl, hr, hb1⟩
  have HR := Lib.hid hr
  have HB1 := Lib.hid (HB.out.trans (hb1.mono HB.out.size))
  clear hr hb1
  go_wp2
  go_ret
  rw [Nat.one_mul] at HR
  exact ⟨_, rfl, HR.out, HB1.out⟩

theorem nbits_pow (n : Nat) : nbits (2 ^ n) ≤ n + 1 := nbits_le (Nat.pow_lt_pow_right (by omega) (by omega))
theorem nbits_parts {xs : List Int} (h : okParts xs) : nbits (partsVal xs) ≤ 32 * xs.length := nbits_le (by
  have := partsVal_lt xs h
  rw [Nat.pow_mul]; exact this)
theorem nbits_add (a b : Nat) : nbits (a + b) ≤ max (nbits a) (nbits b) + 1 := by
  refine nbits_le ?_
  have h1 := lt_nbits a
  have h2 := lt_nbits b
  have h3 : 2 ^ nbits a ≤ 2 ^ (max (nbits a) (nbits b)) := Nat.pow_le_pow_right (by omega) (by omega)
  have h4 : 2 ^ nbits b ≤ 2 ^ (max (nbits a) (nbits b)) := Nat.pow_le_pow_right (by omega) (by omega)
  rw [Nat.pow_succ]; omega
theorem nbits_mono {a b : Nat} (h : a ≤ b) : nbits a ≤ nbits b := nbits_le (Nat.lt_of_le_of_lt h (lt_nbits b))

theorem with14_ref (w : World) (S : Nat → Prop) (hS : There S w) (v : Value) (a n : Nat) (b : Bool) (hx : Row kBool w S v (natBits a)) (ha : nbits a ≤ 4294967296) (hn : n ≤ 4294967296) :
    Calls Try.prog 41 #[v, .int .i64 n, .bool b] w fun e w' => ∃ v', e = .returned v' ∧ Row kBool w' S v' (natBits (a + if b then 2 ^ n else 0)) ∧ Below w.heap.size w w' := by
  have HX := Lib.hid hx
  clear hx
  cases b
  · go_enter Try.func41, Try.ntmps41
    go_wp2
    go_ret
    exact ⟨_, rfl, HX.out, Below.refl _ _⟩
  · go_enter Try.func41, Try.ntmps41
    go_wp2_with fail
    refine (power_ref _ S hS n (by omega)).mono ?_
    rintro e w1 ⟨v1, rfl, hr, hb1⟩
    have HR := Lib.hid hr
    have HB := Lib.hid hb1
    clear hr hb1
    go_wp2_with fail
    refine (add_ref _ S (hS.later HB.out.size) _ _ a (2 ^ n) (HX.out.later HB.out) HR.out (by omega) (by have := nbits_pow n; omega)).mono ?_
    rintro e w2 ⟨v2, rfl, hr, hb1⟩
    have HR2 := Lib.hid hr
    have HB2 := Lib.hid (HB.out.trans (hb1.mono HB.out.size))
    clear hr hb1
    go_wp2
    go_ret
    exact ⟨_, rfl, HR2.out, HB2.out⟩

theorem size14_ref (w : World) (S : Nat → Prop) (hS : There S w) (v : Value) (a n : Nat) (b : Bool) (hx : Row kBool w S v (natBits a)) (ha : a ≤ 2 ^ n) (hn : n ≤ 4294967296) :
    Calls Try.prog 44 #[v, .bool b, .int .i64 n] w fun e w' => ∃ v', e = .returned v' ∧ Row kBool w' S v' (natBits (if b then (2 ^ n - a) % 2 ^ n else a)) ∧ Below w.heap.size w w' := by
  have HX := Lib.hid hx
  clear hx
  have h1 := nbits_mono ha
  have h2 := nbits_pow n
  cases b
  · go_enter Try.func44, Try.ntmps44
    go_wp2
    go_ret
    exact ⟨_, rfl, HX.out, Below.refl _ _⟩
  · go_enter Try.func44, Try.ntmps44
    go_wp2_with fail
    refine (power_ref _ S hS n (by omega)).mono ?_
    rintro e w1 ⟨v1, rfl, hr, hb1⟩
    have HR := Lib.hid hr
    have HB := Lib.hid hb1
    clear hr hb1
    go_wp2_with fail
    refine (sub_ref _ S (hS.later HB.out.size) _ _ (2 ^ n) a HR.out (HX.out.later HB.out) (by omega) (by omega) ha).mono ?_
    rintro e w2 ⟨v2, rfl, hr, hb1⟩
    have HR2 := Lib.hid hr
    have HB2 := Lib.hid (HB.out.trans (hb1.mono HB.out.size))
    clear hr hb1
    go_wp2_with fail
    refine (low_ref _ S (hS.later HB2.out.size) _ _ n HR2.out (by have := nbits_mono (Nat.sub_le (2 ^ n) a); omega) (by omega)).mono ?_
    rintro e w3 ⟨v3, rfl, hr, hb1⟩
    have HR3 := Lib.hid hr
    have HB3 := Lib.hid (HB2.out.trans (hb1.mono HB2.out.size))
    clear hr hb1
    go_wp2
    go_ret
    exact ⟨_, rfl, HR3.out, HB3.out⟩

theorem cmp_geq (a b : Nat) : (decide (0 ≤ cmpNat a b)) = decide (b ≤ a) := by
  unfold cmpNat
  split
  · simp; omega
  · split
    · simp; omega
    · simp; omega

theorem sub14_ref (w : World) (S : Nat → Prop) (hS : There S w) (v u : Value) (a b n : Nat) (hx : Row kBool w S v (natBits a)) (hy : Row kBool w S u (natBits b)) (ha : nbits a ≤ 4294967296) (hb : b ≤ a + 2 ^ n) (hn : n ≤ 4294967296) :
    Calls Try.prog 40 #[v, u, .int .i64 n] w fun e w' => ∃ v', e = .returned (.tuple #[v', .bool (decide (b ≤ a))]) ∧ Row kBool w' S v' (natBits ((a + 2 ^ n - b) % 2 ^ n)) ∧ Below w.heap.size w w' := by
  have HX := Lib.hid hx
  have HY := Lib.hid hy
  clear hx hy
  have h2 := nbits_pow n
  have h3 := nbits_add a (2 ^ n)
  have h4 := nbits_mono hb
  go_enter Try.func40, Try.ntmps40
  go_wp2_with fail
  refine (power_ref _ S hS n (by omega)).mono ?_
  rintro e w1 ⟨v1, rfl, hr, hb1⟩
  have HR := Lib.hid hr
  have HB := Lib.hid hb1
  clear hr hb1
  go_wp2_with fail
  refine (add_ref _ S (hS.later HB.out.size) _ _ a (2 ^ n) (HX.out.later HB.out) HR.out (by omega) (by omega)).mono ?_
  rintro e w2 ⟨v2, rfl, hr, hb1⟩
  have HR2 := Lib.hid hr
  have HB2 := Lib.hid (HB.out.trans (hb1.mono HB.out.size))
  clear hr hb1
  go_wp2_with fail
  refine (sub_ref _ S (hS.later HB2.out.size) _ _ (a + 2 ^ n) b HR2.out (HY.out.later HB2.out) (by omega) (by omega) hb).mono ?_
  rintro e w3 ⟨v3, rfl, hr, hb1⟩
  have HR3 := Lib.hid hr
  have HB3 := Lib.hid (HB2.out.trans (hb1.mono HB2.out.size))
  clear hr hb1
  go_wp2_with fail
  refine (low_ref _ S (hS.later HB3.out.size) _ _ n HR3.out (by have := nbits_mono (Nat.sub_le (a + 2 ^ n) b); omega) (by omega)).mono ?_
  rintro e w4 ⟨v4, rfl, hr, hb1⟩
  have HR4 := Lib.hid hr
  have HB4 := Lib.hid (HB3.out.trans (hb1.mono HB3.out.size))
  clear hr hb1
  go_wp2_with fail
  refine (cmp_ref _ S _ _ a b (HX.out.later HB4.out) (HY.out.later HB4.out) (by omega) (by omega)).mono ?_
  rintro e w5 ⟨rfl, rfl⟩
  have hc := cmp_geq a b
  generalize cmpNat a b = q at *
  go_wp2
  go_ret2
  exact ⟨v4, rfl, HR4.out, HB4.out⟩

theorem sum14_ref (w : World) (S : Nat → Prop) (hS : There S w) (v u : Value) (a b n : Nat) (c : Bool) (hx : Row kBool w S v (natBits a)) (hy : Row kBool w S u (natBits b)) (ha : nbits a ≤ 4294967296) (hb : nbits b ≤ 4294967296) (hn : n ≤ 4294967296) :
    Calls Try.prog 57 #[v, u, .bool c, .int .i64 n] w fun e w' => ∃ v', e = .returned (.tuple #[v', .bool ((a + b + c.toNat).testBit n)]) ∧ Row kBool w' S v' (natBits ((a + b + c.toNat) % 2 ^ n)) ∧ Below w.heap.size w w' := by
  have HX := Lib.hid hx
  have HY := Lib.hid hy
  clear hx hy
  have h3 := nbits_add a b
  have h4 := nbits_add (a + b) c.toNat
  have h5 : nbits c.toNat ≤ 1 := by cases c <;> decide
  go_enter Try.func57, Try.ntmps57
  go_wp2_with fail
  refine (add_ref _ S hS _ _ a b HX.out HY.out (by omega) (by omega)).mono ?_
  rintro e w2 ⟨v2, rfl, hr, hb1⟩
  have HR2 := Lib.hid hr
  have HB2 := Lib.hid hb1
  clear hr hb1
  go_wp2_with fail
  refine (one_ref _ S (hS.later HB2.out.size) c).mono ?_
  rintro e w3 ⟨v3, rfl, hr, hb1⟩
  have HR3 := Lib.hid hr
  have HB3 := Lib.hid (HB2.out.trans (hb1.mono HB2.out.size))
  have HR2 := Lib.hid (HR2.out.later hb1)
  clear hr hb1
  go_wp2_with fail
  refine (add_ref _ S (hS.later HB3.out.size) _ _ (a + b) c.toNat HR2.out HR3.out (by omega) (by omega)).mono ?_
  rintro e w4 ⟨v4, rfl, hr, hb1⟩
  have HR4 := Lib.hid hr
  have HB4 := Lib.hid (HB3.out.trans (hb1.mono HB3.out.size))
  clear hr hb1
  go_wp2_with fail
  refine (low_ref _ S (hS.later HB4.out.size) _ _ n HR4.out (by omega) (by omega)).mono ?_
  rintro e w5 ⟨v5, rfl, hr, hb1⟩
  have HR5 := Lib.hid hr
  have HB5 := Lib.hid (HB4.out.trans (hb1.mono HB4.out.size))
  have HR4 := Lib.hid (HR4.out.later hb1)
  clear hr hb1
  go_wp2_with fail
  refine (bit_ref _ S _ _ _ HR4.out (by omega)).mono ?_
  rintro e w6 ⟨rfl, rfl⟩
  go_wp2
  go_ret2
  exact ⟨v5, by simp, HR5.out, HB5.out⟩

theorem div_pos_nbits {n k : Nat} : 0 < n / 2 ^ k ↔ k < nbits n := by
  have h := nbits_lt_iff (n := n) (k := k)
  have h2 : n / 2 ^ k = 0 ↔ n < 2 ^ k := Nat.div_eq_zero_iff_lt (Nat.two_pow_pos k)
  generalize n / 2 ^ k = q at *
  generalize 2 ^ k = P at *
  omega
set_option maxHeartbeats 1000000 in
/-- slipstickref01.Word -/
theorem word01_ref (w : World) (S : Nat → Prop) (hS : There S w) (n : Nat) (hn : n < 18446744073709551616) :
    Calls Try.prog 70 #[.int .u64 n] w fun e w' => ∃ v', e = .returned v' ∧ Row kBool w' S v' (natBits n) ∧ Below w.heap.size w w' := by
  have hnb : nbits n ≤ 64 := nbits_le hn
  go_enter Try.func70, Try.ntmps70
  go_wp2
  go_loopw [0, 3] (fun m v wr => ∃ (k d : Nat), k ≤ nbits n ∧ m = .int .u64 d ∧ Hid (d = n / 2 ^ k) ∧ d ≤ n ∧ Own kBool 4 wr none w.heap.size v (lowBits n k) ∧ Below w.heap.size w wr)
    (fun m _ _ => (intOf m).toNat)
  case atStart => exact ⟨0, n, by omega, rfl, Lib.hid (by simp), by omega, Own.lit0 kBool _ w, (Below.refl _ _).alloc (Nat.le_refl _) _⟩
  case round =>
    obtain ⟨k, d, hk, rfl, HD, hdn, ho, hb⟩ := hrel
    obtain ⟨A', c', rfl, -, -⟩ := ho.shape
    have hlen : (lowBits n k).length ≤ 64 := by rw [lowBits_length]; omega
    have HS := Lib.hid (lowBits_succ n k)
    by_cases hd0 : 0 < d
    · have hk2 : k < nbits n := div_pos_nbits.1 (HD.out ▸ hd0)
      have HBIT : Hid (n.testBit k = d.testBit 0) := Lib.hid (by rw [HD.out, Nat.testBit_div_two_pow, Nat.zero_add])
      have HDD : Hid (d / 2 = n / 2 ^ (k + 1)) := Lib.hid (by rw [HD.out, Nat.pow_succ, Nat.div_div_eq_div_mul])
      have hmod := half_testBit d
      generalize lowBits n k = ys at ho HS hlen
      cases htb : d.testBit 0 with
      | false =>
        have hm : d % 2 = 0 := by rw [hmod, htb]; rfl
        have h2 : ((d : Int) % 2 == 1) = false := by have : (d : Int) % 2 = 0 := by omega
                                                     rw [this]; rfl
        have HTB := Lib.hid htb
        clear hmod htb hm
        go_wp2_with (at_builtin; refine app1 kBool 4 42 (.bool false) 1 rfl (.tmp 7) (.tmp 11) rfl Try.underlying42 infoBool rfl (by decide) (by decide) none w.heap.size ho (FootIn.none _) (by have := hb.size; omega) rfl false _ rfl rfl (by omega) ?_; intro v' w3 q1 q2 _ _ _ _)
        go_roundw
        case rel => exact ⟨k + 1, d / 2, by omega, by go_num, Lib.hid HDD.out, by omega, by rw [HS.out, HBIT.out, HTB.out]; exact q1, hb.trans q2.below⟩
        case measure => simp [intOf]; omega
      | true =>
        have hm : d % 2 = 1 := by rw [hmod, htb]; rfl
        have h2 : ((d : Int) % 2 == 1) = true := by have : (d : Int) % 2 = 1 := by omega
                                                    rw [this]; rfl
        have HTB := Lib.hid htb
        clear hmod htb hm
        go_wp2_with (at_builtin; refine app1 kBool 4 42 (.bool false) 1 rfl (.tmp 7) (.tmp 11) rfl Try.underlying42 infoBool rfl (by decide) (by decide) none w.heap.size ho (FootIn.none _) (by have := hb.size; omega) rfl true _ rfl rfl (by omega) ?_; intro v' w3 q1 q2 _ _ _ _)
        go_roundw
        case rel => exact ⟨k + 1, d / 2, by omega, by go_num, Lib.hid HDD.out, by omega, by rw [HS.out, HBIT.out, HTB.out]; exact q1, hb.trans q2.below⟩
        case measure => simp [intOf]; omega
    · obtain rfl : d = 0 := by omega
      have hk3 : Hid (k = nbits n) := Lib.hid (by
        have := HD.out
        have h3 : ¬ 0 < n / 2 ^ k := by omega
        rw [div_pos_nbits] at h3; omega)
      go_wp2
      go_ret
      exact ⟨_, rfl, by have h4 := ho.bools hS; rw [hk3.out] at h4 ⊢; exact h4, hb⟩
end Go.Proofs.Ytdljgifoboiaeaa
