/- Parts of bits; are parts the same? -/
import Derived.Test.YtdljgifoboiaeaaR01c
namespace Go.Proofs.Ytdljgifoboiaeaa
open Go.RowKit

theorem window_succ (n m s : Nat) : n / 2 ^ m % 2 ^ (s + 1) = 2 * (n / 2 ^ (m + 1) % 2 ^ s) + (if n.testBit m then 1 else 0) := by
  rw [Nat.pow_succ, Nat.mul_comm, Nat.mod_mul, Nat.div_div_eq_div_mul, ← Nat.pow_succ, testBit_div]
  rcases Nat.mod_two_eq_zero_or_one (n / 2 ^ m) with h | h <;> simp [h] <;> omega

theorem bit_atI (w : World) (S : Nat → Prop) (v : Value) (n : Nat) (i : Int) (k : Nat) (hi : i = (k : Int)) (b : Bool) (hx : Row kBool w S v (natBits n)) (hn : nbits n ≤ 1099511627776) (hb : n.testBit k = b) :
    Calls Try.prog 72 #[v, .int .i64 i] w fun e w' => e = .returned (.bool b) ∧ w = w' := by
  subst hi; exact bit_at w S v n k b hx hn hb

set_option maxHeartbeats 2000000 in
/-- parts of bits -/
theorem parts_ref (w : World) (S : Nat → Prop) (hS : There S w) (v : Value) (n : Nat) (hx : Row kBool w S v (natBits n)) (hn : nbits n ≤ 549755813888) :
    Calls Try.prog 21 #[v] w fun e w' => ∃ v', e = .returned v' ∧ Row (kNum .u32) w' S v' (parts32 n) ∧ Below w.heap.size w w' := by
  obtain ⟨A, c, rfl, hc1, hc2⟩ := hx.shape
  unfold maxLen at hc2
  have hl := natBits_length n
  have HX := Lib.hid hx
  obtain ⟨R, hR⟩ : ∃ R, R = (nbits n + 31) / 32 := ⟨_, rfl⟩
  have HRR := Lib.hid hR
  have HL := Lib.hid hl
  have hn2 : nbits n ≤ 1099511627776 := by omega
  have hRb : R ≤ 17179869185 := by omega
  have hp : parts32 n = (List.range R).map fun i => ((n / 2 ^ (32 * i) % 4294967296 : Nat) : Int) := by rw [hR]; rfl
  have HP := Lib.hid hp
  clear hx hR hl hp
  go_enter Try.func21, Try.ntmps21
  go_wp2
  go_loopw [3, 4] (fun v i wr => ∃ r : Nat, r ≤ R ∧ i = .int .i64 (32 * (r : Int)) ∧ Own (kNum .u32) 128 wr none w.heap.size v ((List.range r).map fun i => ((n / 2 ^ (32 * i) % 4294967296 : Nat) : Int)) ∧ Below w.heap.size w wr)
    (fun _ i _ => 32 * R - (intOf i).toNat)
  case atStart => exact ⟨0, Nat.zero_le _, rfl, Own.lit0 (kNum .u32) _ w, (Below.refl _ _).alloc (Nat.le_refl _) _⟩
  case round =>
    obtain ⟨r, hr, rfl, ho, hb⟩ := hrel
    by_cases hlt : r < R
    · have hlt2 : 32 * r < (natBits n).length := by have := HL.out; have := HRR.out; omega
      have hlt3 : 32 * (r : Int) < ((natBits n).length : Int) := by omega
      have HOWN := Lib.hid ho
      have HB := Lib.hid hb
      have hbs := hb.size
      have HXR := Lib.hid (HX.out.below hb)
      clear ho hb
      go_wp2
      obtain ⟨wo, rfl⟩ : ∃ wo : World, wo = wr := ⟨_, rfl⟩
      go_loop [5, 6] (fun d q => ∃ (k m : Nat), k ≤ 32 ∧ q = .int .i64 ((k : Int) - 1) ∧ d = .int .u32 m ∧ m = n / 2 ^ (32 * r + k) % 2 ^ (32 - k) ∧ m < 4294967296)
        (fun _ q => (intOf q + 1).toNat)
      case atStart => exact ⟨32, 0, by omega, rfl, rfl, by simp [Nat.mod_one], by omega⟩
      case round =>
        obtain ⟨k, m, hk, rfl, rfl, hm, hm2⟩ := hrel
        have HMM := Lib.hid hm
        clear hm
        rcases Nat.eq_zero_or_pos k with h0 | h0
        · subst h0
          have hm3 : m = n / 2 ^ (32 * r) % 4294967296 := HMM.out
          have HM3 := Lib.hid hm3
          have ho := HOWN.out
          have hb := HB.out
          obtain ⟨A', c', rfl, -, -⟩ := ho.shape
          have hlen : ((List.range r).map fun i => ((n / 2 ^ (32 * i) % 4294967296 : Nat) : Int)).length ≤ 17179869185 := by simp; omega
          have HS : Hid (((List.range (r + 1)).map fun i => ((n / 2 ^ (32 * i) % 4294967296 : Nat) : Int)) = ((List.range r).map fun i => ((n / 2 ^ (32 * i) % 4294967296 : Nat) : Int)) ++ [(m : Int)]) := by
            unfold Hid; rw [List.range_succ, List.map_append, hm3]; rfl
          clear hm3
          generalize ((List.range r).map fun i => ((n / 2 ^ (32 * i) % 4294967296 : Nat) : Int)) = ys at ho hlen HS
          go_wp2_with (at_builtin; refine app1 (kNum .u32) 128 38 (.int .u32 0) 4 rfl (.tmp 27) (.tmp 29) rfl Try.underlying38 infoU32 rfl Nat.zero_lt_one (by decide) none w.heap.size ho (FootIn.none _) (by omega) rfl _ _ rfl rfl (by omega) ?_; intro v' w3 q1 q2 _ _ _ _)
          go_roundw
          case rel => exact ⟨r + 1, by omega, by go_num, by rw [HS.out]; exact q1, hb.trans q2.below⟩
          case measure => simp [intOf]; omega
        · obtain ⟨q, rfl⟩ : ∃ q, k = q + 1 := ⟨k - 1, by omega⟩
          have hq : ((q + 1 : Nat) : Int) - 1 = (q : Int) := by omega
          rw [hq]
          have hw := window_succ n (32 * r + q) (31 - q)
          have hsm : m < 2147483648 := by
            have h1 : m < 2 ^ (32 - (q + 1)) := by rw [HMM.out]; exact Nat.mod_lt _ (Nat.two_pow_pos _)
            exact Nat.lt_of_lt_of_le h1 (show 2 ^ (32 - (q + 1)) ≤ 2 ^ 31 from Nat.pow_le_pow_right (by decide) (by omega))
          have hmm : 2 * m + (if n.testBit (32 * r + q) then 1 else 0) = n / 2 ^ (32 * r + q) % 2 ^ (32 - q) := by
            rw [show 32 - q = 31 - q + 1 by omega, hw, HMM.out, show 32 * r + (q + 1) = 32 * r + q + 1 by omega, show 32 - (q + 1) = 31 - q by omega]
          clear hq h0 hw
          have hadd : (32 * (r : Int) + (q : Int)) = ((32 * r + q : Nat) : Int) := by omega
          cases hbit : n.testBit (32 * r + q)
          all_goals
            have HBIT := Lib.hid hbit
            rw [hbit] at hmm
            have HM2 := Lib.hid hmm
            have HADD := Lib.hid hadd
            clear hbit hmm hadd
            go_wp2_with (go_at_call 72; refine (bit_atI _ S _ n _ (32 * r + q) HADD.out _ HXR.out hn2 HBIT.out).mono ?_; rintro e w2 ⟨rfl, rfl⟩)
          · go_round
            case rel => exact ⟨q, 2 * m, by omega, rfl, by go_num, by have := HM2.out; simpa using this, by omega⟩
            case measure => simp [intOf]
          · go_round
            case rel => exact ⟨q, 2 * m + 1, by omega, rfl, by go_num, by have := HM2.out; simpa using this, by omega⟩
            case measure => simp [intOf]
    · obtain rfl : r = R := by omega
      have hlt2 : ¬ 32 * (r : Int) < ((natBits n).length : Int) := by have := HL.out; have := HRR.out; omega
      obtain ⟨A', c', rfl, -, -⟩ := ho.shape
      go_wp2
      go_ret
      exact ⟨_, rfl, by rw [HP.out]; have h := ho.nums hS; rw [List.length_map, List.length_range] at h; exact h, hb⟩

theorem pw_drewN (w : World) (n : Nat) : Below w.heap.size w (w.drewN n) := ⟨rfl, rfl, rfl, Nat.le_refl _, fun _ _ => rfl⟩
/-- are parts the same? -/
theorem same_ref (w : World) (S S' : Nat → Prop) (v u : Value) (xs ys : List Int) (hx : Row (kNum .u32) w S v xs) (hy : Row (kNum .u32) w S' u ys) (hl : xs.length ≤ 1099511627776) (hm : ys.length ≤ 1099511627776) :
    Calls Try.prog 25 #[v, u] w fun e w' => e = .returned (.bool (decide (xs = ys))) ∧ Below w.heap.size w w' := by
  obtain ⟨A, c, rfl, hc1, hc2⟩ := hx.shape
  obtain ⟨A', c', rfl, hc1', hc2'⟩ := hy.shape
  unfold maxLen at hc2 hc2'
  by_cases hlen : xs.length = ys.length
  · have HX := Lib.hid hx
    have HY := Lib.hid hy
    have HLEN := Lib.hid hlen
    have hne : ((xs.length : Int) != (ys.length : Int)) = false := by simp [hlen]
    clear hx hy hlen
    go_enter Try.func25, Try.ntmps25
    go_wp2
    go_loopw [5] (fun i wr => ∃ k : Nat, k ≤ xs.length ∧ i = .int .i64 k ∧ xs.take k = ys.take k ∧ Below w.heap.size w wr) (fun i _ => xs.length - (intOf i).toNat)
    case atStart => exact ⟨0, Nat.zero_le _, rfl, rfl, Below.refl _ _⟩
    case round =>
      obtain ⟨k, hk, rfl, he, hb⟩ := hrel
      have HE := Lib.hid he
      have HB := Lib.hid hb
      clear he
      by_cases hlt : k < xs.length
      · have hlt' : k < ys.length := by have := HLEN.out; omega
        obtain ⟨b, off, rfl, z0⟩ := (HX.out.below hb).num_at hlt
        obtain ⟨b', off', rfl, z1⟩ := (HY.out.below hb).num_at hlt'
        have HT := Lib.hid (List.take_succ_eq_append_getElem hlt)
        have HT' := Lib.hid (List.take_succ_eq_append_getElem hlt')
        have HG : Hid (xs[k] ≠ ys[k] → xs ≠ ys) := fun h e => h (by simp [e])
        generalize xs[k] = x at z0 HT HG
        generalize ys[k] = y at z1 HT' HG
        by_cases hxy : x = y
        · subst hxy
          have hbne : (x != x) = false := by simp
          go_wp2_with fail
          go_quiet (fail)
          go_wp2
          go_roundw
          case rel => exact ⟨k + 1, by omega, by go_num, by rw [HT.out, HT'.out, HE.out], HB.out.trans ((pw_drewN _ _).mono HB.out.size)⟩
          case measure => simp [intOf]; omega
        · have hbne : (x != y) = true := by simpa using hxy
          have HXY := Lib.hid hxy
          clear hxy
          go_wp2_with fail
          go_quiet (fail)
          go_wp2
          go_ret
          exact ⟨by rw [decide_eq_false (HG.out HXY.out)]; rfl, HB.out.trans ((pw_drewN _ _).mono HB.out.size)⟩
      · obtain rfl : k = xs.length := by omega
        go_wp2
        go_ret
        have := HE.out
        rw [List.take_length, HLEN.out, List.take_length] at this
        exact ⟨by rw [decide_eq_true this]; rfl, hb⟩
  · have hne : ((xs.length : Int) != (ys.length : Int)) = true := by simp; omega
    have HLEN := Lib.hid hlen
    clear hx hy hlen
    go_enter Try.func25, Try.ntmps25
    go_wp2
    go_ret
    exact ⟨by rw [decide_eq_false (fun e => HLEN.out (by rw [e]))]; rfl, Below.refl _ _⟩

/-- is a number of parts that of bits? -/
theorem is_ref (w : World) (S S' : Nat → Prop) (hS' : There S' w) (v u : Value) (xs : List Int) (n : Nat) (hx : Row (kNum .u32) w S v xs) (hy : Row kBool w S' u (natBits n)) (hl : xs.length ≤ 1099511627776) (hn : nbits n ≤ 549755813888) :
    Calls Try.prog 33 #[v, u] w fun e w' => e = .returned (.bool (decide (xs = parts32 n))) ∧ Below w.heap.size w w' := by
  have HX := Lib.hid hx
  have HY := Lib.hid hy
  have hpl : (parts32 n).length ≤ 1099511627776 := by rw [parts32_length]; omega
  obtain ⟨A, c, rfl, -, -⟩ := hx.shape
  obtain ⟨A', c', rfl, -, -⟩ := hy.shape
  clear hx hy
  go_enter Try.func33, Try.ntmps33
  go_wp2_with fail
  refine (parts_ref _ S' hS' _ n HY.out hn).mono ?_
  rintro e w1 ⟨v1, rfl, hr, hb⟩
  have HR := Lib.hid hr
  clear hr
  go_wp2_with fail
  refine (same_ref _ S S' _ _ xs (parts32 n) (HX.out.below hb) HR.out hl hpl).mono ?_
  rintro e w2 ⟨rfl, hb2⟩
  have HB2 := Lib.hid (hb.trans (hb2.mono hb.size))
  clear hb hb2
  go_wp2
  go_ret
  exact ⟨rfl, HB2.out⟩
end Go.Proofs.Ytdljgifoboiaeaa
