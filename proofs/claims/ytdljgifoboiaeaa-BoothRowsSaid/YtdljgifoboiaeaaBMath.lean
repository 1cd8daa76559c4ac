/- Digits of a word, each times its power of 4: their rows' sum is the product. Plain. -/
import Derived.Test.YtdljgifoboiaeaaBooth
namespace Go.Proofs.Ytdljgifoboiaeaa

def rowN (X Y w i : Nat) : Nat := ofBits ((List.range w).map (rowBit X (dNeg Y i) (dOne Y i) (dTwo Y i) i))
def negN (Y i : Nat) : Nat := 4 ^ i * (dNeg Y i).toNat
def sumN (X Y w : Nat) : Nat → Nat
  | 0 => 0
  | j + 1 => sumN X Y w j + if j % 2 = 0 then rowN X Y w (j / 2) else negN Y (j / 2)
def dig (Y i : Nat) : Int := ((bitZ Y (2 * i - 1)).toNat : Int) + ((bitZ Y (2 * i)).toNat : Int) - 2 * ((bitZ Y (2 * i + 1)).toNat : Int)
def sizeN (X Y i : Nat) : Nat := if dOne Y i then X else if dTwo Y i then X * 2 ^ 1 else 0

theorem rowN_testBit (X Y w i k : Nat) : (rowN X Y w i).testBit k = (decide (k < w) && rowBit X (dNeg Y i) (dOne Y i) (dTwo Y i) i k) := by
  rw [rowN, testBit_ofBits, List.getD_eq_getElem?_getD, List.getElem?_map]
  by_cases h : k < w
  · rw [List.getElem?_range h]; simp [h]
  · rw [List.getElem?_eq_none (by simp; omega)]; simp [h]
theorem sizeN_testBit (X Y i j : Nat) : (sizeN X Y i).testBit j = ((dOne Y i && X.testBit j) || (dTwo Y i && bitZ X ((j : Int) - 1))) := by
  have h2 : dOne Y i = true → dTwo Y i = false := fun h => by rw [dTwo, h]; rfl
  have h3 : (X * 2 ^ 1).testBit j = bitZ X ((j : Int) - 1) := by
    rw [Nat.testBit_mul_two_pow]
    rcases Nat.eq_zero_or_pos j with rfl | hj
    · rw [bitZ_neg (by omega)]; simp
    · rw [show (j : Int) - 1 = ((j - 1 : Nat) : Int) by omega, bitZ_nat, decide_eq_true (by omega : 1 ≤ j), Bool.true_and]
  rw [sizeN]
  cases h : dOne Y i
  · cases h' : dTwo Y i
    · simp
    · simpa using h3
  · simp [h2 h]
theorem rowBit_at (X : Nat) (Y i k : Nat) (h : 2 * i ≤ k) : rowBit X (dNeg Y i) (dOne Y i) (dTwo Y i) i k = ((sizeN X Y i).testBit (k - 2 * i) != dNeg Y i) := by
  rw [rowBit, if_neg (by omega), sizeN_testBit, show ((k : Int) - 2 * i) = ((k - 2 * i : Nat) : Int) by omega, bitZ_nat]
theorem rowN_pos (X Y w i : Nat) (h : dNeg Y i = false) : rowN X Y w i = 2 ^ (2 * i) * (sizeN X Y i % 2 ^ (w - 2 * i)) := by
  apply Nat.eq_of_testBit_eq
  intro k
  rw [rowN_testBit, Nat.testBit_two_pow_mul, Nat.testBit_mod_two_pow]
  by_cases hk : 2 * i ≤ k
  · rw [rowBit_at X Y i k hk, h]
    by_cases hw : k < w
    · simp [hk, hw, show k - 2 * i < w - 2 * i by omega]
    · simp [hw, show ¬ k - 2 * i < w - 2 * i by omega]
  · rw [rowBit, if_pos (by omega)]; simp [hk]
theorem rowN_neg (X Y w i : Nat) (h : dNeg Y i = true) : rowN X Y w i = 2 ^ (2 * i) * (2 ^ (w - 2 * i) - (sizeN X Y i % 2 ^ (w - 2 * i) + 1)) := by
  apply Nat.eq_of_testBit_eq
  intro k
  rw [rowN_testBit, Nat.testBit_two_pow_mul, Nat.testBit_two_pow_sub_succ (Nat.mod_lt _ (Nat.two_pow_pos _)), Nat.testBit_mod_two_pow]
  by_cases hk : 2 * i ≤ k
  · rw [rowBit_at X Y i k hk, h]
    by_cases hw : k < w
    · simp [hk, hw, show k - 2 * i < w - 2 * i by omega]
    · simp [hw, show ¬ k - 2 * i < w - 2 * i by omega]
  · rw [rowBit, if_pos (by omega)]; simp [hk]
theorem dig_size (X Y i : Nat) : dig Y i * X = if dNeg Y i then -(sizeN X Y i : Int) else (sizeN X Y i : Int) := by
  unfold dig sizeN dTwo dOne dNeg
  cases bitZ Y (2 * i - 1) <;> cases bitZ Y (2 * i) <;> cases bitZ Y (2 * i + 1) <;> simp <;> omega
theorem pow_room (w i : Nat) : (2 : Int) ^ (2 * i) * 2 ^ (w - 2 * i) = 2 ^ w * 2 ^ (2 * i - w) := by
  rw [← Int.pow_add, ← Int.pow_add]; congr 1; omega
theorem row_dig (X Y w i : Nat) : ∃ t : Int, (rowN X Y w i : Int) + (negN Y i : Int) = dig Y i * X * 2 ^ (2 * i) + t * 2 ^ w := by
  have hdm : (sizeN X Y i : Int) = 2 ^ (w - 2 * i) * ((sizeN X Y i / 2 ^ (w - 2 * i) : Nat) : Int) + ((sizeN X Y i % 2 ^ (w - 2 * i) : Nat) : Int) := by
    have := (Nat.div_add_mod (sizeN X Y i) (2 ^ (w - 2 * i))).symm
    exact_mod_cast this
  have hr := pow_room w i
  have h4 : (4 : Nat) ^ i = 2 ^ (2 * i) := by rw [Nat.pow_mul]
  have hlt := Nat.mod_lt (sizeN X Y i) (Nat.two_pow_pos (w - 2 * i))
  rw [dig_size, negN, h4]
  generalize hq : ((sizeN X Y i / 2 ^ (w - 2 * i) : Nat) : Int) = q at hdm
  generalize hm : sizeN X Y i % 2 ^ (w - 2 * i) = m at hdm hlt
  cases h : dNeg Y i
  · rw [rowN_pos X Y w i h, hm]
    refine ⟨-(2 ^ (2 * i - w) * q), ?_⟩
    simp only [Bool.toNat_false, Nat.mul_zero, Bool.false_eq_true, if_false]
    rw [hdm]
    push_cast
    rw [Int.add_mul, Int.neg_mul, Int.mul_comm _ ((2 : Int) ^ w), ← Int.mul_assoc, ← hr, Int.mul_comm (2 ^ (w - 2 * i) * q), ← Int.mul_assoc, Int.mul_comm (m : Int)]
    omega
  · rw [rowN_neg X Y w i h, hm]
    refine ⟨2 ^ (2 * i - w) * (1 + q), ?_⟩
    simp only [Bool.toNat_true, Nat.mul_one, if_true]
    rw [hdm]
    have hsub : ((2 ^ (w - 2 * i) - (m + 1) : Nat) : Int) = 2 ^ (w - 2 * i) - (m + 1) := by
      rw [Int.ofNat_sub (by omega)]; push_cast; rfl
    rw [Int.natCast_mul, hsub]
    push_cast
    rw [Int.mul_comm (2 ^ (2 * i - w) * (1 + q)), ← Int.mul_assoc, ← hr, Int.neg_mul, Int.mul_sub, Int.mul_add, Int.mul_add, Int.add_mul, Int.mul_one, Int.mul_one, Int.mul_comm (2 ^ (w - 2 * i) * q), ← Int.mul_assoc, Int.mul_comm (m : Int)]
    omega

def digSum (Y : Nat) : Nat → Int
  | 0 => 0
  | k + 1 => digSum Y k + dig Y k * 2 ^ (2 * k)
theorem sumN_dig (X Y w : Nat) : ∀ k, ∃ t : Int, (sumN X Y w (2 * k) : Int) = digSum Y k * X + t * 2 ^ w
  | 0 => ⟨0, by simp [sumN, digSum]⟩
  | k + 1 => by
    obtain ⟨t, ht⟩ := sumN_dig X Y w k
    obtain ⟨u, hu⟩ := row_dig X Y w k
    refine ⟨t + u, ?_⟩
    rw [show 2 * (k + 1) = 2 * k + 1 + 1 by omega, sumN, sumN, if_pos (by omega), if_neg (by omega), show 2 * k / 2 = k by omega, show (2 * k + 1) / 2 = k by omega, digSum]
    push_cast
    rw [Int.add_assoc, hu, ht, Int.add_mul, Int.add_mul, Int.mul_right_comm (dig Y k)]
    omega
theorem bit_dm (Y k : Nat) : Y % 2 ^ (2 * (k + 1)) = Y % 2 ^ (2 * k) + 2 ^ (2 * k) * (Y.testBit (2 * k)).toNat + 2 * (2 ^ (2 * k) * (Y.testBit (2 * k + 1)).toNat) := by
  rw [show 2 * (k + 1) = 2 * k + 1 + 1 by omega, mod_succ, mod_succ, Nat.pow_succ]
  cases Y.testBit (2 * k) <;> cases Y.testBit (2 * k + 1) <;> simp <;> omega
theorem digSum_eq (Y : Nat) : ∀ k : Nat, digSum Y k = ((Y % 2 ^ (2 * k) : Nat) : Int) - 2 ^ (2 * k) * ((bitZ Y (2 * (k : Int) - 1)).toNat : Int)
  | 0 => by
    rw [bitZ_neg (by omega)]; simp [digSum, Nat.mod_one]
  | k + 1 => by
    rw [digSum, digSum_eq Y k, bit_dm, dig]
    rw [show (2 * ((k + 1 : Nat) : Int) - 1) = ((2 * k + 1 : Nat) : Int) by omega, show (2 * (k : Int)) = ((2 * k : Nat) : Int) by omega, show (((2 * k : Nat) : Int) + 1) = ((2 * k + 1 : Nat) : Int) by omega, bitZ_nat, bitZ_nat]
    generalize bitZ Y (((2 * k : Nat) : Int) - 1) = b1
    generalize Y.testBit (2 * k) = b2
    generalize Y.testBit (2 * k + 1) = b3
    rw [show 2 * (k + 1) = 2 * k + 2 by omega]
    have h4 : (2 : Int) ^ (2 * k + 2) = 4 * 2 ^ (2 * k) := by rw [Int.pow_add, Int.mul_comm]; rfl
    rw [h4]
    push_cast
    generalize (2 : Int) ^ (2 * k) = P
    cases b1 <;> cases b2 <;> cases b3 <;> simp <;> omega
theorem digSum_all (Y m : Nat) (h : Y < 2 ^ m) : digSum Y (m / 2 + 1) = Y := by
  have e1 : m ≤ 2 * (m / 2 + 1) := by omega
  have e2 : m ≤ 2 * (m / 2) + 1 := by omega
  rw [digSum_eq, Nat.mod_eq_of_lt (Nat.lt_of_lt_of_le h (Nat.pow_le_pow_right (by omega) e1)), show (2 * ((m / 2 + 1 : Nat) : Int) - 1) = ((2 * (m / 2) + 1 : Nat) : Int) by omega, bitZ_nat, Nat.testBit_lt_two_pow (Nat.lt_of_lt_of_le h (Nat.pow_le_pow_right (by omega) e2))]
  simp
/-- the product -/
theorem sumN_all (X Y n m : Nat) (hX : X < 2 ^ n) (hY : Y < 2 ^ m) : sumN X Y (n + m) (2 * (m / 2 + 1)) % 2 ^ (n + m) = X * Y := by
  obtain ⟨t, ht⟩ := sumN_dig X Y (n + m) (m / 2 + 1)
  rw [digSum_all Y m hY] at ht
  have h1 : X * Y < 2 ^ (n + m) := by rw [Nat.pow_add]; exact Nat.mul_lt_mul'' hX hY
  have h2 : ((sumN X Y (n + m) (2 * (m / 2 + 1)) % 2 ^ (n + m) : Nat) : Int) = ((X * Y : Nat) : Int) := by
    rw [Int.natCast_emod, ht]
    have e : ((2 ^ (n + m) : Nat) : Int) = (2 : Int) ^ (n + m) := by push_cast; rfl
    rw [e, Int.add_mul_emod_self_right, ← e, Int.mul_comm, ← Int.natCast_mul, ← Int.natCast_emod, Nat.mod_eq_of_lt h1]
  exact_mod_cast h2
end Go.Proofs.Ytdljgifoboiaeaa
