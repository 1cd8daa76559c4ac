/- Numbers and their bits: plain. -/
import Derived.WalkKit
namespace Go.Proofs.Ytdljgifoboiaeaa

def lowBits (n k : Nat) : List Bool := (List.range k).map n.testBit
theorem lowBits_length (n k : Nat) : (lowBits n k).length = k := by simp [lowBits]
theorem lowBits_succ (n k : Nat) : lowBits n (k + 1) = lowBits n k ++ [n.testBit k] := by simp [lowBits, List.range_succ]
theorem lowBits_get? (n k i : Nat) (h : i < k) : (lowBits n k)[i]? = some (n.testBit i) := by simp [lowBits, h]
theorem lowBits_take (n k m : Nat) (h : m ≤ k) : (lowBits n k).take m = lowBits n m := by
  apply List.ext_getElem?
  intro i
  rw [List.getElem?_take]
  by_cases hi : i < m
  · rw [if_pos hi, lowBits_get? n k i (by omega), lowBits_get? n m i hi]
  · rw [if_neg hi, List.getElem?_eq_none]; rw [lowBits_length]; omega
theorem lowBits_congr (n m k : Nat) (h : ∀ i, i < k → n.testBit i = m.testBit i) : lowBits n k = lowBits m k := by
  unfold lowBits
  apply List.map_congr_left
  intro i hi
  exact h i (List.mem_range.1 hi)
theorem lowBits_mod (n k : Nat) : lowBits (n % 2 ^ k) k = lowBits n k := lowBits_congr _ _ _ fun i hi => by simp [Nat.testBit_mod_two_pow, hi]

/-- how many bits a number has -/
def nbits (n : Nat) : Nat := if n = 0 then 0 else n.log2 + 1
theorem nbits_zero : nbits 0 = 0 := rfl
theorem lt_nbits (n : Nat) : n < 2 ^ nbits n := by
  unfold nbits; split
  · subst_vars; simp
  · exact Nat.lt_log2_self
theorem nbits_le {n k : Nat} (h : n < 2 ^ k) : nbits n ≤ k := by
  unfold nbits; split
  · omega
  · rename_i h0
    have := (Nat.log2_lt h0).2 h
    omega
theorem nbits_top {n : Nat} (h : 0 < n) : n.testBit (nbits n - 1) = true := by
  unfold nbits; rw [if_neg (by omega)]
  exact Nat.testBit_log2 (by omega)
theorem nbits_pos {n : Nat} : 0 < nbits n ↔ 0 < n := by
  unfold nbits; split <;> omega
theorem two_pow_le_of_nbits {n : Nat} (h : 0 < n) : 2 ^ (nbits n - 1) ≤ n := by
  unfold nbits; rw [if_neg (by omega)]
  exact Nat.log2_self_le (by omega)
theorem nbits_lt_iff {n k : Nat} : nbits n ≤ k ↔ n < 2 ^ k := by
  constructor
  · intro h; exact Nat.lt_of_lt_of_le (lt_nbits n) (Nat.pow_le_pow_right (by omega) h)
  · exact nbits_le
/-- the bits of a number, none 0 at the end -/
def natBits (n : Nat) : List Bool := lowBits n (nbits n)
theorem natBits_length (n : Nat) : (natBits n).length = nbits n := lowBits_length _ _
theorem testBit_ge_nbits {n i : Nat} (h : nbits n ≤ i) : n.testBit i = false := Nat.testBit_lt_two_pow (Nat.lt_of_lt_of_le (lt_nbits n) (Nat.pow_le_pow_right (by omega) h))
theorem natBits_getD (n i : Nat) : (natBits n).getD i false = n.testBit i := by
  unfold natBits
  by_cases h : i < nbits n
  · simp [lowBits, h]
  · rw [testBit_ge_nbits (by omega)]; simp [lowBits, show nbits n ≤ i by omega]
theorem natBits_get? (n i : Nat) (h : i < nbits n) : (natBits n)[i]? = some (n.testBit i) := lowBits_get? n _ i h
theorem natBits_zero : natBits 0 = [] := rfl
theorem natBits_inj {a b : Nat} (h : natBits a = natBits b) : a = b := by
  apply Nat.eq_of_testBit_eq
  intro i
  rw [← natBits_getD, ← natBits_getD, h]
/-- where the last 1 stands, the rest is cut -/
theorem cut_lowBits (n k m : Nat) (hm : m ≤ k) (h0 : ∀ j, m ≤ j → j < k → n.testBit j = false) (h1 : 0 < m → n.testBit (m - 1) = true) : lowBits n m = natBits (n % 2 ^ k) := by
  have hlt : n % 2 ^ k < 2 ^ m := by
    apply Nat.lt_pow_two_of_testBit
    intro i hi
    rw [Nat.testBit_mod_two_pow]
    by_cases hk : i < k
    · simp [h0 i hi hk]
    · simp [hk]
  have hn : nbits (n % 2 ^ k) = m := by
    apply Nat.le_antisymm (nbits_le hlt)
    rcases Nat.eq_zero_or_pos m with h | h
    · omega
    · have ht : (n % 2 ^ k).testBit (m - 1) = true := by rw [Nat.testBit_mod_two_pow, h1 h]; simp; omega
      have : ¬ nbits (n % 2 ^ k) ≤ m - 1 := fun hle => by rw [testBit_ge_nbits hle] at ht; cases ht
      omega
  unfold natBits
  rw [hn]
  exact lowBits_congr _ _ _ fun i hi => by rw [Nat.testBit_mod_two_pow]; simp; omega

theorem testBit_div (n k : Nat) : n.testBit k = decide (n / 2 ^ k % 2 = 1) := by
  rw [Nat.testBit_eq_decide_div_mod_eq]
/-- the carry into place k -/
def carry (a b k : Nat) : Bool := decide (2 ^ k ≤ a % 2 ^ k + b % 2 ^ k)
theorem add_parts (a b k : Nat) : (a + b) / 2 ^ k = a / 2 ^ k + b / 2 ^ k + (if carry a b k then 1 else 0) := by
  have hp : 0 < 2 ^ k := Nat.two_pow_pos k
  have ha := Nat.div_add_mod a (2 ^ k)
  have hb := Nat.div_add_mod b (2 ^ k)
  have la := Nat.mod_lt a hp
  have lb := Nat.mod_lt b hp
  unfold carry
  generalize a / 2 ^ k = A at *
  generalize b / 2 ^ k = B at *
  generalize a % 2 ^ k = ra at *
  generalize b % 2 ^ k = rb at *
  have e : a + b = 2 ^ k * (A + B) + (ra + rb) := by rw [Nat.mul_add]; omega
  rw [e, Nat.mul_add_div hp]
  by_cases hc : 2 ^ k ≤ ra + rb
  · have : (ra + rb) / 2 ^ k = 1 := by
      rw [Nat.div_eq_iff hp]; omega
    simp [hc, this]
  · have : (ra + rb) / 2 ^ k = 0 := Nat.div_eq_of_lt (by omega)
    simp [hc, this]
theorem testBit_add (a b k : Nat) : (a + b).testBit k = ((a.testBit k != b.testBit k) != carry a b k) := by
  rw [testBit_div, testBit_div, testBit_div, add_parts]
  generalize a / 2 ^ k = A
  generalize b / 2 ^ k = B
  cases carry a b k <;> rcases Nat.mod_two_eq_zero_or_one A with h | h <;> rcases Nat.mod_two_eq_zero_or_one B with h' | h' <;> simp [h, h', Nat.add_mod]
theorem carry_zero (a b : Nat) : carry a b 0 = false := by simp [carry, Nat.mod_one]
theorem mod_succ (a k : Nat) : a % 2 ^ (k + 1) = a % 2 ^ k + (if a.testBit k then 2 ^ k else 0) := by
  rw [Nat.mod_pow_succ, testBit_div]
  rcases Nat.mod_two_eq_zero_or_one (a / 2 ^ k) with h | h <;> simp [h]
theorem carry_succ (a b k : Nat) : carry a b (k + 1) = ((a.testBit k && b.testBit k) || (carry a b k && (a.testBit k || b.testBit k))) := by
  have la := Nat.mod_lt a (Nat.two_pow_pos k)
  have lb := Nat.mod_lt b (Nat.two_pow_pos k)
  unfold carry
  rw [mod_succ, mod_succ, Nat.pow_succ]
  generalize 2 ^ k = P at *
  generalize a % P = ra at *
  generalize b % P = rb at *
  cases a.testBit k <;> cases b.testBit k <;> simp <;> omega
/-- the borrow from place k -/
def borrow (a b k : Nat) : Bool := decide (a % 2 ^ k < b % 2 ^ k)
theorem borrow_zero (a b : Nat) : borrow a b 0 = false := by simp [borrow, Nat.mod_one]
theorem borrow_succ (a b k : Nat) : borrow a b (k + 1) = ((!a.testBit k && (b.testBit k || borrow a b k)) || (b.testBit k && borrow a b k)) := by
  have la := Nat.mod_lt a (Nat.two_pow_pos k)
  have lb := Nat.mod_lt b (Nat.two_pow_pos k)
  unfold borrow
  rw [mod_succ, mod_succ]
  generalize 2 ^ k = P at *
  generalize a % P = ra at *
  generalize b % P = rb at *
  cases a.testBit k <;> cases b.testBit k <;> simp <;> omega
theorem sub_parts (a b k : Nat) (h : b ≤ a) : (a - b) / 2 ^ k + b / 2 ^ k + (if borrow a b k then 1 else 0) = a / 2 ^ k := by
  have hp : 0 < 2 ^ k := Nat.two_pow_pos k
  have ha := Nat.div_add_mod a (2 ^ k)
  have hb := Nat.div_add_mod b (2 ^ k)
  have la := Nat.mod_lt a hp
  have lb := Nat.mod_lt b hp
  unfold borrow
  generalize hA : a / 2 ^ k = A at *
  generalize hB : b / 2 ^ k = B at *
  generalize a % 2 ^ k = ra at *
  generalize b % 2 ^ k = rb at *
  by_cases hc : ra < rb
  · have hAB : B + 1 ≤ A := by
      rcases Nat.lt_or_ge B A with h1 | h1
      · exact h1
      · have := Nat.mul_le_mul_left (2 ^ k) h1; omega
    have e : a - b = 2 ^ k * (A - B - 1) + (2 ^ k + ra - rb) := by
      have e1 : 2 ^ k * A = 2 ^ k * (A - B - 1) + 2 ^ k * B + 2 ^ k := by
        rw [← Nat.mul_add, ← Nat.mul_succ]; congr 1; omega
      omega
    have : (a - b) / 2 ^ k = A - B - 1 := by
      rw [e, Nat.mul_add_div hp, Nat.div_eq_of_lt (by omega)]; omega
    simp [hc, this]; omega
  · have hAB : B ≤ A := by
      rcases Nat.lt_or_ge A B with h1 | h1
      · have := Nat.mul_le_mul_left (2 ^ k) h1; rw [Nat.mul_succ] at this; omega
      · exact h1
    have e : a - b = 2 ^ k * (A - B) + (ra - rb) := by
      have e1 : 2 ^ k * A = 2 ^ k * (A - B) + 2 ^ k * B := by rw [← Nat.mul_add]; congr 1; omega
      omega
    have : (a - b) / 2 ^ k = A - B := by
      rw [e, Nat.mul_add_div hp, Nat.div_eq_of_lt (by omega)]; omega
    simp [hc, this]; omega
theorem testBit_sub (a b k : Nat) (h : b ≤ a) : (a - b).testBit k = ((a.testBit k != b.testBit k) != borrow a b k) := by
  have hs := sub_parts a b k h
  rw [testBit_div, testBit_div, testBit_div]
  generalize (a - b) / 2 ^ k = D at *
  generalize b / 2 ^ k = B at *
  generalize a / 2 ^ k = A at *
  cases hb : borrow a b k <;> simp [hb] at hs <;> rcases Nat.mod_two_eq_zero_or_one A with h | h <;> rcases Nat.mod_two_eq_zero_or_one B with h' | h' <;> rcases Nat.mod_two_eq_zero_or_one D with h'' | h'' <;> simp [h, h', h''] <;> omega

/-- bits shifted to the left -/
theorem natBits_left (a n : Nat) (h : 0 < a) : natBits (a * 2 ^ n) = List.replicate n false ++ natBits a := by
  have hn : nbits (a * 2 ^ n) = n + nbits a := by
    apply Nat.le_antisymm
    · apply nbits_le
      rw [Nat.pow_add, Nat.mul_comm]
      exact Nat.mul_lt_mul_of_pos_left (lt_nbits a) (Nat.two_pow_pos n)
    · have h1 := nbits_pos.2 h
      have : ¬ nbits (a * 2 ^ n) ≤ n + nbits a - 1 := fun hle => by
        have h2 := nbits_lt_iff.1 hle
        have h3 := two_pow_le_of_nbits h
        have h4 := Nat.mul_le_mul_right (2 ^ n) h3
        rw [← Nat.pow_add, show nbits a - 1 + n = n + nbits a - 1 by omega] at h4
        omega
      omega
  apply List.ext_getElem?
  intro i
  by_cases hi : i < n + nbits a
  · rw [natBits_get? _ _ (by omega), List.getElem?_append]
    rw [Nat.mul_comm, Nat.testBit_two_pow_mul]
    by_cases hin : i < n
    · simp [hin]; omega
    · simp [hin, show n ≤ i by omega]
      rw [natBits_get? _ _ (by omega)]
  · rw [List.getElem?_eq_none (by rw [natBits_length]; omega), List.getElem?_eq_none (by simp [natBits_length]; omega)]
theorem natBits_right (a n : Nat) : natBits (a / 2 ^ n) = (natBits a).drop n := by
  have hn : nbits (a / 2 ^ n) = nbits a - n := by
    apply Nat.le_antisymm
    · apply nbits_le
      rw [Nat.div_lt_iff_lt_mul (Nat.two_pow_pos n), ← Nat.pow_add]
      exact Nat.lt_of_lt_of_le (lt_nbits a) (Nat.pow_le_pow_right (by omega) (by omega))
    · rcases Nat.lt_or_ge n (nbits a) with h | h
      · have ha : 0 < a := nbits_pos.1 (by omega)
        have : ¬ nbits (a / 2 ^ n) ≤ nbits a - n - 1 := fun hle => by
          have h2 := nbits_lt_iff.1 hle
          rw [Nat.div_lt_iff_lt_mul (Nat.two_pow_pos n), ← Nat.pow_add, show nbits a - n - 1 + n = nbits a - 1 by omega] at h2
          have h3 := two_pow_le_of_nbits ha
          omega
        omega
      · omega
  apply List.ext_getElem?
  intro i
  by_cases hi : i < nbits a - n
  · rw [natBits_get? _ _ (by omega), List.getElem?_drop, natBits_get? _ _ (by omega), Nat.testBit_div_two_pow, Nat.add_comm]
  · rw [List.getElem?_eq_none (by rw [natBits_length]; omega), List.getElem?_eq_none (by simp [natBits_length]; omega)]

/-- the value of parts of 32 bits -/
def partsVal : List Int → Nat
  | [] => 0
  | x :: xs => x.toNat + 4294967296 * partsVal xs
def okParts (xs : List Int) : Prop := ∀ x ∈ xs, 0 ≤ x ∧ x < 4294967296
theorem partsVal_append (xs ys : List Int) : partsVal (xs ++ ys) = partsVal xs + 4294967296 ^ xs.length * partsVal ys := by
  induction xs with
  | nil => simp [partsVal]
  | cons x xs ih => simp only [List.cons_append, partsVal, ih, List.length_cons, Nat.pow_succ, Nat.mul_add]; rw [Nat.add_assoc, ← Nat.mul_assoc, Nat.mul_comm (4294967296 ^ xs.length)]
theorem partsVal_lt (xs : List Int) (h : okParts xs) : partsVal xs < 4294967296 ^ xs.length := by
  induction xs with
  | nil => simp [partsVal]
  | cons x xs ih =>
    have h1 := ih (fun y hy => h y (by simp [hy]))
    have h2 := h x (by simp)
    simp only [partsVal, List.length_cons, Nat.pow_succ]
    omega
/-- a number's parts, none 0 at the end -/
def parts32 (n : Nat) : List Int := (List.range ((nbits n + 31) / 32)).map fun i => ((n / 2 ^ (32 * i) % 4294967296 : Nat) : Int)
theorem parts32_ok (n : Nat) : okParts (parts32 n) := by
  intro x hx
  simp only [parts32, List.mem_map] at hx
  obtain ⟨i, _, rfl⟩ := hx
  have := Nat.mod_lt (n / 2 ^ (32 * i)) (show 0 < 4294967296 by decide)
  omega
theorem parts32_length (n : Nat) : (parts32 n).length = (nbits n + 31) / 32 := by simp [parts32]
theorem partsVal_firsts (n : Nat) : ∀ k, partsVal ((List.range k).map fun i => ((n / 2 ^ (32 * i) % 4294967296 : Nat) : Int)) = n % 2 ^ (32 * k) := by
  intro k
  induction k with
  | zero => simp [partsVal, Nat.mod_one]
  | succ k ih =>
    rw [List.range_succ, List.map_append, partsVal_append, ih]
    simp only [List.length_map, List.length_range, List.map_cons, List.map_nil, partsVal, Int.toNat_natCast, Nat.mul_zero, Nat.add_zero]
    rw [show (4294967296 : Nat) = 2 ^ 32 by decide, ← Nat.pow_mul, Nat.mul_succ, Nat.pow_add, Nat.mod_mul]
theorem partsVal_parts32 (n : Nat) : partsVal (parts32 n) = n := by
  unfold parts32
  rw [partsVal_firsts]
  apply Nat.mod_eq_of_lt
  exact Nat.lt_of_lt_of_le (lt_nbits n) (Nat.pow_le_pow_right (by omega) (by omega))
theorem parts32_inj {a b : Nat} (h : parts32 a = parts32 b) : a = b := by
  rw [← partsVal_parts32 a, ← partsVal_parts32 b, h]

end Go.Proofs.Ytdljgifoboiaeaa
