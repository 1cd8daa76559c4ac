/- Joined texts: Bits, Base, Kinds, Append, Lay, Model, Gates, Clone, Words, Each. -/
import Derived.WalkKit
import Derived.Deep.AppendLies
import Derived.Lib.SmallJoins
import Derived.Lib.Hide
import Derived.Maps.AppendAt
import Derived.Deep.RegionLaw
import Derived.Laws.AppendOwnNone
import Derived.Test.YtbfjacgfifecpaaProg
import Derived.Deep.RegionLawGrows
import Derived.KernelRfl
import Derived.Outline
import Derived.WalkSpells
import Derived.Deep.LoopGhost
import Derived.LoopTactic
import Derived.Deep.QuietTactic
import Derived.BigQuiet
import Derived.StillTailTactics
import Derived.Deep.DeepCutAuto

/-! ## Numbers and their bits: plain. -/
namespace Go.Proofs.Ytbfjacgfifecpaa

def lowBits (n k : Nat) : List Bool := (List.range k).map n.testBit
theorem lowBits_length (n k : Nat) : (lowBits n k).length = k := by simp [lowBits]
theorem lowBits_succ (n k : Nat) : lowBits n (k + 1) = lowBits n k ++ [n.testBit k] := by simp [lowBits, List.range_succ]
theorem lowBits_get? (n k i : Nat) (h : i < k) : (lowBits n k)[i]? = some (n.testBit i) := by simp [lowBits, h]
theorem lowBits_take (n k m : Nat) (h : m ≤ k) : (lowBits n k).take m = lowBits n m := by
  apply List.ext_getElem?
  intro i
  rw [List.getElem?_take]
  by_cases hi : i < m
  · rw [if_pos hi, lowBits_get? n k i (by omega), lowBits_get? n m i hi]
  · rw [if_neg hi, List.getElem?_eq_none]; rw [lowBits_length]; omega
theorem lowBits_congr (n m k : Nat) (h : ∀ i, i < k → n.testBit i = m.testBit i) : lowBits n k = lowBits m k := by
  unfold lowBits
  apply List.map_congr_left
  intro i hi
  exact h i (List.mem_range.1 hi)
theorem lowBits_mod (n k : Nat) : lowBits (n % 2 ^ k) k = lowBits n k := lowBits_congr _ _ _ fun i hi => by simp [Nat.testBit_mod_two_pow, hi]

/-- how many bits a number has -/
def nbits (n : Nat) : Nat := if n = 0 then 0 else n.log2 + 1
theorem nbits_zero : nbits 0 = 0 := rfl
theorem lt_nbits (n : Nat) : n < 2 ^ nbits n := by
  unfold nbits; split
  · subst_vars; simp
  · exact Nat.lt_log2_self
theorem nbits_le {n k : Nat} (h : n < 2 ^ k) : nbits n ≤ k := by
  unfold nbits; split
  · omega
  · rename_i h0
    have := (Nat.log2_lt h0).2 h
    omega
theorem nbits_top {n : Nat} (h : 0 < n) : n.testBit (nbits n - 1) = true := by
  unfold nbits; rw [if_neg (by omega)]
  exact Nat.testBit_log2 (by omega)
theorem nbits_pos {n : Nat} : 0 < nbits n ↔ 0 < n := by
  unfold nbits; split <;> omega
theorem two_pow_le_of_nbits {n : Nat} (h : 0 < n) : 2 ^ (nbits n - 1) ≤ n := by
  unfold nbits; rw [if_neg (by omega)]
  exact Nat.log2_self_le (by omega)
theorem nbits_lt_iff {n k : Nat} : nbits n ≤ k ↔ n < 2 ^ k := by
  constructor
  · intro h; exact Nat.lt_of_lt_of_le (lt_nbits n) (Nat.pow_le_pow_right (by omega) h)
  · exact nbits_le
/-- the bits of a number, none 0 at the end -/
def natBits (n : Nat) : List Bool := lowBits n (nbits n)
theorem natBits_length (n : Nat) : (natBits n).length = nbits n := lowBits_length _ _
theorem testBit_ge_nbits {n i : Nat} (h : nbits n ≤ i) : n.testBit i = false := Nat.testBit_lt_two_pow (Nat.lt_of_lt_of_le (lt_nbits n) (Nat.pow_le_pow_right (by omega) h))
theorem natBits_getD (n i : Nat) : (natBits n).getD i false = n.testBit i := by
  unfold natBits
  by_cases h : i < nbits n
  · simp [lowBits, h]
  · rw [testBit_ge_nbits (by omega)]; simp [lowBits, show nbits n ≤ i by omega]
theorem natBits_get? (n i : Nat) (h : i < nbits n) : (natBits n)[i]? = some (n.testBit i) := lowBits_get? n _ i h
theorem natBits_zero : natBits 0 = [] := rfl
theorem natBits_inj {a b : Nat} (h : natBits a = natBits b) : a = b := by
  apply Nat.eq_of_testBit_eq
  intro i
  rw [← natBits_getD, ← natBits_getD, h]
/-- where the last 1 stands, the rest is cut -/
theorem cut_lowBits (n k m : Nat) (hm : m ≤ k) (h0 : ∀ j, m ≤ j → j < k → n.testBit j = false) (h1 : 0 < m → n.testBit (m - 1) = true) : lowBits n m = natBits (n % 2 ^ k) := by
  have hlt : n % 2 ^ k < 2 ^ m := by
    apply Nat.lt_pow_two_of_testBit
    intro i hi
    rw [Nat.testBit_mod_two_pow]
    by_cases hk : i < k
    · simp [h0 i hi hk]
    · simp [hk]
  have hn : nbits (n % 2 ^ k) = m := by
    apply Nat.le_antisymm (nbits_le hlt)
    rcases Nat.eq_zero_or_pos m with h | h
    · omega
    · have ht : (n % 2 ^ k).testBit (m - 1) = true := by rw [Nat.testBit_mod_two_pow, h1 h]; simp; omega
      have : ¬ nbits (n % 2 ^ k) ≤ m - 1 := fun hle => by rw [testBit_ge_nbits hle] at ht; cases ht
      omega
  unfold natBits
  rw [hn]
  exact lowBits_congr _ _ _ fun i hi => by rw [Nat.testBit_mod_two_pow]; simp; omega

theorem testBit_div (n k : Nat) : n.testBit k = decide (n / 2 ^ k % 2 = 1) := by
  rw [Nat.testBit_eq_decide_div_mod_eq]
/-- the carry into place k -/
def carry (a b k : Nat) : Bool := decide (2 ^ k ≤ a % 2 ^ k + b % 2 ^ k)
theorem add_parts (a b k : Nat) : (a + b) / 2 ^ k = a / 2 ^ k + b / 2 ^ k + (if carry a b k then 1 else 0) := by
  have hp : 0 < 2 ^ k := Nat.two_pow_pos k
  have ha := Nat.div_add_mod a (2 ^ k)
  have hb := Nat.div_add_mod b (2 ^ k)
  have la := Nat.mod_lt a hp
  have lb := Nat.mod_lt b hp
  unfold carry
  generalize a / 2 ^ k = A at *
  generalize b / 2 ^ k = B at *
  generalize a % 2 ^ k = ra at *
  generalize b % 2 ^ k = rb at *
  have e : a + b = 2 ^ k * (A + B) + (ra + rb) := by rw [Nat.mul_add]; omega
  rw [e, Nat.mul_add_div hp]
  by_cases hc : 2 ^ k ≤ ra + rb
  · have : (ra + rb) / 2 ^ k = 1 := by
      rw [Nat.div_eq_iff hp]; omega
    simp [hc, this]
  · have : (ra + rb) / 2 ^ k = 0 := Nat.div_eq_of_lt (by omega)
    simp [hc, this]
theorem testBit_add (a b k : Nat) : (a + b).testBit k = ((a.testBit k != b.testBit k) != carry a b k) := by
  rw [testBit_div, testBit_div, testBit_div, add_parts]
  generalize a / 2 ^ k = A
  generalize b / 2 ^ k = B
  cases carry a b k <;> rcases Nat.mod_two_eq_zero_or_one A with h | h <;> rcases Nat.mod_two_eq_zero_or_one B with h' | h' <;> simp [h, h', Nat.add_mod]
theorem carry_zero (a b : Nat) : carry a b 0 = false := by simp [carry, Nat.mod_one]
theorem mod_succ (a k : Nat) : a % 2 ^ (k + 1) = a % 2 ^ k + (if a.testBit k then 2 ^ k else 0) := by
  rw [Nat.mod_pow_succ, testBit_div]
  rcases Nat.mod_two_eq_zero_or_one (a / 2 ^ k) with h | h <;> simp [h]
theorem carry_succ (a b k : Nat) : carry a b (k + 1) = ((a.testBit k && b.testBit k) || (carry a b k && (a.testBit k || b.testBit k))) := by
  have la := Nat.mod_lt a (Nat.two_pow_pos k)
  have lb := Nat.mod_lt b (Nat.two_pow_pos k)
  unfold carry
  rw [mod_succ, mod_succ, Nat.pow_succ]
  generalize 2 ^ k = P at *
  generalize a % P = ra at *
  generalize b % P = rb at *
  cases a.testBit k <;> cases b.testBit k <;> simp <;> omega
/-- the borrow from place k -/
def borrow (a b k : Nat) : Bool := decide (a % 2 ^ k < b % 2 ^ k)
theorem borrow_zero (a b : Nat) : borrow a b 0 = false := by simp [borrow, Nat.mod_one]
theorem borrow_succ (a b k : Nat) : borrow a b (k + 1) = ((!a.testBit k && (b.testBit k || borrow a b k)) || (b.testBit k && borrow a b k)) := by
  have la := Nat.mod_lt a (Nat.two_pow_pos k)
  have lb := Nat.mod_lt b (Nat.two_pow_pos k)
  unfold borrow
  rw [mod_succ, mod_succ]
  generalize 2 ^ k = P at *
  generalize a % P = ra at *
  generalize b % P = rb at *
  cases a.testBit k <;> cases b.testBit k <;> simp <;> omega
theorem sub_parts (a b k : Nat) (h : b ≤ a) : (a - b) / 2 ^ k + b / 2 ^ k + (if borrow a b k then 1 else 0) = a / 2 ^ k := by
  have hp : 0 < 2 ^ k := Nat.two_pow_pos k
  have ha := Nat.div_add_mod a (2 ^ k)
  have hb := Nat.div_add_mod b (2 ^ k)
  have la := Nat.mod_lt a hp
  have lb := Nat.mod_lt b hp
  unfold borrow
  generalize hA : a / 2 ^ k = A at *
  generalize hB : b / 2 ^ k = B at *
  generalize a % 2 ^ k = ra at *
  generalize b % 2 ^ k = rb at *
  by_cases hc : ra < rb
  · have hAB : B + 1 ≤ A := by
      rcases Nat.lt_or_ge B A with h1 | h1
      · exact h1
      · have := Nat.mul_le_mul_left (2 ^ k) h1; omega
    have e : a - b = 2 ^ k * (A - B - 1) + (2 ^ k + ra - rb) := by
      have e1 : 2 ^ k * A = 2 ^ k * (A - B - 1) + 2 ^ k * B + 2 ^ k := by
        rw [← Nat.mul_add, ← Nat.mul_succ]; congr 1; omega
      omega
    have : (a - b) / 2 ^ k = A - B - 1 := by
      rw [e, Nat.mul_add_div hp, Nat.div_eq_of_lt (by omega)]; omega
    simp [hc, this]; omega
  · have hAB : B ≤ A := by
      rcases Nat.lt_or_ge A B with h1 | h1
      · have := Nat.mul_le_mul_left (2 ^ k) h1; rw [Nat.mul_succ] at this; omega
      · exact h1
    have e : a - b = 2 ^ k * (A - B) + (ra - rb) := by
      have e1 : 2 ^ k * A = 2 ^ k * (A - B) + 2 ^ k * B := by rw [← Nat.mul_add]; congr 1; omega
      omega
    have : (a - b) / 2 ^ k = A - B := by
      rw [e, Nat.mul_add_div hp, Nat.div_eq_of_lt (by omega)]; omega
    simp [hc, this]; omega
theorem testBit_sub (a b k : Nat) (h : b ≤ a) : (a - b).testBit k = ((a.testBit k != b.testBit k) != borrow a b k) := by
  have hs := sub_parts a b k h
  rw [testBit_div, testBit_div, testBit_div]
  generalize (a - b) / 2 ^ k = D at *
  generalize b / 2 ^ k = B at *
  generalize a / 2 ^ k = A at *
  cases hb : borrow a b k <;> simp [hb] at hs <;> rcases Nat.mod_two_eq_zero_or_one A with h | h <;> rcases Nat.mod_two_eq_zero_or_one B with h' | h' <;> rcases Nat.mod_two_eq_zero_or_one D with h'' | h'' <;> simp [h, h', h''] <;> omega

/-- bits shifted to the left -/
theorem natBits_left (a n : Nat) (h : 0 < a) : natBits (a * 2 ^ n) = List.replicate n false ++ natBits a := by
  have hn : nbits (a * 2 ^ n) = n + nbits a := by
    apply Nat.le_antisymm
    · apply nbits_le
      rw [Nat.pow_add, Nat.mul_comm]
      exact Nat.mul_lt_mul_of_pos_left (lt_nbits a) (Nat.two_pow_pos n)
    · have h1 := nbits_pos.2 h
      have : ¬ nbits (a * 2 ^ n) ≤ n + nbits a - 1 := fun hle => by
        have h2 := nbits_lt_iff.1 hle
        have h3 := two_pow_le_of_nbits h
        have h4 := Nat.mul_le_mul_right (2 ^ n) h3
        rw [← Nat.pow_add, show nbits a - 1 + n = n + nbits a - 1 by omega] at h4
        omega
      omega
  apply List.ext_getElem?
  intro i
  by_cases hi : i < n + nbits a
  · rw [natBits_get? _ _ (by omega), List.getElem?_append]
    rw [Nat.mul_comm, Nat.testBit_two_pow_mul]
    by_cases hin : i < n
    · simp [hin]; omega
    · simp [hin, show n ≤ i by omega]
      rw [natBits_get? _ _ (by omega)]
  · rw [List.getElem?_eq_none (by rw [natBits_length]; omega), List.getElem?_eq_none (by simp [natBits_length]; omega)]
theorem natBits_right (a n : Nat) : natBits (a / 2 ^ n) = (natBits a).drop n := by
  have hn : nbits (a / 2 ^ n) = nbits a - n := by
    apply Nat.le_antisymm
    · apply nbits_le
      rw [Nat.div_lt_iff_lt_mul (Nat.two_pow_pos n), ← Nat.pow_add]
      exact Nat.lt_of_lt_of_le (lt_nbits a) (Nat.pow_le_pow_right (by omega) (by omega))
    · rcases Nat.lt_or_ge n (nbits a) with h | h
      · have ha : 0 < a := nbits_pos.1 (by omega)
        have : ¬ nbits (a / 2 ^ n) ≤ nbits a - n - 1 := fun hle => by
          have h2 := nbits_lt_iff.1 hle
          rw [Nat.div_lt_iff_lt_mul (Nat.two_pow_pos n), ← Nat.pow_add, show nbits a - n - 1 + n = nbits a - 1 by omega] at h2
          have h3 := two_pow_le_of_nbits ha
          omega
        omega
      · omega
  apply List.ext_getElem?
  intro i
  by_cases hi : i < nbits a - n
  · rw [natBits_get? _ _ (by omega), List.getElem?_drop, natBits_get? _ _ (by omega), Nat.testBit_div_two_pow, Nat.add_comm]
  · rw [List.getElem?_eq_none (by rw [natBits_length]; omega), List.getElem?_eq_none (by simp [natBits_length]; omega)]

/-- the value of parts of 32 bits -/
def partsVal : List Int → Nat
  | [] => 0
  | x :: xs => x.toNat + 4294967296 * partsVal xs
def okParts (xs : List Int) : Prop := ∀ x ∈ xs, 0 ≤ x ∧ x < 4294967296
theorem partsVal_append (xs ys : List Int) : partsVal (xs ++ ys) = partsVal xs + 4294967296 ^ xs.length * partsVal ys := by
  induction xs with
  | nil => simp [partsVal]
  | cons x xs ih => simp only [List.cons_append, partsVal, ih, List.length_cons, Nat.pow_succ, Nat.mul_add]; rw [Nat.add_assoc, ← Nat.mul_assoc, Nat.mul_comm (4294967296 ^ xs.length)]
theorem partsVal_lt (xs : List Int) (h : okParts xs) : partsVal xs < 4294967296 ^ xs.length := by
  induction xs with
  | nil => simp [partsVal]
  | cons x xs ih =>
    have h1 := ih (fun y hy => h y (by simp [hy]))
    have h2 := h x (by simp)
    simp only [partsVal, List.length_cons, Nat.pow_succ]
    omega
/-- a number's parts, none 0 at the end -/
def parts32 (n : Nat) : List Int := (List.range ((nbits n + 31) / 32)).map fun i => ((n / 2 ^ (32 * i) % 4294967296 : Nat) : Int)
theorem parts32_ok (n : Nat) : okParts (parts32 n) := by
  intro x hx
  simp only [parts32, List.mem_map] at hx
  obtain ⟨i, _, rfl⟩ := hx
  have := Nat.mod_lt (n / 2 ^ (32 * i)) (show 0 < 4294967296 by decide)
  omega
theorem parts32_length (n : Nat) : (parts32 n).length = (nbits n + 31) / 32 := by simp [parts32]
theorem partsVal_firsts (n : Nat) : ∀ k, partsVal ((List.range k).map fun i => ((n / 2 ^ (32 * i) % 4294967296 : Nat) : Int)) = n % 2 ^ (32 * k) := by
  intro k
  induction k with
  | zero => simp [partsVal, Nat.mod_one]
  | succ k ih =>
    rw [List.range_succ, List.map_append, partsVal_append, ih]
    simp only [List.length_map, List.length_range, List.map_cons, List.map_nil, partsVal, Int.toNat_natCast, Nat.mul_zero, Nat.add_zero]
    rw [show (4294967296 : Nat) = 2 ^ 32 by decide, ← Nat.pow_mul, Nat.mul_succ, Nat.pow_add, Nat.mod_mul]
theorem partsVal_parts32 (n : Nat) : partsVal (parts32 n) = n := by
  unfold parts32
  rw [partsVal_firsts]
  apply Nat.mod_eq_of_lt
  exact Nat.lt_of_lt_of_le (lt_nbits n) (Nat.pow_le_pow_right (by omega) (by omega))
theorem parts32_inj {a b : Nat} (h : parts32 a = parts32 b) : a = b := by
  rw [← partsVal_parts32 a, ← partsVal_parts32 b, h]

end Go.Proofs.Ytbfjacgfifecpaa

/-! ## Memory words for the walks: what may change, data that is read, rows that a call owns. Plain: nothing of the program but type numbers. -/
namespace Go.Proofs.Ytbfjacgfifecpaa
open Go.RowKit

/-- the blocks in which the slices in a block's cells begin -/
def kids (w : World) (b i : Nat) : Prop := ∃ j v, w.cell? ⟨b, j, none⟩ = some v ∧ v.ownBlock = some i

/-- the blocks in which the slices begin that lie in the rows of the slices in a block's cells (of two cells each) -/
def kids2 (w : World) (b i : Nat) : Prop := ∃ j q off n c j' u, w.cell? ⟨b, j, none⟩ = some (.slice (some ⟨q, off, none⟩) n c) ∧ j' < n * 2 ∧ w.cell? ⟨q, off + j', none⟩ = some u ∧ u.ownBlock = some i

/-- the builder's blocks: its struct, its rows, its ports' bits -/
def foot (w : World) (p : Option Nat) (i : Nat) : Prop := ∃ b, p = some b ∧ (i = b ∨ kids w b i ∨ kids2 w b i)

/-- what may change: what came later than B, and the builder -/
def may (w : World) (p : Option Nat) (B : Nat) (i : Nat) : Prop := B ≤ i ∨ foot w p i

/-- outside S all that is there stays -/
def Same (S : Nat → Prop) (w w' : World) : Prop := w.heap.size ≤ w'.heap.size ∧ ∀ i, i < w.heap.size → ¬ S i → w'.heap[i]? = w.heap[i]?

theorem foot_none (w : World) (i : Nat) : ¬ foot w none i := by rintro ⟨b, h, _⟩; cases h

theorem kids_of_heap {w w' : World} {b i : Nat} (h : w'.heap[b]? = w.heap[b]?) : kids w' b i ↔ kids w b i := by
  constructor
  · rintro ⟨j, v, hc, ho⟩; exact ⟨j, v, by rw [← hc]; exact (World.cell?_of_block h).symm, ho⟩
  · rintro ⟨j, v, hc, ho⟩; exact ⟨j, v, by rw [← hc]; exact World.cell?_of_block h, ho⟩

structure Kept (B : Nat) (p : Option Nat) (w w' : World) : Prop where
  os : w'.os = w.os
  tape : w'.tape = w.tape
  output : w'.output = w.output
  size : w.heap.size ≤ w'.heap.size
  block : ∀ i, i < B → ¬ foot w p i → w'.heap[i]? = w.heap[i]?
  ft : ∀ i, i < B → foot w' p i → foot w p i

theorem Kept.refl (B : Nat) (p : Option Nat) (w : World) : Kept B p w w := ⟨rfl, rfl, rfl, Nat.le_refl _, fun _ _ _ => rfl, fun _ _ h => h⟩
theorem Kept.trans {B : Nat} {p : Option Nat} {a b c : World} (h : Kept B p a b) (k : Kept B p b c) : Kept B p a c :=
  ⟨k.os.trans h.os, k.tape.trans h.tape, k.output.trans h.output, Nat.le_trans h.size k.size,
    fun i hi hf => (k.block i hi (fun hb => hf (h.ft i hi hb))).trans (h.block i hi hf), fun i hi hf => h.ft i hi (k.ft i hi hf)⟩
theorem Kept.mono {B B' : Nat} {p : Option Nat} {w w' : World} (h : Kept B p w w') (hB : B' ≤ B) : Kept B' p w w' :=
  ⟨h.os, h.tape, h.output, h.size, fun i hi => h.block i (Nat.lt_of_lt_of_le hi hB), fun i hi => h.ft i (Nat.lt_of_lt_of_le hi hB)⟩
theorem Kept.same {B : Nat} {p : Option Nat} {w w' : World} (h : Kept B p w w') : Same (may w p B) w w' :=
  ⟨h.size, fun i _ hS => h.block i (Nat.lt_of_not_le fun hb => hS (.inl hb)) (fun hf => hS (.inr hf))⟩
theorem Kept.mayOf {B : Nat} {p : Option Nat} {w w' : World} (h : Kept B p w w') : ∀ i, i < w.heap.size → may w' p B i → may w p B i := by
  intro i _ hm
  rcases hm with hm | hm
  · exact .inl hm
  · by_cases hb : B ≤ i
    · exact .inl hb
    · exact .inr (h.ft i (by omega) hm)
theorem Kept.below {B : Nat} {w w' : World} (h : Kept B none w w') : Below B w w' := ⟨h.os, h.tape, h.output, h.size, fun i hi => h.block i hi (foot_none w i)⟩
theorem Kept.of_below {B : Nat} {w w' : World} (h : Below B w w') : Kept B none w w' := ⟨h.os, h.tape, h.output, h.size, fun i hi _ => h.block i hi, fun i _ hf => (foot_none w' i hf).elim⟩

/-- the builder's blocks are there -/
def FootIn (w : World) (p : Option Nat) : Prop := ∀ i, foot w p i → i < w.heap.size
theorem FootIn.none (w : World) : FootIn w none := fun i h => (foot_none w i h).elim

theorem kids2_of_heap {w w' : World} {b i : Nat} (h : w'.heap[b]? = w.heap[b]?) (h2 : ∀ q, kids w b q → w'.heap[q]? = w.heap[q]?) : kids2 w' b i ↔ kids2 w b i := by
  constructor
  · rintro ⟨j, q, off, n, c, j', u, a1, a2, a3, a4⟩
    have b1 : w.cell? ⟨b, j, none⟩ = some (.slice (some ⟨q, off, none⟩) n c) := by rw [← a1]; exact (World.cell?_of_block h).symm
    exact ⟨j, q, off, n, c, j', u, b1, a2, by rw [← a3]; exact (World.cell?_of_block (h2 q ⟨j, _, b1, rfl⟩)).symm, a4⟩
  · rintro ⟨j, q, off, n, c, j', u, a1, a2, a3, a4⟩
    exact ⟨j, q, off, n, c, j', u, by rw [← a1]; exact World.cell?_of_block h, a2, by rw [← a3]; exact World.cell?_of_block (h2 q ⟨j, _, a1, rfl⟩), a4⟩

theorem foot_of_heap {w w' : World} {p : Option Nat} (h : ∀ i, foot w p i → w'.heap[i]? = w.heap[i]?) : ∀ i, foot w' p i ↔ foot w p i := by
  intro i
  constructor
  · rintro ⟨b, rfl, hi⟩
    have hb := h b ⟨b, rfl, .inl rfl⟩
    rcases hi with rfl | hi | hi
    · exact ⟨_, rfl, .inl rfl⟩
    · exact ⟨b, rfl, .inr (.inl ((kids_of_heap hb).1 hi))⟩
    · exact ⟨b, rfl, .inr (.inr ((kids2_of_heap hb fun q hq => h q ⟨b, rfl, .inr (.inl hq)⟩).1 hi))⟩
  · rintro ⟨b, rfl, hi⟩
    have hb := h b ⟨b, rfl, .inl rfl⟩
    rcases hi with rfl | hi | hi
    · exact ⟨_, rfl, .inl rfl⟩
    · exact ⟨b, rfl, .inr (.inl ((kids_of_heap hb).2 hi))⟩
    · exact ⟨b, rfl, .inr (.inr ((kids2_of_heap hb fun q hq => h q ⟨b, rfl, .inr (.inl hq)⟩).2 hi))⟩

/-- what leaves all old blocks alone leaves the builder -/
theorem Kept.of_below_all {B : Nat} {p : Option Nat} {w w' : World} (h : Below w.heap.size w w') (hf : FootIn w p) (hB : B ≤ w.heap.size) : Kept B p w w' := by
  have hfo : ∀ i, foot w' p i ↔ foot w p i := foot_of_heap fun i hi => h.block i (hf i hi)
  exact ⟨h.os, h.tape, h.output, h.size, fun i hi _ => h.block i (by omega), fun i _ hi => (hfo i).1 hi⟩

/-- a write to one row of the call's own, that is no block of the builder -/
theorem Kept.of_grown {B : Nat} {p : Option Nat} {w w' : World} {row : Option Nat} (h : w.grownBy w' row) (hf : FootIn w p) (hB : B ≤ w.heap.size)
    (hr : ∀ g, row = some g → B ≤ g ∧ ¬ foot w p g) : Kept B p w w' ∧ ∀ i, foot w' p i ↔ foot w p i := by
  have hfo : ∀ i, foot w' p i ↔ foot w p i := foot_of_heap fun i hi => h.block i (hf i hi) (fun e => (hr i e.symm).2 hi)
  exact ⟨⟨h.os, h.tape, h.output, h.size, fun i hi _ => h.block i (by omega) (fun e => by have := (hr i e.symm).1; omega), fun i _ hi => (hfo i).1 hi⟩, hfo⟩

theorem FootIn.iff {w w' : World} {p : Option Nat} (h : FootIn w p) (hfo : ∀ i, foot w' p i ↔ foot w p i) (hs : w.heap.size ≤ w'.heap.size) : FootIn w' p :=
  fun i hi => Nat.lt_of_lt_of_le (h i ((hfo i).1 hi)) hs

/-! ### data: kinds -/

structure Kd (α : Type) where
  size : Nat
  K : World → (Nat → Prop) → α → List Value → Prop
  len : ∀ {w S x cs}, K w S x cs → cs.length = size
  one : ∀ {w S x cs}, K w S x cs → ∀ u ∈ cs, u.oneCell' = true
  keep : ∀ {w w' : World} {S S' : Nat → Prop} {x cs}, K w S x cs → Same S w w' → (∀ i, i < w.heap.size → S' i → S i) → K w' S' x cs

/-- elements and their cells, pair by pair -/
def Pairs {α : Type} (k : Kd α) (w : World) (S : Nat → Prop) (xs : List α) (css : List (List Value)) : Prop :=
  css.length = xs.length ∧ ∀ (i : Nat) (x : α) (cs : List Value), xs[i]? = some x → css[i]? = some cs → k.K w S x cs

theorem Pairs.keep {α : Type} {k : Kd α} {w w' : World} {S S' : Nat → Prop} {xs : List α} {css : List (List Value)} (h : Pairs k w S xs css) (hs : Same S w w') (hS : ∀ i, i < w.heap.size → S' i → S i) : Pairs k w' S' xs css :=
  ⟨h.1, fun i x cs hx hc => k.keep (h.2 i x cs hx hc) hs hS⟩
theorem Pairs.nil {α : Type} (k : Kd α) (w : World) (S : Nat → Prop) : Pairs k w S [] [] := ⟨rfl, fun i x cs hx => by simp at hx⟩
theorem Pairs.snoc {α : Type} {k : Kd α} {w : World} {S : Nat → Prop} {xs : List α} {css : List (List Value)} (h : Pairs k w S xs css) {x : α} {cs : List Value} (hx : k.K w S x cs) : Pairs k w S (xs ++ [x]) (css ++ [cs]) := by
  refine ⟨by simp [h.1], fun i y ds hy hd => ?_⟩
  rw [List.getElem?_append] at hy hd
  have hl := h.1
  split at hy
  · rename_i hi
    rw [if_pos (by omega)] at hd
    exact h.2 i y ds hy hd
  · rename_i hi
    rw [if_neg (by omega)] at hd
    have : i = xs.length := by
      have := (List.getElem?_eq_some_iff.1 hy).1
      simp at this
      omega
    subst this
    simp at hy
    rw [hl] at hd
    simp at hd
    subst hy; subst hd
    exact hx
theorem Pairs.append {α : Type} {k : Kd α} {w : World} {S : Nat → Prop} {xs ys : List α} {css dss : List (List Value)} (h : Pairs k w S xs css) (h' : Pairs k w S ys dss) : Pairs k w S (xs ++ ys) (css ++ dss) := by
  refine ⟨by simp [h.1, h'.1], fun i y ds hy hd => ?_⟩
  rw [List.getElem?_append] at hy hd
  have hl := h.1
  split at hy
  · rename_i hi
    rw [if_pos (by omega)] at hd
    exact h.2 i y ds hy hd
  · rename_i hi
    rw [if_neg (by omega)] at hd
    rw [hl] at hd
    exact h'.2 _ y ds hy hd
theorem Pairs.set {α : Type} {k : Kd α} {w : World} {S : Nat → Prop} {xs : List α} {css : List (List Value)} (h : Pairs k w S xs css) (n : Nat) {x : α} {cs : List Value} (hx : k.K w S x cs) : Pairs k w S (xs.set n x) (css.set n cs) := by
  refine ⟨by simp [h.1], fun i y ds hy hd => ?_⟩
  rw [List.getElem?_set] at hy hd
  have hl := h.1
  split at hy
  · rename_i hi
    subst hi
    rw [if_pos rfl] at hd
    by_cases hn : n < xs.length
    · rw [if_pos hn] at hy
      rw [if_pos (by omega)] at hd
      simp at hy hd
      subst hy; subst hd
      exact hx
    · rw [if_neg hn] at hy; cases hy
  · rename_i hi
    rw [if_neg hi] at hd
    exact h.2 i y ds hy hd
theorem Pairs.drop {α : Type} {k : Kd α} {w : World} {S : Nat → Prop} {xs : List α} {css : List (List Value)} (h : Pairs k w S xs css) (n : Nat) : Pairs k w S (xs.drop n) (css.drop n) :=
  ⟨by simp [h.1], fun i y ds hy hd => h.2 (n + i) y ds (by simpa using hy) (by simpa using hd)⟩
theorem Pairs.take {α : Type} {k : Kd α} {w : World} {S : Nat → Prop} {xs : List α} {css : List (List Value)} (h : Pairs k w S xs css) (n : Nat) : Pairs k w S (xs.take n) (css.take n) := by
  refine ⟨by simp [h.1], fun i y ds hy hd => ?_⟩
  rw [List.getElem?_take] at hy hd
  split at hy
  · rename_i hi
    rw [if_pos hi] at hd
    exact h.2 i y ds hy hd
  · cases hy
theorem Pairs.flat {α : Type} {k : Kd α} {w : World} {S : Nat → Prop} : ∀ {xs : List α} {css : List (List Value)}, Pairs k w S xs css → css.flatten.length = xs.length * k.size
  | [], css, h => by
    have : css = [] := List.eq_nil_of_length_eq_zero h.1
    subst this; simp
  | x :: xs, css, h => by
    match css, h with
    | [], h => have := h.1; simp at this
    | c :: css, h =>
      have ht : Pairs k w S xs css := ⟨by have := h.1; simp at this; exact this, fun i y ds hy hd => h.2 (i + 1) y ds (by simpa using hy) (by simpa using hd)⟩
      have hc := k.len (h.2 0 x c rfl rfl)
      simp only [List.flatten_cons, List.length_append, List.length_cons, ht.flat, hc]
      rw [Nat.add_mul]; omega
theorem Pairs.one {α : Type} {k : Kd α} {w : World} {S : Nat → Prop} {xs : List α} {css : List (List Value)} (h : Pairs k w S xs css) : ∀ u ∈ css.flatten, u.oneCell' = true := by
  intro u hu
  obtain ⟨cs, hcs, hu⟩ := List.mem_flatten.1 hu
  obtain ⟨i, hi, rfl⟩ := List.mem_iff_getElem.1 hcs
  have hx : i < xs.length := by have := h.1; omega
  exact k.one (h.2 i xs[i] css[i] (by simp [hx]) (by simp [hi])) u hu

/-- the cells of element i within all -/
theorem flat_at : ∀ (css : List (List Value)) (n : Nat), (∀ cs ∈ css, cs.length = n) → ∀ (i : Nat) (cs : List Value), css[i]? = some cs → ∀ (j : Nat) (u : Value), cs[j]? = some u → css.flatten[i * n + j]? = some u
  | [], n, h, i, cs, hc, j, u, hu => by simp at hc
  | c :: css, n, h, i, cs, hc, j, u, hu => by
    have hn := h c (by simp)
    match i, hc with
    | 0, hc =>
      simp at hc; subst hc
      have hj := (List.getElem?_eq_some_iff.1 hu).1
      simp only [List.flatten_cons, Nat.zero_mul, Nat.zero_add]
      rw [List.getElem?_append_left hj]; exact hu
    | i + 1, hc =>
      simp only [List.flatten_cons]
      rw [List.getElem?_append_right (by rw [hn, Nat.add_mul]; omega)]
      have e : (i + 1) * n + j - c.length = i * n + j := by rw [hn, Nat.add_mul]; omega
      rw [e]
      exact flat_at css n (fun cs hcs => h cs (List.mem_cons_of_mem _ hcs)) i cs (by simpa using hc) j u hu
theorem Pairs.lens {α : Type} {k : Kd α} {w : World} {S : Nat → Prop} {xs : List α} {css : List (List Value)} (h : Pairs k w S xs css) : ∀ cs ∈ css, cs.length = k.size := by
  intro cs hcs
  obtain ⟨i, hi, rfl⟩ := List.mem_iff_getElem.1 hcs
  have hx : i < xs.length := by have := h.1; omega
  exact k.len (h.2 i xs[i] css[i] (by simp [hx]) (by simp [hi]))

/-- a slice that is read: its data, none of it in S -/
def Row {α : Type} (k : Kd α) (w : World) (S : Nat → Prop) (v : Value) (xs : List α) : Prop :=
  ∃ A c css, v = .slice A xs.length c ∧ xs.length ≤ c ∧ c ≤ maxLen ∧ (A = none → c = 0) ∧ Pairs k w S xs css ∧
    (0 < xs.length → ∃ b off, A = some ⟨b, off, none⟩ ∧ b < w.heap.size ∧ ¬ S b ∧ ∀ j u, css.flatten[j]? = some u → w.cell? ⟨b, off + j, none⟩ = some u)

theorem Row.keep {α : Type} {k : Kd α} {w w' : World} {S S' : Nat → Prop} {v : Value} {xs : List α} (h : Row k w S v xs) (hs : Same S w w') (hS : ∀ i, i < w.heap.size → S' i → S i) : Row k w' S' v xs := by
  obtain ⟨A, c, css, rfl, h1, h2, h0, h3, h4⟩ := h
  refine ⟨A, c, css, rfl, h1, h2, h0, h3.keep hs hS, fun hn => ?_⟩
  obtain ⟨b, off, rfl, hb, hSb, hc⟩ := h4 hn
  exact ⟨b, off, rfl, Nat.lt_of_lt_of_le hb hs.1, fun hb' => hSb (hS b hb hb'), fun j u hu => (World.cell?_of_block (hs.2 b hb hSb)).trans (hc j u hu)⟩
theorem Row.kept {α : Type} {k : Kd α} {w w' : World} {B : Nat} {p : Option Nat} {v : Value} {xs : List α} (h : Row k w (may w p B) v xs) (hk : Kept B p w w') : Row k w' (may w' p B) v xs :=
  h.keep hk.same hk.mayOf
theorem Row.mono {α : Type} {k : Kd α} {w : World} {S S' : Nat → Prop} {v : Value} {xs : List α} (h : Row k w S v xs) (hS : ∀ i, i < w.heap.size → S' i → S i) : Row k w S' v xs :=
  h.keep ⟨Nat.le_refl _, fun _ _ _ => rfl⟩ hS
theorem Row.lift {α : Type} {k : Kd α} {w : World} {B B' : Nat} {p : Option Nat} {v : Value} {xs : List α} (h : Row k w (may w p B) v xs) (hB : B ≤ B') : Row k w (may w p B') v xs :=
  h.mono fun i _ hm => hm.elim (fun h => .inl (by omega)) .inr
theorem Row.bare {α : Type} {k : Kd α} {w : World} {B : Nat} {p : Option Nat} {v : Value} {xs : List α} (h : Row k w (may w p B) v xs) : Row k w (may w none w.heap.size) v xs :=
  h.mono fun i hi hm => hm.elim (fun h => by omega) (fun h => (foot_none w i h).elim)
theorem Row.shape {α : Type} {k : Kd α} {w : World} {S : Nat → Prop} {v : Value} {xs : List α} (h : Row k w S v xs) : ∃ A c, v = .slice A xs.length c ∧ xs.length ≤ c ∧ c ≤ maxLen := by
  obtain ⟨A, c, css, rfl, h1, h2, _⟩ := h
  exact ⟨A, c, rfl, h1, h2⟩
theorem Row.at {α : Type} {k : Kd α} {w : World} {S : Nat → Prop} {A : Option Addr} {n c : Nat} {xs : List α} (h : Row k w S (.slice A n c) xs) {i : Nat} (hi : i < n) :
    ∃ b off, A = some ⟨b, off, none⟩ ∧ ∃ x cs, xs[i]? = some x ∧ k.K w S x cs ∧ ∀ j u, cs[j]? = some u → w.cell? ⟨b, off + i * k.size + j, none⟩ = some u := by
  obtain ⟨A', c', css, he, h1, h2, _, h3, h4⟩ := h
  injection he with e1 e2 e3
  subst e1; subst e2; subst e3
  obtain ⟨b, off, rfl, hb, hSb, hc⟩ := h4 (by omega)
  have hcs : i < css.length := by have := h3.1; omega
  refine ⟨b, off, rfl, xs[i], css[i], by simp [hi], h3.2 i _ _ (by simp [hi]) (by simp [hcs]), fun j u hu => ?_⟩
  have := flat_at css k.size h3.lens i css[i] (by simp [hcs]) j u hu
  rw [Nat.add_assoc]
  exact hc _ _ this

/-- a row of the call's own: it may be written, and grow -/
def Own {α : Type} (k : Kd α) (e : TypeId) (w : World) (p : Option Nat) (B : Nat) (v : Value) (xs : List α) : Prop :=
  ∃ css, w.ownsRow B e k.size v xs.length css.flatten ∧ Pairs k w (fun i => foot w p i ∨ v.ownBlock = some i) xs css ∧ ∀ g, v.ownBlock = some g → ¬ foot w p g

theorem Own.nil {α : Type} (k : Kd α) (e : TypeId) (w : World) (p : Option Nat) (B : Nat) : Own k e w p B (.slice none 0 0) [] :=
  ⟨[], World.ownsRow_nil w B e k.size, Pairs.nil k w _, by simp [Value.ownBlock]⟩
theorem Own.base {α : Type} {k : Kd α} {e : TypeId} {w : World} {p : Option Nat} {B : Nat} {v : Value} {xs : List α} (h : Own k e w p B v xs) {g : Nat} (hg : v.ownBlock = some g) : B ≤ g ∧ g < w.heap.size := by
  obtain ⟨css, h1, _⟩ := h
  exact h1.lt g hg
theorem Own.off {α : Type} {k : Kd α} {e : TypeId} {w : World} {p : Option Nat} {B : Nat} {v : Value} {xs : List α} (h : Own k e w p B v xs) {g : Nat} (hg : v.ownBlock = some g) : ¬ foot w p g := by
  obtain ⟨css, _, _, h3⟩ := h
  exact h3 g hg
theorem Own.shape {α : Type} {k : Kd α} {e : TypeId} {w : World} {p : Option Nat} {B : Nat} {v : Value} {xs : List α} (h : Own k e w p B v xs) : ∃ A c, v = .slice A xs.length c ∧ xs.length ≤ c ∧ c ≤ maxLen := by
  obtain ⟨css, h1, _⟩ := h
  rcases h1.2 with ⟨rfl, h0⟩ | ⟨g, cap, cur, rfl, _, _, hc, hm, _⟩
  · exact ⟨none, 0, by rw [h0], by omega, by simp [maxLen]⟩
  · exact ⟨_, cap, rfl, hc, hm⟩
theorem ownsRow_base {w : World} {B B' : Nat} {e : TypeId} {size n : Nat} {v : Value} {xs : List Value} (h : w.ownsRow B e size v n xs) (hB : B' ≤ B) : w.ownsRow B' e size v n xs :=
  ⟨h.1, h.2.elim .inl fun ⟨g, cap, cur, r1, r2, r3⟩ => .inr ⟨g, cap, cur, r1, by omega, r3⟩⟩
theorem Own.lower {α : Type} {k : Kd α} {e : TypeId} {w : World} {p : Option Nat} {B B' : Nat} {v : Value} {xs : List α} (h : Own k e w p B v xs) (hB : B' ≤ B) : Own k e w p B' v xs := by
  obtain ⟨css, h1, h2, h3⟩ := h
  exact ⟨css, ownsRow_base h1 hB, h2, h3⟩
/-- behind a change that leaves the row alone -/
theorem Own.kept {α : Type} {k : Kd α} {e : TypeId} {w w' : World} {p : Option Nat} {B : Nat} {v : Value} {xs : List α} (h : Own k e w p B v xs) (hk : Kept w.heap.size p w w') : Own k e w' p B v xs := by
  obtain ⟨css, h1, h2, h3⟩ := h
  have hS : ∀ i, i < w.heap.size → (foot w' p i ∨ v.ownBlock = some i) → (foot w p i ∨ v.ownBlock = some i) := fun i hi hm => hm.elim (fun hf => .inl (hk.ft i hi hf)) .inr
  refine ⟨css, ⟨h1.1, ?_⟩, h2.keep ⟨hk.size, fun i hi hn => hk.block i hi fun hf => hn (.inl hf)⟩ hS, fun g hg hf => h3 g hg (hk.ft g ((h1.lt g hg).2) hf)⟩
  rcases h1.2 with hn | ⟨g, cap, cur, rfl, hb, hgg, rest⟩
  · exact .inl hn
  · refine .inr ⟨g, cap, cur, rfl, hb, ?_, rest⟩
    rw [hk.block g (Array.getElem?_eq_some_iff.1 hgg).1 (h3 g rfl)]
    exact hgg
/-- what is owned can be read, later than it was made -/
theorem Own.row {α : Type} {k : Kd α} {e : TypeId} {w : World} {p : Option Nat} {B : Nat} {v : Value} {xs : List α} (h : Own k e w p B v xs) (_hs : 0 < k.size) {B' : Nat} (hB : w.heap.size ≤ B') : Row k w (may w p B') v xs := by
  obtain ⟨css, h1, h2, h3⟩ := h
  have hp : Pairs k w (may w p B') xs css := h2.keep ⟨Nat.le_refl _, fun _ _ _ => rfl⟩ fun i hi hm => hm.elim (fun h => by omega) .inl
  rcases h1.2 with ⟨rfl, h0⟩ | ⟨g, cap, cur, rfl, hb, hgg, hc, hm, hcs, ht⟩
  · exact ⟨none, 0, css, by rw [h0], by omega, by simp [maxLen], fun _ => rfl, hp, fun hn => by omega⟩
  · have hlt := (Array.getElem?_eq_some_iff.1 hgg).1
    refine ⟨some ⟨g, 0, none⟩, cap, css, rfl, hc, hm, (fun h => nomatch h), hp, fun hn => ⟨g, 0, rfl, hlt, ?_, fun j u hu => ?_⟩⟩
    · intro hmay
      rcases hmay with h | h
      · omega
      · exact h3 g rfl h
    · have := h1.cells (g := g) rfl j u hu
      rw [show ((⟨g, 0, none⟩ : Addr).add j) = ⟨g, 0 + j, none⟩ by unfold Addr.add; split <;> simp_all] at this
      exact this

end Go.Proofs.Ytbfjacgfifecpaa

/-! ## The kinds of data: whole numbers, bools, texts, nodes, ports, slices; the builder in memory. -/
namespace Go.Proofs.Ytbfjacgfifecpaa
open Go.RowKit

def kNum (k : IntKind) : Kd Int where
  size := 1
  K := fun _ _ x cs => cs = [.int k x]
  len := by rintro w S x cs rfl; rfl
  one := by rintro w S x cs rfl u hu; simp at hu; subst hu; rfl
  keep := fun h _ _ => h
abbrev kInt : Kd Int := kNum .i64
def kBool : Kd Bool where
  size := 1
  K := fun _ _ x cs => cs = [.bool x]
  len := by rintro w S x cs rfl; rfl
  one := by rintro w S x cs rfl u hu; simp at hu; subst hu; rfl
  keep := fun h _ _ => h
def kStr : Kd ByteArray where
  size := 1
  K := fun _ _ x cs => cs = [.string x]
  len := by rintro w S x cs rfl; rfl
  one := by rintro w S x cs rfl u hu; simp at hu; subst hu; rfl
  keep := fun h _ _ => h
/-- a slice within a row -/
def kRow {α : Type} (k : Kd α) : Kd (List α) where
  size := 1
  K := fun w S x cs => ∃ v, cs = [v] ∧ Row k w S v x
  len := by rintro w S x cs ⟨v, rfl, _⟩; rfl
  one := by
    rintro w S x cs ⟨v, rfl, h⟩ u hu
    simp at hu; subst hu
    obtain ⟨A, c, rfl, _⟩ := h.shape
    rfl
  keep := fun ⟨v, e, h⟩ hs hS => ⟨v, e, h.keep hs hS⟩

structure Node where
  kind : Int
  a : Int
  b : Int
  c : Int
  deriving DecidableEq, Repr
structure Port where
  name : ByteArray
  bits : List Int
  deriving DecidableEq
def Node.cells (x : Node) : List Value := [.int .i64 x.kind, .int .i64 x.a, .int .i64 x.b, .int .i64 x.c]
def kNode : Kd Node where
  size := 4
  K := fun _ _ x cs => cs = x.cells
  len := by rintro w S x cs rfl; rfl
  one := by rintro w S x cs rfl u hu; simp [Node.cells] at hu; rcases hu with rfl | rfl | rfl | rfl <;> rfl
  keep := fun h _ _ => h
def kPort : Kd Port where
  size := 2
  K := fun w S x cs => ∃ v, cs = [.string x.name, v] ∧ Row kInt w S v x.bits
  len := by rintro w S x cs ⟨v, rfl, _⟩; rfl
  one := by
    rintro w S x cs ⟨v, rfl, h⟩ u hu
    obtain ⟨A, c, rfl, _⟩ := h.shape
    simp at hu; rcases hu with rfl | rfl <;> rfl
  keep := fun ⟨v, e, h⟩ hs hS => ⟨v, e, h.keep hs hS⟩

structure BSt where
  nodes : List Node
  ins : List Port
  outs : List Port
  deriving DecidableEq

end Go.Proofs.Ytbfjacgfifecpaa

/-! ## Laws on append to a row of the call's own, in the words of Base. -/
namespace Go.Proofs.Ytbfjacgfifecpaa
open Go.RowKit

theorem Own.grown {α : Type} {k : Kd α} {e : TypeId} {w w' : World} {p : Option Nat} {B : Nat} {v v' : Value} {xs ys : List α} {dss : List (List Value)}
    (hO : Own k e w p B v xs) (hF : FootIn w p) (hB : B ≤ w.heap.size)
    (hP : Pairs k w (fun i => foot w p i ∨ v.ownBlock = some i) ys dss)
    (hr : ∀ css, w.ownsRow B e k.size v xs.length css.flatten → Pairs k w (fun i => foot w p i ∨ v.ownBlock = some i) xs css → w'.ownsRow B e k.size v' (xs.length + ys.length) (css.flatten ++ dss.flatten))
    (hg : w.grownBy w' v.ownBlock) (hat : v'.ownBlock = v.ownBlock ∨ v'.ownBlock = some w.heap.size) :
    Own k e w' p B v' (xs ++ ys) ∧ Kept B p w w' ∧ FootIn w' p ∧ ∀ i, foot w' p i ↔ foot w p i := by
  have hbase : ∀ g, v.ownBlock = some g → B ≤ g ∧ ¬ foot w p g := fun g h => ⟨(hO.base h).1, hO.off h⟩
  obtain ⟨hk, hfo⟩ := Kept.of_grown hg hF hB hbase
  obtain ⟨css, h1, h2, h3⟩ := hO
  have hS : ∀ i, i < w.heap.size → (foot w' p i ∨ v'.ownBlock = some i) → (foot w p i ∨ v.ownBlock = some i) := by
    intro i hi hm
    rcases hm with hm | hm
    · exact .inl ((hfo i).1 hm)
    · rcases hat with h | h
      · exact .inr (h ▸ hm)
      · rw [h] at hm; injection hm with hm; omega
  have hsame : Same (fun i => foot w p i ∨ v.ownBlock = some i) w w' := ⟨hg.size, fun i hi hn => hg.block i hi fun he => hn (.inr he.symm)⟩
  refine ⟨⟨css ++ dss, ?_, (h2.keep hsame hS).append (hP.keep hsame hS), ?_⟩, hk, hF.iff hfo hg.size, hfo⟩
  · rw [List.length_append, List.flatten_append]
    exact hr css h1 h2
  · intro g hgv hf
    rcases hat with h | h
    · exact h3 g (h ▸ hgv) ((hfo g).1 hf)
    · rw [h] at hgv; injection hgv with hgv
      subst hgv
      have := hF _ ((hfo _).1 hf)
      omega

section
variable {P : Program} {o : Oper} {a : Act} {Q : Exit → Act → World → Prop}

theorem le_maxLen {n b : Nat} (hb : 0 < b) (h : n * b ≤ 140737488355328) : n ≤ maxLen := by
  have := Nat.le_trans (Nat.le_mul_of_pos_right n hb) h
  simp only [maxLen]; omega

/-- append(v, ys...), the new elements at an address -/
theorem wp_app {α : Type} (k : Kd α) (e t : TypeId) (z : Value) (bytes : Nat) {w : World} {K : Act → World → Prop}
    (s x : Operand) (ho : o.op = .call { callee := .builtin .append, args := #[s, x], argTypes := #[t, t] })
    (ht : P.underlying t = some (.slice e)) (hinfo : (P.info? e).map (fun i => (i.zero, i.size, i.bytes)) = some (some z, k.size, bytes)) (hz : z.cells.size = k.size) (hk0 : 0 < k.size) (hb0 : 0 < bytes)
    (p : Option Nat) (B : Nat) {v : Value} {xs : List α} (hO : Own k e w p B v xs) (hF : FootIn w p) (hB : B ≤ w.heap.size) (hs : a.eval s = v)
    (ad : Addr) (m c : Nat) (ys : List α) (dss : List (List Value)) (hx : a.eval x = .slice (some ad) m c) (hm : ys.length = m)
    (hP : Pairs k w (fun i => foot w p i ∨ v.ownBlock = some i) ys dss) (hc : ∀ j u, dss.flatten[j]? = some u → w.cell? (ad.add j) = some u)
    (hl : (xs.length + m) * bytes ≤ 140737488355328)
    (hK : ∀ v' w', Own k e w' p B v' (xs ++ ys) → Kept B p w w' → FootIn w' p → (∀ i, foot w' p i ↔ foot w p i) → w.grownBy w' v.ownBlock → (v'.ownBlock = v.ownBlock ∨ v'.ownBlock = some w.heap.size) → K (a.put o.dst v') w') : o.wp P a w K Q := by
  obtain ⟨i0, hi, hzz⟩ := Option.map_eq_some_iff.1 hinfo
  simp only [Prod.mk.injEq] at hzz
  obtain ⟨hz0, hz1, hz2⟩ := hzz
  subst hm
  obtain ⟨css, h1, h2, h3⟩ := hO
  obtain ⟨v', w', hr, q2, q3, _, q5⟩ := run_append_own_at (P := P) w B t o.type e i0 z k.size bytes ht hi hz0 hz1 hz2 hz hk0 v xs.length css.flatten h1 ad ys.length c dss.flatten hP.flat hc hP.one (le_maxLen hb0 hl) hl hB
  unfold Oper.wp execOp
  simp only [ho, resolve, invoke, builtin, Sem.run_bind, Sem.run_pure, Result.andThen_ok, List.map_toArray, List.map_cons, List.map_nil, hs, hx, hr]
  have hcss : ∀ css', w.ownsRow B e k.size v xs.length css'.flatten → Pairs k w (fun i => foot w p i ∨ v.ownBlock = some i) xs css' → css'.flatten = css.flatten := by
    intro css' h1' _
    rcases h1.2 with ⟨rfl, h0⟩ | ⟨g, cap, cur, rfl, _, hgg, _, _, _, ht⟩
    · have a1 := h1.1; have a2 := h1'.1
      rw [h0] at a1 a2
      simp only [Nat.zero_mul] at a1 a2
      rw [List.eq_nil_of_length_eq_zero a1, List.eq_nil_of_length_eq_zero a2]
    · rcases h1'.2 with ⟨hv, _⟩ | ⟨g', cap', cur', hv, _, hgg', _, _, _, ht'⟩
      · cases hv
      · injection hv with hv; injection hv with hv; injection hv with hv
        subst hv
        rw [hgg] at hgg'
        injection hgg' with hgg'; injection hgg' with hgg'
        subst hgg'
        rw [← ht, ← ht']
  obtain ⟨r1, r2, r3, r4⟩ := Own.grown (v' := v') ⟨css, h1, h2, h3⟩ hF hB hP (fun css' a1 a2 => by rw [hcss css' a1 a2]; exact q2) q3 q5
  exact hK v' w' r1 r2 r3 r4 q3 q5

/-- the same as a step of the walk -/
theorem app {α : Type} (k : Kd α) (e t : TypeId) (z : Value) (bytes : Nat) {w : World} {ops : Array Oper} {rest : List Oper} (hgd : o.guard = none)
    (s x : Operand) (ho : o.op = .call { callee := .builtin .append, args := #[s, x], argTypes := #[t, t] })
    (ht : P.underlying t = some (.slice e)) (hinfo : (P.info? e).map (fun i => (i.zero, i.size, i.bytes)) = some (some z, k.size, bytes)) (hz : z.cells.size = k.size) (hk0 : 0 < k.size) (hb0 : 0 < bytes)
    (p : Option Nat) (B : Nat) {v : Value} {xs : List α} (hO : Own k e w p B v xs) (hF : FootIn w p) (hB : B ≤ w.heap.size) (hs : a.eval s = v)
    (ad : Addr) (m c : Nat) (ys : List α) (dss : List (List Value)) (hx : a.eval x = .slice (some ad) m c) (hm : ys.length = m)
    (hP : Pairs k w (fun i => foot w p i ∨ v.ownBlock = some i) ys dss) (hc : ∀ j u, dss.flatten[j]? = some u → w.cell? (ad.add j) = some u)
    (hl : (xs.length + m) * bytes ≤ 140737488355328)
    (hK : ∀ v' w', Own k e w' p B v' (xs ++ ys) → Kept B p w w' → FootIn w' p → (∀ i, foot w' p i ↔ foot w p i) → w.grownBy w' v.ownBlock → (v'.ownBlock = v.ownBlock ∨ v'.ownBlock = some w.heap.size) → wpList P ops Q rest (a.put o.dst v') w') :
    wpList P ops Q (o :: rest) a w :=
  wpList_plain hgd fun _ hK' => wp_app k e t z bytes s x ho ht hinfo hz hk0 hb0 p B hO hF hB hs ad m c ys dss hx hm hP hc hl fun v' w' q1 q2 q3 q4 q5 q6 => hK' _ _ (hK v' w' q1 q2 q3 q4 q5 q6)

/-- append(v, x) of one element of one cell: it lies in a new block -/
theorem app1 {α : Type} (k : Kd α) (e t : TypeId) (z : Value) (bytes : Nat) {W : World} {ops : Array Oper} {rest : List Oper} (hgd : o.guard = none)
    (s x : Operand) (ho : o.op = .call { callee := .builtin .append, args := #[s, x], argTypes := #[t, t] })
    (ht : P.underlying t = some (.slice e)) (hinfo : (P.info? e).map (fun i => (i.zero, i.size, i.bytes)) = some (some z, k.size, bytes)) (hz : z.cells.size = k.size) (hk0 : 0 < k.size) (hb0 : 0 < bytes)
    (p : Option Nat) (B : Nat) {v : Value} {xs : List α} (hO : Own k e W p B v xs) (hF : FootIn W p) (hB : B ≤ W.heap.size) (hs : a.eval s = v)
    (y : α) (cs : List Value) (hx : a.eval x = .slice (some ⟨W.heap.size, 0, none⟩) 1 1)
    (hP : k.K W (fun i => foot W p i ∨ v.ownBlock = some i) y cs)
    (hl : (xs.length + 1) * bytes ≤ 140737488355328)
    (hK : ∀ v' w', Own k e w' p B v' (xs ++ [y]) → Kept B p W w' → FootIn w' p → (∀ i, foot w' p i ↔ foot W p i) → W.grownBy w' v.ownBlock → (v'.ownBlock = v.ownBlock ∨ ∃ b, v'.ownBlock = some b ∧ W.heap.size < b) → wpList P ops Q rest (a.put o.dst v') w') :
    wpList P ops Q (o :: rest) a (W.alloc (.cells cs.toArray e)) := by
  have hbel : Below W.heap.size W (W.alloc (.cells cs.toArray e)) := (Below.refl _ _).alloc (Nat.le_refl _) _
  have hk : Kept W.heap.size p W (W.alloc (.cells cs.toArray e)) := Kept.of_below_all hbel hF (Nat.le_refl _)
  have hfo : ∀ i, foot (W.alloc (.cells cs.toArray e)) p i ↔ foot W p i := foot_of_heap fun i hi => hbel.block i (hF i hi)
  have hx1 : k.K (W.alloc (.cells cs.toArray e)) (fun i => foot (W.alloc (.cells cs.toArray e)) p i ∨ v.ownBlock = some i) y cs :=
    k.keep hP ⟨hbel.size, fun i hi hn => hbel.block i hi⟩ fun i hi hm => hm.elim (fun h => .inl ((hfo i).1 h)) .inr
  refine app k e t z bytes hgd s x ho ht hinfo hz hk0 hb0 p B (hO.kept hk) (hF.iff hfo hbel.size) (by simp; omega) hs ⟨W.heap.size, 0, none⟩ 1 1 [y] [cs] hx rfl ((Pairs.nil k _ _).snoc hx1) ?_ hl ?_
  · intro j u hu
    simp only [List.flatten_cons, List.flatten_nil, List.append_nil] at hu
    rw [Addr.add_lit, Nat.zero_add]
    show (W.alloc (.cells cs.toArray e)).cell? ⟨W.heap.size, j, none⟩ = some u
    rw [World.cell?_alloc_new]
    simpa using hu
  · intro v' w' q1 q2 q3 q4 q5 q6
    refine hK v' w' q1 ((hk.mono hB).trans q2) q3 (fun i => (q4 i).trans (hfo i)) (World.grownBy.trans (World.grownBy_alloc W _ _) q5) ?_
    rcases q6 with h | h
    · exact .inl h
    · exact .inr ⟨_, h, by simp⟩
end

/-- another row of the call's own stays -/
theorem Own.other {α : Type} {k : Kd α} {e : TypeId} {w w' : World} {p : Option Nat} {B : Nat} {v : Value} {xs : List α} {row : Option Nat} (h : Own k e w p B v xs) (hg : w.grownBy w' row)
    (hfo : ∀ i, foot w' p i ↔ foot w p i) (hne : v.ownBlock = none ∨ v.ownBlock ≠ row) (hel : ∀ (x : α) cs, k.K w (fun i => foot w p i ∨ v.ownBlock = some i) x cs → k.K w (fun i => foot w p i ∨ v.ownBlock = some i ∨ row = some i) x cs) : Own k e w' p B v xs := by
  obtain ⟨css, h1, h2, h3⟩ := h
  refine ⟨css, h1.kept hg hne, ⟨h2.1, fun i x cs hx hc => ?_⟩, fun g hgv hf => h3 g hgv ((hfo g).1 hf)⟩
  exact k.keep (hel x cs (h2.2 i x cs hx hc)) ⟨hg.size, fun i hi hn => hg.block i hi fun he => hn (.inr (.inr he.symm))⟩ fun i hi hm => hm.elim (fun h => .inl ((hfo i).1 h)) (fun h => .inr (.inl h))

end Go.Proofs.Ytbfjacgfifecpaa

/-! ## The builder in memory: what keeps it, and a node laid behind the others. -/
namespace Go.Proofs.Ytbfjacgfifecpaa
open Go.RowKit

theorem kids_cell {w : World} {p i j : Nat} {cs : Array Value} {t : TypeId} {fr : Nat × Nat} {v : Value} (h : w.heap[p]? = some (.cells cs t fr)) (hv : cs[j]? = some v) (ho : v.ownBlock = some i) : kids w p i :=
  ⟨j, v, by rw [cell_of_row w p j cs t fr h]; exact hv, ho⟩

/-- ports' data stay while what is theirs stays -/
theorem ports_keep {w w' : World} {p : Nat} {vn vi vo v : Value} {n : Nat} {ps : List Port} {t : TypeId}
    (hk : ∀ i, foot w (some p) i → w'.heap[i]? = w.heap[i]?) (hs : w.heap.size ≤ w'.heap.size) (hv : ∀ g, v.ownBlock = some g → foot w (some p) g) (hv2 : ∀ g c j u i, v = .slice (some ⟨g, 0, none⟩) n c → j < n * 2 → w.cell? ⟨g, 0 + j, none⟩ = some u → u.ownBlock = some i → foot w (some p) i)
    (h : ∃ css, w.ownsRow 0 t 2 v n css.flatten ∧ Pairs kPort w (fun i => i = p ∨ vn.ownBlock = some i ∨ vi.ownBlock = some i ∨ vo.ownBlock = some i) ps css) (hn : ps.length = n) :
    ∃ css, w'.ownsRow 0 t 2 v n css.flatten ∧ Pairs kPort w' (fun i => i = p ∨ vn.ownBlock = some i ∨ vi.ownBlock = some i ∨ vo.ownBlock = some i) ps css := by
  obtain ⟨css, h1, h2⟩ := h
  have hrow : w'.ownsRow 0 t 2 v n css.flatten := by
    refine ⟨h1.1, ?_⟩
    rcases h1.2 with hn | ⟨g, cap, cur, rfl, hb, hgg, rest⟩
    · exact .inl hn
    · exact .inr ⟨g, cap, cur, rfl, hb, by rw [hk g (hv g rfl)]; exact hgg, rest⟩
  refine ⟨css, hrow, h2.1, fun i x cs hx hc => ?_⟩
  obtain ⟨u, rfl, hr⟩ := h2.2 i x cs hx hc
  refine ⟨u, rfl, ?_⟩
  obtain ⟨A, c, dss, rfl, a1, a2, a0, a3, a4⟩ := hr
  refine ⟨A, c, dss, rfl, a1, a2, a0, ⟨a3.1, fun i x cs hx hc => a3.2 i x cs hx hc⟩, fun hn0 => ?_⟩
  obtain ⟨b, off, rfl, b1, b2, b3⟩ := a4 hn0
  have hfb : foot w (some p) b := by
    have hi : i < css.length := (List.getElem?_eq_some_iff.1 hc).1
    have hu : css.flatten[i * 2 + 1]? = some (.slice (some ⟨b, off, none⟩) x.bits.length c) := flat_at css 2 (fun cs hcs => by have := Pairs.lens (k := kPort) h2 cs hcs; exact this) i _ hc 1 _ rfl
    rcases h1.2 with ⟨rfl, h0⟩ | ⟨g, cap, cur, rfl, hb, hgg, rest⟩
    · have := h2.1; omega
    · have hcell := h1.cells (g := g) rfl _ _ hu
      rw [Addr.add_lit] at hcell
      exact hv2 g _ (i * 2 + 1) _ b rfl (by have := h2.1; omega) hcell rfl
  exact ⟨b, off, rfl, Nat.lt_of_lt_of_le b1 hs, b2, fun j u hu => (World.cell?_of_block (hk b hfb)).trans (b3 j u hu)⟩

theorem nodes_plain {w : World} {S : Nat → Prop} {ns : List Node} {css : List (List Value)} (h : Pairs kNode w S ns css) : ∀ u ∈ css.flatten, u.ownBlock = none := by
  intro u hu
  obtain ⟨cs, hcs, hu⟩ := List.mem_flatten.1 hu
  obtain ⟨i, hi, rfl⟩ := List.mem_iff_getElem.1 hcs
  have hx : i < ns.length := by have := h.1; omega
  have e : css[i] = (ns[i]).cells := h.2 i ns[i] css[i] (by simp [hx]) (by simp [hi])
  rw [e] at hu
  simp [Node.cells] at hu
  rcases hu with rfl | rfl | rfl | rfl <;> rfl

theorem step_app {P : Program} {o : Oper} {a : Act} {w : World} {ops : Array Oper} {K : Act → World → Prop} {Q : Exit → Act → World → Prop} {E : Prop} (hg : o.guard = none) (h : o.wp P a w K Q) :
    if Region.wanted o (yielded ops a.tmps) = true then Oper.wp P o a w K Q else E := by
  have hw : Region.wanted o (yielded ops a.tmps) = true := by simp [Region.wanted, hg]
  rw [if_pos hw]; exact h

theorem infoNode : (Try.prog.info? 38).map (fun i => (i.zero, i.size, i.bytes)) = some (some (.agg #[.int .i64 0, .int .i64 0, .int .i64 0, .int .i64 0]), 4, 32) := by kernel_rfl
theorem infoPort : (Try.prog.info? 53).map (fun i => (i.zero, i.size, i.bytes)) = some (some (.agg #[.string ⟨#[]⟩, .slice none 0 0]), 2, 40) := by kernel_rfl
theorem infoInt : (Try.prog.info? 3).map (fun i => (i.zero, i.size, i.bytes)) = some (some (.int .i64 0), 1, 8) := by kernel_rfl

end Go.Proofs.Ytbfjacgfifecpaa

/-! ## What the builder's functions compute, as plain functions of the builder's state. No program in sight. -/
namespace Go.Proofs.Ytbfjacgfifecpaa

/-- a loop that lays: element by element, the state handed on -/
def mapS {α β σ : Type} (f : α → σ → β × σ) : List α → σ → List β × σ
  | [], s => ([], s)
  | x :: xs, s => ((f x s).1 :: (mapS f xs (f x s).2).1, (mapS f xs (f x s).2).2)
theorem mapS_append {α β σ : Type} (f : α → σ → β × σ) (xs ys : List α) (s : σ) :
    mapS f (xs ++ ys) s = ((mapS f xs s).1 ++ (mapS f ys (mapS f xs s).2).1, (mapS f ys (mapS f xs s).2).2) := by
  induction xs generalizing s with
  | nil => simp [mapS]
  | cons x xs ih => simp [mapS, ih]
theorem mapS_snoc {α β σ : Type} (f : α → σ → β × σ) (xs : List α) (y : α) (s : σ) :
    mapS f (xs ++ [y]) s = ((mapS f xs s).1 ++ [(f y (mapS f xs s).2).1], (f y (mapS f xs s).2).2) := by
  rw [mapS_append]; rfl
theorem mapS_length {α β σ : Type} (f : α → σ → β × σ) (xs : List α) (s : σ) : (mapS f xs s).1.length = xs.length := by
  induction xs generalizing s with
  | nil => rfl
  | cons x xs ih => simp [mapS, ih]
theorem mapS_take_succ {α β σ : Type} (f : α → σ → β × σ) (xs : List α) (k : Nat) (hk : k < xs.length) (s : σ) :
    mapS f (xs.take (k + 1)) s = ((mapS f (xs.take k) s).1 ++ [(f xs[k] (mapS f (xs.take k) s).2).1], (f xs[k] (mapS f (xs.take k) s).2).2) := by
  rw [List.take_succ_eq_append_getElem hk, mapS_snoc]

/-- nothing but more nodes -/
def Ext (s s' : BSt) : Prop := ∃ l, s' = { s with nodes := s.nodes ++ l }
theorem Ext.refl (s : BSt) : Ext s s := ⟨[], by simp⟩
theorem Ext.trans {a b c : BSt} (h : Ext a b) (k : Ext b c) : Ext a c := by
  obtain ⟨l, rfl⟩ := h; obtain ⟨m, rfl⟩ := k
  exact ⟨l ++ m, by simp⟩
theorem Ext.len {a b : BSt} (h : Ext a b) : a.nodes.length ≤ b.nodes.length := by obtain ⟨l, rfl⟩ := h; simp
theorem mapS_ext {α β : Type} (f : α → BSt → β × BSt) (hf : ∀ x s, Ext s (f x s).2) (xs : List α) (s : BSt) : Ext s (mapS f xs s).2 := by
  induction xs generalizing s with
  | nil => exact Ext.refl s
  | cons x xs ih => exact (hf x s).trans (ih _)
/-- how many nodes a loop lays at most -/
theorem mapS_cost {α β : Type} (f : α → BSt → β × BSt) (n : Nat) (xs : List α) (hf : ∀ x, x ∈ xs → ∀ s, (f x s).2.nodes.length ≤ s.nodes.length + n) (s : BSt) : (mapS f xs s).2.nodes.length ≤ s.nodes.length + xs.length * n := by
  induction xs generalizing s with
  | nil => simp [mapS]
  | cons x xs ih =>
    have h1 := hf x (by simp) s
    have h2 := ih (fun y hy => hf y (by simp [hy])) (f x s).2
    simp only [mapS, List.length_cons, Nat.add_mul]
    omega
theorem mapS_ext_le {α β : Type} (f : α → BSt → β × BSt) (hf : ∀ x s, Ext s (f x s).2) (xs : List α) (k : Nat) (s : BSt) : Ext (mapS f (xs.take k) s).2 (mapS f xs s).2 := by
  conv => rhs; rw [← List.take_append_drop k xs, mapS_append]
  exact mapS_ext f hf _ _

/-- a net may not have more nodes than this here -/
def lim : Nat := 1099511627776
def BSt.fits (s : BSt) : Prop := s.nodes.length ≤ lim
theorem Ext.fits {a b : BSt} (h : Ext a b) (hb : b.fits) : a.fits := Nat.le_trans h.len hb

def lay (x : Node) (s : BSt) : Int × BSt := ((s.nodes.length : Int), { s with nodes := s.nodes ++ [x] })
theorem lay_ext (x : Node) (s : BSt) : Ext s (lay x s).2 := ⟨[x], rfl⟩
theorem lay_len (x : Node) (s : BSt) : (lay x s).2.nodes.length = s.nodes.length + 1 := by simp [lay]
def flag (v : Int) : Int := if v = 0 then 0 else 1
def bBit (v : Int) (s : BSt) : Int × BSt := lay ⟨0, flag v, 0, 0⟩ s
def bNot (x : Int) (s : BSt) : Int × BSt := lay ⟨2, x, 0, 0⟩ s
def bAnd (x y : Int) (s : BSt) : Int × BSt := lay ⟨3, x, y, 0⟩ s
def bOr (x y : Int) (s : BSt) : Int × BSt := lay ⟨4, x, y, 0⟩ s
def bXor (x y : Int) (s : BSt) : Int × BSt := lay ⟨5, x, y, 0⟩ s
def bMux (x y c : Int) (s : BSt) : Int × BSt := lay ⟨6, x, y, c⟩ s
def bReg (x first : Int) (s : BSt) : Int × BSt := lay ⟨7, x, flag first, 0⟩ s
def bInput (_ : Nat) (s : BSt) : Int × BSt := lay ⟨1, 0, 0, 0⟩ s

/-- a word filled up, or cut -/
def bPad (xs : List Int) (n : Nat) (s : BSt) : List Int × BSt :=
  let r := mapS (fun _ => bBit 0) (List.replicate (n - xs.length) ()) s
  (xs.take n ++ r.1, r.2)
def bBoth (xs ys : List Int) (s : BSt) : (List Int × List Int) × BSt :=
  let r := bPad xs (max xs.length ys.length) s
  let q := bPad ys (max xs.length ys.length) r.2
  ((r.1, q.1), q.2)
def bGate (kind : Int) (x y : Int) (s : BSt) : Int × BSt := if kind = 3 then bAnd x y s else if kind = 4 then bOr x y s else bXor x y s
def bEach (kind : Int) (xs ys : List Int) (s : BSt) : List Int × BSt :=
  let r := bBoth xs ys s
  mapS (fun q : Int × Int => bGate kind q.1 q.2) (r.1.1.zip r.1.2) r.2
def bNots (xs : List Int) (s : BSt) : List Int × BSt := mapS bNot xs s
def bPick (xs ys : List Int) (c : Int) (s : BSt) : List Int × BSt :=
  let r := bBoth xs ys s
  mapS (fun q : Int × Int => bMux q.1 q.2 c) (r.1.1.zip r.1.2) r.2
/-- pair by pair -/
def foldRound (kind : Int) : List Int → BSt → List Int × BSt
  | x :: y :: r, s => ((bGate kind x y s).1 :: (foldRound kind r (bGate kind x y s).2).1, (foldRound kind r (bGate kind x y s).2).2)
  | [x], s => ([x], s)
  | [], s => ([], s)
theorem foldRound_length (kind : Int) : ∀ (xs : List Int) (s : BSt), (foldRound kind xs s).1.length = (xs.length + 1) / 2
  | [], s => rfl
  | [x], s => by simp [foldRound]
  | x :: y :: r, s => by simp [foldRound, foldRound_length kind r]; omega
def foldAll (kind : Int) : Nat → List Int → BSt → Int × BSt
  | 0, _, s => (0, s)
  | n + 1, xs, s => match xs with
    | [] => (0, s)
    | [x] => (x, s)
    | x :: y :: r => foldAll kind n (foldRound kind (x :: y :: r) s).1 (foldRound kind (x :: y :: r) s).2
def bFold (kind : Int) (xs : List Int) (s : BSt) : Int × BSt :=
  if xs = [] then bBit (if kind = 3 then 1 else 0) s else foldAll kind xs.length xs s
def bSame (xs ys : List Int) (s : BSt) : Int × BSt :=
  let r := bEach 5 xs ys s
  let q := bFold 4 r.1 r.2
  bNot q.1 q.2
def bRegs (xs : List Int) : Nat → BSt → List Int × BSt
  | 0, s => (xs, s)
  | n + 1, s =>
    let r := bRegs xs n s
    mapS (fun x => bReg x 0) r.1 r.2
def bIn (name : ByteArray) (n : Nat) (s : BSt) : List Int × BSt :=
  let r := mapS bInput (List.range n) s
  (r.1, { r.2 with ins := r.2.ins ++ [⟨name, r.1⟩] })
def bOut (name : ByteArray) (xs : List Int) (s : BSt) : BSt := { s with outs := s.outs ++ [⟨name, xs⟩] }

theorem gate_ext (kind x y : Int) (s : BSt) : Ext s (bGate kind x y s).2 := by
  unfold bGate; split
  · exact lay_ext _ s
  · split <;> exact lay_ext _ s
theorem pad_ext (xs : List Int) (n : Nat) (s : BSt) : Ext s (bPad xs n s).2 := mapS_ext _ (fun _ s => lay_ext _ s) _ s
theorem both_ext (xs ys : List Int) (s : BSt) : Ext s (bBoth xs ys s).2 := (pad_ext _ _ _).trans (pad_ext _ _ _)
theorem each_ext (kind : Int) (xs ys : List Int) (s : BSt) : Ext s (bEach kind xs ys s).2 := (both_ext _ _ _).trans (mapS_ext _ (fun _ s => gate_ext _ _ _ s) _ _)
theorem nots_ext (xs : List Int) (s : BSt) : Ext s (bNots xs s).2 := mapS_ext _ (fun _ s => lay_ext _ s) _ s
theorem pick_ext (xs ys : List Int) (c : Int) (s : BSt) : Ext s (bPick xs ys c s).2 := (both_ext _ _ _).trans (mapS_ext _ (fun _ s => lay_ext _ s) _ _)
theorem foldRound_ext (kind : Int) : ∀ (xs : List Int) (s : BSt), Ext s (foldRound kind xs s).2
  | [], s => Ext.refl s
  | [_x], s => Ext.refl s
  | _x :: _y :: r, _s => (gate_ext _ _ _ _).trans (foldRound_ext kind r _)
theorem foldAll_ext (kind : Int) : ∀ (n : Nat) (xs : List Int) (s : BSt), Ext s (foldAll kind n xs s).2
  | 0, _xs, s => Ext.refl s
  | _n + 1, [], s => Ext.refl s
  | _n + 1, [_x], s => Ext.refl s
  | n + 1, _x :: _y :: _r, _s => (foldRound_ext _ _ _).trans (foldAll_ext kind n _ _)
theorem fold_ext (kind : Int) (xs : List Int) (s : BSt) : Ext s (bFold kind xs s).2 := by
  unfold bFold; split
  · exact lay_ext _ s
  · exact foldAll_ext _ _ _ _
theorem same_ext (xs ys : List Int) (s : BSt) : Ext s (bSame xs ys s).2 := (each_ext _ _ _ _).trans ((fold_ext _ _ _).trans (lay_ext _ _))
theorem regs_ext (xs : List Int) : ∀ (n : Nat) (s : BSt), Ext s (bRegs xs n s).2
  | 0, s => Ext.refl s
  | n + 1, s => (regs_ext xs n s).trans (mapS_ext _ (fun _ s => lay_ext _ s) _ _)

theorem pad_length (xs : List Int) (n : Nat) (s : BSt) : (bPad xs n s).1.length = n := by
  simp [bPad, mapS_length]; omega
theorem each_length (kind : Int) (xs ys : List Int) (s : BSt) : (bEach kind xs ys s).1.length = max xs.length ys.length := by
  simp [bEach, mapS_length, bBoth, pad_length]
theorem nots_length (xs : List Int) (s : BSt) : (bNots xs s).1.length = xs.length := mapS_length _ _ _
theorem pick_length (xs ys : List Int) (c : Int) (s : BSt) : (bPick xs ys c s).1.length = max xs.length ys.length := by
  simp [bPick, mapS_length, bBoth, pad_length]

end Go.Proofs.Ytbfjacgfifecpaa

/-! ## The builder's gates, each by its contract. -/
namespace Go.Proofs.Ytbfjacgfifecpaa
open Go.RowKit

theorem Own.alloc {α : Type} {k : Kd α} {e : TypeId} {w : World} {p : Option Nat} {B : Nat} {v : Value} {xs : List α} (h : Own k e w p B v xs) (hF : FootIn w p) (o : Obj) : Own k e (w.alloc o) p B v xs :=
  h.kept (Kept.of_below_all ((Below.refl _ _).alloc (Nat.le_refl _) o) hF (Nat.le_refl _))
theorem Own.drew {α : Type} {k : Kd α} {e : TypeId} {w : World} {p : Option Nat} {B : Nat} {v : Value} {xs : List α} (h : Own k e w p B v xs) (hF : FootIn w p) : Own k e w.drew p B v xs :=
  h.kept (Kept.of_below_all (Below.refl _ _).drew hF (Nat.le_refl _))

end Go.Proofs.Ytbfjacgfifecpaa

/-! ## slices.Clone of numbers and of nodes. -/
namespace Go.Proofs.Ytbfjacgfifecpaa
open Go.RowKit

theorem Own.lit0 {α : Type} (k : Kd α) (e : TypeId) (w : World) : Own k e (w.alloc (.cells #[] e)) none w.heap.size (.slice (some ⟨w.heap.size, 0, none⟩) 0 0) [] :=
  ⟨[], by have := World.ownsRow_lit (base := w.heap.size) (e := e) (size := k.size) w #[] 0 (Nat.le_refl _) (Nat.zero_le _) (by simp); simpa using this, Pairs.nil k _ _, fun _ _ => foot_none _ _⟩

/-- a slice that is read, behind a new block: its cells, its pairs -/
theorem row_src {α : Type} {k : Kd α} {w : World} {xs : List α} {css : List (List Value)} {S : Nat → Prop} {ad : Addr} (h3 : Pairs k w S xs css)
    (h4 : 0 < xs.length → ∃ b off, some ad = some ⟨b, off, none⟩ ∧ b < w.heap.size ∧ ¬ S b ∧ ∀ j u, css.flatten[j]? = some u → w.cell? ⟨b, off + j, none⟩ = some u) (o : Obj)
    (S' : Nat → Prop) (hk : ∀ x cs, k.K w S x cs → k.K (w.alloc o) S' x cs) :
    Pairs k (w.alloc o) S' xs css ∧ ∀ j u, css.flatten[j]? = some u → (w.alloc o).cell? (ad.add j) = some u := by
  refine ⟨⟨h3.1, fun i x cs hx hc => hk x cs (h3.2 i x cs hx hc)⟩, fun j u hu => ?_⟩
  have hn : 0 < xs.length := by
    rcases Nat.eq_zero_or_pos xs.length with h | h
    · have := h3.1
      rw [h] at this
      rw [List.eq_nil_of_length_eq_zero this] at hu
      simp at hu
    · exact h
  obtain ⟨b, off, he, hb, _, hc⟩ := h4 hn
  injection he with he
  subst he
  rw [Addr.add_lit, World.cell?_alloc_lt _ _ _ hb]
  exact hc j u hu

theorem clone_calls (w : World) (v : Value) (xs : List Int) (S : Nat → Prop) (hx : Row kInt w S v xs) (hl : xs.length ≤ 1099511627776) :
    Calls Try.prog 67 #[v] w fun e w' => ∃ v', e = .returned v' ∧ Own kInt 3 w' none w.heap.size v' xs ∧ Below w.heap.size w w' := by
  obtain ⟨A, c, css, rfl, h1, h2, h0, h3, h4⟩ := hx
  have hnil := Lib.run_eql_slice_nil (P := Try.prog)
  rcases A with _ | ad
  · obtain rfl := h0 rfl
    have hn : xs.length = 0 := by omega
    obtain rfl := List.eq_nil_of_length_eq_zero hn
    go_enter Try.func67, Try.ntmps67
    go_wp2
    go_ret
    exact ⟨_, rfl, Own.nil kInt _ w none _, Below.refl _ _⟩
  · have src := Lib.hid (row_src h3 h4 (.cells #[] 3) (fun i => foot (w.alloc (.cells #[] 3)) none i ∨ (Value.slice (some ⟨w.heap.size, 0, none⟩) 0 0).ownBlock = some i) (fun x cs h => h))
    clear h3 h4 h0
    go_enter Try.func67, Try.ntmps67
    go_wp2_with (at_builtin; refine app kInt 3 28 (.int .i64 0) 8 rfl (.tmp 5) (.tmp 6) rfl Try.underlying28 infoInt rfl (by decide) (by decide) none w.heap.size (Own.lit0 kInt _ w) (FootIn.none _) (by simp) rfl ad xs.length c xs css rfl rfl src.out.1 src.out.2 (by simp; omega) ?_; intro v' w' q1 q2 q3 q4 q5 q6; have Q := Lib.hid (And.intro q1 q2.below); clear q1 q2 q3 q4 q5 q6)
    go_ret
    exact ⟨v', rfl, by simpa using Q.out.1, ((Below.refl _ _).alloc (Nat.le_refl _) _).trans Q.out.2⟩

theorem clone_nodes_calls (w : World) (v : Value) (xs : List Node) (S : Nat → Prop) (hx : Row kNode w S v xs) (hl : xs.length ≤ 1099511627776) :
    Calls Try.prog 68 #[v] w fun e w' => ∃ v', e = .returned v' ∧ Own kNode 38 w' none w.heap.size v' xs ∧ Below w.heap.size w w' := by
  obtain ⟨A, c, css, rfl, h1, h2, h0, h3, h4⟩ := hx
  have hnil := Lib.run_eql_slice_nil (P := Try.prog)
  rcases A with _ | ad
  · obtain rfl := h0 rfl
    have hn : xs.length = 0 := by omega
    obtain rfl := List.eq_nil_of_length_eq_zero hn
    go_enter Try.func68, Try.ntmps68
    go_wp2
    go_ret
    exact ⟨_, rfl, Own.nil kNode _ w none _, Below.refl _ _⟩
  · have src := Lib.hid (row_src h3 h4 (.cells #[] 38) (fun i => foot (w.alloc (.cells #[] 38)) none i ∨ (Value.slice (some ⟨w.heap.size, 0, none⟩) 0 0).ownBlock = some i) (fun x cs h => h))
    clear h3 h4 h0
    go_enter Try.func68, Try.ntmps68
    go_wp2_with (at_builtin; refine app kNode 38 22 (.agg #[.int .i64 0, .int .i64 0, .int .i64 0, .int .i64 0]) 32 rfl (.tmp 5) (.tmp 6) rfl Try.underlying22 infoNode rfl (by decide) (by decide) none w.heap.size (Own.lit0 kNode _ w) (FootIn.none _) (by simp) rfl ad xs.length c xs css rfl rfl src.out.1 src.out.2 (by simp; omega) ?_; intro v' w' q1 q2 q3 q4 q5 q6; have Q := Lib.hid (And.intro q1 q2.below); clear q1 q2 q3 q4 q5 q6)
    go_ret
    exact ⟨v', rfl, by simpa using Q.out.1, ((Below.refl _ _).alloc (Nat.le_refl _) _).trans Q.out.2⟩

end Go.Proofs.Ytbfjacgfifecpaa

/-! ## Words: filled up, bit by bit, chosen, turned. -/
namespace Go.Proofs.Ytbfjacgfifecpaa
open Go.RowKit

theorem max2_int (k k' : IntKind) (x y : Int) : Builtin.max2 (.int k x) (.int k' y) = pure (.int k (max x y)) := by
  simp only [Builtin.max2, gt_iff_lt]
  congr 2
  simp only [Int.max_def]
  split <;> split <;> omega
theorem min2_int (k k' : IntKind) (x y : Int) : Builtin.min2 (.int k x) (.int k' y) = pure (.int k (min x y)) := by
  simp only [Builtin.min2]
  congr 2
  simp only [Int.min_def]
  split <;> split <;> omega
theorem max_two (ats : Array TypeId) (ty : TypeId) (a b : Value) : Builtin.max_ ats ty #[a, b] = (Builtin.max2 a b >>= fun s => pure s) := by simp only [Builtin.max_, List.foldlM_cons, List.foldlM_nil]
theorem min_two (ats : Array TypeId) (ty : TypeId) (a b : Value) : Builtin.min_ ats ty #[a, b] = (Builtin.min2 a b >>= fun s => pure s) := by simp only [Builtin.min_, List.foldlM_cons, List.foldlM_nil]

/-- numbers of a call that knows of no builder are none of the builder's -/
theorem Own.give {w w' : World} {p : Nat} {e : TypeId} {v : Value} {xs : List Int} (h : Own kInt e w' none w.heap.size v xs) (hF : FootIn w (some p)) (hb : Below w.heap.size w w') : Own kInt e w' (some p) w.heap.size v xs := by
  have hfo : ∀ i, foot w' (some p) i ↔ foot w (some p) i := foot_of_heap fun i hi => hb.block i (hF i hi)
  obtain ⟨css, h1, h2, h3⟩ := h
  refine ⟨css, h1, ⟨h2.1, fun i x cs hx hc => h2.2 i x cs hx hc⟩, fun g hg hf => ?_⟩
  have := (h1.lt g hg).1
  have := hF g ((hfo g).1 hf)
  omega

section
variable {P : Program} {o : Oper} {a : Act} {Q : Exit → Act → World → Prop}
end

theorem Row.take {α : Type} {k : Kd α} {w : World} {S : Nat → Prop} {A : Option Addr} {c : Nat} {xs : List α} (h : Row k w S (.slice A xs.length c) xs) (n : Nat) (hn : n ≤ xs.length) : Row k w S (.slice A n c) (xs.take n) := by
  obtain ⟨A', c', css, he, h1, h2, h0, h3, h4⟩ := h
  injection he with e1 e2 e3
  subst e1; subst e3
  have hl : (xs.take n).length = n := by simp; omega
  refine ⟨A, c, css.take n, by rw [hl], by omega, h2, h0, h3.take n, fun h0 => ?_⟩
  obtain ⟨b, off, rfl, a1, a2, a3⟩ := h4 (by omega)
  refine ⟨b, off, rfl, a1, a2, fun j u hu => a3 j u ?_⟩
  rw [← List.take_append_drop n css, List.flatten_append, List.getElem?_append_left (List.getElem?_eq_some_iff.1 hu).1]
  exact hu

theorem bits_nodes (k : Nat) (st : BSt) : (mapS (fun _ => bBit 0) (List.replicate k ()) st).2.nodes.length = st.nodes.length + k := by
  induction k generalizing st with
  | zero => rfl
  | succ k ih => simp only [List.replicate_succ, mapS]; rw [ih]; simp [bBit, lay]; omega
theorem bits_succ (k : Nat) (st : BSt) : mapS (fun _ => bBit 0) (List.replicate (k + 1) ()) st =
    ((mapS (fun _ => bBit 0) (List.replicate k ()) st).1 ++ [(bBit 0 (mapS (fun _ => bBit 0) (List.replicate k ()) st).2).1], (bBit 0 (mapS (fun _ => bBit 0) (List.replicate k ()) st).2).2) := by
  rw [List.replicate_succ', mapS_snoc]
theorem padRow {w : World} {S : Nat → Prop} {A : Option Addr} {c : Nat} {xs : List Int} (h : Row kInt w S (.slice A xs.length c) xs) (m : Nat) : Row kInt w S (.slice A (min (xs.length : Int) (m : Int)).toNat c) (xs.take m) := by
  have e : (min (xs.length : Int) (m : Int)).toNat = min xs.length m := by omega
  rw [e]
  have := h.take (min xs.length m) (by omega)
  have e2 : xs.take (min xs.length m) = xs.take m := by
    rcases Nat.le_total xs.length m with h | h
    · rw [Nat.min_eq_left h, List.take_of_length_le h, List.take_of_length_le (Nat.le_refl _)]
    · rw [Nat.min_eq_right h]
  rwa [e2] at this

end Go.Proofs.Ytbfjacgfifecpaa

/-! ## Words bit by bit: turned, chosen, put together. -/
namespace Go.Proofs.Ytbfjacgfifecpaa
open Go.RowKit

theorem Row.int_at {w : World} {S : Nat → Prop} {A : Option Addr} {n c : Nat} {xs : List Int} (h : Row kInt w S (.slice A n c) xs) {i : Nat} (hi : i < xs.length) :
    ∃ b off, A = some ⟨b, off, none⟩ ∧ w.cell? ⟨b, off + i, none⟩ = some (.int .i64 xs[i]) := by
  have hn : n = xs.length := by obtain ⟨_, _, he, _⟩ := h.shape; injection he
  obtain ⟨b, off, rfl, x, cs, hx, hk, hc⟩ := h.at (i := i) (by omega)
  have hcs : cs = [.int .i64 x] := hk
  subst hcs
  refine ⟨b, off, rfl, ?_⟩
  have := hc 0 _ rfl
  have e : i * kInt.size + 0 = i := Nat.mul_one i
  rw [Nat.add_assoc, e] at this
  rw [this]
  rw [List.getElem?_eq_getElem hi] at hx
  injection hx with hx
  rw [hx]
theorem Row.len {α : Type} {k : Kd α} {w : World} {S : Nat → Prop} {A : Option Addr} {n c : Nat} {xs : List α} (h : Row k w S (.slice A n c) xs) : n = xs.length := by
  obtain ⟨_, _, he, _⟩ := h.shape; injection he

theorem Pairs.ints {w : World} {S : Nat → Prop} {xs : List Int} {css : List (List Value)} (h : Pairs kInt w S xs css) : css = xs.map fun x => [Value.int .i64 x] := by
  apply List.ext_getElem?
  intro i
  have hl := h.1
  rcases Nat.lt_or_ge i xs.length with hi | hi
  · have e : css[i]'(by omega) = [.int .i64 xs[i]] := h.2 i xs[i] _ (by simp [hi]) (by simp [show i < css.length by omega])
    simp [hi, show i < css.length by omega, e]
  · simp [hi, show css.length ≤ i by omega]
theorem flat_ints (xs : List Int) : (xs.map fun x => [Value.int .i64 x]).flatten = xs.map fun x => Value.int .i64 x := by
  induction xs with
  | nil => rfl
  | cons x xs ih => simp [ih]
theorem ints_pairs (w : World) (S : Nat → Prop) (xs : List Int) : Pairs kInt w S xs (xs.map fun x => [Value.int .i64 x]) :=
  ⟨by simp, fun i x cs hx hc => by simp [hx] at hc; exact hc.symm⟩
theorem Own.ints {e : TypeId} {w : World} {p : Option Nat} {B : Nat} {v : Value} {xs : List Int} (h : Own kInt e w p B v xs) : w.ownsRow B e 1 v xs.length (xs.map fun x => Value.int .i64 x) := by
  obtain ⟨css, h1, h2, _⟩ := h
  rw [h2.ints, flat_ints] at h1
  exact h1
theorem Own.of_ints {e : TypeId} {w : World} {p : Option Nat} {B : Nat} {v : Value} {xs : List Int} (h : w.ownsRow B e 1 v xs.length (xs.map fun x => Value.int .i64 x)) (hf : ∀ g, v.ownBlock = some g → ¬ foot w p g) : Own kInt e w p B v xs :=
  ⟨_, by rw [flat_ints]; exact h, ints_pairs _ _ _, hf⟩
theorem Own.form {α : Type} {k : Kd α} {e : TypeId} {w : World} {p : Option Nat} {B : Nat} {v : Value} {xs : List α} (h : Own k e w p B v xs) (hn : 0 < xs.length) : ∃ g c, v = .slice (some ⟨g, 0, none⟩) xs.length c ∧ xs.length ≤ c ∧ c ≤ maxLen := by
  obtain ⟨css, h1, _⟩ := h
  rcases h1.2 with ⟨_, h0⟩ | ⟨g, cap, _, hv, _, _, hc, hm, _⟩
  · omega
  · exact ⟨g, cap, hv, hc, hm⟩
theorem Own.cellAt {e : TypeId} {w : World} {p : Option Nat} {B g n c : Nat} {xs : List Int} (h : Own kInt e w p B (.slice (some ⟨g, 0, none⟩) n c) xs) {i : Nat} (hi : i < xs.length) : w.cell? ⟨g, i, none⟩ = some (.int .i64 xs[i]) ∧ w.frozen? ⟨g, i, none⟩ = false := by
  have h1 := h.ints
  have hn : n = xs.length := by obtain ⟨_, _, he, _⟩ := h.shape; injection he
  subst hn
  exact ⟨by rw [h1.cellAt i (by omega)]; simp [hi], h1.frozenAt i⟩
theorem Own.cellAt? {e : TypeId} {w : World} {p : Option Nat} {B g n c : Nat} {xs : List Int} (h : Own kInt e w p B (.slice (some ⟨g, 0, none⟩) n c) xs) {i : Nat} {r : Int} (hi : xs[i]? = some r) : w.cell? ⟨g, i, none⟩ = some (.int .i64 r) ∧ w.frozen? ⟨g, i, none⟩ = false := by
  obtain ⟨hl, rfl⟩ := List.getElem?_eq_some_iff.1 hi
  exact h.cellAt hl
/-- v[i] = r -/
theorem Own.store {e : TypeId} {w : World} {p : Option Nat} {B g n c : Nat} {xs : List Int} (h : Own kInt e w p B (.slice (some ⟨g, 0, none⟩) n c) xs) (hF : FootIn w p) (hB : B ≤ w.heap.size) (i : Nat) (r : Int) :
    Own kInt e (w.setCell ⟨g, i, none⟩ (.int .i64 r)) p B (.slice (some ⟨g, 0, none⟩) n c) (xs.set i r) ∧ w.grownBy (w.setCell ⟨g, i, none⟩ (.int .i64 r)) (some g) ∧ Kept B p w (w.setCell ⟨g, i, none⟩ (.int .i64 r)) ∧
      ∀ j, foot (w.setCell ⟨g, i, none⟩ (.int .i64 r)) p j ↔ foot w p j := by
  have hn : n = xs.length := by obtain ⟨_, _, he, _⟩ := h.shape; injection he
  subst hn
  have hs := h.ints.stored i (.int .i64 r)
  obtain ⟨hk, hfo⟩ := Kept.of_grown hs.2 hF hB fun g' hg => ⟨(h.base (g := g') hg).1, h.off hg⟩
  refine ⟨Own.of_ints ?_ (fun g' hg hf => h.off hg ((hfo _).1 hf)), hs.2, hk, hfo⟩
  rw [List.length_set, List.map_set]
  exact hs.1
/-- numbers that are owned can be read where their block is not in S -/
theorem Own.rowS {e : TypeId} {w : World} {p : Option Nat} {B : Nat} {v : Value} {xs : List Int} (h : Own kInt e w p B v xs) (S : Nat → Prop) (hS : ∀ g, v.ownBlock = some g → ¬ S g) : Row kInt w S v xs := by
  obtain ⟨A, c, css, rfl, r1, r2, r0, r3, r4⟩ := h.row (by decide) (Nat.le_refl _)
  refine ⟨A, c, css, rfl, r1, r2, r0, ⟨r3.1, fun i x cs hx hc => r3.2 i x cs hx hc⟩, fun hn => ?_⟩
  obtain ⟨b, off, rfl, q1, _, q3⟩ := r4 hn
  exact ⟨b, off, rfl, q1, hS b rfl, q3⟩

/-- read while the row X is written: neither the builder's, nor X's, nor later than B -/
def mayX (w : World) (p : Nat) (B : Nat) (X : Option Nat) (i : Nat) : Prop := B ≤ i ∨ foot w (some p) i ∨ X = some i
theorem Row.storeX {α : Type} {k : Kd α} {w w' : World} {p : Nat} {B : Nat} {X : Option Nat} {v : Value} {xs : List α} (h : Row k w (mayX w p B X) v xs) (hg : w.grownBy w' X) (hfo : ∀ j, foot w' (some p) j ↔ foot w (some p) j) : Row k w' (mayX w' p B X) v xs :=
  h.keep ⟨hg.size, fun i hi hn => hg.block i hi fun he => hn (.inr (.inr he.symm))⟩ fun i hi hm => by
    rcases hm with h | h | h
    · exact .inl h
    · exact .inr (.inl ((hfo i).1 h))
    · exact .inr (.inr h)
theorem Row.ofMay {α : Type} {k : Kd α} {w : World} {p : Nat} {B : Nat} {X : Option Nat} {v : Value} {xs : List α} (h : Row k w (may w (some p) B) v xs) (hX : ∀ g, X = some g → B ≤ g) : Row k w (mayX w p B X) v xs :=
  h.mono fun i _ hm => by
    rcases hm with h | h | h
    · exact .inl h
    · exact .inr h
    · exact .inl (hX i h)

theorem Row.drewX {α : Type} {k : Kd α} {w : World} {p : Nat} {B : Nat} {X : Option Nat} {v : Value} {xs : List α} (h : Row k w (mayX w p B X) v xs) : Row k w.drew (mayX w.drew p B X) v xs :=
  h.keep ⟨Nat.le_refl _, fun _ _ _ => rfl⟩ fun i hi hm => by
    rcases hm with h | h | h
    · exact .inl h
    · exact .inr (.inl ((foot_of_heap (w := w) (w' := w.drew) (fun _ _ => rfl) i).1 h))
    · exact .inr (.inr h)
/-- a word that is written place by place: what is done, and the rest -/
def partDone {σ : Type} (f : Int × Int → σ → Int × σ) (X Y : List Int) (k : Nat) (s : σ) : List Int := (mapS f ((X.zip Y).take k) s).1 ++ X.drop k
theorem partDone_length {σ : Type} (f : Int × Int → σ → Int × σ) (X Y : List Int) (k : Nat) (s : σ) (hk : k ≤ X.length) (hxy : X.length = Y.length) : (partDone f X Y k s).length = X.length := by
  simp [partDone, mapS_length]; omega
theorem partDone_at {σ : Type} (f : Int × Int → σ → Int × σ) (X Y : List Int) (k : Nat) (s : σ) (hk : k < X.length) (hxy : X.length = Y.length) : (partDone f X Y k s)[k]? = some X[k] := by
  have hl : (mapS f ((X.zip Y).take k) s).1.length = k := by simp [mapS_length]; omega
  unfold partDone
  rw [List.getElem?_append_right (by omega), hl, Nat.sub_self, List.getElem?_drop, Nat.add_zero, List.getElem?_eq_getElem hk]
theorem partDone_succ {σ : Type} (f : Int × Int → σ → Int × σ) (X Y : List Int) (k : Nat) (s : σ) (hk : k < X.length) (hxy : X.length = Y.length) :
    (partDone f X Y k s).set k (f (X[k], Y[k]) (mapS f ((X.zip Y).take k) s).2).1 = partDone f X Y (k + 1) s ∧ (f (X[k], Y[k]) (mapS f ((X.zip Y).take k) s).2).2 = (mapS f ((X.zip Y).take (k + 1)) s).2 := by
  have hz : k < (X.zip Y).length := by simp; omega
  have hl : (mapS f ((X.zip Y).take k) s).1.length = k := by simp [mapS_length]; omega
  have hs := mapS_take_succ f (X.zip Y) k hz s
  have he : (X.zip Y)[k] = (X[k], Y[k]) := by simp
  rw [he] at hs
  refine ⟨?_, by rw [hs]⟩
  unfold partDone
  rw [hs, List.set_append_right _ _ (by omega), hl, Nat.sub_self, List.drop_eq_getElem_cons hk, List.set_cons_zero, List.append_assoc]
  rfl
theorem partDone_all {σ : Type} (f : Int × Int → σ → Int × σ) (X Y : List Int) (s : σ) (hxy : X.length = Y.length) : partDone f X Y X.length s = (mapS f (X.zip Y) s).1 ∧ (mapS f ((X.zip Y).take X.length) s).2 = (mapS f (X.zip Y) s).2 := by
  have : (X.zip Y).take X.length = X.zip Y := List.take_of_length_le (by simp; omega)
  simp [partDone, this]

end Go.Proofs.Ytbfjacgfifecpaa
