/- Carries told ahead: what makes one and what passes one on, of stretches of places. Plain. -/
import Derived.Test.YtdljgifoboiaeaaSat
namespace Go.Proofs.Ytdljgifoboiaeaa

def comp2 (h l : Bool × Bool) : Bool × Bool := (h.1 || (h.2 && l.1), h.2 && l.2)
/-- places lo to lo + l, without lo + l: does a carry come out if none comes in; is one passed on -/
def gp (a b lo : Nat) : Nat → Bool × Bool
  | 0 => (false, true)
  | l + 1 => comp2 ((a.testBit (lo + l) && b.testBit (lo + l)), (a.testBit (lo + l) != b.testBit (lo + l))) (gp a b lo l)
theorem comp2_assoc (x y z : Bool × Bool) : comp2 (comp2 x y) z = comp2 x (comp2 y z) := by
  obtain ⟨a, b⟩ := x; obtain ⟨c, d⟩ := y; obtain ⟨e, f⟩ := z
  cases a <;> cases b <;> cases c <;> cases d <;> rfl
theorem comp2_unit (x : Bool × Bool) : comp2 (false, true) x = x := by obtain ⟨a, b⟩ := x; simp [comp2]
theorem gp_add (a b lo l1 l2 : Nat) : gp a b lo (l1 + l2) = comp2 (gp a b (lo + l1) l2) (gp a b lo l1) := by
  induction l2 with
  | zero => simp [gp, comp2_unit]
  | succ l2 ih => rw [← Nat.add_assoc, gp, ih, gp, comp2_assoc, Nat.add_assoc lo l1 l2]
/-- the window of w places that ends with place i -/
def win (a b w i : Nat) : Bool × Bool := gp a b (i + 1 - w) (i + 1 - (i + 1 - w))
theorem win_one (a b i : Nat) : win a b 1 i = ((a.testBit i && b.testBit i), (a.testBit i != b.testBit i)) := by
  have e : i + 1 - (i + 1 - 1) = 1 := by omega
  rw [win, e]
  simp [gp, comp2]
theorem win_double (a b w i : Nat) (h : w ≤ i) : win a b (w * 2) i = comp2 (win a b w i) (win a b w (i - w)) := by
  have e1 : i + 1 - (i + 1 - w) = w := by omega
  have e2 : i + 1 - (i + 1 - w * 2) = (i - w + 1 - (i - w + 1 - w)) + w := by omega
  have e3 : i + 1 - w * 2 = i - w + 1 - w := by omega
  have e4 : i + 1 - w = i - w + 1 - w + (i - w + 1 - (i - w + 1 - w)) := by omega
  rw [win, win, win, e2, e1, gp_add, e3, ← e4]
theorem win_short (a b w i : Nat) (h : i < w) : win a b (w * 2) i = win a b w i := by
  have e1 : i + 1 - w * 2 = 0 := by omega
  have e2 : i + 1 - w = 0 := by omega
  rw [win, win, e1, e2]
theorem win_all (a b w i : Nat) (h : i < w) : win a b w i = gp a b 0 (i + 1) := by
  have e2 : i + 1 - w = 0 := by omega
  rw [win, e2]; rfl
/-- the carry into place k, of a carry into place 0 -/
def carryIn (a b : Nat) (c : Bool) (k : Nat) : Bool := (gp a b 0 k).1 || ((gp a b 0 k).2 && c)
theorem carryIn_zero (a b : Nat) (c : Bool) : carryIn a b c 0 = c := by simp [carryIn, gp]
theorem carryIn_succ (a b : Nat) (c : Bool) (k : Nat) : carryIn a b c (k + 1) = ((a.testBit k && b.testBit k) || ((a.testBit k != b.testBit k) && carryIn a b c k)) := by
  unfold carryIn
  rw [gp, Nat.zero_add]
  generalize gp a b 0 k = q
  obtain ⟨g, p⟩ := q
  simp only [comp2]
  cases a.testBit k <;> cases b.testBit k <;> cases g <;> cases p <;> cases c <;> rfl
/-- a full adder -/
theorem rip_step {S k a b c0 : Nat} {c : Bool} (h : S + 2 ^ k * c.toNat = a % 2 ^ k + b % 2 ^ k + c0) :
    S + 2 ^ k * ((a.testBit k != b.testBit k) != c).toNat + 2 ^ (k + 1) * ((a.testBit k && b.testBit k) || ((a.testBit k != b.testBit k) && c)).toNat = a % 2 ^ (k + 1) + b % 2 ^ (k + 1) + c0 := by
  rw [mod_succ, mod_succ, Nat.pow_succ]
  cases a.testBit k <;> cases b.testBit k <;> cases c <;> simp at h ⊢ <;> omega
end Go.Proofs.Ytdljgifoboiaeaa
