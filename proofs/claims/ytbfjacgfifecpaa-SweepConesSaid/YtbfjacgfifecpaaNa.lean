/- net: Uses, plain. -/
import Derived.Test.YtbfjacgfifecpaaKR07
namespace Go.Proofs.Ytbfjacgfifecpaa
open Go.RowKit

abbrev nodeV (x : Node) : Value := .agg #[.int .i64 x.kind, .int .i64 x.a, .int .i64 x.b, .int .i64 x.c]
theorem nilRowInt (w : World) (S : Nat → Prop) : Row kInt w S (.slice none 0 0) [] := ⟨none, 0, [], rfl, Nat.le_refl _, by simp [maxLen], fun _ => rfl, Pairs.nil _ _ _, fun h => by simp at h⟩

theorem uses_net (w : World) (S : Nat → Prop) (hS : There S w) (x : Node) :
    Calls Try.prog 23 #[nodeV x] w fun e w' => ∃ v', e = .returned v' ∧ Row kInt w' S v' (usesR x) ∧ Below w.heap.size w w' := by
  obtain ⟨k, a, b, c⟩ := x
  have hb1 : ∀ k, Below w.heap.size w (w.alloc (.cells #[.int .i64 k, .int .i64 a, .int .i64 b, .int .i64 c] 38)) := fun k => (Below.refl _ _).alloc (Nat.le_refl _) _
  have hlit : ∀ (k : Int) (l : List Int), l.length ≤ 3 → Row kInt ((w.alloc (.cells #[.int .i64 k, .int .i64 a, .int .i64 b, .int .i64 c] 38)).alloc (.cells (l.map fun x => Value.int .i64 x).toArray 3)) S (.slice (some ⟨(w.alloc (.cells #[.int .i64 k, .int .i64 a, .int .i64 b, .int .i64 c] 38)).heap.size, 0, none⟩) l.length l.length) l := fun k l hl => (lit_ints _ l (by omega)).nums (hS.later (by simp))
  have hb2 : ∀ k (o : Obj), Below w.heap.size w ((w.alloc (.cells #[.int .i64 k, .int .i64 a, .int .i64 b, .int .i64 c] 38)).alloc o) := fun k o => (hb1 k).alloc (by simp) _
  have HB1 := Lib.hid hb1
  have HB2 := Lib.hid hb2
  have HL := Lib.hid hlit
  clear hb1 hb2 hlit
  have hk : k = 2 ∨ k = 7 ∨ k = 3 ∨ k = 4 ∨ k = 5 ∨ k = 6 ∨ (k ≠ 2 ∧ k ≠ 7 ∧ k ≠ 3 ∧ k ≠ 4 ∧ k ≠ 5 ∧ k ≠ 6) := by omega
  rcases hk with rfl | rfl | rfl | rfl | rfl | rfl | ⟨h2, h7, h3, h4, h5, h6⟩
  · go_enter Try.func23, Try.ntmps23
    go_wp2
    go_ret
    have h := HL.out 2 [a] (by simp)
    exact ⟨_, rfl, by rw [show usesR ⟨2, a, b, c⟩ = [a] by simp [usesR, many]]; simpa using h, HB2.out _ _⟩
  · go_enter Try.func23, Try.ntmps23
    go_wp2
    go_ret
    have h := HL.out 7 [a] (by simp)
    exact ⟨_, rfl, by rw [show usesR ⟨7, a, b, c⟩ = [a] by simp [usesR, many]]; simpa using h, HB2.out _ _⟩
  · go_enter Try.func23, Try.ntmps23
    go_wp2
    go_ret
    have h := HL.out 3 [a, b] (by simp)
    exact ⟨_, rfl, by rw [show usesR ⟨3, a, b, c⟩ = [a, b] by simp [usesR, many]]; simpa using h, HB2.out _ _⟩
  · go_enter Try.func23, Try.ntmps23
    go_wp2
    go_ret
    have h := HL.out 4 [a, b] (by simp)
    exact ⟨_, rfl, by rw [show usesR ⟨4, a, b, c⟩ = [a, b] by simp [usesR, many]]; simpa using h, HB2.out _ _⟩
  · go_enter Try.func23, Try.ntmps23
    go_wp2
    go_ret
    have h := HL.out 5 [a, b] (by simp)
    exact ⟨_, rfl, by rw [show usesR ⟨5, a, b, c⟩ = [a, b] by simp [usesR, many]]; simpa using h, HB2.out _ _⟩
  · go_enter Try.func23, Try.ntmps23
    go_wp2
    go_ret
    have h := HL.out 6 [a, b, c] (by simp)
    exact ⟨_, rfl, by rw [show usesR ⟨6, a, b, c⟩ = [a, b, c] by simp [usesR, many]]; simpa using h, HB2.out _ _⟩
  · have hu : usesR ⟨k, a, b, c⟩ = [] := by
      unfold usesR many
      by_cases h01 : k = 0 ∨ k = 1
      · simp [h01]
      · simp [h01, h2, h7, h3, h4, h5, h6]
    have e2 : (k == 2) = false := by simpa using h2
    have e3 : (k == 3) = false := by simpa using h3
    have e4 : (k == 4) = false := by simpa using h4
    have e5 : (k == 5) = false := by simpa using h5
    have e6 : (k == 6) = false := by simpa using h6
    have e7 : (k == 7) = false := by simpa using h7
    have HU := Lib.hid hu
    clear hu h2 h3 h4 h5 h6 h7
    go_enter Try.func23, Try.ntmps23
    go_wp2
    go_ret
    exact ⟨_, rfl, by rw [HU.out]; exact nilRowInt _ _, HB1.out _⟩

/-- the lowest bit of a whole number -/
def and1 (a : Int) : Int := a % 2
theorem and1_eq (a : Int) : (and1 a = a) ↔ (a = 0 ∨ a = 1) := by unfold and1; omega
theorem bits_and_one (a : Int) : bits .and .i64 a 1 = a % 2 := by
  show IntKind.i64.wrap ((BitVec.ofInt 64 a &&& BitVec.ofInt 64 1).toNat : Int) = _
  rw [BitVec.toNat_and, BitVec.toNat_ofInt, show (BitVec.ofInt 64 1).toNat = 1 from rfl, Nat.and_one_is_mod, IntKind.wrap_i64]
  omega
def plainN (x : Node) : Node :=
  if x.kind = 0 then ⟨0, and1 x.a, 0, 0⟩ else if x.kind = 7 then ⟨7, x.a, and1 x.b, 0⟩ else if x.kind = 2 then ⟨2, x.a, 0, 0⟩
  else if x.kind = 3 ∨ x.kind = 4 ∨ x.kind = 5 then ⟨x.kind, x.a, x.b, 0⟩ else if x.kind = 6 then x else ⟨x.kind, 0, 0, 0⟩
theorem plain_net (w : World) (x : Node) :
    Calls Try.prog 83 #[nodeV x] w fun e w' => e = .returned (nodeV (plainN x)) ∧ Below w.heap.size w w' := by
  obtain ⟨k, a, b, c⟩ := x
  have hb : ∀ (o o' : Obj), Below w.heap.size w ((w.alloc o).alloc o') := fun o o' => ((Below.refl _ _).alloc (Nat.le_refl _) _).alloc (by simp) _
  have HB := Lib.hid hb
  clear hb
  have hk : k = 0 ∨ k = 7 ∨ k = 2 ∨ k = 3 ∨ k = 4 ∨ k = 5 ∨ k = 6 ∨ (k ≠ 0 ∧ k ≠ 2 ∧ k ≠ 7 ∧ k ≠ 3 ∧ k ≠ 4 ∧ k ≠ 5 ∧ k ≠ 6) := by omega
  rcases hk with rfl | rfl | rfl | rfl | rfl | rfl | rfl | ⟨h0, h2, h7, h3, h4, h5, h6⟩
  · go_enter Try.func83, Try.ntmps83
    go_wp2
    refine bodyPost_ret (v := nodeV (plainN ⟨0, a, b, c⟩)) (by simp [results, Try.results83, go_sem, plainN, and1, bits_and_one]) rfl ⟨rfl, HB.out _ _⟩
  · go_enter Try.func83, Try.ntmps83
    go_wp2
    refine bodyPost_ret (v := nodeV (plainN ⟨7, a, b, c⟩)) (by simp [results, Try.results83, go_sem, plainN, and1, bits_and_one]) rfl ⟨rfl, HB.out _ _⟩
  · go_enter Try.func83, Try.ntmps83
    go_wp2
    refine bodyPost_ret (v := nodeV (plainN ⟨2, a, b, c⟩)) (by simp [results, Try.results83, go_sem, plainN]) rfl ⟨rfl, HB.out _ _⟩
  · go_enter Try.func83, Try.ntmps83
    go_wp2
    refine bodyPost_ret (v := nodeV (plainN ⟨3, a, b, c⟩)) (by simp [results, Try.results83, go_sem, plainN]) rfl ⟨rfl, HB.out _ _⟩
  · go_enter Try.func83, Try.ntmps83
    go_wp2
    refine bodyPost_ret (v := nodeV (plainN ⟨4, a, b, c⟩)) (by simp [results, Try.results83, go_sem, plainN]) rfl ⟨rfl, HB.out _ _⟩
  · go_enter Try.func83, Try.ntmps83
    go_wp2
    refine bodyPost_ret (v := nodeV (plainN ⟨5, a, b, c⟩)) (by simp [results, Try.results83, go_sem, plainN]) rfl ⟨rfl, HB.out _ _⟩
  · go_enter Try.func83, Try.ntmps83
    go_wp2
    refine bodyPost_ret (v := nodeV (plainN ⟨6, a, b, c⟩)) (by simp [results, Try.results83, go_sem, plainN]) rfl ⟨rfl, HB.out _ _⟩
  · have e0 : (k == 0) = false := by simpa using h0
    have e2 : (k == 2) = false := by simpa using h2
    have e3 : (k == 3) = false := by simpa using h3
    have e4 : (k == 4) = false := by simpa using h4
    have e5 : (k == 5) = false := by simpa using h5
    have e6 : (k == 6) = false := by simpa using h6
    have e7 : (k == 7) = false := by simpa using h7
    have hp : plainN ⟨k, a, b, c⟩ = ⟨k, 0, 0, 0⟩ := by simp [plainN, h0, h2, h3, h4, h5, h6, h7]
    have HP := Lib.hid hp
    clear hp h0 h2 h3 h4 h5 h6 h7
    go_enter Try.func83, Try.ntmps83
    go_wp2
    refine bodyPost_ret (v := nodeV ⟨k, 0, 0, 0⟩) (by simp [results, Try.results83, go_sem]) rfl ⟨by rw [HP.out], HB.out _ _⟩
end Go.Proofs.Ytbfjacgfifecpaa
