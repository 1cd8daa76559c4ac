/- A net's values, cycle by cycle: slipstickref07. -/
import Derived.Test.YtdljgifoboiaeaaFormed
namespace Go.Proofs.Ytdljgifoboiaeaa
open Go.RowKit

def b2i (b : Bool) : Int := if b then 1 else 0
theorem b2i_bd (b : Bool) : 0 ≤ b2i b ∧ b2i b ≤ 1 := by cases b <;> decide
def at_ (vs : List Bool) (i : Int) : Bool := vs.getD i.toNat false
def gateB (x : Node) (vs : List Bool) : Bool :=
  if x.kind = 2 then !at_ vs x.a else if x.kind = 3 then at_ vs x.a && at_ vs x.b else if x.kind = 4 then at_ vs x.a || at_ vs x.b
  else if x.kind = 5 then at_ vs x.a != at_ vs x.b else if at_ vs x.c then at_ vs x.b else at_ vs x.a

/-- numbers 0 and 1 that are read -/
theorem Row.b2i_at {w : World} {S : Nat → Prop} {A : Option Addr} {n c : Nat} {vs : List Bool} (h : Row kInt w S (.slice A n c) (vs.map b2i)) {i : Nat} (hi : i < vs.length) :
    ∃ b off, A = some ⟨b, off, none⟩ ∧ w.cell? ⟨b, off + i, none⟩ = some (.int .i64 (b2i (at_ vs i))) := by
  obtain ⟨b, off, rfl, hc⟩ := h.int_at (i := i) (by simpa using hi)
  refine ⟨b, off, rfl, ?_⟩
  rw [hc]
  simp [at_, hi]

theorem b2i_sub (b : Bool) : 1 - b2i b = b2i (!b) := by cases b <;> rfl
theorem b2i_min (a b : Bool) : min (b2i a) (b2i b) = b2i (a && b) := by cases a <;> cases b <;> rfl
theorem b2i_max (a b : Bool) : max (b2i a) (b2i b) = b2i (a || b) := by cases a <;> cases b <;> rfl
theorem b2i_xor (a b : Bool) : (b2i a + b2i b) % 2 = b2i (a != b) := by cases a <;> cases b <;> rfl
theorem b2i_eq (a : Bool) : (b2i a == 1) = a := by cases a <;> rfl

set_option maxHeartbeats 4000000 in
attribute [local go_sem] max2_int min2_int max_two min_two in
theorem gate_ref (w : World) (S : Nat → Prop) (x : Node) (v : Value) (vs : List Bool) (hx : Row kInt w S v (vs.map b2i)) (hk : 2 ≤ x.kind ∧ x.kind ≤ 6) (hu : ∀ u, u ∈ usesR x → 0 ≤ u ∧ u < vs.length) (hl : vs.length ≤ 1099511627776) :
    Calls Try.prog 129 #[.agg #[.int .i64 x.kind, .int .i64 x.a, .int .i64 x.b, .int .i64 x.c], v] w fun e w' => e = .returned (.int .i64 (b2i (gateB x vs))) ∧ Below w.heap.size w w' := by
  obtain ⟨kind, a, b, c⟩ := x
  obtain ⟨A, cc, rfl, -, -⟩ := hx.shape
  have hml : (vs.map b2i).length = vs.length := by simp
  have hbx : Below w.heap.size w (w.alloc (.cells #[.int .i64 kind, .int .i64 a, .int .i64 b, .int .i64 c] 117)) := (Below.refl _ _).alloc (Nat.le_refl _) _
  have hxd := hx.later hbx
  rw [hml] at hx hxd ⊢
  have hkk : kind = 2 ∨ kind = 3 ∨ kind = 4 ∨ kind = 5 ∨ kind = 6 := by simp only at hk; omega
  have HBX := Lib.hid hbx
  clear hk hml hbx hx
  rcases hkk with rfl | rfl | rfl | rfl | rfl
  · have h1 := hu a (by simp [usesR, many])
    obtain ⟨i, rfl⟩ := Int.eq_ofNat_of_zero_le h1.1
    obtain ⟨b1, o1, rfl, z0⟩ := hxd.b2i_at (i := i) (by omega)
    have hi : i < vs.length := by omega
    have hbd := b2i_bd (at_ vs i)
    have HG : Hid (1 - b2i (at_ vs i) = b2i (gateB ⟨2, i, b, c⟩ vs)) := b2i_sub _
    obtain ⟨hb0, hb1⟩ := hbd
    clear hu hxd h1
    generalize b2i (at_ vs (i : Int)) = y at *
    go_enter Try.func129, Try.ntmps129
    go_wp2
    go_ret
    exact ⟨by rw [← HG.out]; rfl, HBX.out⟩
  · have h1 := hu a (by simp [usesR, many])
    have h2 := hu b (by simp [usesR, many])
    obtain ⟨i, rfl⟩ := Int.eq_ofNat_of_zero_le h1.1
    obtain ⟨j, rfl⟩ := Int.eq_ofNat_of_zero_le h2.1
    obtain ⟨b1, o1, rfl, z0⟩ := hxd.b2i_at (i := i) (by omega)
    obtain ⟨b2, o2, he, z1⟩ := hxd.b2i_at (i := j) (by omega)
    injection he with he; injection he with e1 e2; subst e1; subst e2
    have hi : i < vs.length := by omega
    have hj : j < vs.length := by omega
    have HG : Hid (min (b2i (at_ vs i)) (b2i (at_ vs j)) = b2i (gateB ⟨3, i, j, c⟩ vs)) := b2i_min _ _
    clear hu hxd h1 h2
    generalize b2i (at_ vs (i : Int)) = y at *
    generalize b2i (at_ vs (j : Int)) = y2 at *
    go_enter Try.func129, Try.ntmps129
    go_wp2_with fail
    go_quiet (fail)
    go_wp2
    go_ret
    exact ⟨by rw [← HG.out]; rfl, HBX.out.trans ((pw_drewN _ _).mono (by simp))⟩
  · have h1 := hu a (by simp [usesR, many])
    have h2 := hu b (by simp [usesR, many])
    obtain ⟨i, rfl⟩ := Int.eq_ofNat_of_zero_le h1.1
    obtain ⟨j, rfl⟩ := Int.eq_ofNat_of_zero_le h2.1
    obtain ⟨b1, o1, rfl, z0⟩ := hxd.b2i_at (i := i) (by omega)
    obtain ⟨b2, o2, he, z1⟩ := hxd.b2i_at (i := j) (by omega)
    injection he with he; injection he with e1 e2; subst e1; subst e2
    have hi : i < vs.length := by omega
    have hj : j < vs.length := by omega
    have HG : Hid (max (b2i (at_ vs i)) (b2i (at_ vs j)) = b2i (gateB ⟨4, i, j, c⟩ vs)) := b2i_max _ _
    clear hu hxd h1 h2
    generalize b2i (at_ vs (i : Int)) = y at *
    generalize b2i (at_ vs (j : Int)) = y2 at *
    go_enter Try.func129, Try.ntmps129
    go_wp2_with fail
    go_quiet (fail)
    go_wp2
    go_ret
    exact ⟨by rw [← HG.out]; rfl, HBX.out.trans ((pw_drewN _ _).mono (by simp))⟩
  · have h1 := hu a (by simp [usesR, many])
    have h2 := hu b (by simp [usesR, many])
    obtain ⟨i, rfl⟩ := Int.eq_ofNat_of_zero_le h1.1
    obtain ⟨j, rfl⟩ := Int.eq_ofNat_of_zero_le h2.1
    obtain ⟨b1, o1, rfl, z0⟩ := hxd.b2i_at (i := i) (by omega)
    obtain ⟨b2, o2, he, z1⟩ := hxd.b2i_at (i := j) (by omega)
    injection he with he; injection he with e1 e2; subst e1; subst e2
    have hi : i < vs.length := by omega
    have hj : j < vs.length := by omega
    have HG : Hid ((b2i (at_ vs i) + b2i (at_ vs j)) % 2 = b2i (gateB ⟨5, i, j, c⟩ vs)) := b2i_xor _ _
    obtain ⟨q1, q2⟩ := b2i_bd (at_ vs i)
    obtain ⟨q3, q4⟩ := b2i_bd (at_ vs j)
    clear hu hxd h1 h2
    generalize b2i (at_ vs (i : Int)) = y at *
    generalize b2i (at_ vs (j : Int)) = y2 at *
    have e1 : IntKind.i64.wrap (y + y2) = y + y2 := IntWalk.i64_in _ (by omega)
    have e2 : (y + y2).tmod 2 = (y + y2) % 2 := by rw [Int.tmod_eq_emod_of_nonneg (by omega)]
    go_enter Try.func129, Try.ntmps129
    go_wp2_with fail
    go_quiet (fail)
    go_wp2
    go_ret
    exact ⟨by rw [← HG.out]; rfl, HBX.out.trans ((pw_drewN _ _).mono (by simp))⟩
  · have h1 := hu a (by simp [usesR, many])
    have h2 := hu b (by simp [usesR, many])
    have h3 := hu c (by simp [usesR, many])
    obtain ⟨i, rfl⟩ := Int.eq_ofNat_of_zero_le h1.1
    obtain ⟨j, rfl⟩ := Int.eq_ofNat_of_zero_le h2.1
    obtain ⟨k, rfl⟩ := Int.eq_ofNat_of_zero_le h3.1
    obtain ⟨b1, o1, rfl, z0⟩ := hxd.b2i_at (i := i) (by omega)
    obtain ⟨b2, o2, he, z1⟩ := hxd.b2i_at (i := j) (by omega)
    injection he with he; injection he with e1 e2; subst e1; subst e2
    obtain ⟨b2, o2, he, z2⟩ := hxd.b2i_at (i := k) (by omega)
    injection he with he; injection he with e1 e2; subst e1; subst e2
    have hi : i < vs.length := by omega
    have hj : j < vs.length := by omega
    have hk : k < vs.length := by omega
    have HG : Hid (b2i (if at_ vs k then at_ vs j else at_ vs i) = b2i (gateB ⟨6, i, j, k⟩ vs)) := rfl
    clear hu hxd h1 h2 h3
    generalize at_ vs (i : Int) = y at *
    generalize at_ vs (j : Int) = y2 at *
    generalize at_ vs (k : Int) = y3 at *
    cases y3
    all_goals
      simp only [show b2i false = 0 from rfl, show b2i true = 1 from rfl] at z2
      go_enter Try.func129, Try.ntmps129
      go_wp2
      go_ret
      exact ⟨by rw [← HG.out]; rfl, HBX.out⟩
end Go.Proofs.Ytdljgifoboiaeaa
