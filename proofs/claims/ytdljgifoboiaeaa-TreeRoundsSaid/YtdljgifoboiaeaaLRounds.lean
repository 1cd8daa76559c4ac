/- slipsticklaw15.TreeRounds, walked. -/
import Derived.Test.YtdljgifoboiaeaaL15
namespace Go.Proofs.Ytdljgifoboiaeaa
open Go.RowKit

set_option maxHeartbeats 4000000 in
set_option maxRecDepth 100000 in
theorem treeRounds_walk (w : World) (a : Nat) (ha : a < 65536) :
    Calls Try.prog 6 #[.int .u16 a] w fun e w' => e = .returned (.bool true) ∧ Below w.heap.size w w' := by
  obtain ⟨n, hn⟩ : ∃ n : Nat, (a : Int) % 60000 = n := ⟨a % 60000, by omega⟩
  have hnl : n < 60000 := by omega
  obtain ⟨n1, hn1⟩ : ∃ n1 : Nat, (n : Int) + 1 = n1 := ⟨n + 1, by omega⟩
  obtain ⟨r0, hr0⟩ : ∃ r0, rounds n = r0 := ⟨_, rfl⟩
  obtain ⟨r1, hr1⟩ : ∃ r1, rounds n1 = r1 := ⟨_, rfl⟩
  have h1 : r0 ≤ r1 := by rw [← hr0, ← hr1]; exact rounds_mono _ _ (by omega)
  have h2 : r1 ≤ r0 + 1 := by
    have := rounds_succ n
    rw [show n + 1 = n1 by omega] at this
    omega
  have hb0 := rounds_bd n
  have hb1 := rounds_bd n1
  have HR0 := Lib.hid hr0
  have HR1 := Lib.hid hr1
  have e1 : (0 : Int) ≤ (r0 : Int) := by omega
  have e2 : (r0 : Int) ≤ (r1 : Int) := by omega
  have e3 : (r1 : Int) ≤ (r0 : Int) + 1 := by omega
  rw [hr0] at hb0
  rw [hr1] at hb1
  clear hr0 hr1
  by_cases h3 : n < 3
  · have e4 : decide ((n : Int) < 3) = true := by simp; omega
    go_enter Try.func6, Try.ntmps6
    go_wp2_with fail
    refine (awake15 w).mono ?_
    rintro e w1 ⟨rfl, hb1⟩
    have HB1 := Lib.hid hb1
    clear hb1
    go_wp2_with fail
    refine (rounds_calls _ n (by omega)).mono ?_
    rintro e w2 ⟨rfl, rfl⟩
    rw [HR0.out]
    go_wp2_with fail
    refine (rounds_calls _ n1 (by omega)).mono ?_
    rintro e w3 ⟨rfl, rfl⟩
    rw [HR1.out]
    go_wp2_with fail
    refine (rounds_neg _ _ (by omega)).mono ?_
    rintro e w4 ⟨rfl, rfl⟩
    go_wp2
    go_ret
    exact ⟨rfl, HB1.out⟩
  · have e4 : decide ((n : Int) < 3) = false := by simp; omega
    obtain ⟨n3, hn3⟩ : ∃ n3 : Nat, (n : Int) - (n : Int) / 3 = n3 := ⟨n - n / 3, by omega⟩
    obtain ⟨r2, hr2⟩ : ∃ r2, rounds n3 = r2 := ⟨_, rfl⟩
    have hb2 := rounds_bd n3
    have hrr : r0 = 1 + r2 := by
      have := rounds_gt (n := n) (by omega)
      rw [show n - n / 3 = n3 by omega, hr2] at this
      have := HR0.out
      omega
    have HR2 := Lib.hid hr2
    rw [hr2] at hb2
    subst hrr
    clear hr2
    go_enter Try.func6, Try.ntmps6
    go_wp2_with fail
    refine (awake15 w).mono ?_
    rintro e w1 ⟨rfl, hb1⟩
    have HB1 := Lib.hid hb1
    clear hb1
    go_wp2_with fail
    refine (rounds_calls _ n (by omega)).mono ?_
    rintro e w2 ⟨rfl, rfl⟩
    rw [HR0.out]
    go_wp2_with fail
    refine (rounds_calls _ n1 (by omega)).mono ?_
    rintro e w3 ⟨rfl, rfl⟩
    rw [HR1.out]
    go_wp2_with fail
    refine (rounds_neg _ _ (by omega)).mono ?_
    rintro e w4 ⟨rfl, rfl⟩
    go_wp2_with fail
    refine (rounds_calls _ n3 (by omega)).mono ?_
    rintro e w5 ⟨rfl, rfl⟩
    rw [HR2.out]
    go_wp2
    go_ret
    exact ⟨rfl, HB1.out⟩
end Go.Proofs.Ytdljgifoboiaeaa
