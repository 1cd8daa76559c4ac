/- tree.Total, tree.Rounds. -/
import Derived.Test.YtdljgifoboiaeaaTwo
namespace Go.Proofs.Ytdljgifoboiaeaa
open Go.RowKit

section
variable {C : World → Prop} {p X : Nat} {st0 st : BSt} {w : World} {N : Nat} {L : List Ent} {K : (Int → Bool) → Prop}

theorem Env.total (E : Env C p X st0 w st N L K) {v : Value} {xss : List (List Int)} (m : Nat) (hm : 0 < m ∧ m ≤ 900) (hx : Ent.words v xss ∈ L) (hl : xss.length ≤ 500) (hN : N + 50000000 < 1099511627776) :
    Calls Try.prog 50 #[.pointer (some ⟨p, 0, none⟩), v, .int .i64 m] w (ToldW C p st0 st w (N + 50000000) L K m fun V r => numV V r = sumV V xss % 2 ^ m) := by
  have E0 := E
  go_enter Try.func50, Try.ntmps50
  go_wp2_with fail
  refine (E.mark.two m hm hx hl (by omega)).mono ?_
  rintro e w1 ⟨v1, r1, v2, r2, st1, h1, h2, rfl, k1, x1, E⟩
  go_wp2_with fail
  refine (E.bit 0 (by omega)).mono ?_
  rintro e w2 ⟨c, st2, rfl, k2, x2, E⟩
  go_wp2_with fail
  refine (E.prefix (xs := r1) (ys := r2) (by repeat with_reducible first | apply mem_hd | assumption | apply mem_tl) (by repeat with_reducible first | apply mem_hd | assumption | apply mem_tl) (by repeat with_reducible first | apply mem_hd | assumption | apply mem_tl) (by omega)).mono ?_
  rintro e w3 ⟨v3, r3, c3, st3, h3, rfl, k3, x3, f3, E⟩
  have E1 := (E.only (L' := .word v3 r3 :: L) (by repeat with_reducible first | refine sub_cons (by repeat with_reducible first | apply mem_hd | assumption | apply mem_tl) ?_ | exact sub_nil | apply sub_refl | apply sub_tail)).cntle (N' := N + 50000000) (by omega)
  rw [h1.out, h2.out, Nat.max_self] at h3
  clear E
  go_wp2
  go_ret
  exact ⟨v3, r3, st3, h3, rfl, E1.c.2, E1.ext, f3.lower (Nat.le_trans k1.size k2.size), (E1.done E0).know fun V ⟨⟨⟨h, a1⟩, a2⟩, a3⟩ => ⟨h, by
    dsimp only
    rw [h1.out, h2.out, Nat.max_self, a2] at a3
    have hr := numV_lt V r3
    rw [h3.out] at hr
    rw [← a1]
    have e : numV V r1 + numV V r2 = numV V r3 + 2 ^ m * (V c3).toNat := by rw [a3]; simp
    rw [e, Nat.add_mul_mod_self_left, Nat.mod_eq_of_lt hr]⟩⟩
end

/-- how many rounds -/
def roundsN : Nat → Nat → Nat
  | 0, _ => 0
  | k + 1, n => if n ≤ 2 then 0 else 1 + roundsN k (n - n / 3)
def rounds (n : Nat) : Nat := roundsN n n
theorem roundsN_enough : ∀ (k n : Nat), n ≤ k → roundsN k n = roundsN n n
  | k, n => by
    induction n using Nat.strongRecOn generalizing k with
    | _ n ih =>
      intro h
      rcases n with _ | n
      · cases k <;> simp [roundsN]
      · rcases k with _ | k
        · omega
        · rw [roundsN, roundsN]
          split
          · rfl
          · rw [ih (n + 1 - (n + 1) / 3) (by omega) k (by omega), ih (n + 1 - (n + 1) / 3) (by omega) n (by omega)]
theorem rounds_le {n : Nat} (h : n ≤ 2) : rounds n = 0 := by
  rcases n with _ | n
  · rfl
  · rw [rounds, roundsN, if_pos h]
theorem rounds_gt {n : Nat} (h : 2 < n) : rounds n = 1 + rounds (n - n / 3) := by
  obtain ⟨k, rfl⟩ : ∃ k, n = k + 1 := ⟨n - 1, by omega⟩
  rw [rounds, roundsN, if_neg (by omega), roundsN_enough k _ (by omega)]; rfl
theorem rounds_mono : ∀ (n m : Nat), n ≤ m → rounds n ≤ rounds m := by
  intro n m
  induction m using Nat.strongRecOn generalizing n with
  | _ m ih =>
    intro h
    by_cases h2 : n ≤ 2
    · rw [rounds_le h2]; omega
    · rw [rounds_gt (by omega), rounds_gt (show 2 < m by omega)]
      have := ih (m - m / 3) (by omega) (n - n / 3) (by omega)
      omega
theorem rounds_succ (n : Nat) : rounds (n + 1) ≤ rounds n + 1 := by
  by_cases h : n + 1 ≤ 2
  · rw [rounds_le h]; omega
  · rw [rounds_gt (by omega)]
    have := rounds_mono (n + 1 - (n + 1) / 3) n (by omega)
    omega
theorem rounds_bd (n : Nat) : rounds n ≤ n := by
  induction n using Nat.strongRecOn with
  | _ n ih =>
    by_cases h : n ≤ 2
    · rw [rounds_le h]; omega
    · rw [rounds_gt (by omega)]
      have := ih (n - n / 3) (by omega)
      omega

theorem rounds_calls (w : World) (n : Nat) (hn : n ≤ 1000000) : Calls Try.prog 47 #[.int .i64 n] w fun e w' => e = .returned (.int .i64 (rounds n)) ∧ w = w' := by
  go_enter Try.func47, Try.ntmps47
  go_wp2
  go_loop [0, 3] (fun a b => ∃ r k : Nat, a = .int .i64 r ∧ b = .int .i64 k ∧ r ≤ n ∧ k + r ≤ n + r ∧ k ≤ n ∧ Hid (k + rounds r = rounds n)) (fun a _ => (intOf a).toNat)
  case atStart => exact ⟨n, 0, rfl, rfl, Nat.le_refl _, by omega, by omega, Lib.hid (by omega)⟩
  case round =>
    obtain ⟨r, k, rfl, rfl, hr, hk, hk2, HR⟩ := hrel
    by_cases h : 2 < r
    · have hb := rounds_gt h
      have HB := Lib.hid hb
      have hbd := rounds_bd n
      have hkn : k + 1 ≤ n := by have := HR.out; omega
      clear hb
      have h2 : (2 : Int) < r := by omega
      go_wp2
      go_round
      case rel => exact ⟨r - r / 3, k + 1, by go_num, by go_num, by omega, by omega, hkn, Lib.hid (by have := HR.out; have := HB.out; omega)⟩
      case measure => simp [intOf]; omega
    · have hz := rounds_le (n := r) (by omega)
      have h2 : ¬ (2 : Int) < r := by omega
      have hkk : Hid (k = rounds n) := Lib.hid (by have := HR.out; omega)
      go_wp2
      go_ret
      exact ⟨by rw [hkk.out]; rfl, rfl⟩
theorem rounds_neg (w : World) (n : Int) (hn : n ≤ 2) : Calls Try.prog 47 #[.int .i64 n] w fun e w' => e = .returned (.int .i64 0) ∧ w = w' := by
  have h2 : decide ((2 : Int) < n) = false := by simp; omega
  go_enter Try.func47, Try.ntmps47
  go_wp2
  go_loop [0, 3] (fun a b => a = .int .i64 n ∧ b = .int .i64 0) (fun _ _ => 0)
  case atStart => exact ⟨rfl, rfl⟩
  case round =>
    obtain ⟨rfl, rfl⟩ := hrel
    go_wp2
    go_ret
    exact ⟨rfl, rfl⟩
end Go.Proofs.Ytdljgifoboiaeaa
