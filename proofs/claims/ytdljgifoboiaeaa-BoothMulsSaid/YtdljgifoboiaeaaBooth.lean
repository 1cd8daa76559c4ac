/- booth: bit, Digit, Row, Plain. -/
import Derived.Test.YtdljgifoboiaeaaShift
import Derived.Test.YtdljgifoboiaeaaTotal
namespace Go.Proofs.Ytdljgifoboiaeaa
open Go.RowKit

/-- a number's bit; ahead of it is 0 -/
def bitZ (n : Nat) (i : Int) : Bool := !decide (i < 0) && n.testBit i.toNat
theorem bitZ_neg {n : Nat} {i : Int} (h : i < 0) : bitZ n i = false := by simp [bitZ, h]
theorem bitZ_nat (n i : Nat) : bitZ n (i : Int) = n.testBit i := by simp [bitZ]
theorem bitZ_at {n : Nat} {i : Int} (h : 0 ≤ i) : bitZ n i = n.testBit i.toNat := by obtain ⟨j, rfl⟩ : ∃ j : Nat, i = j := ⟨i.toNat, by omega⟩; rw [bitZ_nat]; rfl

section
variable {C : World → Prop} {p X : Nat} {st0 st : BSt} {w : World} {N : Nat} {L : List Ent} {K : (Int → Bool) → Prop}
theorem Env.bbit (E : Env C p X st0 w st N L K) {v : Value} {ys : List Int} (hy : Ent.word v ys ∈ L) (i : Int) (hi : i < 100000) (hN : N < 1099511627776) :
    Calls Try.prog 121 #[.pointer (some ⟨p, 0, none⟩), v, .int .i64 i] w (ToldPl C p X st0 st w (N + 1) L K fun V c => V c = bitZ (numV V ys) i) := by
  have hl := E.len hy
  obtain ⟨A1, c1, rfl, -, -⟩ := E.shape hy
  go_enter Try.func121, Try.ntmps121
  by_cases h0 : i < 0
  · go_wp2_with fail
    refine (E.bit 0 hN).mono ?_
    rintro e w1 ⟨c, st1, rfl, k1, x1, E1⟩
    go_wp2
    go_ret
    exact ⟨c, st1, rfl, k1, x1, E1.know fun V h => ⟨h.1, by dsimp only; rw [h.2, bitZ_neg h0]; rfl⟩⟩
  · obtain ⟨j, rfl⟩ : ∃ j : Nat, i = j := ⟨i.toNat, by omega⟩
    by_cases h1 : j < ys.length
    · obtain ⟨b1, o1, rfl⟩ := E.start_ hy (by omega)
      have q1 := E.cell hy h1
      have ka := (E.okay hy).at h1
      have h2 : ¬ (ys.length : Int) ≤ j := by omega
      go_wp2
      go_ret
      exact ⟨_, st, rfl, Kept.refl _ _ _, Ext.refl _, ((E.addPl ka).cntle (by omega)).know fun V h => ⟨h, by dsimp only; rw [bitZ_nat, numV_at h1]⟩⟩
    · have h2 : (ys.length : Int) ≤ j := by omega
      go_wp2_with fail
      refine (E.bit 0 hN).mono ?_
      rintro e w1 ⟨c, st1, rfl, k1, x1, E1⟩
      go_wp2
      go_ret
      exact ⟨c, st1, rfl, k1, x1, E1.know fun V h => ⟨h.1, by dsimp only; rw [h.2, bitZ_nat, numV_beyond (by omega)]; rfl⟩⟩

theorem digits_calls (w : World) (A : Option Addr) (n c : Nat) (hn : n ≤ 4294967296) : Calls Try.prog 74 #[.slice A n c] w fun e w' => e = .returned (.int .i64 ((n / 2 + 1 : Nat) : Int)) ∧ w = w' := by
  go_enter Try.func74, Try.ntmps74
  go_wp2
  go_ret
  exact ⟨by go_num, rfl⟩

/-- neg, one, two of a digit -/
def dOne (y i : Nat) : Bool := bitZ y (2 * i - 1) != bitZ y (2 * i)
def dTwo (y i : Nat) : Bool := !dOne y i && (bitZ y (2 * i) != bitZ y (2 * i + 1))
def dNeg (y i : Nat) : Bool := bitZ y (2 * i + 1)
/-- three places are told -/
theorem Env.digit (E : Env C p X st0 w st N L K) {v : Value} {ys : List Int} (hy : Ent.word v ys ∈ L) (i : Nat) (hi : i < 1000) (hN : N + 10 < 1099511627776) :
    Calls Try.prog 76 #[.pointer (some ⟨p, 0, none⟩), v, .int .i64 i] w fun e w' => ∃ a b c st', e = .returned (.tuple #[.int .i64 a, .int .i64 b, .int .i64 c]) ∧ Kept w.heap.size (some p) w w' ∧ Ext st st' ∧
      Env C p X st0 w' st' (N + 10) (.pl a :: .pl b :: .pl c :: L) (fun V => K V ∧ (V a = dNeg (numV V ys) i ∧ V b = dOne (numV V ys) i ∧ V c = dTwo (numV V ys) i)) := by
  go_enter Try.func76, Try.ntmps76
  go_wp2_with fail
  refine (E.bbit (ys := ys) (by repeat with_reducible first | apply mem_hd | assumption | apply mem_tl) _ (by omega) (by omega)).mono ?_
  rintro e w1 ⟨a, st1, rfl, k1, x1, E⟩
  go_wp2_with fail
  refine (E.bbit (ys := ys) (by repeat with_reducible first | apply mem_hd | assumption | apply mem_tl) _ (by omega) (by omega)).mono ?_
  rintro e w2 ⟨b, st2, rfl, k2, x2, E⟩
  go_wp2_with fail
  refine (E.bbit (ys := ys) (by repeat with_reducible first | apply mem_hd | assumption | apply mem_tl) _ (by omega) (by omega)).mono ?_
  rintro e w3 ⟨c, st3, rfl, k3, x3, E⟩
  go_wp2_with fail
  refine (E.xor (x := a) (y := b) (by repeat with_reducible first | apply mem_hd | assumption | apply mem_tl) (by repeat with_reducible first | apply mem_hd | assumption | apply mem_tl) (by omega)).mono ?_
  rintro e w4 ⟨d, st4, rfl, k4, x4, E⟩
  go_wp2_with fail
  refine (E.not (x := d) (by repeat with_reducible first | apply mem_hd | assumption | apply mem_tl) (by omega)).mono ?_
  rintro e w5 ⟨f, st5, rfl, k5, x5, E⟩
  go_wp2_with fail
  refine (E.xor (x := b) (y := c) (by repeat with_reducible first | apply mem_hd | assumption | apply mem_tl) (by repeat with_reducible first | apply mem_hd | assumption | apply mem_tl) (by omega)).mono ?_
  rintro e w6 ⟨g, st6, rfl, k6, x6, E⟩
  go_wp2_with fail
  refine (E.and (x := f) (y := g) (by repeat with_reducible first | apply mem_hd | assumption | apply mem_tl) (by repeat with_reducible first | apply mem_hd | assumption | apply mem_tl) (by omega)).mono ?_
  rintro e w7 ⟨h, st7, rfl, k7, x7, E⟩
  go_wp2
  refine bodyPost_ret (v := .tuple #[.int .i64 c, .int .i64 d, .int .i64 h]) (by simp [results, Try.results76, go_sem]) rfl ?_
  refine ⟨c, d, h, st7, rfl, (((((k1.then k2).then k3).then k4).then k5).then k6).then k7, (((((x1.trans x2).trans x3).trans x4).trans x5).trans x6).trans x7, (((E.only (L' := .pl c :: .pl d :: .pl h :: L) (by repeat with_reducible first | refine sub_cons (by repeat with_reducible first | apply mem_hd | assumption | apply mem_tl) ?_ | exact sub_nil | apply sub_refl | apply sub_tail)).cntle (by omega)).know fun V ⟨⟨⟨⟨⟨⟨⟨h0, h1⟩, h2⟩, h3⟩, h4⟩, h5⟩, h6⟩, h7⟩ => ⟨h0, ?_⟩)⟩
  refine ⟨h3, ?_, ?_⟩
  · rw [h4, h1, h2]; rfl
  · rw [h7, h5, h6, h4, h1, h2, h3]; rfl

/-- a bit of a row -/
def rowBit (x : Nat) (neg one two : Bool) (i k : Nat) : Bool :=
  if k < 2 * i then false else ((one && bitZ x (k - 2 * i : Int)) || (two && bitZ x (k - 2 * i - 1 : Int))) != neg

set_option maxHeartbeats 4000000 in
set_option maxRecDepth 100000 in
attribute [local go_sem] max2_int min2_int max_two min_two in
theorem Env.brow (E : Env C p X st0 w st N L K) {v u : Value} {xs ys : List Int} (hx : Ent.word v xs ∈ L) (hy : Ent.word u ys ∈ L) (i n : Nat) (hi : i < 1000) (hn : n ≤ 1000) (hN : N + 10000 < 1099511627776) :
    Calls Try.prog 77 #[.pointer (some ⟨p, 0, none⟩), v, u, .int .i64 i, .int .i64 n] w (ToldWP C p st0 st w (N + 10000) L K n fun V r c => V c = dNeg (numV V ys) i ∧ ∀ k, k < n → (numV V r).testBit k = rowBit (numV V xs) (dNeg (numV V ys) i) (dOne (numV V ys) i) (dTwo (numV V ys) i) i k) := by
  have hl := E.len hx
  obtain ⟨A1, c1, rfl, -, -⟩ := E.shape hx
  obtain ⟨A2, c2, rfl, -, -⟩ := E.shape hy
  have E0 := E
  have hmx : max (n : Int) 0 = n := by omega
  go_enter Try.func77, Try.ntmps77
  go_wp2_with fail
  refine (E.mark.digit (ys := ys) (by repeat with_reducible first | apply mem_hd | assumption | apply mem_tl) i hi (by omega)).mono ?_
  rintro e w1 ⟨a, b, c, st1, rfl, k1, x1, E⟩
  obtain ⟨B, hB⟩ : ∃ B, w1.heap.size = B := ⟨_, rfl⟩
  have hwB : w.heap.size ≤ B := hB ▸ k1.size
  have E := (E.lift (X' := B) (by omega) (by omega))
  clear hB k1 x1
  go_wp2_with fail
  go_loopw [15, 29] (fun sv iv wr => ∃ k r st', k ≤ n ∧ iv = .int .i64 (k : Nat) ∧ Hid (r.length = k) ∧ Fine wr p st' B sv r ∧
      Env (fun a => C a ∧ Kept w.heap.size (some p) w a) p B st wr st' (N + 10 + 9 * k) (.pl a :: .pl b :: .pl c :: L) (fun V => ((K V ∧ (V a = dNeg (numV V ys) i ∧ V b = dOne (numV V ys) i ∧ V c = dTwo (numV V ys) i)) ∧ ∀ j, j < k → (numV V r).testBit j = rowBit (numV V xs) (dNeg (numV V ys) i) (dOne (numV V ys) i) (dTwo (numV V ys) i) i j)))
    (fun _ iv _ => n - (intOf iv).toNat)
  case atStart => exact ⟨0, [], st1, by omega, rfl, Lib.hid rfl, ⟨Own.nil _ _ _ _ _, Okay.nil _, by simp⟩, E.know fun V h => ⟨h, fun j hj => by omega⟩⟩
  case round =>
    clear E
    obtain ⟨k, r, st', hk, rfl, hr, f3, E3⟩ := hrel
    by_cases hlt : k < n
    · by_cases hlow : k < 2 * i
      · have hneg : (k : Int) - 2 * i < 0 := by omega
        have E := E3
        go_wp2_with fail
        refine (E.bit 0 (by omega)).mono ?_
        rintro e w2 ⟨g, st2, rfl, k3, x3, E⟩
        have f3 := f3.kept k3 x3
        have kg := E.at_ (c := g) (by repeat with_reducible first | apply mem_hd | assumption | apply mem_tl)
        go_wp2_with (at_builtin; refine app1E rfl (.tmp 38) (.tmp 41) rfl Try.underlying26 infoInt E f3 (Nat.le_refl _) E.size rfl g rfl kg (by have := hr.out; omega) ?_; intro v' w4 k5 f3 E)
        go_wp2
        go_roundw
        case rel =>
          exact ⟨k + 1, r ++ [g], _, by omega, by go_num, Lib.hid (by rw [List.length_append, hr.out]; rfl), f3, ((E.only (L' := .pl a :: .pl b :: .pl c :: L) (by repeat with_reducible first | refine sub_cons (by repeat with_reducible first | apply mem_hd | assumption | apply mem_tl) ?_ | exact sub_nil | apply sub_refl | apply sub_tail)).cntle (by omega)).know fun V ⟨⟨h, h1⟩, h2⟩ => ⟨h, fun j hj => by
            rw [numV_snoc, hr.out, h2]
            rcases Nat.lt_or_ge j k with hjk | hjk
            · rw [← h1 j hjk]; simp
            · obtain rfl : j = k := by omega
              rw [rowBit, if_pos hlow]
              simp
              exact Nat.testBit_lt_two_pow (by have := numV_lt V r; rwa [hr.out] at this)⟩⟩
        case measure => simp [intOf]; omega
      · have hneg : ¬ (k : Int) - 2 * i < 0 := by omega
        have E := E3
        go_wp2_with fail
        refine (E.bbit (ys := xs) (by repeat with_reducible first | apply mem_hd | assumption | apply mem_tl) _ (by omega) (by omega)).mono ?_
        rintro e w2 ⟨g1, st2, rfl, k3, x3, E⟩
        have f3 := f3.kept k3 x3
        go_wp2_with fail
        refine (E.and (x := b) (y := g1) (by repeat with_reducible first | apply mem_hd | assumption | apply mem_tl) (by repeat with_reducible first | apply mem_hd | assumption | apply mem_tl) (by omega)).mono ?_
        rintro e w3 ⟨g2, st3, rfl, k3, x3, E⟩
        have f3 := f3.kept k3 x3
        go_wp2_with fail
        refine (E.bbit (ys := xs) (by repeat with_reducible first | apply mem_hd | assumption | apply mem_tl) _ (by omega) (by omega)).mono ?_
        rintro e w4 ⟨g3, st4, rfl, k3, x3, E⟩
        have f3 := f3.kept k3 x3
        go_wp2_with fail
        refine (E.and (x := c) (y := g3) (by repeat with_reducible first | apply mem_hd | assumption | apply mem_tl) (by repeat with_reducible first | apply mem_hd | assumption | apply mem_tl) (by omega)).mono ?_
        rintro e w5 ⟨g4, st5, rfl, k3, x3, E⟩
        have f3 := f3.kept k3 x3
        go_wp2_with fail
        refine (E.or (x := g2) (y := g4) (by repeat with_reducible first | apply mem_hd | assumption | apply mem_tl) (by repeat with_reducible first | apply mem_hd | assumption | apply mem_tl) (by omega)).mono ?_
        rintro e w6 ⟨g5, st6, rfl, k3, x3, E⟩
        have f3 := f3.kept k3 x3
        go_wp2_with fail
        refine (E.xor (x := g5) (y := a) (by repeat with_reducible first | apply mem_hd | assumption | apply mem_tl) (by repeat with_reducible first | apply mem_hd | assumption | apply mem_tl) (by omega)).mono ?_
        rintro e w7 ⟨g, st7, rfl, k3, x3, E⟩
        have f3 := f3.kept k3 x3
        have kg := E.at_ (c := g) (by repeat with_reducible first | apply mem_hd | assumption | apply mem_tl)
        go_wp2_with (at_builtin; refine app1E rfl (.tmp 60) (.tmp 65) rfl Try.underlying26 infoInt E f3 (Nat.le_refl _) E.size rfl g rfl kg (by have := hr.out; omega) ?_; intro v' w4 k5 f3 E)
        go_wp2
        go_roundw
        case rel =>
          exact ⟨k + 1, r ++ [g], _, by omega, by go_num, Lib.hid (by rw [List.length_append, hr.out]; rfl), f3, ((E.only (L' := .pl a :: .pl b :: .pl c :: L) (by repeat with_reducible first | refine sub_cons (by repeat with_reducible first | apply mem_hd | assumption | apply mem_tl) ?_ | exact sub_nil | apply sub_refl | apply sub_tail)).cntle (by omega)).know fun V ⟨⟨⟨⟨⟨⟨⟨h, h1⟩, e1⟩, e2⟩, e3⟩, e4⟩, e5⟩, e6⟩ => ⟨h, fun j hj => by
            have hlt2 := numV_lt V r
            rw [hr.out] at hlt2
            rw [numV_snoc, hr.out]
            rcases Nat.lt_or_ge j k with hjk | hjk
            · rw [← h1 j hjk, Nat.add_comm, Nat.testBit_two_pow_mul_add _ hlt2, if_pos hjk]
            · obtain rfl : j = k := by omega
              rw [Nat.add_comm, Nat.testBit_two_pow_mul_add _ hlt2, if_neg (by omega), Nat.sub_self, e6, e5, e4, e3, e2, e1, h.2.1, h.2.2.1, h.2.2.2, rowBit, if_neg hlow]
              cases ((dOne (numV V ys) i && bitZ (numV V xs) (j - 2 * i)) || (dTwo (numV V ys) i && bitZ (numV V xs) (j - 2 * i - 1))) != dNeg (numV V ys) i <;> rfl⟩⟩
        case measure => simp [intOf]; omega
    · obtain rfl : k = n := by omega
      have hlt2 : ¬ (k : Int) < k := by omega
      go_wp2
      go_ret2
      have E4 := ((E3.top.fine f3).addPl (E3.at_ (c := a) (by repeat with_reducible first | apply mem_hd | assumption | apply mem_tl))).only (L' := .pl a :: .word _ r :: L) (by repeat with_reducible first | refine sub_cons (by repeat with_reducible first | apply mem_hd | assumption | apply mem_tl) ?_ | exact sub_nil | apply sub_refl | apply sub_tail)
      exact ⟨_, r, a, st', hr, rfl, E3.c.2, E3.ext, f3.lower hwB, ((E4.cntle (by omega)).done E0).know fun V ⟨⟨hK, h1, h2⟩, h3⟩ => ⟨hK, h1, h3⟩⟩
end
end Go.Proofs.Ytdljgifoboiaeaa
