/- adder: Sub, More, Less, Size. -/
import Derived.Test.YtdljgifoboiaeaaPre
namespace Go.Proofs.Ytdljgifoboiaeaa
open Go.RowKit

section
variable {C : World → Prop} {p X : Nat} {st0 st : BSt} {w : World} {N : Nat} {L : List Ent} {K : (Int → Bool) → Prop}

theorem Env.nilW (E : Env C p X st0 w st N L K) : Env C p X st0 w st N (.word (.slice none 0 0) [] :: L) K :=
  E.add _ ⟨⟨none, 0, [], rfl, Nat.le_refl _, by simp [maxLen], fun _ => rfl, Pairs.nil _ _ _, fun h => by simp at h⟩, Okay.nil _, by simp⟩

theorem Env.more (E : Env C p X st0 w st N L K) {v : Value} {xs : List Int} {c : Int} (hx : Ent.word v xs ∈ L) (hc : Ent.pl c ∈ L) (hN : N + 8388608 < 1099511627776) :
    Calls Try.prog 56 #[.pointer (some ⟨p, 0, none⟩), v, .int .i64 c] w (ToldWP C p st0 st w (N + 8388608) L K xs.length fun V r c' => numV V r + 2 ^ xs.length * (V c').toNat = numV V xs + (V c).toNat) := by
  have E1 := E.nilW
  go_enter Try.func56, Try.ntmps56
  go_wp2_with fail
  refine (E1.prefix (xs := xs) (ys := []) (by repeat with_reducible first | apply mem_hd | assumption | apply mem_tl) (by repeat with_reducible first | apply mem_hd | assumption | apply mem_tl) (by repeat with_reducible first | apply mem_hd | assumption | apply mem_tl) (by omega)).mono ?_
  rintro e w1 ⟨v1, r, c', st1, h1, rfl, k1, x1, f1, E2⟩
  rw [List.length_nil, Nat.max_zero] at h1
  go_wp2
  go_ret2
  exact ⟨v1, r, c', st1, h1, rfl, k1, x1, f1, (E2.only (by repeat with_reducible first | refine sub_cons (by repeat with_reducible first | apply mem_hd | assumption | apply mem_tl) ?_ | exact sub_nil | apply sub_refl | apply sub_tail)).know fun V ⟨h, e⟩ => ⟨h, by rw [List.length_nil, Nat.max_zero, numV_nil] at e; omega⟩⟩

theorem Env.sub (E : Env C p X st0 w st N L K) {v u : Value} {xs ys : List Int} (hx : Ent.word v xs ∈ L) (hy : Ent.word u ys ∈ L) (hN : N + 8400000 < 1099511627776) :
    Calls Try.prog 37 #[.pointer (some ⟨p, 0, none⟩), v, u] w (ToldWP C p st0 st w (N + 8400000) L K (max xs.length ys.length) fun V r c' => numV V r + 2 ^ (max xs.length ys.length) * (V c').toNat + numV V ys = numV V xs + 2 ^ (max xs.length ys.length)) := by
  go_enter Try.func37, Try.ntmps37
  go_wp2_with fail
  refine (E.mark.level hx hy (by omega)).mono ?_
  rintro e w1 ⟨v1, r1, v2, r2, st1, h1, h2, rfl, k1, -, f1, f2, E1⟩
  go_wp2_with fail
  refine (E1.nots (xs := r2) (by repeat with_reducible first | apply mem_hd | assumption | apply mem_tl) (by omega)).mono ?_
  rintro e w2 ⟨v3, r3, st2, h3, rfl, k2, -, -, E1⟩
  go_wp2_with fail
  refine (E1.bit 1 (by omega)).mono ?_
  rintro e w3 ⟨c, st3, rfl, k3, -, E1⟩
  go_wp2_with fail
  refine (E1.prefix (xs := r1) (ys := r3) (by repeat with_reducible first | apply mem_hd | assumption | apply mem_tl) (by repeat with_reducible first | apply mem_hd | assumption | apply mem_tl) (by repeat with_reducible first | apply mem_hd | assumption | apply mem_tl) (by omega)).mono ?_
  rintro e w4 ⟨v5, r, c', st4, h4, rfl, k4, -, f4, E1⟩
  go_wp2
  go_ret2
  have hr : r.length = max xs.length ys.length := by have := h1.out; have := h2.out; have := h3.out; have := h4.out; omega
  exact ⟨v5, r, c', st4, Lib.hid hr, rfl, E1.c.2, E1.ext, f4.lower (Nat.le_trans (Nat.le_trans k1.size k2.size) k3.size), (((E1.cntle (by omega)).only (L' := .pl c' :: .word v5 r :: L) (by repeat with_reducible first | refine sub_cons (by repeat with_reducible first | apply mem_hd | assumption | apply mem_tl) ?_ | exact sub_nil | apply sub_refl | apply sub_tail)).done E).know fun V ⟨⟨⟨⟨h, a1, a2⟩, a3⟩, a4⟩, a5⟩ => ⟨h, by
    dsimp only at a3 a4 a5 ⊢
    rw [show max r1.length r3.length = max xs.length ys.length by have := h1.out; have := h2.out; have := h3.out; omega, a4] at a5
    rw [h2.out] at a3
    simp at a5
    rw [← a1, ← a2]
    omega⟩⟩

theorem Env.less (E : Env C p X st0 w st N L K) {v u : Value} {xs ys : List Int} (hx : Ent.word v xs ∈ L) (hy : Ent.word u ys ∈ L) (hN : N + 8400001 < 1099511627776) :
    Calls Try.prog 38 #[.pointer (some ⟨p, 0, none⟩), v, u] w fun e w' => ∃ c st', e = .returned (.int .i64 c) ∧ Kept w.heap.size (some p) w w' ∧ Ext st st' ∧ Env C p w'.heap.size st0 w' st' (N + 8400001) (.pl c :: L) (fun V => K V ∧ V c = decide (numV V xs < numV V ys)) := by
  have hl := E.len hx
  go_enter Try.func38, Try.ntmps38
  go_wp2_with fail
  refine (E.mark.sub hx hy (by omega)).mono ?_
  rintro e w1 ⟨v1, r, c', st1, h1, rfl, k1, -, f1, E1⟩
  go_wp2_with fail
  refine (E1.not (x := c') (by repeat with_reducible first | apply mem_hd | assumption | apply mem_tl) (by omega)).mono ?_
  rintro e w2 ⟨c, st2, rfl, k2, -, E1⟩
  go_wp2
  go_ret
  exact ⟨c, st2, rfl, E1.c.2, E1.ext, ((E1.only (L' := .pl c :: L) (by repeat with_reducible first | refine sub_cons (by repeat with_reducible first | apply mem_hd | assumption | apply mem_tl) ?_ | exact sub_nil | apply sub_refl | apply sub_tail)).done E).know fun V ⟨⟨h, a1⟩, a2⟩ => ⟨h, by
    rw [a2]
    have b1 := numV_lt V r
    rw [h1.out] at b1
    have b2 := numV_lt V xs
    have b3 : 2 ^ xs.length ≤ 2 ^ (max xs.length ys.length) := Nat.pow_le_pow_right (by omega) (by omega)
    generalize 2 ^ (max xs.length ys.length) = P at *
    cases hc : V c' <;> rw [hc] at a1 <;> simp at a1 ⊢ <;> omega⟩⟩

theorem turned_num {V : Int → Bool} {xs r : List Int} {b : Bool} (hl : r.length = xs.length) (h : ∀ j, j < xs.length → (numV V r).testBit j = ((numV V xs).testBit j != b)) : numV V r = if b then 2 ^ xs.length - (numV V xs + 1) else numV V xs := by
  have hx := numV_lt V xs
  refine numV_ext (by rw [hl]; split <;> omega) fun i hi => ?_
  rw [← numV_at (V := V) hi, h i (by omega)]
  cases b
  · simp
  · rw [if_pos rfl, Nat.testBit_two_pow_sub_succ hx]
    simp; omega
set_option maxHeartbeats 1000000 in
theorem Env.size_ (E : Env C p X st0 w st N L K) {v : Value} {xs : List Int} {c : Int} (hx : Ent.word v xs ∈ L) (hc : Ent.pl c ∈ L) (hN : N + 8400000 < 1099511627776) :
    Calls Try.prog 39 #[.pointer (some ⟨p, 0, none⟩), v, .int .i64 c] w (ToldW C p st0 st w (N + 8400000) L K xs.length fun V r => numV V r = if V c then (2 ^ xs.length - numV V xs) % 2 ^ xs.length else numV V xs) := by
  have hl := E.len hx
  obtain ⟨A1, c1, rfl, -, -⟩ := E.shape hx
  obtain ⟨B, hB⟩ : ∃ B, w.heap.size = B := ⟨_, rfl⟩
  have E0 := E.mark
  rw [hB] at E0
  have HB := Lib.hid hB
  clear hB
  go_enter Try.func39, Try.ntmps39
  go_wp2_with fail
  go_loopw [7, 14] (fun sv iv wr => ∃ i r st', i ≤ xs.length ∧ iv = .int .i64 (i : Nat) ∧ Hid (r.length = i) ∧ Fine wr p st' B sv r ∧
      Env (fun a => C a ∧ Kept B (some p) w a) p B st wr st' (N + i) L (fun V => K V ∧ ∀ j, j < i → (numV V r).testBit j = ((numV V xs).testBit j != V c)))
    (fun _ iv _ => xs.length - (intOf iv).toNat)
  case atStart => exact ⟨0, [], st, by omega, rfl, Lib.hid rfl, ⟨Own.nil _ _ _ _ _, Okay.nil _, by simp⟩, E0.know fun V h => ⟨h, fun j hj => by omega⟩⟩
  case round =>
    clear E0
    obtain ⟨i, r, st', hi, rfl, hr, fr, E1⟩ := hrel
    by_cases hlt : i < xs.length
    · obtain ⟨b1, o1, rfl⟩ := E1.start_ (xs := xs) (by repeat with_reducible first | apply mem_hd | assumption | apply mem_tl) (by omega)
      have E2 := E1.addPl ((E1.okay (xs := xs) (by repeat with_reducible first | apply mem_hd | assumption | apply mem_tl)).at hlt)
      have q1 := E2.cell (xs := xs) (by repeat with_reducible first | apply mem_hd | assumption | apply mem_tl) hlt
      go_wp2_with fail
      refine (E2.xor (x := xs[i]) (y := c) (by repeat with_reducible first | apply mem_hd | assumption | apply mem_tl) (by repeat with_reducible first | apply mem_hd | assumption | apply mem_tl) (by omega)).mono ?_
      rintro e w2 ⟨g, st2, rfl, k2, x2, E2⟩
      have fr := fr.kept k2 x2
      have kg := E2.at_ (c := g) (by repeat with_reducible first | apply mem_hd | assumption | apply mem_tl)
      go_wp2_with (at_builtin; refine app1E rfl (.tmp 18) (.tmp 23) rfl Try.underlying26 infoInt E2 fr (Nat.le_refl _) E2.size rfl g rfl kg (by have := hr.out; omega) ?_; intro v' w4 k5 fr E2)
      go_roundw
      case rel =>
        exact ⟨i + 1, _, _, by omega, by go_num, Lib.hid (by rw [List.length_append, hr.out]; rfl), fr, (E2.only (by repeat with_reducible first | refine sub_cons (by repeat with_reducible first | apply mem_hd | assumption | apply mem_tl) ?_ | exact sub_nil | apply sub_refl | apply sub_tail)).know fun V ⟨⟨h, hj⟩, e1⟩ => ⟨h, fun j hji => by
          rw [numV_testBit, List.map_append, List.getD_eq_getElem?_getD, List.getElem?_append]
          by_cases hj2 : j < i
          · rw [if_pos (by rw [List.length_map, hr.out]; exact hj2), ← hj j hj2, numV_testBit, List.getD_eq_getElem?_getD]
          · obtain rfl : j = i := by omega
            rw [if_neg (by rw [List.length_map, hr.out]; omega), List.length_map, hr.out, Nat.sub_self, numV_at hlt]
            exact e1⟩⟩
      case measure => simp [intOf]; omega
    · obtain rfl : i = xs.length := by omega
      have E2 := (E1.top.fine fr).only (L' := .word _ r :: L) (by repeat with_reducible first | refine sub_cons (by repeat with_reducible first | apply mem_hd | assumption | apply mem_tl) ?_ | exact sub_nil | apply sub_refl | apply sub_tail)
      have E1w : B ≤ wr.heap.size := E1.size
      clear E1
      go_wp2_with fail
      refine (E2.more (xs := r) (c := c) (by repeat with_reducible first | apply mem_hd | assumption | apply mem_tl) (by repeat with_reducible first | apply mem_hd | assumption | apply mem_tl) (by omega)).mono ?_
      rintro e w2 ⟨v2, q, c', st2, h2, rfl, k2, x2, f2, E3⟩
      have E4 := E3.only (L' := .word v2 q :: L) (by repeat with_reducible first | refine sub_cons (by repeat with_reducible first | apply mem_hd | assumption | apply mem_tl) ?_ | exact sub_nil | apply sub_refl | apply sub_tail)
      have E5 := E
      clear E2 E3
      go_wp2
      go_ret
      obtain rfl := HB.out
      have hq : q.length = xs.length := h2.out.trans hr.out
      exact ⟨v2, q, st2, Lib.hid hq, rfl, E4.c.2, E4.ext, f2.lower E1w, ((E4.cntle (by omega)).done E5).know fun V ⟨⟨h, e1⟩, e2⟩ => ⟨h, by
        have e3 := turned_num hr.out e1
        dsimp only at e2 ⊢
        rw [hr.out] at e2
        have hx := numV_lt V xs
        have hqv := numV_lt V q
        rw [hq] at hqv
        generalize 2 ^ xs.length = P at *
        cases hc2 : V c <;> rw [hc2] at e2 e3 <;> simp at e2 e3 ⊢
        · cases h5 : V c' <;> rw [h5] at e2 <;> simp at e2 <;> omega
        · cases h5 : V c' <;> rw [h5] at e2 <;> simp at e2
          · rw [Nat.mod_eq_of_lt (by omega)]; omega
          · have : numV V xs = 0 := by omega
            rw [this, Nat.sub_zero, Nat.mod_self]; omega⟩⟩
end
end Go.Proofs.Ytdljgifoboiaeaa
