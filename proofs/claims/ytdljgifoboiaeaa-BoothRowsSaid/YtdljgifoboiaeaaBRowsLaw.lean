/- slipsticklaw16.BoothRows, walked. -/
import Derived.Test.YtdljgifoboiaeaaL16
import Derived.Test.YtdljgifoboiaeaaLawB
namespace Go.Proofs.Ytdljgifoboiaeaa
open Go.RowKit

theorem row_low (X Y w i : Nat) : (rowN X Y w i + negN Y i) % 2 ^ w = row16N X Y i w := by
  obtain ⟨t, ht⟩ := row_dig X Y w i
  have e : ((2 ^ w : Nat) : Int) = (2 : Int) ^ w := by push_cast; rfl
  have h1 : (((rowN X Y w i + negN Y i) % 2 ^ w : Nat) : Int) = (dig Y i * X * 2 ^ (2 * i)) % 2 ^ w := by
    rw [Int.natCast_emod, e]
    push_cast
    rw [ht, Int.add_mul_emod_self_right]
  have h2 : ((row16N X Y i w : Nat) : Int) = (dig Y i * X * 2 ^ (2 * i)) % 2 ^ w := by
    unfold row16N
    by_cases hneg : dig Y i < 0
    · rw [if_pos hneg]
      obtain ⟨s, hs⟩ : ∃ s : Nat, dig Y i = -(s : Int) := ⟨(dig Y i).natAbs, by omega⟩
      rw [hs, Int.natAbs_neg, Int.natAbs_natCast]
      have hlt := Nat.mod_lt (X * s * 2 ^ (2 * i)) (Nat.two_pow_pos w)
      have hdm := Nat.div_add_mod (X * s * 2 ^ (2 * i)) (2 ^ w)
      generalize X * s * 2 ^ (2 * i) % 2 ^ w = r at *
      generalize X * s * 2 ^ (2 * i) / 2 ^ w = q at *
      have e2 : -(s : Int) * X * 2 ^ (2 * i) = ((2 ^ w - r : Nat) : Int) + (-(1 + (q : Int))) * 2 ^ w := by
        have h3 : ((X * s * 2 ^ (2 * i) : Nat) : Int) = 2 ^ w * q + r := by rw [← hdm]; push_cast; rfl
        have h4 : -(s : Int) * X * 2 ^ (2 * i) = -((X * s * 2 ^ (2 * i) : Nat) : Int) := by push_cast; rw [Int.neg_mul, Int.neg_mul, Int.mul_comm (s : Int)]
        rw [h4, h3, Int.ofNat_sub (Nat.le_of_lt hlt), e, Int.neg_mul, Int.add_mul, Int.one_mul, Int.mul_comm (q : Int)]
        omega
      rw [e2, Int.add_mul_emod_self_right, Int.natCast_emod, e]
    · rw [if_neg hneg, Int.natCast_emod, e]
      congr 1
      have : ((dig Y i).natAbs : Int) = dig Y i := by omega
      push_cast
      rw [this, Int.mul_comm (X : Int)]
  have : (((rowN X Y w i + negN Y i) % 2 ^ w : Nat) : Int) = ((row16N X Y i w : Nat) : Int) := h1.trans h2.symm
  exact_mod_cast this
theorem row_num {V : Int → Bool} {r : List Int} {X Y w i : Nat} (hr : r.length = w) (h : ∀ k, k < w → (numV V r).testBit k = rowBit X (dNeg Y i) (dOne Y i) (dTwo Y i) i k) : numV V r = rowN X Y w i := by
  refine Nat.eq_of_testBit_eq fun j => ?_
  rw [rowN_testBit]
  by_cases hj : j < w
  · rw [h j hj, decide_eq_true hj, Bool.true_and]
  · rw [decide_eq_false hj, Bool.false_and, numV_beyond (by omega)]

section
variable {C : World → Prop} {p X : Nat} {st0 st : BSt} {w : World} {N : Nat} {L : List Ent} {K : (Int → Bool) → Prop}
theorem Env.litB (E : Env C p X st0 w st N L K) : Env C p (w.alloc (.cells #[.bool true] 4)).heap.size st0 (w.alloc (.cells #[.bool true] 4)) st N (.row kBool (.slice (some ⟨w.heap.size, 0, none⟩) 1 1) (natBits 1) :: L) K :=
  E.rowB ((Below.refl _ _).alloc (Nat.le_refl _) _) (lit_any kBool 4 w _ E.there [true] [[.bool true]] #[.bool true] rfl (bools_pairs _ _ [true]) (by simp))
end

set_option maxHeartbeats 8000000 in
set_option maxRecDepth 100000 in
attribute [local go_sem] max2_int min2_int max_two min_two in
theorem rows_walk (w : World) (a b at_ too : Nat) (ha : a < 256) (hb : b < 256) (hat : at_ < 256) (hto : too < 256) (vx vy : Value) (xs ys : List Int) (hx : Row (kNum .u32) w (fun _ => False) vx xs) (hy : Row (kNum .u32) w (fun _ => False) vy ys) (hxo : okParts xs) (hyo : okParts ys) :
    Calls Try.prog 11 #[.int .u8 a, .int .u8 b, .int .u8 at_, .int .u8 too, vx, vy] w fun e w' => e = .returned (.bool true) ∧ Below w.heap.size w w' := by
  obtain ⟨n, hn⟩ : ∃ n : Nat, (a : Int) % 30 + 1 = n := ⟨a % 30 + 1, by omega⟩
  obtain ⟨m, hm⟩ : ∃ m : Nat, (b : Int) % 30 + 1 = m := ⟨b % 30 + 1, by omega⟩
  obtain ⟨wd, hwd⟩ : ∃ wd : Nat, (too : Int) % 70 + 1 = wd := ⟨too % 70 + 1, by omega⟩
  have hn1 : 0 < n ∧ n ≤ 30 := by omega
  have hm1 : 0 < m ∧ m ≤ 30 := by omega
  have hw1 : 0 < wd ∧ wd ≤ 70 := by omega
  obtain ⟨D, hD⟩ : ∃ D, m / 2 + 1 = D := ⟨_, rfl⟩
  have hD1 : 0 < D ∧ D ≤ 16 := by omega
  have hD0 : ¬ D = 0 := by omega
  obtain ⟨i, hi0⟩ : ∃ i : Nat, Int.tmod (at_ : Int) (D : Int) = i := ⟨at_ % D, by rw [← Int.ofNat_tmod]⟩
  have hi1 : i < 16 := by
    have h1 : (i : Int) = ((at_ % D : Nat) : Int) := by rw [← hi0, Int.ofNat_tmod]
    have h2 := Nat.mod_lt at_ hD1.1
    omega
  obtain ⟨A1, c1, rfl, -, hc1⟩ := hx.shape
  obtain ⟨A2, c2, rfl, -, hc2⟩ := hy.shape
  unfold maxLen at hc1 hc2
  have HX := Lib.hid hx
  have HY := Lib.hid hy
  have HXO := Lib.hid hxo
  have HYO := Lib.hid hyo
  have HD := Lib.hid hD
  clear hx hy hxo hyo hD
  go_enter Try.func11, Try.ntmps11
  go_wp2_with fail
  refine (awake16 w).mono ?_
  rintro e w1 ⟨rfl, hb1⟩
  have HX1 := Lib.hid (HX.out.later hb1)
  have HY1 := Lib.hid (HY.out.later hb1)
  have HB1 := Lib.hid hb1
  clear hb1
  by_cases hsx : xs.length ≤ 20
  · by_cases hsy : ys.length ≤ 20
    · have hk2 : ¬ (20 < (xs.length : Int)) := by omega
      have hk3 : ¬ (20 < (ys.length : Int)) := by omega
      have hbx : nbits (partsVal xs) ≤ 640 := by have := nbits_parts HXO.out; omega
      have hby : nbits (partsVal ys) ≤ 640 := by have := nbits_parts HYO.out; omega
      go_wp2_with fail
      refine (in14 w1 n m (by omega) (by omega)).mono ?_
      rintro e w2 ⟨p, X, vp, vq, ps, qs, kk, st1, rfl, hp, hq, hi, hP, E⟩
      have E := (E.old HX1.out).old HY1.out
      obtain ⟨A5, c5, hv5, -, -⟩ := E.shape (xs := qs) (by repeat with_reducible first | apply mem_hd | assumption | apply mem_tl)
      rw [hq.out] at hv5
      subst hv5
      go_wp2_with fail
      refine (digits_calls _ A5 m c5 (by omega)).mono ?_
      rintro e w3 ⟨rfl, rfl⟩
      rw [HD.out]
      go_wp2_with fail
      refine (digits16_ref _ m (by omega)).mono ?_
      rintro e w3 ⟨rfl, rfl⟩
      rw [HD.out]
      go_wp2_with fail
      refine (digits16_ref _ m (by omega)).mono ?_
      rintro e w3 ⟨rfl, rfl⟩
      rw [HD.out]
      go_wp2_with fail
      refine (E.digit (ys := qs) (by repeat with_reducible first | apply mem_hd | assumption | apply mem_tl) i (by omega) (by omega)).mono ?_
      rintro e w4 ⟨g1, g2, g3, st2, rfl, -, -, E⟩
      go_wp2_with fail
      refine (E.brow (xs := ps) (ys := qs) (by repeat with_reducible first | apply mem_hd | assumption | apply mem_tl) (by repeat with_reducible first | apply mem_hd | assumption | apply mem_tl) i wd (by omega) (by omega) (by omega)).mono ?_
      rintro e w5 ⟨vr, rs, g4, st3, hr, rfl, -, -, -, E⟩
      obtain ⟨A6, c6, hv6, -, -⟩ := E.shape (xs := rs) (by repeat with_reducible first | apply mem_hd | assumption | apply mem_tl)
      rw [hr.out] at hv6
      subst hv6
      have E := E.litW [g1, g2, g3, g4] 4 rfl (by omega) (okay_cons (E.at_ (by repeat with_reducible first | apply mem_hd | assumption | apply mem_tl)) (okay_cons (E.at_ (by repeat with_reducible first | apply mem_hd | assumption | apply mem_tl)) (okay_cons (E.at_ (by repeat with_reducible first | apply mem_hd | assumption | apply mem_tl)) (okay_cons (E.at_ (by repeat with_reducible first | apply mem_hd | assumption | apply mem_tl)) (okay_nil _))))) #[.int .i64 g1, .int .i64 g2, .int .i64 g3, .int .i64 g4] rfl
      go_wp2_with fail
      refine (E.out hP ⟨#[122]⟩ (xs := [g1, g2, g3, g4]) (by repeat with_reducible first | apply mem_hd | assumption | apply mem_tl) (by simp) (by rw [hi.out.2]; simp)).mono ?_
      rintro e w6 ⟨st6, rfl, hi6, hP6, E⟩
      go_wp2_with fail
      refine (E.out hP6 ⟨#[121]⟩ (xs := rs) (by repeat with_reducible first | apply mem_hd | assumption | apply mem_tl) (by rw [hr.out]; omega) (by rw [hi6.out.2, hi.out.2]; simp)).mono ?_
      rintro e w7 ⟨st7, rfl, hi7, hP7, E⟩
      have hie : Hid (st7.ins = [⟨⟨#[120]⟩, ps⟩, ⟨⟨#[121]⟩, qs⟩, ⟨⟨#[99]⟩, [kk]⟩] ∧ st7.outs = [⟨⟨#[122]⟩, [g1, g2, g3, g4]⟩, ⟨⟨#[121]⟩, rs⟩]) := Lib.hid ⟨by rw [hi7.out.1, hi6.out.1, hi.out.1], by rw [hi7.out.2, hi6.out.2, hi.out.2]; rfl⟩
      clear hi6 hi7 hP hP6
      go_wp2_with fail
      refine (E.ref (of_ref _ _ E.there _ xs (E.rwF (by repeat with_reducible first | apply mem_hd | assumption | apply mem_tl)) HXO.out (by omega))).mono ?_
      rintro e w10 ⟨v10, rfl, -, E⟩
      go_wp2_with fail
      refine (E.ref (low_ref _ _ E.there _ (partsVal xs) n (E.rwF (by repeat with_reducible first | apply mem_hd | assumption | apply mem_tl)) (by omega) (by omega))).mono ?_
      rintro e w11 ⟨v11, rfl, -, E⟩
      go_wp2_with fail
      refine (E.ref (of_ref _ _ E.there _ ys (E.rwF (by repeat with_reducible first | apply mem_hd | assumption | apply mem_tl)) HYO.out (by omega))).mono ?_
      rintro e w12 ⟨v12, rfl, -, E⟩
      go_wp2_with fail
      refine (E.ref (low_ref _ _ E.there _ (partsVal ys) m (E.rwF (by repeat with_reducible first | apply mem_hd | assumption | apply mem_tl)) (by omega) (by omega))).mono ?_
      rintro e w13 ⟨v13, rfl, -, E⟩
      obtain ⟨u, hu⟩ : ∃ u, partsVal xs % 2 ^ n = u := ⟨_, rfl⟩
      obtain ⟨t, ht2⟩ : ∃ t, partsVal ys % 2 ^ m = t := ⟨_, rfl⟩
      rw [hu, ht2] at E
      have hul : Hid (u < 2 ^ n) := Lib.hid (by rw [← hu]; exact Nat.mod_lt _ (Nat.two_pow_pos n))
      have htl : Hid (t < 2 ^ m) := Lib.hid (by rw [← ht2]; exact Nat.mod_lt _ (Nat.two_pow_pos m))
      have hnu : nbits u ≤ 30 := by have := nbits_le hul.out; omega
      have hnt : nbits t ≤ 30 := by have := nbits_le htl.out; omega
      clear hu ht2 hbx hby hsx hsy hk2 hk3
      go_wp2_with fail
      refine (E.net hP7 (by omega)).mono ?_
      rintro e w14 ⟨vn, vi, vo, rfl, -, E⟩
      go_wp2_with fail
      refine (E.ref (parts_ref _ _ E.there _ u (E.rwF (v := v11) (by repeat with_reducible first | apply mem_hd | assumption | apply mem_tl)) (by omega))).mono ?_
      rintro e w15 ⟨v15, rfl, -, E⟩
      go_wp2_with fail
      refine (E.ref (parts_ref _ _ E.there _ t (E.rwF (v := v13) (by repeat with_reducible first | apply mem_hd | assumption | apply mem_tl)) (by omega))).mono ?_
      rintro e w16 ⟨v16, rfl, -, E⟩
      obtain ⟨A7, c7, hv7⟩ := E.rshape (v := v15) (xs := parts32 u) (by repeat with_reducible first | apply mem_hd | assumption | apply mem_tl)
      subst hv7
      obtain ⟨A8, c8, hv8⟩ := E.rshape (v := v16) (xs := parts32 t) (by repeat with_reducible first | apply mem_hd | assumption | apply mem_tl)
      subst hv8
      have E := E.lit0R (kNum .u32) 128
      simp only [World.size_alloc] at E
      have E := E.lits (kNum .u32) 38 [parts32 u, parts32 t, []] [.slice A7 (parts32 u).length c7, .slice A8 (parts32 t).length c8, .slice (some ⟨w16.heap.size, 0, none⟩) 0 0] 3 rfl rfl (by simp) (fun i x v hx hv => by
        match i, hx, hv with
        | 0, hx, hv => simp at hx hv; subst hx; subst hv; exact (by repeat with_reducible first | apply mem_hd | assumption | apply mem_tl)
        | 1, hx, hv => simp at hx hv; subst hx; subst hv; exact (by repeat with_reducible first | apply mem_hd | assumption | apply mem_tl)
        | 2, hx, hv => simp at hx hv; subst hx; subst hv; exact (by repeat with_reducible first | apply mem_hd | assumption | apply mem_tl))
      simp only [World.size_alloc] at E
      go_wp2_with fail
      refine (E.eval hP7 (by omega) (vn := vn) (vi := vi) (vo := vo) (by repeat with_reducible first | apply mem_hd | assumption | apply mem_tl) (by repeat with_reducible first | apply mem_hd | assumption | apply mem_tl) (by repeat with_reducible first | apply mem_hd | assumption | apply mem_tl) (by repeat with_reducible first | apply mem_hd | assumption | apply mem_tl) (by rw [hie.out.1]; rfl) (fun q hq => ?_) (fun i z hz => ?_)).mono ?_
      · simp only [List.mem_cons, List.not_mem_nil, or_false] at hq
        rcases hq with rfl | rfl | rfl
        · exact parts_fit _ n hul.out (by omega)
        · exact parts_fit _ m htl.out (by omega)
        · exact ⟨fun _ h => by simp at h, by simp⟩
      · rw [hie.out.1] at hz
        match i, hz with
        | 0, hz => simp at hz; subst hz; simp only [List.getD_cons_zero, partsVal_parts32]; rw [hp.out]; exact hul.out
        | 1, hz => simp at hz; subst hz; simp only [List.getD_cons_succ, List.getD_cons_zero, partsVal_parts32]; rw [hq.out]; exact htl.out
        | 2, hz => simp at hz; subst hz; simp [partsVal]
      rintro e w17 ⟨v17, V, rfl, -, hV, hin, E⟩
      have hK := Lib.hid (E.sem V hV)
      have g1' : numV V ps = u := by have h := hin.out 0 _ (by rw [hie.out.1]; rfl); simpa [partsVal_parts32] using h
      have g2' : numV V qs = t := by have h := hin.out 1 _ (by rw [hie.out.1]; rfl); simpa [partsVal_parts32] using h
      obtain ⟨⟨-, f1, f2, f3⟩, f4, f5⟩ := hK.out
      rw [g2'] at f1 f2 f3 f4 f5
      rw [g1'] at f5
      have hR := row_num hr.out f5
      have hF0 : (numV V [g1, g2, g3, g4]).testBit 0 = dNeg t i := by rw [numV_at (by simp)]; exact f1
      have hF1 : (numV V [g1, g2, g3, g4]).testBit 1 = dOne t i := by rw [numV_at (by simp)]; exact f2
      have hF2 : (numV V [g1, g2, g3, g4]).testBit 2 = dTwo t i := by rw [numV_at (by simp)]; exact f3
      have hF3 : (numV V [g1, g2, g3, g4]).testBit 3 = dNeg t i := by rw [numV_at (by simp)]; exact f4
      rw [hie.out.2] at E
      simp only [List.map_cons, List.map_nil] at E
      have hFn : nbits (numV V [g1, g2, g3, g4]) ≤ 4 := nbits_le (numV_lt V [g1, g2, g3, g4])
      have hRn : nbits (numV V rs) ≤ 70 := by have h := nbits_le (numV_lt V rs); rw [hr.out] at h; omega
      obtain ⟨F, hFd⟩ : ∃ F, numV V [g1, g2, g3, g4] = F := ⟨_, rfl⟩
      obtain ⟨R, hRd⟩ : ∃ R, numV V rs = R := ⟨_, rfl⟩
      rw [hFd, hRd] at E
      rw [hFd] at hF0 hF1 hF2 hF3 hFn
      rw [hRd] at hRn hR
      have HR := Lib.hid hR.symm
      have HF0 := Lib.hid (And.intro hF0 (And.intro hF1 (And.intro hF2 hF3)))
      clear hK hin hV g1' g2' f1 f2 f3 f4 f5 hR hF0 hF1 hF2 hF3 hFd hRd
      obtain ⟨A17, c17, hv17⟩ := E.rshape (v := v17) (by repeat with_reducible first | apply mem_hd | assumption | apply mem_tl)
      simp only [List.length_cons, List.length_nil, Nat.zero_add, Nat.reduceAdd] at hv17
      subst hv17
      obtain ⟨bo, oo, B0, d0, rfl, q0, E⟩ := E.rowAt (xss := [parts32 F, parts32 R]) (by repeat with_reducible first | apply mem_hd | assumption | apply mem_tl) 0 (by simp)
      obtain ⟨bo1, oo1, B1, d1, he1, q1, E⟩ := E.rowAt (xss := [parts32 F, parts32 R]) (by repeat with_reducible first | apply mem_hd | assumption | apply mem_tl) 1 (by simp)
      injection he1 with he1; injection he1 with he1 he1'; subst he1; subst he1'
      simp only [List.getElem_cons_zero, List.getElem_cons_succ, Nat.add_zero] at q0 q1 E
      go_wp2_with fail
      refine (E.ref (of_ref _ _ E.there (.slice B0 (parts32 F).length d0) (parts32 F) (E.rwF (by repeat with_reducible first | apply mem_hd | assumption | apply mem_tl)) (parts32_ok _) (by rw [parts32_length]; omega))).mono ?_
      rintro e w19 ⟨v19, rfl, hb19, E⟩
      rw [partsVal_parts32] at E
      have q1 := cell_below hb19 q1
      clear q0 hb19
      go_wp2_with fail
      refine (digit16_ref _ _ _ t i (E.rw_ (v := v13) (xs := natBits t) (by repeat with_reducible first | apply mem_hd | assumption | apply mem_tl)) (by omega) (by omega)).mono ?_
      rintro e w20 ⟨rfl, rfl⟩
      obtain ⟨d, hd⟩ : ∃ d, dig t i = d := ⟨_, rfl⟩
      rw [hd]
      obtain ⟨bl, hbl⟩ : ∃ b, bitZ t (2 * (i : Int) - 1) = b := ⟨_, rfl⟩
      obtain ⟨bm, hbm⟩ : ∃ b, bitZ t (2 * (i : Int)) = b := ⟨_, rfl⟩
      obtain ⟨bh, hbh⟩ : ∃ b, bitZ t (2 * (i : Int) + 1) = b := ⟨_, rfl⟩
      have hdd : d = (bl.toNat : Int) + (bm.toNat : Int) - 2 * (bh.toNat : Int) := by rw [← hd, dig, hbl, hbm, hbh]
      have HF := HF0.out
      rw [dTwo, dOne, dNeg, hbl, hbm, hbh] at HF
      have HF := Lib.hid HF
      have HBN := Lib.hid (show dNeg t i = bh from hbh)
      have HBH := Lib.hid hbh
      clear hd hbl hbm hbh HF0
      have E := E.lit0R kBool 4
      have q1 := cell_below ((Below.refl w19.heap.size w19).alloc (Nat.le_refl _) (.cells #[] 4)) q1
      cases bh
      · have hb3 : F.testBit 3 = false := HF.out.2.2.2
        go_wp2_with fail
        refine (bit_at _ _ _ F 3 false (E.rw_ (v := v19) (xs := natBits F) (by repeat with_reducible first | apply mem_hd | assumption | apply mem_tl)) (by omega) hb3).mono ?_
        rintro e w30 ⟨rfl, rfl⟩
        have HM4 := Lib.hid (show 0 = 4 ^ i * false.toNat by simp)
        obtain ⟨VZ, hVZ⟩ : ∃ VZ : Value, .slice (some ⟨w19.heap.size, 0, none⟩) 0 0 = VZ := ⟨_, rfl⟩
        rw [hVZ] at E ⊢
        have E : Env _ p _ _ _ _ _ (.row kBool VZ (natBits 0) :: _) _ := E
        have hM0 : nbits 0 ≤ 100 := by decide
        clear hVZ
        cases bl <;> cases bm
        · obtain rfl : d = 0 := by rw [hdd]; rfl
          clear hdd
          have hb0 : F.testBit 0 = false := HF.out.1
          have hb1 := HF.out.2.1
          have hb2 := HF.out.2.2.1
          go_wp2_with fail
          refine (bit_at _ _ _ F 0 false (E.rw_ (xs := natBits F) (by repeat with_reducible first | apply mem_hd | assumption | apply mem_tl)) (by omega) hb0).mono ?_
          rintro e w31 ⟨rfl, rfl⟩
          go_wp2_with fail
          refine (bitZ_ref _ _ _ t _ (E.rw_ (v := v13) (xs := natBits t) (by repeat with_reducible first | apply mem_hd | assumption | apply mem_tl)) (by omega)).mono ?_
          rintro e w31 ⟨rfl, rfl⟩
          rw [HBH.out]
          go_wp2_with fail
          refine (bit_at _ _ _ F 1 _ (E.rw_ (v := v19) (xs := natBits F) (by repeat with_reducible first | apply mem_hd | assumption | apply mem_tl)) (by omega) hb1).mono ?_
          rintro e w31 ⟨rfl, rfl⟩
          go_wp2_with fail
          refine (bit_at _ _ _ F 2 _ (E.rw_ (v := v19) (xs := natBits F) (by repeat with_reducible first | apply mem_hd | assumption | apply mem_tl)) (by omega) hb2).mono ?_
          rintro e w31 ⟨rfl, rfl⟩
          go_wp2_with fail
          refine (E.ref (of_ref _ _ E.there (.slice B1 (parts32 R).length d1) (parts32 R) (E.rwF (by repeat with_reducible first | apply mem_hd | assumption | apply mem_tl)) (parts32_ok _) (by rw [parts32_length]; omega))).mono ?_
          rintro e w32 ⟨v32, rfl, -, E⟩
          rw [partsVal_parts32] at E
          go_wp2_with fail
          refine (E.ref (add_ref _ _ E.there _ _ R 0 (E.rwF (v := v32) (by repeat with_reducible first | apply mem_hd | assumption | apply mem_tl)) (E.rwF (v := VZ) (xs := natBits 0) (by repeat with_reducible first | apply mem_hd | assumption | apply mem_tl)) (by omega) (by omega))).mono ?_
          rintro e w33 ⟨v33, rfl, -, E⟩
          have hnRM : nbits (R + 0) ≤ 4294967296 := by have := nbits_add R 0; omega
          go_wp2_with fail
          refine (E.ref (low_ref _ _ E.there _ (R + 0) wd (E.rwF (v := v33) (by repeat with_reducible first | apply mem_hd | assumption | apply mem_tl)) (by omega) (by omega))).mono ?_
          rintro e w34 ⟨v34, rfl, -, E⟩
          have hRM : (R + 0) % 2 ^ wd = row16N u t i wd := by rw [← row_low, HR.out, negN, HBN.out]; exact congrArg (fun z => (R + z) % 2 ^ wd) HM4.out
          rw [hRM] at E
          go_wp2_with fail
          refine (E.ref (row16_ref _ _ E.there _ _ u t i wd (E.rwF (v := v11) (by repeat with_reducible first | apply mem_hd | assumption | apply mem_tl)) (E.rwF (v := v13) (by repeat with_reducible first | apply mem_hd | assumption | apply mem_tl)) (by omega) (by omega) (by omega) (by omega))).mono ?_
          rintro e w35 ⟨v35, rfl, -, E⟩
          have hnr : nbits (row16N u t i wd) ≤ 1000 := by
            rw [← hRM]
            have := nbits_low (R + 0) wd
            omega
          go_wp2_with fail
          refine (cmp_ref _ _ _ _ (row16N u t i wd) (row16N u t i wd) (E.rwF (v := v34) (by repeat with_reducible first | apply mem_hd | assumption | apply mem_tl)) (E.rwF (v := v35) (by repeat with_reducible first | apply mem_hd | assumption | apply mem_tl)) (by omega) (by omega)).mono ?_
          rintro e w36 ⟨rfl, rfl⟩
          rw [show cmpNat (row16N u t i wd) (row16N u t i wd) = 0 by simp [cmpNat]]
          have HE := Lib.hid E.c.2
          clear E
          go_wp2
          go_ret
          exact ⟨rfl, HB1.out.trans (HE.out.mono HB1.out.size)⟩
        · obtain rfl : d = 1 := by rw [hdd]; rfl
          clear hdd
          have hb0 : F.testBit 0 = false := HF.out.1
          have hb1 := HF.out.2.1
          have hb2 := HF.out.2.2.1
          go_wp2_with fail
          refine (bit_at _ _ _ F 0 false (E.rw_ (xs := natBits F) (by repeat with_reducible first | apply mem_hd | assumption | apply mem_tl)) (by omega) hb0).mono ?_
          rintro e w31 ⟨rfl, rfl⟩
          go_wp2_with fail
          refine (bitZ_ref _ _ _ t _ (E.rw_ (v := v13) (xs := natBits t) (by repeat with_reducible first | apply mem_hd | assumption | apply mem_tl)) (by omega)).mono ?_
          rintro e w31 ⟨rfl, rfl⟩
          rw [HBH.out]
          go_wp2_with fail
          refine (bit_at _ _ _ F 1 _ (E.rw_ (v := v19) (xs := natBits F) (by repeat with_reducible first | apply mem_hd | assumption | apply mem_tl)) (by omega) hb1).mono ?_
          rintro e w31 ⟨rfl, rfl⟩
          go_wp2_with fail
          refine (bit_at _ _ _ F 2 _ (E.rw_ (v := v19) (xs := natBits F) (by repeat with_reducible first | apply mem_hd | assumption | apply mem_tl)) (by omega) hb2).mono ?_
          rintro e w31 ⟨rfl, rfl⟩
          go_wp2_with fail
          refine (E.ref (of_ref _ _ E.there (.slice B1 (parts32 R).length d1) (parts32 R) (E.rwF (by repeat with_reducible first | apply mem_hd | assumption | apply mem_tl)) (parts32_ok _) (by rw [parts32_length]; omega))).mono ?_
          rintro e w32 ⟨v32, rfl, -, E⟩
          rw [partsVal_parts32] at E
          go_wp2_with fail
          refine (E.ref (add_ref _ _ E.there _ _ R 0 (E.rwF (v := v32) (by repeat with_reducible first | apply mem_hd | assumption | apply mem_tl)) (E.rwF (v := VZ) (xs := natBits 0) (by repeat with_reducible first | apply mem_hd | assumption | apply mem_tl)) (by omega) (by omega))).mono ?_
          rintro e w33 ⟨v33, rfl, -, E⟩
          have hnRM : nbits (R + 0) ≤ 4294967296 := by have := nbits_add R 0; omega
          go_wp2_with fail
          refine (E.ref (low_ref _ _ E.there _ (R + 0) wd (E.rwF (v := v33) (by repeat with_reducible first | apply mem_hd | assumption | apply mem_tl)) (by omega) (by omega))).mono ?_
          rintro e w34 ⟨v34, rfl, -, E⟩
          have hRM : (R + 0) % 2 ^ wd = row16N u t i wd := by rw [← row_low, HR.out, negN, HBN.out]; exact congrArg (fun z => (R + z) % 2 ^ wd) HM4.out
          rw [hRM] at E
          go_wp2_with fail
          refine (E.ref (row16_ref _ _ E.there _ _ u t i wd (E.rwF (v := v11) (by repeat with_reducible first | apply mem_hd | assumption | apply mem_tl)) (E.rwF (v := v13) (by repeat with_reducible first | apply mem_hd | assumption | apply mem_tl)) (by omega) (by omega) (by omega) (by omega))).mono ?_
          rintro e w35 ⟨v35, rfl, -, E⟩
          have hnr : nbits (row16N u t i wd) ≤ 1000 := by
            rw [← hRM]
            have := nbits_low (R + 0) wd
            omega
          go_wp2_with fail
          refine (cmp_ref _ _ _ _ (row16N u t i wd) (row16N u t i wd) (E.rwF (v := v34) (by repeat with_reducible first | apply mem_hd | assumption | apply mem_tl)) (E.rwF (v := v35) (by repeat with_reducible first | apply mem_hd | assumption | apply mem_tl)) (by omega) (by omega)).mono ?_
          rintro e w36 ⟨rfl, rfl⟩
          rw [show cmpNat (row16N u t i wd) (row16N u t i wd) = 0 by simp [cmpNat]]
          have HE := Lib.hid E.c.2
          clear E
          go_wp2
          go_ret
          exact ⟨rfl, HB1.out.trans (HE.out.mono HB1.out.size)⟩
        · obtain rfl : d = 1 := by rw [hdd]; rfl
          clear hdd
          have hb0 : F.testBit 0 = false := HF.out.1
          have hb1 := HF.out.2.1
          have hb2 := HF.out.2.2.1
          go_wp2_with fail
          refine (bit_at _ _ _ F 0 false (E.rw_ (xs := natBits F) (by repeat with_reducible first | apply mem_hd | assumption | apply mem_tl)) (by omega) hb0).mono ?_
          rintro e w31 ⟨rfl, rfl⟩
          go_wp2_with fail
          refine (bitZ_ref _ _ _ t _ (E.rw_ (v := v13) (xs := natBits t) (by repeat with_reducible first | apply mem_hd | assumption | apply mem_tl)) (by omega)).mono ?_
          rintro e w31 ⟨rfl, rfl⟩
          rw [HBH.out]
          go_wp2_with fail
          refine (bit_at _ _ _ F 1 _ (E.rw_ (v := v19) (xs := natBits F) (by repeat with_reducible first | apply mem_hd | assumption | apply mem_tl)) (by omega) hb1).mono ?_
          rintro e w31 ⟨rfl, rfl⟩
          go_wp2_with fail
          refine (bit_at _ _ _ F 2 _ (E.rw_ (v := v19) (xs := natBits F) (by repeat with_reducible first | apply mem_hd | assumption | apply mem_tl)) (by omega) hb2).mono ?_
          rintro e w31 ⟨rfl, rfl⟩
          go_wp2_with fail
          refine (E.ref (of_ref _ _ E.there (.slice B1 (parts32 R).length d1) (parts32 R) (E.rwF (by repeat with_reducible first | apply mem_hd | assumption | apply mem_tl)) (parts32_ok _) (by rw [parts32_length]; omega))).mono ?_
          rintro e w32 ⟨v32, rfl, -, E⟩
          rw [partsVal_parts32] at E
          go_wp2_with fail
          refine (E.ref (add_ref _ _ E.there _ _ R 0 (E.rwF (v := v32) (by repeat with_reducible first | apply mem_hd | assumption | apply mem_tl)) (E.rwF (v := VZ) (xs := natBits 0) (by repeat with_reducible first | apply mem_hd | assumption | apply mem_tl)) (by omega) (by omega))).mono ?_
          rintro e w33 ⟨v33, rfl, -, E⟩
          have hnRM : nbits (R + 0) ≤ 4294967296 := by have := nbits_add R 0; omega
          go_wp2_with fail
          refine (E.ref (low_ref _ _ E.there _ (R + 0) wd (E.rwF (v := v33) (by repeat with_reducible first | apply mem_hd | assumption | apply mem_tl)) (by omega) (by omega))).mono ?_
          rintro e w34 ⟨v34, rfl, -, E⟩
          have hRM : (R + 0) % 2 ^ wd = row16N u t i wd := by rw [← row_low, HR.out, negN, HBN.out]; exact congrArg (fun z => (R + z) % 2 ^ wd) HM4.out
          rw [hRM] at E
          go_wp2_with fail
          refine (E.ref (row16_ref _ _ E.there _ _ u t i wd (E.rwF (v := v11) (by repeat with_reducible first | apply mem_hd | assumption | apply mem_tl)) (E.rwF (v := v13) (by repeat with_reducible first | apply mem_hd | assumption | apply mem_tl)) (by omega) (by omega) (by omega) (by omega))).mono ?_
          rintro e w35 ⟨v35, rfl, -, E⟩
          have hnr : nbits (row16N u t i wd) ≤ 1000 := by
            rw [← hRM]
            have := nbits_low (R + 0) wd
            omega
          go_wp2_with fail
          refine (cmp_ref _ _ _ _ (row16N u t i wd) (row16N u t i wd) (E.rwF (v := v34) (by repeat with_reducible first | apply mem_hd | assumption | apply mem_tl)) (E.rwF (v := v35) (by repeat with_reducible first | apply mem_hd | assumption | apply mem_tl)) (by omega) (by omega)).mono ?_
          rintro e w36 ⟨rfl, rfl⟩
          rw [show cmpNat (row16N u t i wd) (row16N u t i wd) = 0 by simp [cmpNat]]
          have HE := Lib.hid E.c.2
          clear E
          go_wp2
          go_ret
          exact ⟨rfl, HB1.out.trans (HE.out.mono HB1.out.size)⟩
        · obtain rfl : d = 2 := by rw [hdd]; rfl
          clear hdd
          have hb0 : F.testBit 0 = false := HF.out.1
          have hb1 := HF.out.2.1
          have hb2 := HF.out.2.2.1
          go_wp2_with fail
          refine (bit_at _ _ _ F 0 false (E.rw_ (xs := natBits F) (by repeat with_reducible first | apply mem_hd | assumption | apply mem_tl)) (by omega) hb0).mono ?_
          rintro e w31 ⟨rfl, rfl⟩
          go_wp2_with fail
          refine (bitZ_ref _ _ _ t _ (E.rw_ (v := v13) (xs := natBits t) (by repeat with_reducible first | apply mem_hd | assumption | apply mem_tl)) (by omega)).mono ?_
          rintro e w31 ⟨rfl, rfl⟩
          rw [HBH.out]
          go_wp2_with fail
          refine (bit_at _ _ _ F 1 _ (E.rw_ (v := v19) (xs := natBits F) (by repeat with_reducible first | apply mem_hd | assumption | apply mem_tl)) (by omega) hb1).mono ?_
          rintro e w31 ⟨rfl, rfl⟩
          go_wp2_with fail
          refine (bit_at _ _ _ F 2 _ (E.rw_ (v := v19) (xs := natBits F) (by repeat with_reducible first | apply mem_hd | assumption | apply mem_tl)) (by omega) hb2).mono ?_
          rintro e w31 ⟨rfl, rfl⟩
          go_wp2_with fail
          refine (E.ref (of_ref _ _ E.there (.slice B1 (parts32 R).length d1) (parts32 R) (E.rwF (by repeat with_reducible first | apply mem_hd | assumption | apply mem_tl)) (parts32_ok _) (by rw [parts32_length]; omega))).mono ?_
          rintro e w32 ⟨v32, rfl, -, E⟩
          rw [partsVal_parts32] at E
          go_wp2_with fail
          refine (E.ref (add_ref _ _ E.there _ _ R 0 (E.rwF (v := v32) (by repeat with_reducible first | apply mem_hd | assumption | apply mem_tl)) (E.rwF (v := VZ) (xs := natBits 0) (by repeat with_reducible first | apply mem_hd | assumption | apply mem_tl)) (by omega) (by omega))).mono ?_
          rintro e w33 ⟨v33, rfl, -, E⟩
          have hnRM : nbits (R + 0) ≤ 4294967296 := by have := nbits_add R 0; omega
          go_wp2_with fail
          refine (E.ref (low_ref _ _ E.there _ (R + 0) wd (E.rwF (v := v33) (by repeat with_reducible first | apply mem_hd | assumption | apply mem_tl)) (by omega) (by omega))).mono ?_
          rintro e w34 ⟨v34, rfl, -, E⟩
          have hRM : (R + 0) % 2 ^ wd = row16N u t i wd := by rw [← row_low, HR.out, negN, HBN.out]; exact congrArg (fun z => (R + z) % 2 ^ wd) HM4.out
          rw [hRM] at E
          go_wp2_with fail
          refine (E.ref (row16_ref _ _ E.there _ _ u t i wd (E.rwF (v := v11) (by repeat with_reducible first | apply mem_hd | assumption | apply mem_tl)) (E.rwF (v := v13) (by repeat with_reducible first | apply mem_hd | assumption | apply mem_tl)) (by omega) (by omega) (by omega) (by omega))).mono ?_
          rintro e w35 ⟨v35, rfl, -, E⟩
          have hnr : nbits (row16N u t i wd) ≤ 1000 := by
            rw [← hRM]
            have := nbits_low (R + 0) wd
            omega
          go_wp2_with fail
          refine (cmp_ref _ _ _ _ (row16N u t i wd) (row16N u t i wd) (E.rwF (v := v34) (by repeat with_reducible first | apply mem_hd | assumption | apply mem_tl)) (E.rwF (v := v35) (by repeat with_reducible first | apply mem_hd | assumption | apply mem_tl)) (by omega) (by omega)).mono ?_
          rintro e w36 ⟨rfl, rfl⟩
          rw [show cmpNat (row16N u t i wd) (row16N u t i wd) = 0 by simp [cmpNat]]
          have HE := Lib.hid E.c.2
          clear E
          go_wp2
          go_ret
          exact ⟨rfl, HB1.out.trans (HE.out.mono HB1.out.size)⟩
      · have hb3 : F.testBit 3 = true := HF.out.2.2.2
        go_wp2_with fail
        refine (bit_at _ _ _ F 3 true (E.rw_ (v := v19) (xs := natBits F) (by repeat with_reducible first | apply mem_hd | assumption | apply mem_tl)) (by omega) hb3).mono ?_
        rintro e w30 ⟨rfl, rfl⟩
        have q1 := cell_below ((Below.refl _ _).alloc (Nat.le_refl _) (.cells #[.bool true] 4)) q1
        have E := E.litB
        simp only [World.size_alloc] at E
        have HM4 := Lib.hid (show 1 * 2 ^ (2 * i) = 4 ^ i * true.toNat by rw [Nat.pow_mul]; simp)
        have hMn : nbits (1 * 2 ^ (2 * i)) ≤ 100 := by rw [Nat.one_mul]; have := nbits_pow (2 * i); omega
        have hn1b : nbits 1 ≤ 549755813888 := by decide
        cases bl <;> cases bm
        · obtain rfl : d = -2 := by rw [hdd]; rfl
          clear hdd
          go_wp2_with fail
          refine (E.ref (left_ref _ _ E.there _ 1 (2 * i) (E.rwF (v := .slice (some ⟨w19.heap.size + 1, 0, none⟩) 1 1) (xs := natBits 1) (by repeat with_reducible first | apply mem_hd | assumption | apply mem_tl)) hn1b (by omega))).mono ?_
          rintro e w40 ⟨VZ, rfl, hb40, E⟩
          have q1 := cell_below hb40 q1
          clear hb40
          obtain ⟨MZ, hMZ⟩ : ∃ MZ, 1 * 2 ^ (2 * i) = MZ := ⟨_, rfl⟩
          rw [hMZ] at E hMn HM4
          clear hMZ
          have hb0 : F.testBit 0 = true := HF.out.1
          have hb1 := HF.out.2.1
          have hb2 := HF.out.2.2.1
          go_wp2_with fail
          refine (bit_at _ _ _ F 0 true (E.rw_ (xs := natBits F) (by repeat with_reducible first | apply mem_hd | assumption | apply mem_tl)) (by omega) hb0).mono ?_
          rintro e w31 ⟨rfl, rfl⟩
          go_wp2_with fail
          refine (bitZ_ref _ _ _ t _ (E.rw_ (v := v13) (xs := natBits t) (by repeat with_reducible first | apply mem_hd | assumption | apply mem_tl)) (by omega)).mono ?_
          rintro e w31 ⟨rfl, rfl⟩
          rw [HBH.out]
          go_wp2_with fail
          refine (bit_at _ _ _ F 1 _ (E.rw_ (v := v19) (xs := natBits F) (by repeat with_reducible first | apply mem_hd | assumption | apply mem_tl)) (by omega) hb1).mono ?_
          rintro e w31 ⟨rfl, rfl⟩
          go_wp2_with fail
          refine (bit_at _ _ _ F 2 _ (E.rw_ (v := v19) (xs := natBits F) (by repeat with_reducible first | apply mem_hd | assumption | apply mem_tl)) (by omega) hb2).mono ?_
          rintro e w31 ⟨rfl, rfl⟩
          go_wp2_with fail
          refine (E.ref (of_ref _ _ E.there (.slice B1 (parts32 R).length d1) (parts32 R) (E.rwF (by repeat with_reducible first | apply mem_hd | assumption | apply mem_tl)) (parts32_ok _) (by rw [parts32_length]; omega))).mono ?_
          rintro e w32 ⟨v32, rfl, -, E⟩
          rw [partsVal_parts32] at E
          go_wp2_with fail
          refine (E.ref (add_ref _ _ E.there _ _ R MZ (E.rwF (v := v32) (by repeat with_reducible first | apply mem_hd | assumption | apply mem_tl)) (E.rwF (v := VZ) (xs := natBits MZ) (by repeat with_reducible first | apply mem_hd | assumption | apply mem_tl)) (by omega) (by omega))).mono ?_
          rintro e w33 ⟨v33, rfl, -, E⟩
          have hnRM : nbits (R + MZ) ≤ 4294967296 := by have := nbits_add R MZ; omega
          go_wp2_with fail
          refine (E.ref (low_ref _ _ E.there _ (R + MZ) wd (E.rwF (v := v33) (by repeat with_reducible first | apply mem_hd | assumption | apply mem_tl)) (by omega) (by omega))).mono ?_
          rintro e w34 ⟨v34, rfl, -, E⟩
          have hRM : (R + MZ) % 2 ^ wd = row16N u t i wd := by rw [← row_low, HR.out, negN, HBN.out]; exact congrArg (fun z => (R + z) % 2 ^ wd) HM4.out
          rw [hRM] at E
          go_wp2_with fail
          refine (E.ref (row16_ref _ _ E.there _ _ u t i wd (E.rwF (v := v11) (by repeat with_reducible first | apply mem_hd | assumption | apply mem_tl)) (E.rwF (v := v13) (by repeat with_reducible first | apply mem_hd | assumption | apply mem_tl)) (by omega) (by omega) (by omega) (by omega))).mono ?_
          rintro e w35 ⟨v35, rfl, -, E⟩
          have hnr : nbits (row16N u t i wd) ≤ 1000 := by
            rw [← hRM]
            have := nbits_low (R + MZ) wd
            omega
          go_wp2_with fail
          refine (cmp_ref _ _ _ _ (row16N u t i wd) (row16N u t i wd) (E.rwF (v := v34) (by repeat with_reducible first | apply mem_hd | assumption | apply mem_tl)) (E.rwF (v := v35) (by repeat with_reducible first | apply mem_hd | assumption | apply mem_tl)) (by omega) (by omega)).mono ?_
          rintro e w36 ⟨rfl, rfl⟩
          rw [show cmpNat (row16N u t i wd) (row16N u t i wd) = 0 by simp [cmpNat]]
          have HE := Lib.hid E.c.2
          clear E
          go_wp2
          go_ret
          exact ⟨rfl, HB1.out.trans (HE.out.mono HB1.out.size)⟩
        · obtain rfl : d = -1 := by rw [hdd]; rfl
          clear hdd
          go_wp2_with fail
          refine (E.ref (left_ref _ _ E.there _ 1 (2 * i) (E.rwF (v := .slice (some ⟨w19.heap.size + 1, 0, none⟩) 1 1) (xs := natBits 1) (by repeat with_reducible first | apply mem_hd | assumption | apply mem_tl)) hn1b (by omega))).mono ?_
          rintro e w40 ⟨VZ, rfl, hb40, E⟩
          have q1 := cell_below hb40 q1
          clear hb40
          obtain ⟨MZ, hMZ⟩ : ∃ MZ, 1 * 2 ^ (2 * i) = MZ := ⟨_, rfl⟩
          rw [hMZ] at E hMn HM4
          clear hMZ
          have hb0 : F.testBit 0 = true := HF.out.1
          have hb1 := HF.out.2.1
          have hb2 := HF.out.2.2.1
          go_wp2_with fail
          refine (bit_at _ _ _ F 0 true (E.rw_ (xs := natBits F) (by repeat with_reducible first | apply mem_hd | assumption | apply mem_tl)) (by omega) hb0).mono ?_
          rintro e w31 ⟨rfl, rfl⟩
          go_wp2_with fail
          refine (bitZ_ref _ _ _ t _ (E.rw_ (v := v13) (xs := natBits t) (by repeat with_reducible first | apply mem_hd | assumption | apply mem_tl)) (by omega)).mono ?_
          rintro e w31 ⟨rfl, rfl⟩
          rw [HBH.out]
          go_wp2_with fail
          refine (bit_at _ _ _ F 1 _ (E.rw_ (v := v19) (xs := natBits F) (by repeat with_reducible first | apply mem_hd | assumption | apply mem_tl)) (by omega) hb1).mono ?_
          rintro e w31 ⟨rfl, rfl⟩
          go_wp2_with fail
          refine (bit_at _ _ _ F 2 _ (E.rw_ (v := v19) (xs := natBits F) (by repeat with_reducible first | apply mem_hd | assumption | apply mem_tl)) (by omega) hb2).mono ?_
          rintro e w31 ⟨rfl, rfl⟩
          go_wp2_with fail
          refine (E.ref (of_ref _ _ E.there (.slice B1 (parts32 R).length d1) (parts32 R) (E.rwF (by repeat with_reducible first | apply mem_hd | assumption | apply mem_tl)) (parts32_ok _) (by rw [parts32_length]; omega))).mono ?_
          rintro e w32 ⟨v32, rfl, -, E⟩
          rw [partsVal_parts32] at E
          go_wp2_with fail
          refine (E.ref (add_ref _ _ E.there _ _ R MZ (E.rwF (v := v32) (by repeat with_reducible first | apply mem_hd | assumption | apply mem_tl)) (E.rwF (v := VZ) (xs := natBits MZ) (by repeat with_reducible first | apply mem_hd | assumption | apply mem_tl)) (by omega) (by omega))).mono ?_
          rintro e w33 ⟨v33, rfl, -, E⟩
          have hnRM : nbits (R + MZ) ≤ 4294967296 := by have := nbits_add R MZ; omega
          go_wp2_with fail
          refine (E.ref (low_ref _ _ E.there _ (R + MZ) wd (E.rwF (v := v33) (by repeat with_reducible first | apply mem_hd | assumption | apply mem_tl)) (by omega) (by omega))).mono ?_
          rintro e w34 ⟨v34, rfl, -, E⟩
          have hRM : (R + MZ) % 2 ^ wd = row16N u t i wd := by rw [← row_low, HR.out, negN, HBN.out]; exact congrArg (fun z => (R + z) % 2 ^ wd) HM4.out
          rw [hRM] at E
          go_wp2_with fail
          refine (E.ref (row16_ref _ _ E.there _ _ u t i wd (E.rwF (v := v11) (by repeat with_reducible first | apply mem_hd | assumption | apply mem_tl)) (E.rwF (v := v13) (by repeat with_reducible first | apply mem_hd | assumption | apply mem_tl)) (by omega) (by omega) (by omega) (by omega))).mono ?_
          rintro e w35 ⟨v35, rfl, -, E⟩
          have hnr : nbits (row16N u t i wd) ≤ 1000 := by
            rw [← hRM]
            have := nbits_low (R + MZ) wd
            omega
          go_wp2_with fail
          refine (cmp_ref _ _ _ _ (row16N u t i wd) (row16N u t i wd) (E.rwF (v := v34) (by repeat with_reducible first | apply mem_hd | assumption | apply mem_tl)) (E.rwF (v := v35) (by repeat with_reducible first | apply mem_hd | assumption | apply mem_tl)) (by omega) (by omega)).mono ?_
          rintro e w36 ⟨rfl, rfl⟩
          rw [show cmpNat (row16N u t i wd) (row16N u t i wd) = 0 by simp [cmpNat]]
          have HE := Lib.hid E.c.2
          clear E
          go_wp2
          go_ret
          exact ⟨rfl, HB1.out.trans (HE.out.mono HB1.out.size)⟩
        · obtain rfl : d = -1 := by rw [hdd]; rfl
          clear hdd
          go_wp2_with fail
          refine (E.ref (left_ref _ _ E.there _ 1 (2 * i) (E.rwF (v := .slice (some ⟨w19.heap.size + 1, 0, none⟩) 1 1) (xs := natBits 1) (by repeat with_reducible first | apply mem_hd | assumption | apply mem_tl)) hn1b (by omega))).mono ?_
          rintro e w40 ⟨VZ, rfl, hb40, E⟩
          have q1 := cell_below hb40 q1
          clear hb40
          obtain ⟨MZ, hMZ⟩ : ∃ MZ, 1 * 2 ^ (2 * i) = MZ := ⟨_, rfl⟩
          rw [hMZ] at E hMn HM4
          clear hMZ
          have hb0 : F.testBit 0 = true := HF.out.1
          have hb1 := HF.out.2.1
          have hb2 := HF.out.2.2.1
          go_wp2_with fail
          refine (bit_at _ _ _ F 0 true (E.rw_ (xs := natBits F) (by repeat with_reducible first | apply mem_hd | assumption | apply mem_tl)) (by omega) hb0).mono ?_
          rintro e w31 ⟨rfl, rfl⟩
          go_wp2_with fail
          refine (bitZ_ref _ _ _ t _ (E.rw_ (v := v13) (xs := natBits t) (by repeat with_reducible first | apply mem_hd | assumption | apply mem_tl)) (by omega)).mono ?_
          rintro e w31 ⟨rfl, rfl⟩
          rw [HBH.out]
          go_wp2_with fail
          refine (bit_at _ _ _ F 1 _ (E.rw_ (v := v19) (xs := natBits F) (by repeat with_reducible first | apply mem_hd | assumption | apply mem_tl)) (by omega) hb1).mono ?_
          rintro e w31 ⟨rfl, rfl⟩
          go_wp2_with fail
          refine (bit_at _ _ _ F 2 _ (E.rw_ (v := v19) (xs := natBits F) (by repeat with_reducible first | apply mem_hd | assumption | apply mem_tl)) (by omega) hb2).mono ?_
          rintro e w31 ⟨rfl, rfl⟩
          go_wp2_with fail
          refine (E.ref (of_ref _ _ E.there (.slice B1 (parts32 R).length d1) (parts32 R) (E.rwF (by repeat with_reducible first | apply mem_hd | assumption | apply mem_tl)) (parts32_ok _) (by rw [parts32_length]; omega))).mono ?_
          rintro e w32 ⟨v32, rfl, -, E⟩
          rw [partsVal_parts32] at E
          go_wp2_with fail
          refine (E.ref (add_ref _ _ E.there _ _ R MZ (E.rwF (v := v32) (by repeat with_reducible first | apply mem_hd | assumption | apply mem_tl)) (E.rwF (v := VZ) (xs := natBits MZ) (by repeat with_reducible first | apply mem_hd | assumption | apply mem_tl)) (by omega) (by omega))).mono ?_
          rintro e w33 ⟨v33, rfl, -, E⟩
          have hnRM : nbits (R + MZ) ≤ 4294967296 := by have := nbits_add R MZ; omega
          go_wp2_with fail
          refine (E.ref (low_ref _ _ E.there _ (R + MZ) wd (E.rwF (v := v33) (by repeat with_reducible first | apply mem_hd | assumption | apply mem_tl)) (by omega) (by omega))).mono ?_
          rintro e w34 ⟨v34, rfl, -, E⟩
          have hRM : (R + MZ) % 2 ^ wd = row16N u t i wd := by rw [← row_low, HR.out, negN, HBN.out]; exact congrArg (fun z => (R + z) % 2 ^ wd) HM4.out
          rw [hRM] at E
          go_wp2_with fail
          refine (E.ref (row16_ref _ _ E.there _ _ u t i wd (E.rwF (v := v11) (by repeat with_reducible first | apply mem_hd | assumption | apply mem_tl)) (E.rwF (v := v13) (by repeat with_reducible first | apply mem_hd | assumption | apply mem_tl)) (by omega) (by omega) (by omega) (by omega))).mono ?_
          rintro e w35 ⟨v35, rfl, -, E⟩
          have hnr : nbits (row16N u t i wd) ≤ 1000 := by
            rw [← hRM]
            have := nbits_low (R + MZ) wd
            omega
          go_wp2_with fail
          refine (cmp_ref _ _ _ _ (row16N u t i wd) (row16N u t i wd) (E.rwF (v := v34) (by repeat with_reducible first | apply mem_hd | assumption | apply mem_tl)) (E.rwF (v := v35) (by repeat with_reducible first | apply mem_hd | assumption | apply mem_tl)) (by omega) (by omega)).mono ?_
          rintro e w36 ⟨rfl, rfl⟩
          rw [show cmpNat (row16N u t i wd) (row16N u t i wd) = 0 by simp [cmpNat]]
          have HE := Lib.hid E.c.2
          clear E
          go_wp2
          go_ret
          exact ⟨rfl, HB1.out.trans (HE.out.mono HB1.out.size)⟩
        · obtain rfl : d = 0 := by rw [hdd]; rfl
          clear hdd
          go_wp2_with fail
          refine (E.ref (left_ref _ _ E.there _ 1 (2 * i) (E.rwF (v := .slice (some ⟨w19.heap.size + 1, 0, none⟩) 1 1) (xs := natBits 1) (by repeat with_reducible first | apply mem_hd | assumption | apply mem_tl)) hn1b (by omega))).mono ?_
          rintro e w40 ⟨VZ, rfl, hb40, E⟩
          have q1 := cell_below hb40 q1
          clear hb40
          obtain ⟨MZ, hMZ⟩ : ∃ MZ, 1 * 2 ^ (2 * i) = MZ := ⟨_, rfl⟩
          rw [hMZ] at E hMn HM4
          clear hMZ
          have hb0 : F.testBit 0 = true := HF.out.1
          have hb1 := HF.out.2.1
          have hb2 := HF.out.2.2.1
          go_wp2_with fail
          refine (bit_at _ _ _ F 0 true (E.rw_ (xs := natBits F) (by repeat with_reducible first | apply mem_hd | assumption | apply mem_tl)) (by omega) hb0).mono ?_
          rintro e w31 ⟨rfl, rfl⟩
          go_wp2_with fail
          refine (bitZ_ref _ _ _ t _ (E.rw_ (v := v13) (xs := natBits t) (by repeat with_reducible first | apply mem_hd | assumption | apply mem_tl)) (by omega)).mono ?_
          rintro e w31 ⟨rfl, rfl⟩
          rw [HBH.out]
          go_wp2_with fail
          refine (bit_at _ _ _ F 1 _ (E.rw_ (v := v19) (xs := natBits F) (by repeat with_reducible first | apply mem_hd | assumption | apply mem_tl)) (by omega) hb1).mono ?_
          rintro e w31 ⟨rfl, rfl⟩
          go_wp2_with fail
          refine (bit_at _ _ _ F 2 _ (E.rw_ (v := v19) (xs := natBits F) (by repeat with_reducible first | apply mem_hd | assumption | apply mem_tl)) (by omega) hb2).mono ?_
          rintro e w31 ⟨rfl, rfl⟩
          go_wp2_with fail
          refine (E.ref (of_ref _ _ E.there (.slice B1 (parts32 R).length d1) (parts32 R) (E.rwF (by repeat with_reducible first | apply mem_hd | assumption | apply mem_tl)) (parts32_ok _) (by rw [parts32_length]; omega))).mono ?_
          rintro e w32 ⟨v32, rfl, -, E⟩
          rw [partsVal_parts32] at E
          go_wp2_with fail
          refine (E.ref (add_ref _ _ E.there _ _ R MZ (E.rwF (v := v32) (by repeat with_reducible first | apply mem_hd | assumption | apply mem_tl)) (E.rwF (v := VZ) (xs := natBits MZ) (by repeat with_reducible first | apply mem_hd | assumption | apply mem_tl)) (by omega) (by omega))).mono ?_
          rintro e w33 ⟨v33, rfl, -, E⟩
          have hnRM : nbits (R + MZ) ≤ 4294967296 := by have := nbits_add R MZ; omega
          go_wp2_with fail
          refine (E.ref (low_ref _ _ E.there _ (R + MZ) wd (E.rwF (v := v33) (by repeat with_reducible first | apply mem_hd | assumption | apply mem_tl)) (by omega) (by omega))).mono ?_
          rintro e w34 ⟨v34, rfl, -, E⟩
          have hRM : (R + MZ) % 2 ^ wd = row16N u t i wd := by rw [← row_low, HR.out, negN, HBN.out]; exact congrArg (fun z => (R + z) % 2 ^ wd) HM4.out
          rw [hRM] at E
          go_wp2_with fail
          refine (E.ref (row16_ref _ _ E.there _ _ u t i wd (E.rwF (v := v11) (by repeat with_reducible first | apply mem_hd | assumption | apply mem_tl)) (E.rwF (v := v13) (by repeat with_reducible first | apply mem_hd | assumption | apply mem_tl)) (by omega) (by omega) (by omega) (by omega))).mono ?_
          rintro e w35 ⟨v35, rfl, -, E⟩
          have hnr : nbits (row16N u t i wd) ≤ 1000 := by
            rw [← hRM]
            have := nbits_low (R + MZ) wd
            omega
          go_wp2_with fail
          refine (cmp_ref _ _ _ _ (row16N u t i wd) (row16N u t i wd) (E.rwF (v := v34) (by repeat with_reducible first | apply mem_hd | assumption | apply mem_tl)) (E.rwF (v := v35) (by repeat with_reducible first | apply mem_hd | assumption | apply mem_tl)) (by omega) (by omega)).mono ?_
          rintro e w36 ⟨rfl, rfl⟩
          rw [show cmpNat (row16N u t i wd) (row16N u t i wd) = 0 by simp [cmpNat]]
          have HE := Lib.hid E.c.2
          clear E
          go_wp2
          go_ret
          exact ⟨rfl, HB1.out.trans (HE.out.mono HB1.out.size)⟩
    · have hk3 : 20 < (ys.length : Int) := by omega
      have hk2 : ¬ (20 < (xs.length : Int)) := by omega
      go_wp2
      go_ret
      exact ⟨rfl, HB1.out⟩
  · have hk2 : 20 < (xs.length : Int) := by omega
    go_wp2
    go_ret
    exact ⟨rfl, HB1.out⟩
end Go.Proofs.Ytdljgifoboiaeaa
