/- slipsticklaw16.BoothTurned, walked. -/
import Derived.Test.YtdljgifoboiaeaaL16
import Derived.Test.YtdljgifoboiaeaaLawB
namespace Go.Proofs.Ytdljgifoboiaeaa
open Go.RowKit

def plusN (Y : Nat) : Nat → Nat
  | 0 => 0
  | k + 1 => plusN Y k + if 0 < dig Y k then (dig Y k).natAbs * 2 ^ (2 * k) else 0
def minusN (Y : Nat) : Nat → Nat
  | 0 => 0
  | k + 1 => minusN Y k + if dig Y k < 0 then (dig Y k).natAbs * 2 ^ (2 * k) else 0
theorem plus_minus (Y : Nat) : ∀ k, (plusN Y k : Int) = digSum Y k + minusN Y k
  | 0 => rfl
  | k + 1 => by
    rw [plusN, minusN, digSum]
    push_cast
    rw [plus_minus Y k]
    rcases dig_is Y k with h | h | h | h | h <;> rw [h] <;> simp <;> omega
theorem plusN_le (Y : Nat) : ∀ k, 3 * plusN Y k + 2 ≤ 2 * 2 ^ (2 * k)
  | 0 => by simp [plusN]
  | k + 1 => by
    have := plusN_le Y k
    rw [plusN, show 2 * (k + 1) = 2 * k + 2 by omega, Nat.pow_add]
    rcases dig_is Y k with h | h | h | h | h <;> rw [h] <;> simp <;> omega
theorem minusN_le (Y : Nat) : ∀ k, 3 * minusN Y k + 2 ≤ 2 * 2 ^ (2 * k)
  | 0 => by simp [minusN]
  | k + 1 => by
    have := minusN_le Y k
    rw [minusN, show 2 * (k + 1) = 2 * k + 2 by omega, Nat.pow_add]
    rcases dig_is Y k with h | h | h | h | h <;> rw [h] <;> simp <;> omega
theorem plus_all (Y m : Nat) (h : Y < 2 ^ m) : plusN Y (m / 2 + 1) = Y + minusN Y (m / 2 + 1) := by
  have h1 := plus_minus Y (m / 2 + 1)
  rw [digSum_all Y m h] at h1
  omega


set_option maxHeartbeats 8000000 in
set_option maxRecDepth 100000 in
attribute [local go_sem] max2_int min2_int max_two min_two in
theorem turned_walk (w : World) (a b : Nat) (ha : a < 256) (hb : b < 256) (vx vy : Value) (xs ys : List Int) (hx : Row (kNum .u32) w (fun _ => False) vx xs) (hy : Row (kNum .u32) w (fun _ => False) vy ys) (hxo : okParts xs) (hyo : okParts ys) :
    Calls Try.prog 13 #[.int .u8 a, .int .u8 b, vx, vy] w fun e w' => e = .returned (.bool true) ∧ Below w.heap.size w w' := by
  obtain ⟨n, hn⟩ : ∃ n : Nat, (a : Int) % 20 + 1 = n := ⟨a % 20 + 1, by omega⟩
  obtain ⟨m, hm⟩ : ∃ m : Nat, (b : Int) % 20 + 1 = m := ⟨b % 20 + 1, by omega⟩
  have hn1 : 0 < n ∧ n ≤ 20 := by omega
  have hm1 : 0 < m ∧ m ≤ 20 := by omega
  obtain ⟨D, hD⟩ : ∃ D, m / 2 + 1 = D := ⟨_, rfl⟩
  have hD1 : 0 < D ∧ D ≤ 11 := by omega
  obtain ⟨A1, c1, rfl, -, hc1⟩ := hx.shape
  obtain ⟨A2, c2, rfl, -, hc2⟩ := hy.shape
  unfold maxLen at hc1 hc2
  have HX := Lib.hid hx
  have HY := Lib.hid hy
  have HXO := Lib.hid hxo
  have HYO := Lib.hid hyo
  have HD := Lib.hid hD
  clear hx hy hxo hyo hD
  go_enter Try.func13, Try.ntmps13
  go_wp2_with fail
  refine (awake16 w).mono ?_
  rintro e w1 ⟨rfl, hb1⟩
  have HX1 := Lib.hid (HX.out.later hb1)
  have HY1 := Lib.hid (HY.out.later hb1)
  have HB1 := Lib.hid hb1
  clear hb1
  by_cases hsx : xs.length ≤ 20
  · by_cases hsy : ys.length ≤ 20
    · have hk2 : ¬ (20 < (xs.length : Int)) := by omega
      have hk3 : ¬ (20 < (ys.length : Int)) := by omega
      have hbx : nbits (partsVal xs) ≤ 640 := by have := nbits_parts HXO.out; omega
      have hby : nbits (partsVal ys) ≤ 640 := by have := nbits_parts HYO.out; omega
      go_wp2_with fail
      refine (new_mine w1).mono ?_
      rintro e w2 ⟨rfl, hM⟩
      obtain ⟨p, hp⟩ : ∃ p : Nat, w1.heap.size = p := ⟨_, rfl⟩
      have E := (Env.ofMine hM HasBits.none Ordered.nil).cntle (N' := 0) (by simp)
      have hP0 := PortsOk.none
      rw [hp] at E
      have hs0 : (⟨[], [], []⟩ : BSt).ins = [] ∧ (⟨[], [], []⟩ : BSt).outs = [] := ⟨rfl, rfl⟩
      generalize (⟨[], [], []⟩ : BSt) = s0 at E hP0 hs0
      have HS := Lib.hid hs0
      have HPW := Lib.hid hp
      clear hM hs0
      rw [hp]
      rw [← hp] at E
      have E := (E.old HX1.out).old HY1.out
      rw [hp] at E
      clear hp
      go_wp2_with fail
      refine (E.in_ hP0 ⟨#[120]⟩ n hn1.1 (by omega) (by rw [HS.out.1]; decide) (by omega)).mono ?_
      rintro e w3 ⟨vp, ps, s1, rfl, hpl, hi1, hP1, -, -, -, E⟩
      rw [HS.out.1, HS.out.2] at hi1
      go_wp2_with fail
      refine (E.in_ hP1 ⟨#[121]⟩ m hm1.1 (by omega) (by rw [hi1.out.1]; simp) (by omega)).mono ?_
      rintro e w4 ⟨vq, qs, s2, rfl, hql, hi2, hP2, -, -, -, E⟩
      rw [hi1.out.1, hi1.out.2] at hi2
      obtain ⟨A4, c4, hv4, -, -⟩ := E.shape (xs := ps) (by repeat with_reducible first | apply mem_hd | assumption | apply mem_tl)
      obtain ⟨A5, c5, hv5, -, -⟩ := E.shape (xs := qs) (by repeat with_reducible first | apply mem_hd | assumption | apply mem_tl)
      rw [hpl.out] at hv4
      rw [hql.out] at hv5
      subst hv4; subst hv5
      have E := E.cntle (N' := 3000) (by omega)
      go_wp2_with fail
      refine (E.bmul (xs := ps) (ys := qs) (by repeat with_reducible first | apply mem_hd | assumption | apply mem_tl) (by repeat with_reducible first | apply mem_hd | assumption | apply mem_tl) (by rw [hpl.out, hql.out]; omega) (by omega)).mono ?_
      rintro e w5 ⟨vz, zs, st5, hz, rfl, -, -, -, E⟩
      rw [hpl.out, hql.out] at hz
      go_wp2_with fail
      refine (E.out hP2 ⟨#[122]⟩ (xs := zs) (by repeat with_reducible first | apply mem_hd | assumption | apply mem_tl) (by rw [hz.out]; omega) (by rw [hi2.out.2]; simp)).mono ?_
      rintro e w6 ⟨s3, rfl, hi3, hP3, E⟩
      rw [hi2.out.1, hi2.out.2, List.nil_append] at hi3
      go_wp2_with fail
      refine (E.bmul (xs := qs) (ys := ps) (by repeat with_reducible first | apply mem_hd | assumption | apply mem_tl) (by repeat with_reducible first | apply mem_hd | assumption | apply mem_tl) (by rw [hpl.out, hql.out]; omega) (by omega)).mono ?_
      rintro e w7 ⟨vz2, zs2, st7, hz2, rfl, -, -, -, E⟩
      rw [hpl.out, hql.out] at hz2
      go_wp2_with fail
      refine (E.out hP3 ⟨#[121]⟩ (xs := zs2) (by repeat with_reducible first | apply mem_hd | assumption | apply mem_tl) (by rw [hz2.out]; omega) (by rw [hi3.out.2]; simp)).mono ?_
      rintro e w8 ⟨s4, rfl, hi4, hP4, E⟩
      rw [hi3.out.1, hi3.out.2] at hi4
      go_wp2_with fail
      refine (E.bplain (xs := ps) (ys := qs) (by repeat with_reducible first | apply mem_hd | assumption | apply mem_tl) (by repeat with_reducible first | apply mem_hd | assumption | apply mem_tl) (by rw [hpl.out, hql.out]; omega) (by omega)).mono ?_
      rintro e w9 ⟨vz3, zs3, st9, hz3, rfl, -, -, -, E⟩
      rw [hpl.out, hql.out] at hz3
      go_wp2_with fail
      refine (E.out hP4 ⟨#[119]⟩ (xs := zs3) (by repeat with_reducible first | apply mem_hd | assumption | apply mem_tl) (by rw [hz3.out]; omega) (by rw [hi4.out.2]; simp)).mono ?_
      rintro e w10 ⟨s5, rfl, hi5, hP5, E⟩
      rw [hi4.out.1, hi4.out.2] at hi5
      clear hi1 hi2 hi3 hi4 hP0 hP1 hP2 hP3 hP4
      go_wp2_with fail
      refine (E.ref (of_ref _ _ E.there _ xs (E.rwF (by repeat with_reducible first | apply mem_hd | assumption | apply mem_tl)) HXO.out (by omega))).mono ?_
      rintro e w10 ⟨v10, rfl, -, E⟩
      go_wp2_with fail
      refine (E.ref (low_ref _ _ E.there _ (partsVal xs) n (E.rwF (by repeat with_reducible first | apply mem_hd | assumption | apply mem_tl)) (by omega) (by omega))).mono ?_
      rintro e w11 ⟨v11, rfl, -, E⟩
      go_wp2_with fail
      refine (E.ref (of_ref _ _ E.there _ ys (E.rwF (by repeat with_reducible first | apply mem_hd | assumption | apply mem_tl)) HYO.out (by omega))).mono ?_
      rintro e w12 ⟨v12, rfl, -, E⟩
      go_wp2_with fail
      refine (E.ref (low_ref _ _ E.there _ (partsVal ys) m (E.rwF (by repeat with_reducible first | apply mem_hd | assumption | apply mem_tl)) (by omega) (by omega))).mono ?_
      rintro e w13 ⟨v13, rfl, -, E⟩
      obtain ⟨u, hu⟩ : ∃ u, partsVal xs % 2 ^ n = u := ⟨_, rfl⟩
      obtain ⟨t, ht2⟩ : ∃ t, partsVal ys % 2 ^ m = t := ⟨_, rfl⟩
      rw [hu, ht2] at E
      have hul : Hid (u < 2 ^ n) := Lib.hid (by rw [← hu]; exact Nat.mod_lt _ (Nat.two_pow_pos n))
      have htl : Hid (t < 2 ^ m) := Lib.hid (by rw [← ht2]; exact Nat.mod_lt _ (Nat.two_pow_pos m))
      have hnu : nbits u ≤ 20 := by have := nbits_le hul.out; omega
      have hnt : nbits t ≤ 20 := by have := nbits_le htl.out; omega
      clear hu ht2 hbx hby hsx hsy hk2 hk3
      go_wp2_with fail
      refine (E.net hP5 (by omega)).mono ?_
      rintro e w14 ⟨vn, vi, vo, rfl, -, E⟩
      go_wp2_with fail
      refine (E.ref (parts_ref _ _ E.there _ u (E.rwF (v := v11) (by repeat with_reducible first | apply mem_hd | assumption | apply mem_tl)) (by omega))).mono ?_
      rintro e w15 ⟨v15, rfl, -, E⟩
      go_wp2_with fail
      refine (E.ref (parts_ref _ _ E.there _ t (E.rwF (v := v13) (by repeat with_reducible first | apply mem_hd | assumption | apply mem_tl)) (by omega))).mono ?_
      rintro e w16 ⟨v16, rfl, -, E⟩
      obtain ⟨A7, c7, hv7⟩ := E.rshape (v := v15) (xs := parts32 u) (by repeat with_reducible first | apply mem_hd | assumption | apply mem_tl)
      subst hv7
      obtain ⟨A8, c8, hv8⟩ := E.rshape (v := v16) (xs := parts32 t) (by repeat with_reducible first | apply mem_hd | assumption | apply mem_tl)
      subst hv8
      have E := E.lits (kNum .u32) 38 [parts32 u, parts32 t] [.slice A7 (parts32 u).length c7, .slice A8 (parts32 t).length c8] 2 rfl rfl (by simp) (fun i x v hx hv => by
        match i, hx, hv with
        | 0, hx, hv => simp at hx hv; subst hx; subst hv; exact (by repeat with_reducible first | apply mem_hd | assumption | apply mem_tl)
        | 1, hx, hv => simp at hx hv; subst hx; subst hv; exact (by repeat with_reducible first | apply mem_hd | assumption | apply mem_tl))
      go_wp2_with fail
      refine (E.eval hP5 (by omega) (vn := vn) (vi := vi) (vo := vo) (by repeat with_reducible first | apply mem_hd | assumption | apply mem_tl) (by repeat with_reducible first | apply mem_hd | assumption | apply mem_tl) (by repeat with_reducible first | apply mem_hd | assumption | apply mem_tl) (by repeat with_reducible first | apply mem_hd | assumption | apply mem_tl) (by rw [hi5.out.1]; rfl) (fun q hq => ?_) (fun i z hz => ?_)).mono ?_
      · simp only [List.mem_cons, List.not_mem_nil, or_false] at hq
        rcases hq with rfl | rfl
        · exact parts_fit _ n hul.out (by omega)
        · exact parts_fit _ m htl.out (by omega)
      · rw [hi5.out.1] at hz
        match i, hz with
        | 0, hz => simp at hz; subst hz; simp only [List.getD_cons_zero, partsVal_parts32]; rw [hpl.out]; exact hul.out
        | 1, hz => simp at hz; subst hz; simp only [List.getD_cons_succ, List.getD_cons_zero, partsVal_parts32]; rw [hql.out]; exact htl.out
      rintro e w17 ⟨v17, V, rfl, -, hV, hin, E⟩
      have hK := Lib.hid (E.sem V hV)
      have g1' : numV V ps = u := by have h := hin.out 0 _ (by rw [hi5.out.1]; rfl); simpa [partsVal_parts32] using h
      have g2' : numV V qs = t := by have h := hin.out 1 _ (by rw [hi5.out.1]; rfl); simpa [partsVal_parts32] using h
      obtain ⟨⟨⟨-, f1⟩, f2⟩, f3⟩ := hK.out
      rw [g1', g2'] at f1 f2 f3
      rw [Nat.mul_comm] at f2
      rw [hi5.out.2] at E
      simp only [List.nil_append, List.cons_append, List.map_cons, List.map_nil] at E
      rw [f1, f2, f3] at E
      have hnw : nbits (u * t) ≤ 40 := by
        have := nbits_le (n := u * t) (k := n + m) (by rw [Nat.pow_add]; exact Nat.mul_lt_mul'' hul.out htl.out)
        omega
      obtain ⟨Wn, hWn⟩ : ∃ Wn, parts32 (u * t) = Wn := ⟨_, rfl⟩
      have hWl : Wn.length ≤ 10 := by rw [← hWn, parts32_length]; omega
      rw [hWn] at E
      clear hK hin hV g1' g2' f1 f2 f3 hWn hnw
      obtain ⟨A17, c17, hv17⟩ := E.rshape (v := v17) (by repeat with_reducible first | apply mem_hd | assumption | apply mem_tl)
      simp only [List.length_cons, List.length_nil, Nat.zero_add, Nat.reduceAdd] at hv17
      subst hv17
      obtain ⟨bo, oo, B0, d0, rfl, q0, E⟩ := E.rowAt (xss := [Wn, Wn, Wn]) (by repeat with_reducible first | apply mem_hd | assumption | apply mem_tl) 0 (by simp)
      obtain ⟨bo1, oo1, B1, d1, he1, q1, E⟩ := E.rowAt (xss := [Wn, Wn, Wn]) (by repeat with_reducible first | apply mem_hd | assumption | apply mem_tl) 1 (by simp)
      obtain ⟨bo2, oo2, B2, d2, he2, q2, E⟩ := E.rowAt (xss := [Wn, Wn, Wn]) (by repeat with_reducible first | apply mem_hd | assumption | apply mem_tl) 2 (by simp)
      injection he1 with he1; injection he1 with he1 he1'; subst he1; subst he1'
      injection he2 with he2; injection he2 with he2 he2'; subst he2; subst he2'
      simp only [List.getElem_cons_zero, List.getElem_cons_succ, Nat.add_zero] at q0 q1 q2 E
      have E := E.drew
      have QD := Lib.hid (show (w17.drew.cell? ⟨bo, oo, none⟩ = _ ∧ w17.drew.cell? ⟨bo, oo + 1, none⟩ = _ ∧ w17.drew.cell? ⟨bo, oo + 2, none⟩ = _) from ⟨q0, q1, q2⟩)
      have Q0 := Lib.hid (show (w17.cell? ⟨bo, oo, none⟩ = _ ∧ w17.cell? ⟨bo, oo + 1, none⟩ = _ ∧ w17.cell? ⟨bo, oo + 2, none⟩ = _) from ⟨q0, q1, q2⟩)
      clear q0 q1 q2
      have hSa := (same_ref _ _ _ _ _ Wn Wn (E.rwF (v := .slice B0 Wn.length d0) (by repeat with_reducible first | apply mem_hd | assumption | apply mem_tl)) (E.rwF (v := .slice B1 Wn.length d1) (by repeat with_reducible first | apply mem_hd | assumption | apply mem_tl)) (by omega) (by omega)).mono (R' := fun e w' => e = .returned (.bool true) ∧ Below w17.drew.heap.size w17.drew w') fun e w' ⟨h1, h2⟩ => ⟨by rw [h1, decide_eq_true rfl], h2⟩
      go_wp2_with fail
      go_region_held3 (fun w' => w'.cell? ⟨bo, oo, none⟩ = some (.slice B0 Wn.length d0) ∧ w'.cell? ⟨bo, oo + 1, none⟩ = some (.slice B1 Wn.length d1) ∧ w'.cell? ⟨bo, oo + 2, none⟩ = some (.slice B2 Wn.length d2))
        (first | with_reducible exact QD.out | with_reducible exact Q0.out | with_reducible exact Q1.out | with_reducible exact Q2.out)
        (first
          | (go_at_call 25; refine hSa.mono ?_; clear hSa; rintro e w20 ⟨rfl, hb20⟩; have E := E.quiet hb20; have Q1 := Lib.hid (And.intro (cell_below hb20 QD.out.1) (And.intro (cell_below hb20 QD.out.2.1) (cell_below hb20 QD.out.2.2))); have hSb := (same_ref _ _ _ _ _ Wn Wn (E.rwF (v := .slice B0 Wn.length d0) (by repeat with_reducible first | apply mem_hd | assumption | apply mem_tl)) (E.rwF (v := .slice B2 Wn.length d2) (by repeat with_reducible first | apply mem_hd | assumption | apply mem_tl)) (by omega) (by omega)).mono (R' := fun e w' => e = .returned (.bool true) ∧ Below w20.heap.size w20 w') fun e w' ⟨h1, h2⟩ => ⟨by rw [h1, decide_eq_true rfl], h2⟩)
          | (go_at_call 25; refine hSb.mono ?_; clear hSb; rintro e w21 ⟨rfl, hb21⟩; have E := E.quiet hb21; have Q2 := Lib.hid (And.intro (cell_below hb21 Q1.out.1) (And.intro (cell_below hb21 Q1.out.2.1) (cell_below hb21 Q1.out.2.2)))))
      have hEc := E.c.2
      have HB21 := Lib.hid (HB1.out.trans (hEc.mono (by rw [← HPW.out]; exact HB1.out.size)))
      clear hEc
      have htt := (E.rw_ (v := v13) (xs := natBits t) (by repeat with_reducible first | apply mem_hd | assumption | apply mem_tl)).mono (S' := fun _ => False) fun _ _ h => h.elim
      have hbA : Below w21.heap.size w21 ((w21.alloc (.cells #[] 4)).alloc (.cells #[] 4)) := ((Below.refl _ _).alloc (Nat.le_refl _) _).alloc (by simp) _
      have HTT0 := Lib.hid (htt.later hbA)
      have HB22 := Lib.hid (HB21.out.trans (hbA.mono HB21.out.size))
      clear htt hbA E QD Q0 Q1 Q2 hb20 hb21
      go_wp2_with fail
      have hnil : ∀ (W : World) (a : Addr), Hid (Row kBool W (fun _ => False) (.slice (some a) 0 0) (natBits 0)) := fun W a => Lib.hid ⟨some a, 0, [], rfl, Nat.le_refl _, Nat.zero_le _, (fun h => nomatch h), Pairs.nil _ _ _, fun h => by simp [natBits_zero] at h⟩
      go_loopw [18, 19, 20] (fun pv mv iv wr => ∃ k : Nat, iv = .int .i64 (k : Nat) ∧ k ≤ D ∧ Hid (Below w.heap.size w wr) ∧ Hid (Row kBool wr (fun _ => False) pv (natBits (plusN t k))) ∧ Hid (Row kBool wr (fun _ => False) mv (natBits (minusN t k))) ∧ Hid (Row kBool wr (fun _ => False) v13 (natBits t))) (fun _ _ iv _ => D - (intOf iv).toNat)
      case atStart => exact ⟨0, rfl, by omega, HB22, hnil _ _, hnil _ _, HTT0⟩
      case round =>
        clear HTT0 HB22 HB21 hnil
        obtain ⟨k, rfl, hk, HB, HPP, HMM, HTT⟩ := hrel
        have hnp : nbits (plusN t k) ≤ 2 * k + 1 := nbits_le (by have := plusN_le t k; rw [Nat.pow_succ]; omega)
        have hnm : nbits (minusN t k) ≤ 2 * k + 1 := nbits_le (by have := minusN_le t k; rw [Nat.pow_succ]; omega)
        go_wp2_with fail
        refine (digits_calls _ A5 m c5 (by omega)).mono ?_
        rintro e w18 ⟨rfl, rfl⟩
        rw [HD.out]
        by_cases hlt : k < D
        · have hk40 : (k : Int) < 40 := by omega
          go_wp2_with fail
          refine (digit16_ref _ _ _ t k HTT.out (by omega) (by omega)).mono ?_
          rintro e w20 ⟨rfl, rfl⟩
          have hdi := dig_is t k
          obtain ⟨d, hd⟩ : ∃ d, dig t k = d := ⟨_, rfl⟩
          rw [hd] at hdi ⊢
          have HDD := Lib.hid hd
          clear hd
          rcases hdi with rfl | rfl | rfl | rfl | rfl
          · skip
            go_wp2_with fail
            refine (word01_ref _ (fun _ => False) (fun _ h => h.elim) 2 (by decide)).mono ?_
            rintro e w21 ⟨v21, rfl, hr, hb1⟩
            have HR := Lib.hid hr
            have HB2 := Lib.hid (HB.out.trans (hb1.mono HB.out.size))
            have HPP := Lib.hid (HPP.out.later hb1)
            have HMM := Lib.hid (HMM.out.later hb1)
            have HTT := Lib.hid (HTT.out.later hb1)
            clear hr hb1
            go_wp2_with fail
            refine (left_ref _ (fun _ => False) (fun _ h => h.elim) _ 2 (2 * k) HR.out (by decide) (by omega)).mono ?_
            rintro e w22 ⟨v22, rfl, hr, hb1⟩
            have HR2 := Lib.hid hr
            have HB3 := Lib.hid (HB2.out.trans (hb1.mono HB2.out.size))
            have HPP := Lib.hid (HPP.out.later hb1)
            have HMM := Lib.hid (HMM.out.later hb1)
            have HTT := Lib.hid (HTT.out.later hb1)
            clear hr hb1
            have hns : nbits (2 * 2 ^ (2 * k)) ≤ 2 + 2 * k := nbits_le (by rw [Nat.pow_add]; exact Nat.mul_lt_mul_of_pos_right (by decide) (Nat.two_pow_pos _))
            go_wp2_with fail
            refine (add_ref _ (fun _ => False) (fun _ h => h.elim) _ _ (minusN t k) (2 * 2 ^ (2 * k)) HMM.out HR2.out (by omega) (by omega)).mono ?_
            rintro e w23 ⟨v23, rfl, hr, hb1⟩
            have HR3 := Lib.hid hr
            have HB4 := Lib.hid (HB3.out.trans (hb1.mono HB3.out.size))
            have HPP := Lib.hid (HPP.out.later hb1)
            have HMM := Lib.hid (HMM.out.later hb1)
            have HTT := Lib.hid (HTT.out.later hb1)
            clear hr hb1
            go_wp2
            go_roundw
            case rel => exact ⟨k + 1, by go_num, by omega, HB4, Lib.hid (by rw [plusN, HDD.out]; exact HPP.out), Lib.hid (by rw [minusN, HDD.out]; exact HR3.out), HTT⟩
            case measure => simp [intOf]; omega
          · skip
            go_wp2_with fail
            refine (word01_ref _ (fun _ => False) (fun _ h => h.elim) 1 (by decide)).mono ?_
            rintro e w21 ⟨v21, rfl, hr, hb1⟩
            have HR := Lib.hid hr
            have HB2 := Lib.hid (HB.out.trans (hb1.mono HB.out.size))
            have HPP := Lib.hid (HPP.out.later hb1)
            have HMM := Lib.hid (HMM.out.later hb1)
            have HTT := Lib.hid (HTT.out.later hb1)
            clear hr hb1
            go_wp2_with fail
            refine (left_ref _ (fun _ => False) (fun _ h => h.elim) _ 1 (2 * k) HR.out (by decide) (by omega)).mono ?_
            rintro e w22 ⟨v22, rfl, hr, hb1⟩
            have HR2 := Lib.hid hr
            have HB3 := Lib.hid (HB2.out.trans (hb1.mono HB2.out.size))
            have HPP := Lib.hid (HPP.out.later hb1)
            have HMM := Lib.hid (HMM.out.later hb1)
            have HTT := Lib.hid (HTT.out.later hb1)
            clear hr hb1
            have hns : nbits (1 * 2 ^ (2 * k)) ≤ 2 + 2 * k := nbits_le (by rw [Nat.pow_add]; exact Nat.mul_lt_mul_of_pos_right (by decide) (Nat.two_pow_pos _))
            go_wp2_with fail
            refine (add_ref _ (fun _ => False) (fun _ h => h.elim) _ _ (minusN t k) (1 * 2 ^ (2 * k)) HMM.out HR2.out (by omega) (by omega)).mono ?_
            rintro e w23 ⟨v23, rfl, hr, hb1⟩
            have HR3 := Lib.hid hr
            have HB4 := Lib.hid (HB3.out.trans (hb1.mono HB3.out.size))
            have HPP := Lib.hid (HPP.out.later hb1)
            have HMM := Lib.hid (HMM.out.later hb1)
            have HTT := Lib.hid (HTT.out.later hb1)
            clear hr hb1
            go_wp2
            go_roundw
            case rel => exact ⟨k + 1, by go_num, by omega, HB4, Lib.hid (by rw [plusN, HDD.out]; exact HPP.out), Lib.hid (by rw [minusN, HDD.out]; exact HR3.out), HTT⟩
            case measure => simp [intOf]; omega
          · go_wp2
            go_roundw
            case rel => exact ⟨k + 1, by go_num, by omega, HB, Lib.hid (by rw [plusN, HDD.out]; exact HPP.out), Lib.hid (by rw [minusN, HDD.out]; exact HMM.out), HTT⟩
            case measure => simp [intOf]; omega
          · skip
            go_wp2_with fail
            refine (word01_ref _ (fun _ => False) (fun _ h => h.elim) 1 (by decide)).mono ?_
            rintro e w21 ⟨v21, rfl, hr, hb1⟩
            have HR := Lib.hid hr
            have HB2 := Lib.hid (HB.out.trans (hb1.mono HB.out.size))
            have HPP := Lib.hid (HPP.out.later hb1)
            have HMM := Lib.hid (HMM.out.later hb1)
            have HTT := Lib.hid (HTT.out.later hb1)
            clear hr hb1
            go_wp2_with fail
            refine (left_ref _ (fun _ => False) (fun _ h => h.elim) _ 1 (2 * k) HR.out (by decide) (by omega)).mono ?_
            rintro e w22 ⟨v22, rfl, hr, hb1⟩
            have HR2 := Lib.hid hr
            have HB3 := Lib.hid (HB2.out.trans (hb1.mono HB2.out.size))
            have HPP := Lib.hid (HPP.out.later hb1)
            have HMM := Lib.hid (HMM.out.later hb1)
            have HTT := Lib.hid (HTT.out.later hb1)
            clear hr hb1
            have hns : nbits (1 * 2 ^ (2 * k)) ≤ 2 + 2 * k := nbits_le (by rw [Nat.pow_add]; exact Nat.mul_lt_mul_of_pos_right (by decide) (Nat.two_pow_pos _))
            go_wp2_with fail
            refine (add_ref _ (fun _ => False) (fun _ h => h.elim) _ _ (plusN t k) (1 * 2 ^ (2 * k)) HPP.out HR2.out (by omega) (by omega)).mono ?_
            rintro e w23 ⟨v23, rfl, hr, hb1⟩
            have HR3 := Lib.hid hr
            have HB4 := Lib.hid (HB3.out.trans (hb1.mono HB3.out.size))
            have HPP := Lib.hid (HPP.out.later hb1)
            have HMM := Lib.hid (HMM.out.later hb1)
            have HTT := Lib.hid (HTT.out.later hb1)
            clear hr hb1
            go_wp2
            go_roundw
            case rel => exact ⟨k + 1, by go_num, by omega, HB4, Lib.hid (by rw [plusN, HDD.out]; exact HR3.out), Lib.hid (by rw [minusN, HDD.out]; exact HMM.out), HTT⟩
            case measure => simp [intOf]; omega
          · skip
            go_wp2_with fail
            refine (word01_ref _ (fun _ => False) (fun _ h => h.elim) 2 (by decide)).mono ?_
            rintro e w21 ⟨v21, rfl, hr, hb1⟩
            have HR := Lib.hid hr
            have HB2 := Lib.hid (HB.out.trans (hb1.mono HB.out.size))
            have HPP := Lib.hid (HPP.out.later hb1)
            have HMM := Lib.hid (HMM.out.later hb1)
            have HTT := Lib.hid (HTT.out.later hb1)
            clear hr hb1
            go_wp2_with fail
            refine (left_ref _ (fun _ => False) (fun _ h => h.elim) _ 2 (2 * k) HR.out (by decide) (by omega)).mono ?_
            rintro e w22 ⟨v22, rfl, hr, hb1⟩
            have HR2 := Lib.hid hr
            have HB3 := Lib.hid (HB2.out.trans (hb1.mono HB2.out.size))
            have HPP := Lib.hid (HPP.out.later hb1)
            have HMM := Lib.hid (HMM.out.later hb1)
            have HTT := Lib.hid (HTT.out.later hb1)
            clear hr hb1
            have hns : nbits (2 * 2 ^ (2 * k)) ≤ 2 + 2 * k := nbits_le (by rw [Nat.pow_add]; exact Nat.mul_lt_mul_of_pos_right (by decide) (Nat.two_pow_pos _))
            go_wp2_with fail
            refine (add_ref _ (fun _ => False) (fun _ h => h.elim) _ _ (plusN t k) (2 * 2 ^ (2 * k)) HPP.out HR2.out (by omega) (by omega)).mono ?_
            rintro e w23 ⟨v23, rfl, hr, hb1⟩
            have HR3 := Lib.hid hr
            have HB4 := Lib.hid (HB3.out.trans (hb1.mono HB3.out.size))
            have HPP := Lib.hid (HPP.out.later hb1)
            have HMM := Lib.hid (HMM.out.later hb1)
            have HTT := Lib.hid (HTT.out.later hb1)
            clear hr hb1
            go_wp2
            go_roundw
            case rel => exact ⟨k + 1, by go_num, by omega, HB4, Lib.hid (by rw [plusN, HDD.out]; exact HR3.out), Lib.hid (by rw [minusN, HDD.out]; exact HMM.out), HTT⟩
            case measure => simp [intOf]; omega
        · obtain rfl : k = D := by omega
          have hpa := plus_all t m htl.out
          rw [HD.out] at hpa
          have HPA := Lib.hid hpa
          clear hpa
          go_wp2_with fail
          refine (add_ref _ (fun _ => False) (fun _ h => h.elim) _ _ t (minusN t k) HTT.out HMM.out (by omega) (by omega)).mono ?_
          rintro e w23 ⟨v23, rfl, hr, hb1⟩
          rw [← HPA.out] at hr
          have HPP := Lib.hid (HPP.out.later hb1)
          have HB3 := Lib.hid (HB.out.trans (hb1.mono HB.out.size))
          have HR := Lib.hid hr
          clear hr hb1
          go_wp2_with fail
          refine (cmp_ref _ _ _ _ (plusN t k) (plusN t k) HPP.out HR.out (by omega) (by omega)).mono ?_
          rintro e w24 ⟨rfl, rfl⟩
          rw [show cmpNat (plusN t k) (plusN t k) = 0 by simp [cmpNat]]
          go_wp2
          go_ret
          exact ⟨rfl, HB3.out⟩
    · have hk3 : 20 < (ys.length : Int) := by omega
      have hk2 : ¬ (20 < (xs.length : Int)) := by omega
      go_wp2
      go_ret
      exact ⟨rfl, HB1.out⟩
  · have hk2 : 20 < (xs.length : Int) := by omega
    go_wp2
    go_ret
    exact ⟨rfl, HB1.out⟩
end Go.Proofs.Ytdljgifoboiaeaa
