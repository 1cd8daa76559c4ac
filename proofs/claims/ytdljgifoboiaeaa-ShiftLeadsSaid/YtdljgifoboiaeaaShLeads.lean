/- slipsticklaw17.ShiftLeads, walked. -/
import Derived.Test.YtdljgifoboiaeaaL17
import Derived.Test.YtdljgifoboiaeaaLawB
namespace Go.Proofs.Ytdljgifoboiaeaa
open Go.RowKit

set_option maxHeartbeats 8000000 in
set_option maxRecDepth 100000 in
theorem shiftLeads_walk (w : World) (a : Nat) (ha : a < 256) (vx : Value) (xs : List Int) (hx : Row (kNum .u32) w (fun _ => False) vx xs) (hxo : okParts xs) :
    Calls Try.prog 10 #[.int .u8 a, vx] w fun e w' => e = .returned (.bool true) ∧ Below w.heap.size w w' := by
  obtain ⟨n, hn⟩ : ∃ n : Nat, (a : Int) % 70 + 1 = n := ⟨a % 70 + 1, by omega⟩
  have hn1 : 0 < n ∧ n ≤ 70 := by omega
  obtain ⟨A1, c1, rfl, -, hc1⟩ := hx.shape
  unfold maxLen at hc1
  have HX := Lib.hid hx
  have HXO := Lib.hid hxo
  clear hx hxo
  obtain ⟨k, hk⟩ : ∃ k, nbits n = k := ⟨_, rfl⟩
  have hk0 : 0 < k := hk ▸ nbits_pos.2 hn1.1
  have hk7 : k ≤ 7 := hk ▸ nbits_le (by omega)
  have HK := Lib.hid hk
  clear hk
  go_enter Try.func10, Try.ntmps10
  go_wp2_with fail
  refine (awake17 w).mono ?_
  rintro e w1 ⟨rfl, hb1⟩
  have HX1 := Lib.hid (HX.out.later hb1)
  have HB1 := Lib.hid hb1
  clear hb1
  by_cases hsx : xs.length ≤ 20
  · have hk2 : ¬ (20 < (xs.length : Int)) := by omega
    go_wp2_with fail
    refine (in14 w1 n 1 (by omega) (by omega)).mono ?_
    rintro e w2 ⟨p, X, vp, vq, ps, qs, kk, st1, rfl, hp, hq, hi, hP, E⟩
    have E := E.old' HX1.out
    have HP0 : Hid (0 < ps.length) := Lib.hid (by rw [hp.out]; omega)
    have HP1 : Hid (ps.length ≤ 1023) := Lib.hid (by rw [hp.out]; omega)
    go_wp2_with fail
    refine (E.lead (xs := ps) (by repeat with_reducible first | apply mem_hd | assumption | apply mem_tl) HP0.out HP1.out (by omega)).mono ?_
    rintro e w3 ⟨vc, cs, st3, hc, rfl, -, -, -, E⟩
    rw [hp.out, HK.out] at hc
    obtain ⟨M, hM⟩ : ∃ M, 3000 + 100000 = M := ⟨_, rfl⟩
    rw [hM] at E
    go_wp2_with fail
    refine (E.norm (xs := ps) (by repeat with_reducible first | apply mem_hd | assumption | apply mem_tl) HP0.out HP1.out (by omega)).mono ?_
    rintro e w4 ⟨vy, ys, vd, ds, st4, hy, hd, rfl, -, -, -, -, E⟩
    rw [hp.out] at hy
    rw [hp.out, HK.out] at hd
    obtain ⟨M2, hM2⟩ : ∃ M2, M + 200000 = M2 := ⟨_, rfl⟩
    rw [hM2] at E
    obtain ⟨Ac, cc, hvc, -, -⟩ := E.shape (xs := cs) (by repeat with_reducible first | apply mem_hd | assumption | apply mem_tl)
    obtain ⟨Ay, cy, hvy, -, -⟩ := E.shape (xs := ys) (by repeat with_reducible first | apply mem_hd | assumption | apply mem_tl)
    obtain ⟨Ad, cd, hvd, -, -⟩ := E.shape (xs := ds) (by repeat with_reducible first | apply mem_hd | assumption | apply mem_tl)
    rw [hc.out] at hvc
    rw [hy.out] at hvy
    rw [hd.out] at hvd
    subst hvc; subst hvy; subst hvd
    have HM : Hid (M2 = 303000) := Lib.hid (by omega)
    clear hM hM2
    have hneg : (-(n : Int)).toNat = 0 := by omega
    have HNEG := Lib.hid hneg
    clear hneg
    go_wp2_with fail
    refine (wide17_ref _ n (by omega)).mono ?_
    rintro e w5 ⟨rfl, rfl⟩
    rw [HK.out]
    go_wp2_with fail
    refine (wide_calls _ n (by omega)).mono ?_
    rintro e w5 ⟨rfl, rfl⟩
    rw [Int.toNat_natCast, HK.out]
    go_wp2_with fail
    refine (wide17_ref _ n (by omega)).mono ?_
    rintro e w5 ⟨rfl, rfl⟩
    rw [HK.out]
    go_wp2_with fail
    refine (wide_calls _ (-(n : Int)) (by omega)).mono ?_
    rintro e w5 ⟨rfl, rfl⟩
    rw [HNEG.out, show nbits 0 = 0 from rfl]
    go_wp2_with fail
    refine (E.out hP ⟨#[99]⟩ (xs := cs) (by repeat with_reducible first | apply mem_hd | assumption | apply mem_tl) (by rw [hc.out]; omega) (by rw [hi.out.2]; simp)).mono ?_
    rintro e w5 ⟨st5, rfl, hi5, hP5, E⟩
    go_wp2_with fail
    refine (E.out hP5 ⟨#[100]⟩ (xs := ds) (by repeat with_reducible first | apply mem_hd | assumption | apply mem_tl) (by rw [hd.out]; omega) (by rw [hi5.out.2, hi.out.2]; simp)).mono ?_
    rintro e w6 ⟨st6, rfl, hi6, hP6, E⟩
    go_wp2_with fail
    refine (E.out hP6 ⟨#[121]⟩ (xs := ys) (by repeat with_reducible first | apply mem_hd | assumption | apply mem_tl) (by rw [hy.out]; omega) (by rw [hi6.out.2, hi5.out.2, hi.out.2]; simp)).mono ?_
    rintro e w7 ⟨st7, rfl, hi7, hP7, E⟩
    have hie : Hid (st7.ins = [⟨⟨#[120]⟩, ps⟩, ⟨⟨#[121]⟩, qs⟩, ⟨⟨#[99]⟩, [kk]⟩] ∧ st7.outs = [⟨⟨#[99]⟩, cs⟩, ⟨⟨#[100]⟩, ds⟩, ⟨⟨#[121]⟩, ys⟩]) := Lib.hid ⟨by rw [hi7.out.1, hi6.out.1, hi5.out.1, hi.out.1], by rw [hi7.out.2, hi6.out.2, hi5.out.2, hi.out.2]; rfl⟩
    clear hi5 hi6 hi7
    have hbx : nbits (partsVal xs) ≤ 640 := by have := nbits_parts HXO.out; omega
    go_wp2_with fail
    refine (E.ref (of_ref _ _ E.there _ xs (E.rwF (by repeat with_reducible first | apply mem_hd | assumption | apply mem_tl)) HXO.out (by omega))).mono ?_
    rintro e w10 ⟨v10, rfl, -, E⟩
    go_wp2_with fail
    refine (E.ref (low_ref _ _ E.there _ (partsVal xs) n (E.rwF (by repeat with_reducible first | apply mem_hd | assumption | apply mem_tl)) (by omega) (by omega))).mono ?_
    rintro e w11 ⟨v11, rfl, -, E⟩
    obtain ⟨u, hu⟩ : ∃ u, partsVal xs % 2 ^ n = u := ⟨_, rfl⟩
    rw [hu] at E
    have hul : Hid (u < 2 ^ n) := Lib.hid (by rw [← hu]; exact Nat.mod_lt _ (Nat.two_pow_pos n))
    have hnu : nbits u ≤ n := nbits_le hul.out
    clear hu hbx
    go_wp2_with fail
    refine (E.net hP7 (by have := HM.out; omega)).mono ?_
    rintro e w14 ⟨vn, vi, vo, rfl, -, E⟩
    go_wp2_with fail
    refine (E.ref (parts_ref _ _ E.there _ u (E.rwF (by repeat with_reducible first | apply mem_hd | assumption | apply mem_tl)) (by omega))).mono ?_
    rintro e w15 ⟨v15, rfl, -, E⟩
    obtain ⟨A3, c3, hv3⟩ := E.rshape (v := v15) (xs := parts32 u) (by repeat with_reducible first | apply mem_hd | assumption | apply mem_tl)
    subst hv3
    have E := E.lit0R (kNum .u32) 128
    have E := E.lit0R (kNum .u32) 128
    simp only [World.size_alloc] at E
    have E := E.lits (kNum .u32) 38 [parts32 u, [], []] [.slice A3 (parts32 u).length c3, .slice (some ⟨w15.heap.size, 0, none⟩) 0 0, .slice (some ⟨w15.heap.size + 1, 0, none⟩) 0 0] 3 rfl rfl (by simp) (fun i x v hx hv => by
      match i, hx, hv with
      | 0, hx, hv => simp at hx hv; subst hx; subst hv; exact (by repeat with_reducible first | apply mem_hd | assumption | apply mem_tl)
      | 1, hx, hv => simp at hx hv; subst hx; subst hv; exact (by repeat with_reducible first | apply mem_hd | assumption | apply mem_tl)
      | 2, hx, hv => simp at hx hv; subst hx; subst hv; exact (by repeat with_reducible first | apply mem_hd | assumption | apply mem_tl))
    simp only [World.size_alloc] at E
    go_wp2_with fail
    refine (E.eval hP7 (by have := HM.out; omega) (vn := vn) (vi := vi) (vo := vo) (by repeat with_reducible first | apply mem_hd | assumption | apply mem_tl) (by repeat with_reducible first | apply mem_hd | assumption | apply mem_tl) (by repeat with_reducible first | apply mem_hd | assumption | apply mem_tl) (by repeat with_reducible first | apply mem_hd | assumption | apply mem_tl) (by rw [hie.out.1]; rfl) (fun q hq => ?_) (fun i z hz => ?_)).mono ?_
    · simp only [List.mem_cons, List.not_mem_nil, or_false] at hq
      rcases hq with rfl | rfl | rfl
      · exact parts_fit _ n hul.out (by omega)
      · exact ⟨fun _ h => by simp at h, by simp⟩
      · exact ⟨fun _ h => by simp at h, by simp⟩
    · rw [hie.out.1] at hz
      match i, hz with
      | 0, hz => simp at hz; subst hz; simp only [List.getD_cons_zero, partsVal_parts32]; rw [hp.out]; exact hul.out
      | 1, hz => simp at hz; subst hz; simp only [List.getD_cons_succ, List.getD_cons_zero]; exact Nat.two_pow_pos _
      | 2, hz => simp at hz; subst hz; simp [partsVal]
    rintro e w17 ⟨v17, V, rfl, -, hV, hin, E⟩
    have hK := Lib.hid (E.sem V hV)
    have g1 : numV V ps = u := by have h := hin.out 0 _ (by rw [hie.out.1]; rfl); simpa [partsVal_parts32] using h
    obtain ⟨⟨-, f1⟩, f2, f3⟩ := hK.out
    rw [hp.out, g1] at f1 f2 f3
    obtain ⟨z, hz⟩ : ∃ z, n - nbits u = z := ⟨_, rfl⟩
    rw [hz] at f1 f2 f3
    rw [hie.out.2] at E
    simp only [List.map_cons, List.map_nil] at E
    rw [f1, f2, f3] at E
    have HZ := Lib.hid hz
    have hzn : z ≤ 70 := by omega
    clear hK hin hV f1 f2 f3 g1 hz
    obtain ⟨A17, c17, hv17⟩ := E.rshape (v := v17) (by repeat with_reducible first | apply mem_hd | assumption | apply mem_tl)
    simp only [List.length_cons, List.length_nil, Nat.zero_add, Nat.reduceAdd] at hv17
    subst hv17
    obtain ⟨bo, oo, B0, d0, rfl, q0, E⟩ := E.rowAt (xss := [parts32 z, parts32 z, parts32 (u * 2 ^ z % 2 ^ n)]) (by repeat with_reducible first | apply mem_hd | assumption | apply mem_tl) 0 (by simp)
    obtain ⟨bo1, oo1, B1, d1, he1, q1, E⟩ := E.rowAt (xss := [parts32 z, parts32 z, parts32 (u * 2 ^ z % 2 ^ n)]) (by repeat with_reducible first | apply mem_hd | assumption | apply mem_tl) 1 (by simp)
    obtain ⟨bo2, oo2, B2, d2, he2, q2, E⟩ := E.rowAt (xss := [parts32 z, parts32 z, parts32 (u * 2 ^ z % 2 ^ n)]) (by repeat with_reducible first | apply mem_hd | assumption | apply mem_tl) 2 (by simp)
    injection he1 with he1; injection he1 with he1 he1'; subst he1; subst he1'
    injection he2 with he2; injection he2 with he2 he2'; subst he2; subst he2'
    simp only [List.getElem_cons_zero, List.getElem_cons_succ, Nat.add_zero] at q0 q1 q2 E
    go_wp2_with fail
    refine (lead17_ref _ _ _ u n (E.rw_ (by repeat with_reducible first | apply mem_hd | assumption | apply mem_tl)) hnu (by omega)).mono ?_
    rintro e w18 ⟨rfl, rfl⟩
    rw [HZ.out]
    obtain ⟨NN, hNN⟩ : ∃ NN, u * 2 ^ z % 2 ^ n = NN := ⟨_, rfl⟩
    rw [hNN] at E q2
    have hnz : nbits z ≤ 4294967296 := Nat.le_trans (nbits_le (k := 7) (by omega)) (by omega)
    have hNl : nbits NN ≤ 70 := by rw [← hNN]; exact Nat.le_trans (nbits_low _ n) hn1.2
    have HNN := Lib.hid hNN
    clear hNN
    go_wp2_with fail
    refine (E.ref (of_ref _ _ E.there (.slice B2 (parts32 NN).length d2) (parts32 NN) (E.rwF (by repeat with_reducible first | apply mem_hd | assumption | apply mem_tl)) (parts32_ok _) (by rw [parts32_length]; omega))).mono ?_
    rintro e w19 ⟨v19, rfl, hb19, E⟩
    rw [partsVal_parts32] at E
    obtain ⟨Au, cu, hvu⟩ := E.rshape (v := v11) (xs := natBits u) (by repeat with_reducible first | apply mem_hd | assumption | apply mem_tl)
    rw [natBits_length] at hvu
    subst hvu
    have Q := Lib.hid (And.intro (cell_below hb19 q0) (cell_below hb19 q1))
    clear q0 q1 q2 hb19
    have htop : NN.testBit (n - 1) = decide (0 < nbits u) := by
      rw [← HNN.out, Nat.testBit_mod_two_pow, decide_eq_true (by omega : n - 1 < n), Bool.true_and, Nat.testBit_mul_two_pow]
      have hz := HZ.out
      rcases Nat.eq_zero_or_pos (nbits u) with h0 | h0
      · rw [decide_eq_false (by omega : ¬ z ≤ n - 1), decide_eq_false (by omega : ¬ 0 < nbits u)]; rfl
      · rw [decide_eq_true (by omega : z ≤ n - 1), show n - 1 - z = nbits u - 1 by omega, nbits_top (nbits_pos.1 h0), decide_eq_true h0]; rfl
    have HTOP := Lib.hid htop
    clear htop
    have hn2 : IntKind.i64.wrap ((n : Int) - 1) = ((n - 1 : Nat) : Int) := by rw [show (n : Int) - 1 = ((n - 1 : Nat) : Int) by omega]; exact IntWalk.i64_in _ (by omega)
    have E := E.drew
    have QD := Lib.hid (show (w19.drew.cell? ⟨bo, oo, none⟩ = _ ∧ w19.drew.cell? ⟨bo, oo + 1, none⟩ = _) from Q.out)
    have hz64 : z < 18446744073709551616 := by omega
    have hzu : IntKind.u64.wrap (z : Int) = z := IntWalk.u64_in _ (by omega)
    have hWA := E.ref (word01_ref _ _ E.there z hz64)
    have hnu2 : nbits u ≤ 549755813888 := by omega
    have hz39 : z ≤ 549755813888 := by omega
    have hn40 : n ≤ 1099511627776 := by omega
    have hNN40 : nbits NN ≤ 1099511627776 := by omega
    have hnuz : nbits (u * 2 ^ z) ≤ 1099511627776 := by
      have h := nbits_le (n := u * 2 ^ z) (k := nbits u + z) (by rw [Nat.pow_add]; exact Nat.mul_lt_mul_of_pos_right (lt_nbits u) (Nat.two_pow_pos _))
      omega
    clear hsx hk2 hn hk0 hk7 hNl hzn
    go_wp2_with fail
    by_cases hu0 : 0 < nbits u
    · have hbt : NN.testBit (n - 1) = true := by rw [HTOP.out, decide_eq_true hu0]
      go_region_held3 (fun w' => w'.cell? ⟨bo, oo, none⟩ = some (.slice B0 (parts32 z).length d0) ∧ w'.cell? ⟨bo, oo + 1, none⟩ = some (.slice B1 (parts32 z).length d1))
        (first | with_reducible exact QD.out | with_reducible exact Q1.out | with_reducible exact Q2.out | with_reducible exact Q3.out | with_reducible exact Q4.out | with_reducible exact Q5.out | with_reducible exact Q6.out)
        (first
          | (go_at_call 70; refine hWA.mono ?_; clear hWA; rintro e w20 ⟨v20, rfl, hb20, E⟩; have Q1 := Lib.hid (And.intro (cell_below hb20 QD.out.1) (cell_below hb20 QD.out.2)); have hIsA := E.isTrue (v := .slice B0 (parts32 z).length d0) (u := v20) (xs := parts32 z) (n := z) (by repeat with_reducible first | apply mem_hd | assumption | apply mem_tl) (by repeat with_reducible first | apply mem_hd | assumption | apply mem_tl) rfl hnz)
          | (go_at_call 33; refine hIsA.mono ?_; clear hIsA; rintro e w21 ⟨rfl, hb21⟩; have E := E.quiet hb21; have Q2 := Lib.hid (And.intro (cell_below hb21 Q1.out.1) (cell_below hb21 Q1.out.2)); have hWB := E.ref (word01_ref _ _ E.there z hz64))
          | (go_at_call 70; refine hWB.mono ?_; clear hWB; rintro e w22 ⟨v22, rfl, hb22, E⟩; have Q3 := Lib.hid (And.intro (cell_below hb22 Q2.out.1) (cell_below hb22 Q2.out.2)); have hIsB := E.isTrue (v := .slice B1 (parts32 z).length d1) (u := v22) (xs := parts32 z) (n := z) (by repeat with_reducible first | apply mem_hd | assumption | apply mem_tl) (by repeat with_reducible first | apply mem_hd | assumption | apply mem_tl) rfl hnz)
          | (go_at_call 33; refine hIsB.mono ?_; clear hIsB; rintro e w23 ⟨rfl, hb23⟩; have E := E.quiet hb23; have Q4 := Lib.hid (And.intro (cell_below hb23 Q3.out.1) (cell_below hb23 Q3.out.2)))
          | (go_at_call 43; refine (E.ref (left_ref _ _ E.there _ u z (E.rwF (by repeat with_reducible first | apply mem_hd | assumption | apply mem_tl)) hnu2 hz39)).mono ?_; rintro e w24 ⟨v24, rfl, hb24, E⟩; have Q5 := Lib.hid (And.intro (cell_below hb24 Q4.out.1) (cell_below hb24 Q4.out.2)))
          | (go_at_call 22; refine (E.ref (low_ref _ _ E.there _ (u * 2 ^ z) n (E.rwF (by repeat with_reducible first | apply mem_hd | assumption | apply mem_tl)) hnuz hn40)).mono ?_; rw [HNN.out]; rintro e w25 ⟨v25, rfl, hb25, E⟩; have Q6 := Lib.hid (And.intro (cell_below hb25 Q5.out.1) (cell_below hb25 Q5.out.2)); have hCmp := cmp_ref _ _ _ _ NN NN (E.rwF (v := v19) (by repeat with_reducible first | apply mem_hd | assumption | apply mem_tl)) (E.rwF (v := v25) (by repeat with_reducible first | apply mem_hd | assumption | apply mem_tl)) hNN40 hNN40; have hBit := bit_at _ _ _ NN (n - 1) true (E.rwF (v := v19) (by repeat with_reducible first | apply mem_hd | assumption | apply mem_tl)) hNN40 hbt)
          | (go_at_call 71; refine hCmp.mono ?_; clear hCmp; rw [show cmpNat NN NN = 0 by simp [cmpNat]]; rintro e w26 ⟨rfl, rfl⟩)
          | (go_at_call 72; refine hBit.mono ?_; clear hBit; rintro e w27 ⟨rfl, rfl⟩))
      have HE := Lib.hid E.c.2
      clear E
      go_wp2
      go_ret
      exact ⟨rfl, HB1.out.trans (HE.out.mono HB1.out.size)⟩
    · have hbt : NN.testBit (n - 1) = false := by rw [HTOP.out, decide_eq_false hu0]
      go_region_held3 (fun w' => w'.cell? ⟨bo, oo, none⟩ = some (.slice B0 (parts32 z).length d0) ∧ w'.cell? ⟨bo, oo + 1, none⟩ = some (.slice B1 (parts32 z).length d1))
        (first | with_reducible exact QD.out | with_reducible exact Q1.out | with_reducible exact Q2.out | with_reducible exact Q3.out | with_reducible exact Q4.out | with_reducible exact Q5.out | with_reducible exact Q6.out)
        (first
          | (go_at_call 70; refine hWA.mono ?_; clear hWA; rintro e w20 ⟨v20, rfl, hb20, E⟩; have Q1 := Lib.hid (And.intro (cell_below hb20 QD.out.1) (cell_below hb20 QD.out.2)); have hIsA := E.isTrue (v := .slice B0 (parts32 z).length d0) (u := v20) (xs := parts32 z) (n := z) (by repeat with_reducible first | apply mem_hd | assumption | apply mem_tl) (by repeat with_reducible first | apply mem_hd | assumption | apply mem_tl) rfl hnz)
          | (go_at_call 33; refine hIsA.mono ?_; clear hIsA; rintro e w21 ⟨rfl, hb21⟩; have E := E.quiet hb21; have Q2 := Lib.hid (And.intro (cell_below hb21 Q1.out.1) (cell_below hb21 Q1.out.2)); have hWB := E.ref (word01_ref _ _ E.there z hz64))
          | (go_at_call 70; refine hWB.mono ?_; clear hWB; rintro e w22 ⟨v22, rfl, hb22, E⟩; have Q3 := Lib.hid (And.intro (cell_below hb22 Q2.out.1) (cell_below hb22 Q2.out.2)); have hIsB := E.isTrue (v := .slice B1 (parts32 z).length d1) (u := v22) (xs := parts32 z) (n := z) (by repeat with_reducible first | apply mem_hd | assumption | apply mem_tl) (by repeat with_reducible first | apply mem_hd | assumption | apply mem_tl) rfl hnz)
          | (go_at_call 33; refine hIsB.mono ?_; clear hIsB; rintro e w23 ⟨rfl, hb23⟩; have E := E.quiet hb23; have Q4 := Lib.hid (And.intro (cell_below hb23 Q3.out.1) (cell_below hb23 Q3.out.2)))
          | (go_at_call 43; refine (E.ref (left_ref _ _ E.there _ u z (E.rwF (by repeat with_reducible first | apply mem_hd | assumption | apply mem_tl)) hnu2 hz39)).mono ?_; rintro e w24 ⟨v24, rfl, hb24, E⟩; have Q5 := Lib.hid (And.intro (cell_below hb24 Q4.out.1) (cell_below hb24 Q4.out.2)))
          | (go_at_call 22; refine (E.ref (low_ref _ _ E.there _ (u * 2 ^ z) n (E.rwF (by repeat with_reducible first | apply mem_hd | assumption | apply mem_tl)) hnuz hn40)).mono ?_; rw [HNN.out]; rintro e w25 ⟨v25, rfl, hb25, E⟩; have Q6 := Lib.hid (And.intro (cell_below hb25 Q5.out.1) (cell_below hb25 Q5.out.2)); have hCmp := cmp_ref _ _ _ _ NN NN (E.rwF (v := v19) (by repeat with_reducible first | apply mem_hd | assumption | apply mem_tl)) (E.rwF (v := v25) (by repeat with_reducible first | apply mem_hd | assumption | apply mem_tl)) hNN40 hNN40; have hBit := bit_at _ _ _ NN (n - 1) false (E.rwF (v := v19) (by repeat with_reducible first | apply mem_hd | assumption | apply mem_tl)) hNN40 hbt)
          | (go_at_call 71; refine hCmp.mono ?_; clear hCmp; rw [show cmpNat NN NN = 0 by simp [cmpNat]]; rintro e w26 ⟨rfl, rfl⟩)
          | (go_at_call 72; refine hBit.mono ?_; clear hBit; rintro e w27 ⟨rfl, rfl⟩))
      have HE := Lib.hid E.c.2
      clear E
      go_wp2
      go_ret
      exact ⟨rfl, HB1.out.trans (HE.out.mono HB1.out.size)⟩
  · have hk2 : 20 < (xs.length : Int) := by omega
    go_wp2
    go_ret
    exact ⟨rfl, HB1.out⟩
end Go.Proofs.Ytdljgifoboiaeaa
