/- slipsticklaw17.ShiftTells, walked. -/
import Derived.Test.YtdljgifoboiaeaaL17
import Derived.Test.YtdljgifoboiaeaaLawB
namespace Go.Proofs.Ytdljgifoboiaeaa
open Go.RowKit

set_option maxHeartbeats 8000000 in
set_option maxRecDepth 100000 in
theorem shiftTells_walk (w : World) (a b : Nat) (ha : a < 256) (hb : b < 256) (vx vy : Value) (xs ys : List Int) (hx : Row (kNum .u32) w (fun _ => False) vx xs) (hy : Row (kNum .u32) w (fun _ => False) vy ys) (hxo : okParts xs) (hyo : okParts ys) :
    Calls Try.prog 9 #[.int .u8 a, .int .u8 b, vx, vy] w fun e w' => e = .returned (.bool true) ∧ Below w.heap.size w w' := by
  obtain ⟨n, hn⟩ : ∃ n : Nat, (a : Int) % 41 + 1 = n := ⟨a % 41 + 1, by omega⟩
  obtain ⟨m, hm⟩ : ∃ m : Nat, (b : Int) % 12 + 1 = m := ⟨b % 12 + 1, by omega⟩
  have hn1 : 0 < n ∧ n ≤ 41 := by omega
  have hm1 : 0 < m ∧ m ≤ 12 := by omega
  obtain ⟨A1, c1, rfl, -, hc1⟩ := hx.shape
  obtain ⟨A2, c2, rfl, -, hc2⟩ := hy.shape
  unfold maxLen at hc1 hc2
  have HX := Lib.hid hx
  have HY := Lib.hid hy
  have HXO := Lib.hid hxo
  have HYO := Lib.hid hyo
  clear hx hy hxo hyo
  go_enter Try.func9, Try.ntmps9
  go_wp2_with fail
  refine (awake17 w).mono ?_
  rintro e w1 ⟨rfl, hb1⟩
  have HX1 := Lib.hid (HX.out.later hb1)
  have HY1 := Lib.hid (HY.out.later hb1)
  have HB1 := Lib.hid hb1
  clear hb1
  by_cases hsx : xs.length ≤ 20
  · by_cases hsy : ys.length ≤ 20
    · have hk1 : (decide (20 < (xs.length : Int)) || decide (20 < (ys.length : Int))) = false := by simp; omega
      have hk2 : ¬ (20 < (xs.length : Int)) := by omega
      have hk3 : ¬ (20 < (ys.length : Int)) := by omega
      go_wp2_with fail
      refine (in14 w1 n m (by omega) (by omega)).mono ?_
      rintro e w2 ⟨p, X, vp, vq, ps, qs, kk, st1, rfl, hp, hq, hi, hP, E⟩
      have E := (E.old' HX1.out).old' HY1.out
      have HP0 : Hid (0 < ps.length) := Lib.hid (by rw [hp.out]; omega)
      have HQ0 : Hid (0 < qs.length) := Lib.hid (by rw [hq.out]; omega)
      go_wp2_with fail
      refine (E.left (xs := ps) (ys := qs) (by repeat with_reducible first | apply mem_hd | assumption | apply mem_tl) (by repeat with_reducible first | apply mem_hd | assumption | apply mem_tl) HP0.out HQ0.out (by omega)).mono ?_
      rintro e w3 ⟨vl, ls, st3, hl, rfl, -, -, -, E⟩
      rw [hp.out] at hl
      obtain ⟨M, hM⟩ : ∃ M, 3000 + 100000 = M := ⟨_, rfl⟩
      rw [hM] at E
      go_wp2_with fail
      refine (E.right (xs := ps) (ys := qs) (by repeat with_reducible first | apply mem_hd | assumption | apply mem_tl) (by repeat with_reducible first | apply mem_hd | assumption | apply mem_tl) HP0.out HQ0.out (by omega)).mono ?_
      rintro e w4 ⟨vr, rs, lost, st4, hr, rfl, -, -, -, E⟩
      rw [hp.out] at hr
      obtain ⟨M2, hM2⟩ : ∃ M2, M + 100000 = M2 := ⟨_, rfl⟩
      rw [hM2] at E
      obtain ⟨Al, cl, hvl, -, -⟩ := E.shape (xs := ls) (by repeat with_reducible first | apply mem_hd | assumption | apply mem_tl)
      obtain ⟨Ar, cr, hvr, -, -⟩ := E.shape (xs := rs) (by repeat with_reducible first | apply mem_hd | assumption | apply mem_tl)
      rw [hl.out] at hvl
      rw [hr.out] at hvr
      subst hvl; subst hvr
      have HM : Hid (M2 = 203000) := Lib.hid (by omega)
      clear hM hM2
      go_wp2_with fail
      refine (E.out hP ⟨#[108]⟩ (xs := ls) (by repeat with_reducible first | apply mem_hd | assumption | apply mem_tl) (by rw [hl.out]; omega) (by rw [hi.out.2]; simp)).mono ?_
      rintro e w5 ⟨st5, rfl, hi5, hP5, E⟩
      go_wp2_with fail
      refine (E.out hP5 ⟨#[114]⟩ (xs := rs) (by repeat with_reducible first | apply mem_hd | assumption | apply mem_tl) (by rw [hr.out]; omega) (by rw [hi5.out.2, hi.out.2]; simp)).mono ?_
      rintro e w6 ⟨st6, rfl, hi6, hP6, E⟩
      have E := E.litW [lost] 1 rfl (by omega) (okay_cons (E.at_ (c := lost) (by repeat with_reducible first | apply mem_hd | assumption | apply mem_tl)) (okay_nil _)) #[.int .i64 lost] rfl
      go_wp2_with fail
      refine (E.out hP6 ⟨#[122]⟩ (xs := [lost]) (by repeat with_reducible first | apply mem_hd | assumption | apply mem_tl) (by simp) (by rw [hi6.out.2, hi5.out.2, hi.out.2]; simp)).mono ?_
      rintro e w7 ⟨st7, rfl, hi7, hP7, E⟩
      have hie : Hid (st7.ins = [⟨⟨#[120]⟩, ps⟩, ⟨⟨#[121]⟩, qs⟩, ⟨⟨#[99]⟩, [kk]⟩] ∧ st7.outs = [⟨⟨#[108]⟩, ls⟩, ⟨⟨#[114]⟩, rs⟩, ⟨⟨#[122]⟩, [lost]⟩]) := Lib.hid ⟨by rw [hi7.out.1, hi6.out.1, hi5.out.1, hi.out.1], by rw [hi7.out.2, hi6.out.2, hi5.out.2, hi.out.2]; rfl⟩
      clear hi5 hi6 hi7
      have hbx : nbits (partsVal xs) ≤ 640 := by have := nbits_parts HXO.out; omega
      have hby : nbits (partsVal ys) ≤ 640 := by have := nbits_parts HYO.out; omega
      go_wp2_with fail
      refine (E.ref (of_ref _ _ E.there _ xs (E.rwF (by repeat with_reducible first | apply mem_hd | assumption | apply mem_tl)) HXO.out (by omega))).mono ?_
      rintro e w10 ⟨v10, rfl, -, E⟩
      go_wp2_with fail
      refine (E.ref (low_ref _ _ E.there _ (partsVal xs) n (E.rwF (by repeat with_reducible first | apply mem_hd | assumption | apply mem_tl)) (by omega) (by omega))).mono ?_
      rintro e w11 ⟨v11, rfl, -, E⟩
      go_wp2_with fail
      refine (E.ref (of_ref _ _ E.there _ ys (E.rwF (by repeat with_reducible first | apply mem_hd | assumption | apply mem_tl)) HYO.out (by omega))).mono ?_
      rintro e w12 ⟨v12, rfl, -, E⟩
      go_wp2_with fail
      refine (E.ref (low_ref _ _ E.there _ (partsVal ys) m (E.rwF (by repeat with_reducible first | apply mem_hd | assumption | apply mem_tl)) (by omega) (by omega))).mono ?_
      rintro e w13 ⟨v13, rfl, -, E⟩
      obtain ⟨u, hu⟩ : ∃ u, partsVal xs % 2 ^ n = u := ⟨_, rfl⟩
      obtain ⟨t, ht2⟩ : ∃ t, partsVal ys % 2 ^ m = t := ⟨_, rfl⟩
      rw [hu, ht2] at E
      have hul : Hid (u < 2 ^ n) := Lib.hid (by rw [← hu]; exact Nat.mod_lt _ (Nat.two_pow_pos n))
      have htl : Hid (t < 2 ^ m) := Lib.hid (by rw [← ht2]; exact Nat.mod_lt _ (Nat.two_pow_pos m))
      have hnu : nbits u ≤ 41 := by have := nbits_le hul.out; omega
      have hnt : nbits t ≤ 12 := by have := nbits_le htl.out; omega
      clear hu ht2 hbx hby
      go_wp2_with fail
      refine (E.net hP7 (by have := HM.out; omega)).mono ?_
      rintro e w14 ⟨vn, vi, vo, rfl, -, E⟩
      go_wp2_with fail
      refine (E.ref (parts_ref _ _ E.there _ u (E.rwF (by repeat with_reducible first | apply mem_hd | assumption | apply mem_tl)) (by omega))).mono ?_
      rintro e w15 ⟨v15, rfl, -, E⟩
      go_wp2_with fail
      refine (E.ref (parts_ref _ _ E.there _ t (E.rwF (by repeat with_reducible first | apply mem_hd | assumption | apply mem_tl)) (by omega))).mono ?_
      rintro e w16 ⟨v16, rfl, -, E⟩
      obtain ⟨A3, c3, hv3⟩ := E.rshape (v := v15) (xs := parts32 u) (by repeat with_reducible first | apply mem_hd | assumption | apply mem_tl)
      obtain ⟨A5, c5, hv5⟩ := E.rshape (v := v16) (xs := parts32 t) (by repeat with_reducible first | apply mem_hd | assumption | apply mem_tl)
      subst hv3; subst hv5
      have E := E.lit0R (kNum .u32) 128
      have E := E.lits (kNum .u32) 38 [parts32 u, parts32 t, []] [.slice A3 (parts32 u).length c3, .slice A5 (parts32 t).length c5, .slice (some ⟨w16.heap.size, 0, none⟩) 0 0] 3 rfl rfl (by simp) (fun i x v hx hv => by
        match i, hx, hv with
        | 0, hx, hv => simp at hx hv; subst hx; subst hv; exact (by repeat with_reducible first | apply mem_hd | assumption | apply mem_tl)
        | 1, hx, hv => simp at hx hv; subst hx; subst hv; exact (by repeat with_reducible first | apply mem_hd | assumption | apply mem_tl)
        | 2, hx, hv => simp at hx hv; subst hx; subst hv; exact (by repeat with_reducible first | apply mem_hd | assumption | apply mem_tl))
      simp only [World.size_alloc] at E
      go_wp2_with fail
      refine (E.eval hP7 (by have := HM.out; omega) (vn := vn) (vi := vi) (vo := vo) (by repeat with_reducible first | apply mem_hd | assumption | apply mem_tl) (by repeat with_reducible first | apply mem_hd | assumption | apply mem_tl) (by repeat with_reducible first | apply mem_hd | assumption | apply mem_tl) (by repeat with_reducible first | apply mem_hd | assumption | apply mem_tl) (by rw [hie.out.1]; rfl) (fun q hq => ?_) (fun i z hz => ?_)).mono ?_
      · simp only [List.mem_cons, List.not_mem_nil, or_false] at hq
        rcases hq with rfl | rfl | rfl
        · exact parts_fit _ n hul.out (by omega)
        · exact parts_fit _ m htl.out (by omega)
        · exact ⟨fun _ h => by simp at h, by simp⟩
      · rw [hie.out.1] at hz
        match i, hz with
        | 0, hz => simp at hz; subst hz; simp only [List.getD_cons_zero, partsVal_parts32]; rw [hp.out]; exact hul.out
        | 1, hz => simp at hz; subst hz; simp only [List.getD_cons_succ, List.getD_cons_zero, partsVal_parts32]; rw [hq.out]; exact htl.out
        | 2, hz => simp at hz; subst hz; simp [partsVal]
      rintro e w17 ⟨v17, V, rfl, -, hV, hin, E⟩
      have hK := Lib.hid (E.sem V hV)
      have g1 : numV V ps = u := by have h := hin.out 0 _ (by rw [hie.out.1]; rfl); simpa [partsVal_parts32] using h
      have g2 : numV V qs = t := by have h := hin.out 1 _ (by rw [hie.out.1]; rfl); simpa [partsVal_parts32] using h
      obtain ⟨mn, hmn⟩ : ∃ mn, min t n = mn := ⟨_, rfl⟩
      obtain ⟨s1, s2, s3⟩ := shift_min (v := t) hul.out
      rw [hmn] at s1 s2 s3
      obtain ⟨⟨-, f1⟩, f2, f3⟩ := hK.out
      rw [hp.out, g1, g2, s1] at f1
      rw [g1, g2, s2] at f2
      rw [g1, g2, s3] at f3
      rw [hie.out.2] at E
      simp only [List.map_cons, List.map_nil] at E
      rw [f1, f2, numV_one, f3] at E
      obtain ⟨d, hd⟩ : ∃ d, decide (u % 2 ^ mn ≠ 0) = d := ⟨_, rfl⟩
      rw [hd] at E
      have HMN := Lib.hid hmn
      have HD := Lib.hid hd
      clear hK hin hV f1 f2 f3 s1 s2 s3 g1 g2 hmn hd
      obtain ⟨A17, c17, hv17⟩ := E.rshape (v := v17) (by repeat with_reducible first | apply mem_hd | assumption | apply mem_tl)
      simp only [List.length_cons, List.length_nil, Nat.zero_add, Nat.reduceAdd] at hv17
      subst hv17
      obtain ⟨bo, oo, B0, d0, rfl, q0, E⟩ := E.rowAt (xss := [parts32 (u * 2 ^ mn % 2 ^ n), parts32 (u / 2 ^ mn), parts32 d.toNat]) (by repeat with_reducible first | apply mem_hd | assumption | apply mem_tl) 0 (by simp)
      obtain ⟨bo1, oo1, B1, d1, he1, q1, E⟩ := E.rowAt (xss := [parts32 (u * 2 ^ mn % 2 ^ n), parts32 (u / 2 ^ mn), parts32 d.toNat]) (by repeat with_reducible first | apply mem_hd | assumption | apply mem_tl) 1 (by simp)
      obtain ⟨bo2, oo2, B2, d2, he2, q2, E⟩ := E.rowAt (xss := [parts32 (u * 2 ^ mn % 2 ^ n), parts32 (u / 2 ^ mn), parts32 d.toNat]) (by repeat with_reducible first | apply mem_hd | assumption | apply mem_tl) 2 (by simp)
      injection he1 with he1; injection he1 with he1 he1'; subst he1; subst he1'
      injection he2 with he2; injection he2 with he2 he2'; subst he2; subst he2'
      simp only [List.getElem_cons_zero, List.getElem_cons_succ, Nat.add_zero] at q0 q1 q2 E
      have h17 := right17_ref w17 _ v11 v13 u t n (E.rw_ (by repeat with_reducible first | apply mem_hd | assumption | apply mem_tl)) (E.rw_ (by repeat with_reducible first | apply mem_hd | assumption | apply mem_tl)) (by omega) (by omega) (by omega)
      rw [HMN.out, HD.out] at h17
      have H17 := Lib.hid h17
      clear h17
      have Q := Lib.hid (And.intro q0 (And.intro q1 q2))
      clear q0 q1 q2
      go_wp2_with fail
      refine H17.out.mono ?_
      rintro e w18 ⟨v18, rfl, h18, rfl⟩
      have E := E.add (.row kBool v18 (natBits (u / 2 ^ mn))) h18
      have hn1u : nbits (u / 2 ^ mn) ≤ 4294967296 := Nat.le_trans (nbits_le (Nat.lt_of_le_of_lt (Nat.div_le_self _ _) hul.out)) (by omega)
      have hn2u : nbits (u * 2 ^ mn % 2 ^ n) ≤ 4294967296 := Nat.le_trans (nbits_low _ n) (by omega)
      have hn3u : nbits d.toNat ≤ 4294967296 := by cases d <;> decide
      clear h18
      have E := E.drew
      have QD := Lib.hid (show (w17.drew.cell? ⟨bo, oo, none⟩ = _ ∧ w17.drew.cell? ⟨bo, oo + 1, none⟩ = _ ∧ w17.drew.cell? ⟨bo, oo + 2, none⟩ = _) from Q.out)
      go_wp2_with fail
      go_region_held3 (fun w' => w'.cell? ⟨bo, oo, none⟩ = some (.slice B0 (parts32 (u * 2 ^ mn % 2 ^ n)).length d0) ∧ w'.cell? ⟨bo, oo + 1, none⟩ = some (.slice B1 (parts32 (u / 2 ^ mn)).length d1) ∧ w'.cell? ⟨bo, oo + 2, none⟩ = some (.slice B2 (parts32 d.toNat).length d2))
        (first | with_reducible exact QD.out | with_reducible exact Q1.out | with_reducible exact Q2.out | with_reducible exact Q3.out | with_reducible exact Q4.out | with_reducible exact Q5.out)
        (first
          | (go_at_call 63; refine (E.ref (left17_ref _ _ E.there _ _ u t n (E.rwF (by repeat with_reducible first | apply mem_hd | assumption | apply mem_tl)) (E.rwF (by repeat with_reducible first | apply mem_hd | assumption | apply mem_tl)) (by omega) (by omega) (by omega))).mono ?_; rw [HMN.out]; rintro e w19 ⟨v19, rfl, hb19, E⟩; have Q1 := Lib.hid (And.intro (cell_below hb19 QD.out.1) (And.intro (cell_below hb19 QD.out.2.1) (cell_below hb19 QD.out.2.2))); have hIsA := E.isTrue (v := .slice B0 (parts32 (u * 2 ^ mn % 2 ^ n)).length d0) (u := v19) (xs := parts32 (u * 2 ^ mn % 2 ^ n)) (n := u * 2 ^ mn % 2 ^ n) (by repeat with_reducible first | apply mem_hd | assumption | apply mem_tl) (by repeat with_reducible first | apply mem_hd | assumption | apply mem_tl) rfl hn2u)
          | (go_at_call 33; refine hIsA.mono ?_; clear hIsA; rintro e w20 ⟨rfl, hb20⟩; have E := E.quiet hb20; have Q2 := Lib.hid (And.intro (cell_below hb20 Q1.out.1) (And.intro (cell_below hb20 Q1.out.2.1) (cell_below hb20 Q1.out.2.2))); have hIsB := E.isTrue (v := .slice B1 (parts32 (u / 2 ^ mn)).length d1) (u := v18) (xs := parts32 (u / 2 ^ mn)) (n := u / 2 ^ mn) (by repeat with_reducible first | apply mem_hd | assumption | apply mem_tl) (by repeat with_reducible first | apply mem_hd | assumption | apply mem_tl) rfl hn1u)
          | (go_at_call 33; refine hIsB.mono ?_; clear hIsB; rintro e w21 ⟨rfl, hb21⟩; have E := E.quiet hb21; have Q3 := Lib.hid (And.intro (cell_below hb21 Q2.out.1) (And.intro (cell_below hb21 Q2.out.2.1) (cell_below hb21 Q2.out.2.2))))
          | (go_at_call 64; refine (E.ref (one_ref _ _ E.there d)).mono ?_; rintro e w22 ⟨v22, rfl, hb22, E⟩; have Q4 := Lib.hid (And.intro (cell_below hb22 Q3.out.1) (And.intro (cell_below hb22 Q3.out.2.1) (cell_below hb22 Q3.out.2.2))); have hIsC := E.isTrue (v := .slice B2 (parts32 d.toNat).length d2) (u := v22) (xs := parts32 d.toNat) (n := d.toNat) (by repeat with_reducible first | apply mem_hd | assumption | apply mem_tl) (by repeat with_reducible first | apply mem_hd | assumption | apply mem_tl) rfl hn3u)
          | (go_at_call 33; refine hIsC.mono ?_; clear hIsC; rintro e w23 ⟨rfl, hb23⟩; have E := E.quiet hb23; have Q5 := Lib.hid (And.intro (cell_below hb23 Q4.out.1) (And.intro (cell_below hb23 Q4.out.2.1) (cell_below hb23 Q4.out.2.2)))))
      have HE := Lib.hid E.c.2
      clear E
      go_wp2
      go_ret
      exact ⟨rfl, HB1.out.trans (HE.out.mono HB1.out.size)⟩
    · have hk3 : 20 < (ys.length : Int) := by omega
      have hk2 : ¬ (20 < (xs.length : Int)) := by omega
      go_wp2
      go_ret
      exact ⟨rfl, HB1.out⟩
  · have hk2 : 20 < (xs.length : Int) := by omega
    go_wp2
    go_ret
    exact ⟨rfl, HB1.out⟩
end Go.Proofs.Ytdljgifoboiaeaa
