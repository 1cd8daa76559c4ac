/- slipsticklaw16: awake, BoothMuls. -/
import Derived.Test.YtdljgifoboiaeaaLess
import Derived.Test.YtdljgifoboiaeaaBMul
import Derived.Test.YtdljgifoboiaeaaBPlain
import Derived.Test.YtdljgifoboiaeaaR16
namespace Go.Proofs.Ytdljgifoboiaeaa
open Go.RowKit

set_option maxHeartbeats 4000000 in
set_option maxRecDepth 100000 in
theorem awake16 (w : World) : Calls Try.prog 73 #[] w fun e w' => e = .returned (.bool true) ∧ Below w.heap.size w w' := by
  go_enter Try.func73, Try.ntmps73
  go_wp2_with fail
  refine (in14 w 3 3 (by omega) (by omega)).mono ?_
  rintro e w1 ⟨p, X, vx, vy, xs, ys, c, st1, rfl, hx, hy, hi, hP, E⟩
  go_wp2_with fail
  refine (E.bmul (xs := xs) (ys := ys) (by repeat with_reducible first | apply mem_hd | assumption | apply mem_tl) (by repeat with_reducible first | apply mem_hd | assumption | apply mem_tl) (by rw [hx.out, hy.out]; decide) (by omega)).mono ?_
  rintro e w2 ⟨vm, rs, st2, hm, rfl, -, -, -, E⟩
  rw [hx.out, hy.out] at hm
  obtain ⟨A1, c1, hv1, -, -⟩ := E.shape (v := vm) (xs := rs) (by repeat with_reducible first | apply mem_hd | assumption | apply mem_tl)
  rw [hm.out] at hv1
  subst hv1
  go_wp2_with fail
  refine (E.out hP ⟨#[122]⟩ (xs := rs) (by repeat with_reducible first | apply mem_hd | assumption | apply mem_tl) (by rw [hm.out]; decide) (by rw [hi.out.2]; simp)).mono ?_
  rintro e w5 ⟨st5, rfl, hi5, hP5, E⟩
  rw [hi.out.1, hi.out.2, List.nil_append] at hi5
  go_wp2_with fail
  refine (E.ref (word01_ref _ _ E.there 5 (by decide))).mono ?_
  rintro e w6 ⟨v6, rfl, -, E⟩
  go_wp2_with fail
  refine (E.ref (word01_ref _ _ E.there 7 (by decide))).mono ?_
  rintro e w7 ⟨v7, rfl, -, E⟩
  go_wp2_with fail
  refine (E.told hP5 hi5 (a := 5) (b := 7) false (by repeat with_reducible first | apply mem_hd | assumption | apply mem_tl) (by repeat with_reducible first | apply mem_hd | assumption | apply mem_tl) (by decide) (by decide) 3 3 hx hy (by omega) (by omega) (by omega)).mono ?_
  rintro e w8 ⟨v8, V, rfl, -, hV, hvals, E⟩
  have hK := Lib.hid (E.sem V hV)
  go_wp2_with fail
  refine (E.ref (word01_ref _ _ E.there 35 (by decide))).mono ?_
  rintro e w9 ⟨v9, rfl, -, E⟩
  go_wp2_with fail
  refine (is_ref _ _ _ E.there _ _ (parts32 (numV V rs)) 35 (E.rwF (by repeat with_reducible first | apply mem_hd | assumption | apply mem_tl)) (E.rwF (by repeat with_reducible first | apply mem_hd | assumption | apply mem_tl)) (out_len V (by rw [hm.out]; decide)) (by decide)).mono ?_
  rintro e w10 ⟨rfl, hb10⟩
  have hnum : numV V rs = 35 := by
    obtain ⟨-, f1⟩ := hK.out
    obtain ⟨g1, g2, g3⟩ := hvals.out
    rw [f1, g1, g2]
  rw [hnum, decide_eq_true rfl]
  obtain ⟨A2, c2, hv2, -, -⟩ := E.shape (v := vy) (xs := ys) (by repeat with_reducible first | apply mem_hd | assumption | apply mem_tl)
  rw [hy.out] at hv2
  subst hv2
  have E := E.quiet hb10
  have HE := Lib.hid E.c.2
  clear hnum hK hvals E
  go_wp2_with fail
  refine (digits_calls _ A2 3 c2 (by decide)).mono ?_
  rintro e w11 ⟨rfl, rfl⟩
  go_wp2
  go_ret
  exact ⟨rfl, HE.out⟩


set_option maxHeartbeats 8000000 in
set_option maxRecDepth 100000 in
attribute [local go_sem] max2_int min2_int max_two min_two in
theorem muls_walk (w : World) (a b : Nat) (ha : a < 256) (hb : b < 256) (vx vy : Value) (xs ys : List Int) (hx : Row (kNum .u32) w (fun _ => False) vx xs) (hy : Row (kNum .u32) w (fun _ => False) vy ys) (hxo : okParts xs) (hyo : okParts ys) :
    Calls Try.prog 12 #[.int .u8 a, .int .u8 b, vx, vy] w fun e w' => e = .returned (.bool true) ∧ Below w.heap.size w w' := by
  obtain ⟨n, hn⟩ : ∃ n : Nat, (a : Int) % 30 + 1 = n := ⟨a % 30 + 1, by omega⟩
  obtain ⟨m, hm⟩ : ∃ m : Nat, (b : Int) % 30 + 1 = m := ⟨b % 30 + 1, by omega⟩
  have hn1 : 0 < n ∧ n ≤ 30 := by omega
  have hm1 : 0 < m ∧ m ≤ 30 := by omega
  obtain ⟨lg, hlg⟩ : ∃ lg : Nat, (n : Int) + (m : Int) = lg := ⟨n + m, by omega⟩
  have hlg2 : Hid (n + m = lg) := Lib.hid (by omega)
  have hlg3 : 0 < lg ∧ lg ≤ 60 := by omega
  obtain ⟨A1, c1, rfl, -, hc1⟩ := hx.shape
  obtain ⟨A2, c2, rfl, -, hc2⟩ := hy.shape
  unfold maxLen at hc1 hc2
  have HX := Lib.hid hx
  have HY := Lib.hid hy
  have HXO := Lib.hid hxo
  have HYO := Lib.hid hyo
  clear hx hy hxo hyo
  go_enter Try.func12, Try.ntmps12
  go_wp2_with fail
  refine (awake16 w).mono ?_
  rintro e w1 ⟨rfl, hb1⟩
  have HX1 := Lib.hid (HX.out.later hb1)
  have HY1 := Lib.hid (HY.out.later hb1)
  have HB1 := Lib.hid hb1
  clear hb1
  by_cases hsx : xs.length ≤ 20
  · by_cases hsy : ys.length ≤ 20
    · have hk2 : ¬ (20 < (xs.length : Int)) := by omega
      have hk3 : ¬ (20 < (ys.length : Int)) := by omega
      have hbx : nbits (partsVal xs) ≤ 640 := by have := nbits_parts HXO.out; omega
      have hby : nbits (partsVal ys) ≤ 640 := by have := nbits_parts HYO.out; omega
      go_wp2_with fail
      refine (of_ref _ (fun _ => False) (fun _ h => h.elim) _ xs HX1.out HXO.out (by omega)).mono ?_
      rintro e w2 ⟨v2, rfl, hr2, hb2⟩
      have HB2 := Lib.hid (HB1.out.trans (hb2.mono HB1.out.size))
      have HY2 := Lib.hid (HY1.out.later hb2)
      go_wp2_with fail
      refine (low_ref _ (fun _ => False) (fun _ h => h.elim) _ (partsVal xs) n hr2 (by omega) (by omega)).mono ?_
      rintro e w3 ⟨vu, rfl, hr3, hb3⟩
      have HB3 := Lib.hid (HB2.out.trans (hb3.mono HB2.out.size))
      have HY3 := Lib.hid (HY2.out.later hb3)
      have HU := Lib.hid hr3
      clear hr2 hb2 hr3 hb3
      go_wp2_with fail
      refine (of_ref _ (fun _ => False) (fun _ h => h.elim) _ ys HY3.out HYO.out (by omega)).mono ?_
      rintro e w4 ⟨v4, rfl, hr4, hb4⟩
      have HB4 := Lib.hid (HB3.out.trans (hb4.mono HB3.out.size))
      have HU := Lib.hid (HU.out.later hb4)
      go_wp2_with fail
      refine (low_ref _ (fun _ => False) (fun _ h => h.elim) _ (partsVal ys) m hr4 (by omega) (by omega)).mono ?_
      rintro e w5 ⟨vv, rfl, hr5, hb5⟩
      have HB5 := Lib.hid (HB4.out.trans (hb5.mono HB4.out.size))
      have HU := Lib.hid (HU.out.later hb5)
      have HV := Lib.hid hr5
      clear hr4 hb4 hr5 hb5
      obtain ⟨u, hu⟩ : ∃ u, partsVal xs % 2 ^ n = u := ⟨_, rfl⟩
      obtain ⟨t, ht2⟩ : ∃ t, partsVal ys % 2 ^ m = t := ⟨_, rfl⟩
      rw [hu] at HU
      rw [ht2] at HV
      have hul : Hid (u < 2 ^ n) := Lib.hid (by rw [← hu]; exact Nat.mod_lt _ (Nat.two_pow_pos n))
      have htl : Hid (t < 2 ^ m) := Lib.hid (by rw [← ht2]; exact Nat.mod_lt _ (Nat.two_pow_pos m))
      have hnu : nbits u ≤ 41 := by have := nbits_le hul.out; omega
      have hnt : nbits t ≤ 41 := by have := nbits_le htl.out; omega
      have hnw : nbits (u * t) ≤ 100 := by
        have := nbits_le (n := u * t) (k := n + m) (by rw [Nat.pow_add]; exact Nat.mul_lt_mul'' hul.out htl.out)
        omega
      clear hu ht2 hbx hby hsx hsy hk2 hk3
      go_wp2_with fail
      refine (mul01_ref _ (fun _ => False) (fun _ h => h.elim) _ _ u t HU.out HV.out (by omega) (by omega)).mono ?_
      rintro e w6 ⟨vw, rfl, hr6, hb6⟩
      have HB6 := Lib.hid (HB5.out.trans (hb6.mono HB5.out.size))
      have HU := Lib.hid (HU.out.later hb6)
      have HV := Lib.hid (HV.out.later hb6)
      have HWW := Lib.hid hr6
      clear hr6 hb6
      go_wp2_with fail
      go_loopw [14] (fun iv wr => ∃ k : Nat, iv = .int .i64 (k : Nat) ∧ k ≤ 2 ∧ Hid (Below w.heap.size w wr) ∧ Hid (Row kBool wr (fun _ => False) vu (natBits u)) ∧ Hid (Row kBool wr (fun _ => False) vv (natBits t)) ∧ Hid (Row kBool wr (fun _ => False) vw (natBits (u * t)))) (fun iv _ => 2 - (intOf iv).toNat)
      case atStart => exact ⟨0, rfl, by omega, HB6, HU, HV, HWW⟩
      case round =>
        clear HU HV HB6 HB5 HWW
        obtain ⟨k, rfl, hk, HW, HU, HV, HWW⟩ := hrel
        by_cases hk4 : k = 2
        · subst hk4
          go_wp2
          go_ret
          exact ⟨rfl, HW.out⟩
        · have hk5 : (k : Int) < 2 := by omega
          go_wp2_with fail
          refine (in14 wr n m (by omega) (by omega)).mono ?_
          rintro e w6 ⟨p, X, vp, vq, ps, qs, kk, st1, rfl, hp, hq, hi, hP, E⟩
          have E := ((E.old HU.out).old HV.out).old HWW.out
          have hk6 : k = 0 ∨ k = 1 := by omega
          rcases hk6 with rfl | rfl
          · go_wp2_with fail
            refine (E.bmul (xs := ps) (ys := qs) (by repeat with_reducible first | apply mem_hd | assumption | apply mem_tl) (by repeat with_reducible first | apply mem_hd | assumption | apply mem_tl) (by rw [hp.out, hq.out]; omega) (by omega)).mono ?_
            rintro e w5 ⟨vs, rs, st4, hs, rfl, -, -, -, E⟩
            rw [hp.out, hq.out, hlg2.out] at hs
            obtain ⟨A3, c3, hv3, -, -⟩ := E.shape (xs := rs) (by repeat with_reducible first | apply mem_hd | assumption | apply mem_tl)
            rw [hs.out] at hv3
            subst hv3
            have t17 : 0 < rs.length := by rw [hs.out]; omega
            have t18 : st1.outs.length < 100 := by rw [hi.out.2]; simp
            go_wp2_with fail
            refine (E.out hP ⟨#[122]⟩ (xs := rs) (by repeat with_reducible first | apply mem_hd | assumption | apply mem_tl) t17 t18).mono ?_
            rintro e w9 ⟨st9, rfl, hi9, hP9, E⟩
            rw [hi.out.1, hi.out.2, List.nil_append] at hi9
            clear t17 t18
            go_wp2_with fail
            refine (E.told hP9 hi9 (v := vu) (u := vv) (a := u) (b := t) false (by repeat with_reducible first | apply mem_hd | assumption | apply mem_tl) (by repeat with_reducible first | apply mem_hd | assumption | apply mem_tl) (by omega) (by omega) n m hp hq (by omega) (by omega) (by omega)).mono ?_
            rintro e w20 ⟨v20, V, rfl, -, hV, hvals, E⟩
            have hK := Lib.hid (E.sem V hV)
            go_wp2_with fail
            refine (is_ref _ _ _ E.there _ _ (parts32 (numV V rs)) (u * t) (E.rwF (v := v20) (by repeat with_reducible first | apply mem_hd | assumption | apply mem_tl)) (E.rwF (v := vw) (by repeat with_reducible first | apply mem_hd | assumption | apply mem_tl)) (out_len V (by rw [hs.out]; omega)) (by omega)).mono ?_
            rintro e w22 ⟨rfl, hb22⟩
            have hnum : numV V rs = u * t := by
              obtain ⟨-, f1⟩ := hK.out
              obtain ⟨g1, g2, g3⟩ := hvals.out
              rw [f1, g1, g2, Nat.mod_eq_of_lt hul.out, Nat.mod_eq_of_lt htl.out]
            rw [hnum, decide_eq_true rfl]
            have E := E.quiet hb22
            have HE := Lib.hid E.c.2
            clear hK hvals hnum E hb22
            go_wp2
            go_roundw
            case rel => exact ⟨0 + 1, by go_num, by omega, Lib.hid (HW.out.trans (HE.out.mono HW.out.size)), Lib.hid (HU.out.later HE.out), Lib.hid (HV.out.later HE.out), Lib.hid (HWW.out.later HE.out)⟩
            case measure => simp [intOf]
          · go_wp2_with fail
            refine (E.bplain (xs := ps) (ys := qs) (by repeat with_reducible first | apply mem_hd | assumption | apply mem_tl) (by repeat with_reducible first | apply mem_hd | assumption | apply mem_tl) (by rw [hp.out, hq.out]; omega) (by omega)).mono ?_
            rintro e w5 ⟨vs, rs, st4, hs, rfl, -, -, -, E⟩
            rw [hp.out, hq.out, hlg2.out] at hs
            obtain ⟨A3, c3, hv3, -, -⟩ := E.shape (xs := rs) (by repeat with_reducible first | apply mem_hd | assumption | apply mem_tl)
            rw [hs.out] at hv3
            subst hv3
            have t17 : 0 < rs.length := by rw [hs.out]; omega
            have t18 : st1.outs.length < 100 := by rw [hi.out.2]; simp
            go_wp2_with fail
            refine (E.out hP ⟨#[122]⟩ (xs := rs) (by repeat with_reducible first | apply mem_hd | assumption | apply mem_tl) t17 t18).mono ?_
            rintro e w9 ⟨st9, rfl, hi9, hP9, E⟩
            rw [hi.out.1, hi.out.2, List.nil_append] at hi9
            clear t17 t18
            go_wp2_with fail
            refine (E.told hP9 hi9 (v := vu) (u := vv) (a := u) (b := t) false (by repeat with_reducible first | apply mem_hd | assumption | apply mem_tl) (by repeat with_reducible first | apply mem_hd | assumption | apply mem_tl) (by omega) (by omega) n m hp hq (by omega) (by omega) (by omega)).mono ?_
            rintro e w20 ⟨v20, V, rfl, -, hV, hvals, E⟩
            have hK := Lib.hid (E.sem V hV)
            go_wp2_with fail
            refine (is_ref _ _ _ E.there _ _ (parts32 (numV V rs)) (u * t) (E.rwF (v := v20) (by repeat with_reducible first | apply mem_hd | assumption | apply mem_tl)) (E.rwF (v := vw) (by repeat with_reducible first | apply mem_hd | assumption | apply mem_tl)) (out_len V (by rw [hs.out]; omega)) (by omega)).mono ?_
            rintro e w22 ⟨rfl, hb22⟩
            have hnum : numV V rs = u * t := by
              obtain ⟨-, f1⟩ := hK.out
              obtain ⟨g1, g2, g3⟩ := hvals.out
              rw [f1, g1, g2, Nat.mod_eq_of_lt hul.out, Nat.mod_eq_of_lt htl.out]
            rw [hnum, decide_eq_true rfl]
            have E := E.quiet hb22
            have HE := Lib.hid E.c.2
            clear hK hvals hnum E hb22
            go_wp2
            go_roundw
            case rel => exact ⟨1 + 1, by go_num, by omega, Lib.hid (HW.out.trans (HE.out.mono HW.out.size)), Lib.hid (HU.out.later HE.out), Lib.hid (HV.out.later HE.out), Lib.hid (HWW.out.later HE.out)⟩
            case measure => simp [intOf]
    · have hk3 : 20 < (ys.length : Int) := by omega
      have hk2 : ¬ (20 < (xs.length : Int)) := by omega
      go_wp2
      go_ret
      exact ⟨rfl, HB1.out⟩
  · have hk2 : 20 < (xs.length : Int) := by omega
    go_wp2
    go_ret
    exact ⟨rfl, HB1.out⟩
end Go.Proofs.Ytdljgifoboiaeaa
