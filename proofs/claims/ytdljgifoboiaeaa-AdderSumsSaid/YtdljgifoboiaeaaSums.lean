/- slipsticklaw14.AdderSums, walked. -/
import Derived.Test.YtdljgifoboiaeaaLess
import Derived.Test.YtdljgifoboiaeaaSelect
namespace Go.Proofs.Ytdljgifoboiaeaa
open Go.RowKit

/-- a sum and its last carry -/
theorem sum_num {R S n : Nat} {top : Bool} (hR : R < 2 ^ n) (h : R + 2 ^ n * top.toNat = S) : R + 2 ^ n * top.toNat = S % 2 ^ n + if S.testBit n then 2 ^ n else 0 := by
  have h1 : S % 2 ^ n = R := by rw [← h, Nat.add_mul_mod_self_left, Nat.mod_eq_of_lt hR]
  have h2 : S.testBit n = top := by
    rw [← h, Nat.add_comm, Nat.testBit_two_pow_mul_add _ hR, if_neg (by omega), Nat.sub_self]
    cases top <;> rfl
  rw [h1, h2]
  cases top <;> simp

section
variable {C : World → Prop} {p X : Nat} {st0 st : BSt} {w : World} {N : Nat} {L : List Ent} {K : (Int → Bool) → Prop}
theorem Env.nilRow (E : Env C p X st0 w st N L K) : Env C p w.heap.size st0 w st N (.row kBool (.slice none 0 0) (natBits 0) :: L) K :=
  E.addRow (k := kBool) (xs := ([] : List Bool)) ⟨none, 0, [], rfl, by simp, by simp [maxLen], fun _ => rfl, Pairs.nil _ _ _, fun h => by simp at h⟩
end


set_option maxHeartbeats 8000000 in
set_option maxRecDepth 100000 in
attribute [local go_sem] max2_int min2_int max_two min_two in
theorem sums_walk (w : World) (a b d : Nat) (ha : a < 256) (hb : b < 256) (hd : d < 256) (vx vy : Value) (xs ys : List Int) (cb : Bool) (hx : Row (kNum .u32) w (fun _ => False) vx xs) (hy : Row (kNum .u32) w (fun _ => False) vy ys) (hxo : okParts xs) (hyo : okParts ys) :
    Calls Try.prog 8 #[.int .u8 a, .int .u8 b, .int .u8 d, vx, vy, .bool cb] w fun e w' => e = .returned (.bool true) ∧ Below w.heap.size w w' := by
  obtain ⟨n, hn⟩ : ∃ n : Nat, (a : Int) % 41 + 1 = n := ⟨a % 41 + 1, by omega⟩
  obtain ⟨m, hm⟩ : ∃ m : Nat, (b : Int) % 41 + 1 = m := ⟨b % 41 + 1, by omega⟩
  have hn1 : 0 < n ∧ n ≤ 41 := by omega
  have hm1 : 0 < m ∧ m ≤ 41 := by omega
  obtain ⟨blk, hblk⟩ : ∃ blk : Int, (d : Int) % 12 - 1 = blk := ⟨_, rfl⟩
  have hblk2 : -4096 ≤ blk ∧ blk ≤ 4096 := by omega
  obtain ⟨lg, hlg⟩ : ∃ lg : Nat, max (n : Int) (m : Int) = lg := ⟨max n m, by omega⟩
  have hlg2 : Hid (max n m = lg) := Lib.hid (by omega)
  have hlg3 : 0 < lg ∧ lg ≤ 41 := by omega
  obtain ⟨A1, c1, rfl, -, hc1⟩ := hx.shape
  obtain ⟨A2, c2, rfl, -, hc2⟩ := hy.shape
  unfold maxLen at hc1 hc2
  have HX := Lib.hid hx
  have HY := Lib.hid hy
  have HXO := Lib.hid hxo
  have HYO := Lib.hid hyo
  clear hx hy hxo hyo
  go_enter Try.func8, Try.ntmps8
  go_wp2_with fail
  refine (awake14 w).mono ?_
  rintro e w1 ⟨rfl, hb1⟩
  have HX1 := Lib.hid (HX.out.later hb1)
  have HY1 := Lib.hid (HY.out.later hb1)
  have HB1 := Lib.hid hb1
  clear hb1
  by_cases hsx : xs.length ≤ 20
  · by_cases hsy : ys.length ≤ 20
    · have hk2 : ¬ (20 < (xs.length : Int)) := by omega
      have hk3 : ¬ (20 < (ys.length : Int)) := by omega
      have hbx : nbits (partsVal xs) ≤ 640 := by have := nbits_parts HXO.out; omega
      have hby : nbits (partsVal ys) ≤ 640 := by have := nbits_parts HYO.out; omega
      go_wp2_with fail
      refine (of_ref _ (fun _ => False) (fun _ h => h.elim) _ xs HX1.out HXO.out (by omega)).mono ?_
      rintro e w2 ⟨v2, rfl, hr2, hb2⟩
      have HB2 := Lib.hid (HB1.out.trans (hb2.mono HB1.out.size))
      have HY2 := Lib.hid (HY1.out.later hb2)
      go_wp2_with fail
      refine (low_ref _ (fun _ => False) (fun _ h => h.elim) _ (partsVal xs) n hr2 (by omega) (by omega)).mono ?_
      rintro e w3 ⟨vu, rfl, hr3, hb3⟩
      have HB3 := Lib.hid (HB2.out.trans (hb3.mono HB2.out.size))
      have HY3 := Lib.hid (HY2.out.later hb3)
      have HU := Lib.hid hr3
      clear hr2 hb2 hr3 hb3
      go_wp2_with fail
      refine (of_ref _ (fun _ => False) (fun _ h => h.elim) _ ys HY3.out HYO.out (by omega)).mono ?_
      rintro e w4 ⟨v4, rfl, hr4, hb4⟩
      have HB4 := Lib.hid (HB3.out.trans (hb4.mono HB3.out.size))
      have HU := Lib.hid (HU.out.later hb4)
      go_wp2_with fail
      refine (low_ref _ (fun _ => False) (fun _ h => h.elim) _ (partsVal ys) m hr4 (by omega) (by omega)).mono ?_
      rintro e w5 ⟨vv, rfl, hr5, hb5⟩
      have HB5 := Lib.hid (HB4.out.trans (hb5.mono HB4.out.size))
      have HU := Lib.hid (HU.out.later hb5)
      have HV := Lib.hid hr5
      clear hr4 hb4 hr5 hb5
      obtain ⟨u, hu⟩ : ∃ u, partsVal xs % 2 ^ n = u := ⟨_, rfl⟩
      obtain ⟨t, ht2⟩ : ∃ t, partsVal ys % 2 ^ m = t := ⟨_, rfl⟩
      rw [hu] at HU
      rw [ht2] at HV
      have hul : Hid (u < 2 ^ n) := Lib.hid (by rw [← hu]; exact Nat.mod_lt _ (Nat.two_pow_pos n))
      have htl : Hid (t < 2 ^ m) := Lib.hid (by rw [← ht2]; exact Nat.mod_lt _ (Nat.two_pow_pos m))
      have hnu : nbits u ≤ 41 := by have := nbits_le hul.out; omega
      have hnt : nbits t ≤ 41 := by have := nbits_le htl.out; omega
      clear hu ht2 hbx hby hsx hsy hk2 hk3
      go_wp2_with fail
      go_loopw [17] (fun iv wr => ∃ k : Nat, iv = .int .i64 (k : Nat) ∧ k ≤ 4 ∧ Hid (Below w.heap.size w wr) ∧ Hid (Row kBool wr (fun _ => False) vu (natBits u)) ∧ Hid (Row kBool wr (fun _ => False) vv (natBits t))) (fun iv _ => 4 - (intOf iv).toNat)
      case atStart => exact ⟨0, rfl, by omega, HB5, HU, HV⟩
      case round =>
        clear HU HV HB5
        obtain ⟨k, rfl, hk, HW, HU, HV⟩ := hrel
        by_cases hk4 : k = 4
        · subst hk4
          go_wp2
          go_ret
          exact ⟨rfl, HW.out⟩
        · have hk5 : (k : Int) < 4 := by omega
          go_wp2_with fail
          refine (in14 wr n m (by omega) (by omega)).mono ?_
          rintro e w6 ⟨p, X, vp, vq, ps, qs, kk, st1, rfl, hp, hq, hi, hP, E⟩
          have E := (E.old HU.out).old HV.out
          obtain ⟨N0, hN0⟩ : ∃ N0, 3000 = N0 := ⟨_, rfl⟩
          rw [hN0] at E
          have hk6 : k = 0 ∨ k = 1 ∨ k = 2 ∨ k = 3 := by omega
          rcases hk6 with rfl | rfl | rfl | rfl
          · go_wp2_with fail
            refine (E.ripple (xs := ps) (ys := qs) (c := kk) (by repeat with_reducible first | apply mem_hd | assumption | apply mem_tl) (by repeat with_reducible first | apply mem_hd | assumption | apply mem_tl) (by repeat with_reducible first | apply mem_hd | assumption | apply mem_tl) (by omega)).mono ?_
            rintro e w5 ⟨vs, rs, top, st4, hs, rfl, -, -, -, E⟩
            rw [hp.out, hq.out, hlg2.out] at hs E
            obtain ⟨A3, c3, hv3, -, -⟩ := E.shape (xs := rs) (by repeat with_reducible first | apply mem_hd | assumption | apply mem_tl)
            rw [hs.out] at hv3
            subst hv3
            have t1 : 0 < rs.length := by rw [hs.out]; omega
            have t2 : ([] : List Int).length + rs.length ≤ 1024 := by rw [hs.out]; simp; omega
            have t3 : w5.heap.size ≤ (w5.alloc (.cells #[] 3)).heap.size := by simp
            have t4 := (E.alloc (.cells #[] 3)).wd (xs := rs) (by repeat with_reducible first | apply mem_hd | assumption | apply mem_tl)
            have t5 := (E.alloc (.cells #[] 3)).okay (xs := rs) (by repeat with_reducible first | apply mem_hd | assumption | apply mem_tl)
            have t6 : ([] ++ rs).length + 1 ≤ 1024 := by rw [List.nil_append, hs.out]; omega
            have t7 : 0 < ([] ++ rs ++ [top]).length := by simp
            have t18 : st1.outs.length < 100 := by rw [hi.out.2]; simp
            go_wp2_with (first
              | (at_builtin; refine appE rfl (.tmp 126) (.tmp 127) rfl Try.underlying26 infoInt (E.alloc (.cells #[] 3)) E.lit0 E.size t3 rfl rfl t4 t5 t1 t2 ?_; intro v6 w6 k6 f6 E6; have kg := E6.at_ (c := top) (by repeat with_reducible first | apply mem_hd | assumption | apply mem_tl); have t8 : w5.heap.size ≤ w6.heap.size := (by have := k6.size; simp at this; omega))
              | (at_builtin; refine app1E rfl (.tmp 128) (.tmp 130) rfl Try.underlying26 infoInt E6 f6 E.size t8 rfl top rfl kg t6 ?_; intro v7 w7 k7 f7 E7; have E9 := E7.top.fine f7)
              | (go_at_call 17; refine (E9.out hP ⟨#[122]⟩ (by repeat with_reducible first | apply mem_hd | assumption | apply mem_tl) t7 t18).mono ?_; rintro e w9 ⟨st9, rfl, hi9, hP9, E⟩))
            rw [hi.out.1, hi.out.2, List.nil_append] at hi9
            clear t1 t2 t3 t4 t5 t6 t7 t8 t18 k6 k7 f6 f7 E6 E7 E9 kg
            refine (sum14_ref _ _ E.there vu vv u t lg cb (E.rwF (by repeat with_reducible first | apply mem_hd | assumption | apply mem_tl)) (E.rwF (by repeat with_reducible first | apply mem_hd | assumption | apply mem_tl)) (by omega) (by omega) (by omega)).mono ?_
            rintro e w14 ⟨v14, rfl, hr14, hb14⟩
            have E := E.rowB hb14 hr14
            obtain ⟨S, hS⟩ : ∃ S, u + t + cb.toNat = S := ⟨_, rfl⟩
            rw [hS] at E hr14 ⊢
            have HS := Lib.hid hS
            have hnS : nbits (S % 2 ^ lg) ≤ 41 := by have := nbits_low S lg; omega
            have hnS2 : nbits (S % 2 ^ lg + if S.testBit lg then 2 ^ lg else 0) ≤ 100 := by
              have h1 := nbits_add (S % 2 ^ lg) (if S.testBit lg then 2 ^ lg else 0)
              have h2 : nbits (if S.testBit lg then 2 ^ lg else 0) ≤ 42 := by split <;> first | (have := nbits_pow lg; omega) | decide
              omega
            obtain ⟨bt, hbt⟩ : ∃ bt, S.testBit lg = bt := ⟨_, rfl⟩
            rw [hbt] at hnS2 ⊢
            have HBT := Lib.hid hbt
            clear hr14 hb14 hS hbt
            go_wp2_with fail
            refine (E.told hP9 hi9 (v := vu) (u := vv) (a := u) (b := t) cb (by repeat with_reducible first | apply mem_hd | assumption | apply mem_tl) (by repeat with_reducible first | apply mem_hd | assumption | apply mem_tl) (by omega) (by omega) n m hp hq (by omega) (by omega) (by omega)).mono ?_
            rintro e w20 ⟨v20, V, rfl, -, hV, hvals, E⟩
            have hK := Lib.hid (E.sem V hV)
            go_wp2_with fail
            refine (E.ref (with14_ref _ _ E.there _ _ lg bt (E.rwF (v := v14) (by repeat with_reducible first | apply mem_hd | assumption | apply mem_tl)) (by omega) (by omega))).mono ?_
            rintro e w21 ⟨v21, rfl, -, E⟩
            have hnum : numV V ([] ++ rs ++ [top]) = S % 2 ^ lg + if bt then 2 ^ lg else 0 := by
              obtain ⟨-, f1⟩ := hK.out
              obtain ⟨g1, g2, g3⟩ := hvals.out
              rw [Nat.mod_eq_of_lt hul.out] at g1
              rw [Nat.mod_eq_of_lt htl.out] at g2
              have hR := numV_lt V rs
              rw [hs.out] at hR
              rw [← HBT.out, List.nil_append, numV_snoc, hs.out]
              refine sum_num hR ?_
              first | (rw [g1, g2, g3] at f1; rw [← HS.out]; exact f1) | (rw [g1, g3] at f1; rw [← HS.out, Nat.add_zero]; exact f1)
            have HNUM := Lib.hid hnum
            clear hnum
            go_wp2_with fail
            refine (is_ref _ _ _ E.there _ _ (parts32 (numV V ([] ++ rs ++ [top]))) (S % 2 ^ lg + if bt then 2 ^ lg else 0) (E.rwF (v := v20) (by repeat with_reducible first | apply mem_hd | assumption | apply mem_tl)) (E.rwF (v := v21) (by repeat with_reducible first | apply mem_hd | assumption | apply mem_tl)) (out_len V (by simp; rw [hs.out]; omega)) (by omega)).mono ?_
            rintro e w22 ⟨rfl, hb22⟩
            rw [HNUM.out, decide_eq_true rfl]
            have E := E.quiet hb22
            have HE := Lib.hid E.c.2
            clear hK hvals E hb22
            go_wp2
            go_roundw
            case rel => exact ⟨0 + 1, by go_num, by omega, Lib.hid (HW.out.trans (HE.out.mono HW.out.size)), Lib.hid (HU.out.later HE.out), Lib.hid (HV.out.later HE.out)⟩
            case measure => simp [intOf]
          · go_wp2_with fail
            refine (E.select (xs := ps) (ys := qs) (c := kk) (by repeat with_reducible first | apply mem_hd | assumption | apply mem_tl) (by repeat with_reducible first | apply mem_hd | assumption | apply mem_tl) (by repeat with_reducible first | apply mem_hd | assumption | apply mem_tl) blk hblk2 (by omega)).mono ?_
            rintro e w5 ⟨vs, rs, top, st4, hs, rfl, -, -, -, E⟩
            rw [hp.out, hq.out, hlg2.out] at hs E
            obtain ⟨A3, c3, hv3, -, -⟩ := E.shape (xs := rs) (by repeat with_reducible first | apply mem_hd | assumption | apply mem_tl)
            rw [hs.out] at hv3
            subst hv3
            have t1 : 0 < rs.length := by rw [hs.out]; omega
            have t2 : ([] : List Int).length + rs.length ≤ 1024 := by rw [hs.out]; simp; omega
            have t3 : w5.heap.size ≤ (w5.alloc (.cells #[] 3)).heap.size := by simp
            have t4 := (E.alloc (.cells #[] 3)).wd (xs := rs) (by repeat with_reducible first | apply mem_hd | assumption | apply mem_tl)
            have t5 := (E.alloc (.cells #[] 3)).okay (xs := rs) (by repeat with_reducible first | apply mem_hd | assumption | apply mem_tl)
            have t6 : ([] ++ rs).length + 1 ≤ 1024 := by rw [List.nil_append, hs.out]; omega
            have t7 : 0 < ([] ++ rs ++ [top]).length := by simp
            have t18 : st1.outs.length < 100 := by rw [hi.out.2]; simp
            go_wp2_with (first
              | (at_builtin; refine appE rfl (.tmp 126) (.tmp 127) rfl Try.underlying26 infoInt (E.alloc (.cells #[] 3)) E.lit0 E.size t3 rfl rfl t4 t5 t1 t2 ?_; intro v6 w6 k6 f6 E6; have kg := E6.at_ (c := top) (by repeat with_reducible first | apply mem_hd | assumption | apply mem_tl); have t8 : w5.heap.size ≤ w6.heap.size := (by have := k6.size; simp at this; omega))
              | (at_builtin; refine app1E rfl (.tmp 128) (.tmp 130) rfl Try.underlying26 infoInt E6 f6 E.size t8 rfl top rfl kg t6 ?_; intro v7 w7 k7 f7 E7; have E9 := E7.top.fine f7)
              | (go_at_call 17; refine (E9.out hP ⟨#[122]⟩ (by repeat with_reducible first | apply mem_hd | assumption | apply mem_tl) t7 t18).mono ?_; rintro e w9 ⟨st9, rfl, hi9, hP9, E⟩))
            rw [hi.out.1, hi.out.2, List.nil_append] at hi9
            clear t1 t2 t3 t4 t5 t6 t7 t8 t18 k6 k7 f6 f7 E6 E7 E9 kg
            refine (sum14_ref _ _ E.there vu vv u t lg cb (E.rwF (by repeat with_reducible first | apply mem_hd | assumption | apply mem_tl)) (E.rwF (by repeat with_reducible first | apply mem_hd | assumption | apply mem_tl)) (by omega) (by omega) (by omega)).mono ?_
            rintro e w14 ⟨v14, rfl, hr14, hb14⟩
            have E := E.rowB hb14 hr14
            obtain ⟨S, hS⟩ : ∃ S, u + t + cb.toNat = S := ⟨_, rfl⟩
            rw [hS] at E hr14 ⊢
            have HS := Lib.hid hS
            have hnS : nbits (S % 2 ^ lg) ≤ 41 := by have := nbits_low S lg; omega
            have hnS2 : nbits (S % 2 ^ lg + if S.testBit lg then 2 ^ lg else 0) ≤ 100 := by
              have h1 := nbits_add (S % 2 ^ lg) (if S.testBit lg then 2 ^ lg else 0)
              have h2 : nbits (if S.testBit lg then 2 ^ lg else 0) ≤ 42 := by split <;> first | (have := nbits_pow lg; omega) | decide
              omega
            obtain ⟨bt, hbt⟩ : ∃ bt, S.testBit lg = bt := ⟨_, rfl⟩
            rw [hbt] at hnS2 ⊢
            have HBT := Lib.hid hbt
            clear hr14 hb14 hS hbt
            go_wp2_with fail
            refine (E.told hP9 hi9 (v := vu) (u := vv) (a := u) (b := t) cb (by repeat with_reducible first | apply mem_hd | assumption | apply mem_tl) (by repeat with_reducible first | apply mem_hd | assumption | apply mem_tl) (by omega) (by omega) n m hp hq (by omega) (by omega) (by omega)).mono ?_
            rintro e w20 ⟨v20, V, rfl, -, hV, hvals, E⟩
            have hK := Lib.hid (E.sem V hV)
            go_wp2_with fail
            refine (E.ref (with14_ref _ _ E.there _ _ lg bt (E.rwF (v := v14) (by repeat with_reducible first | apply mem_hd | assumption | apply mem_tl)) (by omega) (by omega))).mono ?_
            rintro e w21 ⟨v21, rfl, -, E⟩
            have hnum : numV V ([] ++ rs ++ [top]) = S % 2 ^ lg + if bt then 2 ^ lg else 0 := by
              obtain ⟨-, f1⟩ := hK.out
              obtain ⟨g1, g2, g3⟩ := hvals.out
              rw [Nat.mod_eq_of_lt hul.out] at g1
              rw [Nat.mod_eq_of_lt htl.out] at g2
              have hR := numV_lt V rs
              rw [hs.out] at hR
              rw [← HBT.out, List.nil_append, numV_snoc, hs.out]
              refine sum_num hR ?_
              first | (rw [g1, g2, g3] at f1; rw [← HS.out]; exact f1) | (rw [g1, g3] at f1; rw [← HS.out, Nat.add_zero]; exact f1)
            have HNUM := Lib.hid hnum
            clear hnum
            go_wp2_with fail
            refine (is_ref _ _ _ E.there _ _ (parts32 (numV V ([] ++ rs ++ [top]))) (S % 2 ^ lg + if bt then 2 ^ lg else 0) (E.rwF (v := v20) (by repeat with_reducible first | apply mem_hd | assumption | apply mem_tl)) (E.rwF (v := v21) (by repeat with_reducible first | apply mem_hd | assumption | apply mem_tl)) (out_len V (by simp; rw [hs.out]; omega)) (by omega)).mono ?_
            rintro e w22 ⟨rfl, hb22⟩
            rw [HNUM.out, decide_eq_true rfl]
            have E := E.quiet hb22
            have HE := Lib.hid E.c.2
            clear hK hvals E hb22
            go_wp2
            go_roundw
            case rel => exact ⟨1 + 1, by go_num, by omega, Lib.hid (HW.out.trans (HE.out.mono HW.out.size)), Lib.hid (HU.out.later HE.out), Lib.hid (HV.out.later HE.out)⟩
            case measure => simp [intOf]
          · go_wp2_with fail
            refine (E.prefix (xs := ps) (ys := qs) (c := kk) (by repeat with_reducible first | apply mem_hd | assumption | apply mem_tl) (by repeat with_reducible first | apply mem_hd | assumption | apply mem_tl) (by repeat with_reducible first | apply mem_hd | assumption | apply mem_tl) (by omega)).mono ?_
            rintro e w5 ⟨vs, rs, top, st4, hs, rfl, -, -, -, E⟩
            rw [hp.out, hq.out, hlg2.out] at hs E
            obtain ⟨A3, c3, hv3, -, -⟩ := E.shape (xs := rs) (by repeat with_reducible first | apply mem_hd | assumption | apply mem_tl)
            rw [hs.out] at hv3
            subst hv3
            have t1 : 0 < rs.length := by rw [hs.out]; omega
            have t2 : ([] : List Int).length + rs.length ≤ 1024 := by rw [hs.out]; simp; omega
            have t3 : w5.heap.size ≤ (w5.alloc (.cells #[] 3)).heap.size := by simp
            have t4 := (E.alloc (.cells #[] 3)).wd (xs := rs) (by repeat with_reducible first | apply mem_hd | assumption | apply mem_tl)
            have t5 := (E.alloc (.cells #[] 3)).okay (xs := rs) (by repeat with_reducible first | apply mem_hd | assumption | apply mem_tl)
            have t6 : ([] ++ rs).length + 1 ≤ 1024 := by rw [List.nil_append, hs.out]; omega
            have t7 : 0 < ([] ++ rs ++ [top]).length := by simp
            have t18 : st1.outs.length < 100 := by rw [hi.out.2]; simp
            go_wp2_with (first
              | (at_builtin; refine appE rfl (.tmp 126) (.tmp 127) rfl Try.underlying26 infoInt (E.alloc (.cells #[] 3)) E.lit0 E.size t3 rfl rfl t4 t5 t1 t2 ?_; intro v6 w6 k6 f6 E6; have kg := E6.at_ (c := top) (by repeat with_reducible first | apply mem_hd | assumption | apply mem_tl); have t8 : w5.heap.size ≤ w6.heap.size := (by have := k6.size; simp at this; omega))
              | (at_builtin; refine app1E rfl (.tmp 128) (.tmp 130) rfl Try.underlying26 infoInt E6 f6 E.size t8 rfl top rfl kg t6 ?_; intro v7 w7 k7 f7 E7; have E9 := E7.top.fine f7)
              | (go_at_call 17; refine (E9.out hP ⟨#[122]⟩ (by repeat with_reducible first | apply mem_hd | assumption | apply mem_tl) t7 t18).mono ?_; rintro e w9 ⟨st9, rfl, hi9, hP9, E⟩))
            rw [hi.out.1, hi.out.2, List.nil_append] at hi9
            clear t1 t2 t3 t4 t5 t6 t7 t8 t18 k6 k7 f6 f7 E6 E7 E9 kg
            refine (sum14_ref _ _ E.there vu vv u t lg cb (E.rwF (by repeat with_reducible first | apply mem_hd | assumption | apply mem_tl)) (E.rwF (by repeat with_reducible first | apply mem_hd | assumption | apply mem_tl)) (by omega) (by omega) (by omega)).mono ?_
            rintro e w14 ⟨v14, rfl, hr14, hb14⟩
            have E := E.rowB hb14 hr14
            obtain ⟨S, hS⟩ : ∃ S, u + t + cb.toNat = S := ⟨_, rfl⟩
            rw [hS] at E hr14 ⊢
            have HS := Lib.hid hS
            have hnS : nbits (S % 2 ^ lg) ≤ 41 := by have := nbits_low S lg; omega
            have hnS2 : nbits (S % 2 ^ lg + if S.testBit lg then 2 ^ lg else 0) ≤ 100 := by
              have h1 := nbits_add (S % 2 ^ lg) (if S.testBit lg then 2 ^ lg else 0)
              have h2 : nbits (if S.testBit lg then 2 ^ lg else 0) ≤ 42 := by split <;> first | (have := nbits_pow lg; omega) | decide
              omega
            obtain ⟨bt, hbt⟩ : ∃ bt, S.testBit lg = bt := ⟨_, rfl⟩
            rw [hbt] at hnS2 ⊢
            have HBT := Lib.hid hbt
            clear hr14 hb14 hS hbt
            go_wp2_with fail
            refine (E.told hP9 hi9 (v := vu) (u := vv) (a := u) (b := t) cb (by repeat with_reducible first | apply mem_hd | assumption | apply mem_tl) (by repeat with_reducible first | apply mem_hd | assumption | apply mem_tl) (by omega) (by omega) n m hp hq (by omega) (by omega) (by omega)).mono ?_
            rintro e w20 ⟨v20, V, rfl, -, hV, hvals, E⟩
            have hK := Lib.hid (E.sem V hV)
            go_wp2_with fail
            refine (E.ref (with14_ref _ _ E.there _ _ lg bt (E.rwF (v := v14) (by repeat with_reducible first | apply mem_hd | assumption | apply mem_tl)) (by omega) (by omega))).mono ?_
            rintro e w21 ⟨v21, rfl, -, E⟩
            have hnum : numV V ([] ++ rs ++ [top]) = S % 2 ^ lg + if bt then 2 ^ lg else 0 := by
              obtain ⟨-, f1⟩ := hK.out
              obtain ⟨g1, g2, g3⟩ := hvals.out
              rw [Nat.mod_eq_of_lt hul.out] at g1
              rw [Nat.mod_eq_of_lt htl.out] at g2
              have hR := numV_lt V rs
              rw [hs.out] at hR
              rw [← HBT.out, List.nil_append, numV_snoc, hs.out]
              refine sum_num hR ?_
              first | (rw [g1, g2, g3] at f1; rw [← HS.out]; exact f1) | (rw [g1, g3] at f1; rw [← HS.out, Nat.add_zero]; exact f1)
            have HNUM := Lib.hid hnum
            clear hnum
            go_wp2_with fail
            refine (is_ref _ _ _ E.there _ _ (parts32 (numV V ([] ++ rs ++ [top]))) (S % 2 ^ lg + if bt then 2 ^ lg else 0) (E.rwF (v := v20) (by repeat with_reducible first | apply mem_hd | assumption | apply mem_tl)) (E.rwF (v := v21) (by repeat with_reducible first | apply mem_hd | assumption | apply mem_tl)) (out_len V (by simp; rw [hs.out]; omega)) (by omega)).mono ?_
            rintro e w22 ⟨rfl, hb22⟩
            rw [HNUM.out, decide_eq_true rfl]
            have E := E.quiet hb22
            have HE := Lib.hid E.c.2
            clear hK hvals E hb22
            go_wp2
            go_roundw
            case rel => exact ⟨2 + 1, by go_num, by omega, Lib.hid (HW.out.trans (HE.out.mono HW.out.size)), Lib.hid (HU.out.later HE.out), Lib.hid (HV.out.later HE.out)⟩
            case measure => simp [intOf]
          · go_wp2_with fail
            refine (E.more (xs := ps) (c := kk) (by repeat with_reducible first | apply mem_hd | assumption | apply mem_tl) (by repeat with_reducible first | apply mem_hd | assumption | apply mem_tl) (by omega)).mono ?_
            rintro e w5 ⟨vs, rs, top, st4, hs, rfl, -, -, -, E⟩
            rw [hp.out] at hs E
            have E := E.nilRow
            have hnt0 : nbits 0 ≤ 41 := by decide
            obtain ⟨A3, c3, hv3, -, -⟩ := E.shape (xs := rs) (by repeat with_reducible first | apply mem_hd | assumption | apply mem_tl)
            rw [hs.out] at hv3
            subst hv3
            have t1 : 0 < rs.length := by rw [hs.out]; omega
            have t2 : ([] : List Int).length + rs.length ≤ 1024 := by rw [hs.out]; simp; omega
            have t3 : w5.heap.size ≤ (w5.alloc (.cells #[] 3)).heap.size := by simp
            have t4 := (E.alloc (.cells #[] 3)).wd (xs := rs) (by repeat with_reducible first | apply mem_hd | assumption | apply mem_tl)
            have t5 := (E.alloc (.cells #[] 3)).okay (xs := rs) (by repeat with_reducible first | apply mem_hd | assumption | apply mem_tl)
            have t6 : ([] ++ rs).length + 1 ≤ 1024 := by rw [List.nil_append, hs.out]; omega
            have t7 : 0 < ([] ++ rs ++ [top]).length := by simp
            have t18 : st1.outs.length < 100 := by rw [hi.out.2]; simp
            go_wp2_with (first
              | (at_builtin; refine appE rfl (.tmp 126) (.tmp 127) rfl Try.underlying26 infoInt (E.alloc (.cells #[] 3)) E.lit0 E.size t3 rfl rfl t4 t5 t1 t2 ?_; intro v6 w6 k6 f6 E6; have kg := E6.at_ (c := top) (by repeat with_reducible first | apply mem_hd | assumption | apply mem_tl); have t8 : w5.heap.size ≤ w6.heap.size := (by have := k6.size; simp at this; omega))
              | (at_builtin; refine app1E rfl (.tmp 128) (.tmp 130) rfl Try.underlying26 infoInt E6 f6 E.size t8 rfl top rfl kg t6 ?_; intro v7 w7 k7 f7 E7; have E9 := E7.top.fine f7)
              | (go_at_call 17; refine (E9.out hP ⟨#[122]⟩ (by repeat with_reducible first | apply mem_hd | assumption | apply mem_tl) t7 t18).mono ?_; rintro e w9 ⟨st9, rfl, hi9, hP9, E⟩))
            rw [hi.out.1, hi.out.2, List.nil_append] at hi9
            clear t1 t2 t3 t4 t5 t6 t7 t8 t18 k6 k7 f6 f7 E6 E7 E9 kg
            refine (sum14_ref _ _ E.there vu (.slice none 0 0) u 0 n cb (E.rwF (by repeat with_reducible first | apply mem_hd | assumption | apply mem_tl)) (E.rwF (by repeat with_reducible first | apply mem_hd | assumption | apply mem_tl)) (by omega) (by omega) (by omega)).mono ?_
            rintro e w14 ⟨v14, rfl, hr14, hb14⟩
            have E := E.rowB hb14 hr14
            obtain ⟨S, hS⟩ : ∃ S, u + 0 + cb.toNat = S := ⟨_, rfl⟩
            rw [hS] at E hr14 ⊢
            have HS := Lib.hid hS
            have hnS : nbits (S % 2 ^ n) ≤ 41 := by have := nbits_low S n; omega
            have hnS2 : nbits (S % 2 ^ n + if S.testBit n then 2 ^ n else 0) ≤ 100 := by
              have h1 := nbits_add (S % 2 ^ n) (if S.testBit n then 2 ^ n else 0)
              have h2 : nbits (if S.testBit n then 2 ^ n else 0) ≤ 42 := by split <;> first | (have := nbits_pow n; omega) | decide
              omega
            obtain ⟨bt, hbt⟩ : ∃ bt, S.testBit n = bt := ⟨_, rfl⟩
            rw [hbt] at hnS2 ⊢
            have HBT := Lib.hid hbt
            clear hr14 hb14 hS hbt
            go_wp2_with fail
            refine (E.told hP9 hi9 (v := vu) (u := vv) (a := u) (b := t) cb (by repeat with_reducible first | apply mem_hd | assumption | apply mem_tl) (by repeat with_reducible first | apply mem_hd | assumption | apply mem_tl) (by omega) (by omega) n m hp hq (by omega) (by omega) (by omega)).mono ?_
            rintro e w20 ⟨v20, V, rfl, -, hV, hvals, E⟩
            have hK := Lib.hid (E.sem V hV)
            go_wp2_with fail
            refine (E.ref (with14_ref _ _ E.there _ _ n bt (E.rwF (v := v14) (by repeat with_reducible first | apply mem_hd | assumption | apply mem_tl)) (by omega) (by omega))).mono ?_
            rintro e w21 ⟨v21, rfl, -, E⟩
            have hnum : numV V ([] ++ rs ++ [top]) = S % 2 ^ n + if bt then 2 ^ n else 0 := by
              obtain ⟨-, f1⟩ := hK.out
              obtain ⟨g1, g2, g3⟩ := hvals.out
              rw [Nat.mod_eq_of_lt hul.out] at g1
              rw [Nat.mod_eq_of_lt htl.out] at g2
              have hR := numV_lt V rs
              rw [hs.out] at hR
              rw [← HBT.out, List.nil_append, numV_snoc, hs.out]
              refine sum_num hR ?_
              first | (rw [g1, g2, g3] at f1; rw [← HS.out]; exact f1) | (rw [g1, g3] at f1; rw [← HS.out, Nat.add_zero]; exact f1)
            have HNUM := Lib.hid hnum
            clear hnum
            go_wp2_with fail
            refine (is_ref _ _ _ E.there _ _ (parts32 (numV V ([] ++ rs ++ [top]))) (S % 2 ^ n + if bt then 2 ^ n else 0) (E.rwF (v := v20) (by repeat with_reducible first | apply mem_hd | assumption | apply mem_tl)) (E.rwF (v := v21) (by repeat with_reducible first | apply mem_hd | assumption | apply mem_tl)) (out_len V (by simp; rw [hs.out]; omega)) (by omega)).mono ?_
            rintro e w22 ⟨rfl, hb22⟩
            rw [HNUM.out, decide_eq_true rfl]
            have E := E.quiet hb22
            have HE := Lib.hid E.c.2
            clear hK hvals E hb22
            go_wp2
            go_roundw
            case rel => exact ⟨3 + 1, by go_num, by omega, Lib.hid (HW.out.trans (HE.out.mono HW.out.size)), Lib.hid (HU.out.later HE.out), Lib.hid (HV.out.later HE.out)⟩
            case measure => simp [intOf]
    · have hk3 : 20 < (ys.length : Int) := by omega
      have hk2 : ¬ (20 < (xs.length : Int)) := by omega
      go_wp2
      go_ret
      exact ⟨rfl, HB1.out⟩
  · have hk2 : 20 < (xs.length : Int) := by omega
    go_wp2
    go_ret
    exact ⟨rfl, HB1.out⟩
end Go.Proofs.Ytdljgifoboiaeaa
