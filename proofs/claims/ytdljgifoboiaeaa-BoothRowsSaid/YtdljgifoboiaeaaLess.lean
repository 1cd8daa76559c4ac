/- slipsticklaw14.AdderLess, walked. -/
import Derived.Test.YtdljgifoboiaeaaL14
import Derived.Test.YtdljgifoboiaeaaApp
namespace Go.Proofs.Ytdljgifoboiaeaa
open Go.RowKit

/-- a row that came in, later, where a law's builder is at hand -/
theorem Env.old {p X : Nat} {st0 st : BSt} {w0 w : World} {N : Nat} {L : List Ent} {K : (Int → Bool) → Prop} (E : Env (fun a => Fresh w0.heap.size a p ∧ Below w0.heap.size w0 a) p X st0 w st N L K) {α : Type} {k : Kd α} {S : Nat → Prop} {v : Value} {xs : List α} (h : Row k w0 S v xs) :
    Env (fun a => Fresh w0.heap.size a p ∧ Below w0.heap.size w0 a) p w.heap.size st0 w st N (.row k v xs :: L) K :=
  E.addRow (((h.mono (S' := fun i => w0.heap.size ≤ i) fun i hi hm => by omega).later E.c.2).mono fun i hi hm => hm.elim (fun h => by omega) fun h => E.c.1 i h)

/-- the numbers of slipsticklaw14.AdderLess -/
theorem less_num {u v D T lg n : Nat} {no l neg : Bool} (hu : u < 2 ^ n) (hv : v < 2 ^ lg) (hu2 : u < 2 ^ lg) (hD : D < 2 ^ lg) (f1 : D + 2 ^ lg * no.toNat + v = u + 2 ^ lg) (f2 : l = decide (u < v)) (f3 : T = if neg then (2 ^ n - u) % 2 ^ n else u) :
    D + 2 ^ lg * (no.toNat + 2 * l.toNat) + 2 ^ (lg + 2) * T = ((u + 2 ^ lg - v) % 2 ^ lg + (if decide (v ≤ u) then 2 ^ lg else 0) + if (!decide (v ≤ u)) then 2 ^ (lg + 1) else 0) + (if neg then (2 ^ n - u) % 2 ^ n else u) * 2 ^ (lg + 2) := by
  rw [f3, Nat.mul_comm (2 ^ (lg + 2))]
  congr 1
  subst f2
  rw [Nat.pow_succ]
  have hp := Nat.two_pow_pos lg
  generalize 2 ^ lg = P at *
  by_cases h : v ≤ u
  · have e1 : (u + P - v) % P = u - v := by
      rw [show u + P - v = u - v + P by omega, Nat.add_mod_right, Nat.mod_eq_of_lt (by omega)]
    have h2 : ¬ u < v := by omega
    cases no <;> simp [e1, h, h2] at f1 ⊢ <;> omega
  · have e1 : (u + P - v) % P = u + P - v := Nat.mod_eq_of_lt (by omega)
    have h2 : u < v := by omega
    cases no <;> simp [e1, h, h2] at f1 ⊢ <;> omega

set_option maxHeartbeats 8000000 in
set_option maxRecDepth 100000 in
attribute [local go_sem] max2_int min2_int max_two min_two in
theorem less_walk (w : World) (a b : Nat) (ha : a < 256) (hb : b < 256) (vx vy : Value) (xs ys : List Int) (neg : Bool) (hx : Row (kNum .u32) w (fun _ => False) vx xs) (hy : Row (kNum .u32) w (fun _ => False) vy ys) (hxo : okParts xs) (hyo : okParts ys) :
    Calls Try.prog 5 #[.int .u8 a, .int .u8 b, vx, vy, .bool neg] w fun e w' => e = .returned (.bool true) ∧ Below w.heap.size w w' := by
  obtain ⟨n, hn⟩ : ∃ n : Nat, (a : Int) % 41 + 1 = n := ⟨a % 41 + 1, by omega⟩
  obtain ⟨m, hm⟩ : ∃ m : Nat, (b : Int) % 41 + 1 = m := ⟨b % 41 + 1, by omega⟩
  have hn1 : 0 < n ∧ n ≤ 41 := by omega
  have hm1 : 0 < m ∧ m ≤ 41 := by omega
  obtain ⟨A1, c1, rfl, -, hc1⟩ := hx.shape
  obtain ⟨A2, c2, rfl, -, hc2⟩ := hy.shape
  unfold maxLen at hc1 hc2
  have HX := Lib.hid hx
  have HY := Lib.hid hy
  have HXO := Lib.hid hxo
  have HYO := Lib.hid hyo
  clear hx hy hxo hyo
  go_enter Try.func5, Try.ntmps5
  go_wp2_with fail
  refine (awake14 w).mono ?_
  rintro e w1 ⟨rfl, hb1⟩
  have HX1 := Lib.hid (HX.out.later hb1)
  have HY1 := Lib.hid (HY.out.later hb1)
  have HB1 := Lib.hid hb1
  clear hb1
  by_cases hsx : xs.length ≤ 20
  · by_cases hsy : ys.length ≤ 20
    · have hk1 : (decide (20 < (xs.length : Int)) || decide (20 < (ys.length : Int))) = false := by simp; omega
      have hk2 : ¬ (20 < (xs.length : Int)) := by omega
      have hk3 : ¬ (20 < (ys.length : Int)) := by omega
      go_wp2_with fail
      refine (in14 w1 n m (by omega) (by omega)).mono ?_
      rintro e w2 ⟨p, X, vp, vq, ps, qs, kk, st1, rfl, hp, hq, hi, hP, E⟩
      have E := (E.old HX1.out).old HY1.out
      obtain ⟨lg, hlg⟩ : ∃ lg : Nat, max (n : Int) (m : Int) = lg := ⟨max n m, by omega⟩
      have hlg2 : Hid (max n m = lg) := Lib.hid (by omega)
      have hlg3 : 0 < lg ∧ lg ≤ 41 := by omega
      go_wp2_with fail
      refine (E.sub (xs := ps) (ys := qs) (by repeat with_reducible first | apply mem_hd | assumption | apply mem_tl) (by repeat with_reducible first | apply mem_hd | assumption | apply mem_tl) (by omega)).mono ?_
      rintro e w3 ⟨vd, ds, no, st3, hd, rfl, -, -, -, E⟩
      rw [hp.out, hq.out, hlg2.out] at hd
      go_wp2_with fail
      refine (E.less (xs := ps) (ys := qs) (by repeat with_reducible first | apply mem_hd | assumption | apply mem_tl) (by repeat with_reducible first | apply mem_hd | assumption | apply mem_tl) (by omega)).mono ?_
      rintro e w4 ⟨l, st4, rfl, -, -, E⟩
      go_wp2_with fail
      refine (E.size_ (xs := ps) (c := kk) (by repeat with_reducible first | apply mem_hd | assumption | apply mem_tl) (by repeat with_reducible first | apply mem_hd | assumption | apply mem_tl) (by omega)).mono ?_
      rintro e w5 ⟨vt, ts, st5, ht, rfl, -, -, -, E⟩
      rw [hp.out] at ht
      obtain ⟨A3, c3, hv3, -, -⟩ := E.shape (xs := ds) (by repeat with_reducible first | apply mem_hd | assumption | apply mem_tl)
      obtain ⟨A4, c4, hv4, -, -⟩ := E.shape (xs := ts) (by repeat with_reducible first | apply mem_hd | assumption | apply mem_tl)
      rw [hd.out] at hv3
      rw [ht.out] at hv4
      subst hv3; subst hv4
      have t1 : 0 < ds.length := by rw [hd.out]; omega
      have t2 : ([] : List Int).length + ds.length ≤ 1024 := by rw [hd.out]; simp; omega
      have t3 : w5.heap.size ≤ (w5.alloc (.cells #[] 3)).heap.size := by simp
      have t4 := (E.alloc (.cells #[] 3)).wd (xs := ds) (by repeat with_reducible first | apply mem_hd | assumption | apply mem_tl)
      have t5 := (E.alloc (.cells #[] 3)).okay (xs := ds) (by repeat with_reducible first | apply mem_hd | assumption | apply mem_tl)
      have t6 : 0 < ts.length := by rw [ht.out]; omega
      go_wp2_with (first
        | (at_builtin; refine appE rfl (.tmp 88) (.tmp 89) rfl Try.underlying26 infoInt (E.alloc (.cells #[] 3)) E.lit0 E.size t3 rfl rfl t4 t5 t1 t2 ?_; intro v6 w6 k6 f6 E6; have t7 := f6.quiet E6 ((Below.refl _ _).alloc (Nat.le_refl _) (.cells #[.int .i64 no, .int .i64 l] 3)); have t8 : w5.heap.size ≤ (w6.alloc (.cells #[.int .i64 no, .int .i64 l] 3)).heap.size := (by have := k6.size; simp at this ⊢; omega); have t9 := litI w6 [no, l] 2 rfl (by omega) #[.int .i64 no, .int .i64 l] rfl; have t10 := okay_cons (E6.at_ (c := no) (by repeat with_reducible first | apply mem_hd | assumption | apply mem_tl)) (okay_cons (E6.at_ (c := l) (by repeat with_reducible first | apply mem_hd | assumption | apply mem_tl)) (okay_nil _)); have t11 : ([] ++ ds).length + [no, l].length ≤ 1024 := (by simp; rw [hd.out]; omega); have t12 : 0 < [no, l].length := (by simp))
        | (at_builtin; refine appE rfl (.tmp 90) (.tmp 93) rfl Try.underlying26 infoInt (E6.alloc _) t7 E.size t8 rfl rfl t9 t10 t12 t11 ?_; intro v7 w7 k7 f7 E7; have t13 : w5.heap.size ≤ w7.heap.size := (Nat.le_trans t8 k7.size); have t14 := E7.wd (xs := ts) (by repeat with_reducible first | apply mem_hd | assumption | apply mem_tl); have t15 := E7.okay (xs := ts) (by repeat with_reducible first | apply mem_hd | assumption | apply mem_tl); have t16 : ([] ++ ds ++ [no, l]).length + ts.length ≤ 1024 := (by simp; rw [hd.out, ht.out]; omega))
        | (at_builtin; refine appE rfl (.tmp 94) (.tmp 95) rfl Try.underlying26 infoInt E7 f7 E.size t13 rfl rfl t14 t15 t6 t16 ?_; intro v8 w8 k8 f8 E8; have E9 := E8.top.fine f8; have t17 : 0 < ([] ++ ds ++ [no, l] ++ ts).length := (by simp; omega); have t18 : st1.outs.length < 100 := (by rw [hi.out.2]; simp))
        | (go_at_call 17; refine (E9.out hP ⟨#[122]⟩ (by repeat with_reducible first | apply mem_hd | assumption | apply mem_tl) t17 t18).mono ?_; rintro e w9 ⟨st9, rfl, hi9, hP9, E⟩))
      rw [hi.out.1, hi.out.2, List.nil_append] at hi9
      have hbx : nbits (partsVal xs) ≤ 640 := by have := nbits_parts HXO.out; omega
      have hby : nbits (partsVal ys) ≤ 640 := by have := nbits_parts HYO.out; omega
      clear t1 t2 t3 t4 t5 t6 t7 t8 t9 t10 t11 t12 t13 t14 t15 t16 t17 t18 k6 k7 k8 f6 f7 f8 E6 E7 E8 E9
      refine (E.ref (of_ref _ _ E.there _ xs (E.rwF (by repeat with_reducible first | apply mem_hd | assumption | apply mem_tl)) HXO.out (by omega))).mono ?_
      rintro e w10 ⟨v10, rfl, -, E⟩
      go_wp2_with fail
      refine (E.ref (low_ref _ _ E.there _ (partsVal xs) n (E.rwF (by repeat with_reducible first | apply mem_hd | assumption | apply mem_tl)) (by omega) (by omega))).mono ?_
      rintro e w11 ⟨v11, rfl, -, E⟩
      go_wp2_with fail
      refine (E.ref (of_ref _ _ E.there _ ys (E.rwF (by repeat with_reducible first | apply mem_hd | assumption | apply mem_tl)) HYO.out (by omega))).mono ?_
      rintro e w12 ⟨v12, rfl, -, E⟩
      go_wp2_with fail
      refine (E.ref (low_ref _ _ E.there _ (partsVal ys) m (E.rwF (by repeat with_reducible first | apply mem_hd | assumption | apply mem_tl)) (by omega) (by omega))).mono ?_
      rintro e w13 ⟨v13, rfl, -, E⟩
      obtain ⟨u, hu⟩ : ∃ u, partsVal xs % 2 ^ n = u := ⟨_, rfl⟩
      obtain ⟨t, ht2⟩ : ∃ t, partsVal ys % 2 ^ m = t := ⟨_, rfl⟩
      rw [hu, ht2] at E
      have hul : Hid (u < 2 ^ n) := Lib.hid (by rw [← hu]; exact Nat.mod_lt _ (Nat.two_pow_pos n))
      have htl : Hid (t < 2 ^ m) := Lib.hid (by rw [← ht2]; exact Nat.mod_lt _ (Nat.two_pow_pos m))
      have hul2 : Hid (u < 2 ^ lg) := Lib.hid (Nat.lt_of_lt_of_le hul.out (Nat.pow_le_pow_right (by omega) (by omega)))
      have htl2 : Hid (t < 2 ^ lg) := Lib.hid (Nat.lt_of_lt_of_le htl.out (Nat.pow_le_pow_right (by omega) (by omega)))
      have hnu : nbits u ≤ 41 := by have := nbits_le hul.out; omega
      have hnt : nbits t ≤ 41 := by have := nbits_le htl.out; omega
      clear hu ht2 hbx hby
      obtain ⟨l1, hl1⟩ : ∃ l1 : Nat, (lg : Int) + 1 = l1 := ⟨lg + 1, by omega⟩
      obtain ⟨l2, hl2⟩ : ∃ l2 : Nat, (lg : Int) + 2 = l2 := ⟨lg + 2, by omega⟩
      go_wp2_with fail
      refine (sub14_ref _ _ E.there _ _ u t lg (E.rwF (by repeat with_reducible first | apply mem_hd | assumption | apply mem_tl)) (E.rwF (by repeat with_reducible first | apply mem_hd | assumption | apply mem_tl)) (by omega) (by have := htl2.out; omega) (by omega)).mono ?_
      rintro e w14 ⟨v14, rfl, hr14, hb14⟩
      have E := E.rowB hb14 hr14
      have hn14 : nbits ((u + 2 ^ lg - t) % 2 ^ lg) ≤ 41 := by have := nbits_low (u + 2 ^ lg - t) lg; omega
      clear hr14 hb14
      go_wp2_with fail
      refine (E.ref (with14_ref _ _ E.there _ _ lg (decide (t ≤ u)) (E.rwF (by repeat with_reducible first | apply mem_hd | assumption | apply mem_tl)) (by omega) (by omega))).mono ?_
      rintro e w15 ⟨v15, rfl, -, E⟩
      have hn15 : nbits ((u + 2 ^ lg - t) % 2 ^ lg + if decide (t ≤ u) then 2 ^ lg else 0) ≤ 50 := by
        have h1 := nbits_add ((u + 2 ^ lg - t) % 2 ^ lg) (if decide (t ≤ u) then 2 ^ lg else 0)
        have h2 : nbits (if decide (t ≤ u) then 2 ^ lg else 0) ≤ 42 := by split <;> first | (have := nbits_pow lg; omega) | decide
        omega
      go_wp2_with fail
      refine (E.ref (with14_ref _ _ E.there _ _ l1 (!decide (t ≤ u)) (E.rwF (by repeat with_reducible first | apply mem_hd | assumption | apply mem_tl)) (by omega) (by omega))).mono ?_
      rintro e w16 ⟨v16, rfl, -, E⟩
      go_wp2_with fail
      refine (E.ref (size14_ref _ _ E.there _ u n neg (E.rwF (by repeat with_reducible first | apply mem_hd | assumption | apply mem_tl)) (Nat.le_of_lt hul.out) (by omega))).mono ?_
      rintro e w17 ⟨v17, rfl, -, E⟩
      go_wp2_with fail
      have hn16 : nbits ((u + 2 ^ lg - t) % 2 ^ lg + (if decide (t ≤ u) then 2 ^ lg else 0) + if (!decide (t ≤ u)) then 2 ^ l1 else 0) ≤ 60 := by
        have h1 := nbits_add ((u + 2 ^ lg - t) % 2 ^ lg + (if decide (t ≤ u) then 2 ^ lg else 0)) (if (!decide (t ≤ u)) then 2 ^ l1 else 0)
        have h2 : nbits (if (!decide (t ≤ u)) then 2 ^ l1 else 0) ≤ 43 := by split <;> first | (have := nbits_pow l1; omega) | decide
        omega
      obtain ⟨T, hT⟩ : ∃ T, (if neg then (2 ^ n - u) % 2 ^ n else u) = T := ⟨_, rfl⟩
      have hT2 : Hid (T < 2 ^ n) := Lib.hid (by rw [← hT]; split <;> first | exact Nat.mod_lt _ (Nat.two_pow_pos n) | exact hul.out)
      have hnT : nbits T ≤ 41 := by have := nbits_le hT2.out; omega
      rw [hT] at E
      have HT := Lib.hid hT
      clear hT
      refine (E.ref (left_ref _ _ E.there _ T l2 (E.rwF (by repeat with_reducible first | apply mem_hd | assumption | apply mem_tl)) (by omega) (by omega))).mono ?_
      rintro e w18 ⟨v18, rfl, -, E⟩
      have hn18 : nbits (T * 2 ^ l2) ≤ 100 := nbits_le (by
        have h1 := Nat.mul_lt_mul_of_pos_right hT2.out (Nat.two_pow_pos l2)
        rw [← Nat.pow_add] at h1
        exact Nat.lt_of_lt_of_le h1 (Nat.pow_le_pow_right (by omega) (by omega)))
      go_wp2_with fail
      refine (E.ref (add_ref _ _ E.there _ _ _ (T * 2 ^ l2) (E.rwF (v := v16) (by repeat with_reducible first | apply mem_hd | assumption | apply mem_tl)) (E.rwF (v := v18) (by repeat with_reducible first | apply mem_hd | assumption | apply mem_tl)) (by omega) (by omega))).mono ?_
      rintro e w19 ⟨v19, rfl, -, E⟩
      obtain ⟨all, hall⟩ : ∃ all, (u + 2 ^ lg - t) % 2 ^ lg + (if decide (t ≤ u) then 2 ^ lg else 0) + (if (!decide (t ≤ u)) then 2 ^ l1 else 0) + T * 2 ^ l2 = all := ⟨_, rfl⟩
      have hna : nbits all ≤ 200 := by rw [← hall]; exact Nat.le_trans (nbits_add _ _) (by omega)
      rw [hall] at E
      have HALL := Lib.hid hall
      clear hall hn14 hn15 hn16 hn18
      go_wp2_with fail
      refine (E.told hP9 hi9 (v := v11) (u := v13) (a := u) (b := t) neg (by repeat with_reducible first | apply mem_hd | assumption | apply mem_tl) (by repeat with_reducible first | apply mem_hd | assumption | apply mem_tl) (by omega) (by omega) n m hp hq (by omega) (by omega) (by omega)).mono ?_
      rintro e w20 ⟨v20, V, rfl, -, hV, hvals, E⟩
      have hK := Lib.hid (E.sem V hV)
      go_wp2_with fail
      refine (is_ref _ _ _ E.there _ _ (parts32 (numV V ([] ++ ds ++ [no, l] ++ ts))) all (E.rwF (v := v20) (by repeat with_reducible first | apply mem_hd | assumption | apply mem_tl)) (E.rwF (v := v19) (by repeat with_reducible first | apply mem_hd | assumption | apply mem_tl)) (out_len V (by simp; rw [hd.out, ht.out]; omega)) (by omega)).mono ?_
      rintro e w21 ⟨rfl, hb21⟩
      have hnum : numV V ([] ++ ds ++ [no, l] ++ ts) = all := by
        obtain ⟨⟨⟨-, f1⟩, f2⟩, f3⟩ := hK.out
        obtain ⟨g1, g2, g3⟩ := hvals.out
        rw [Nat.mod_eq_of_lt hul.out] at g1
        rw [Nat.mod_eq_of_lt htl.out] at g2
        rw [hp.out, hq.out, hlg2.out, g1, g2] at f1
        rw [g1, g2] at f2
        rw [hp.out, g1, g3] at f3
        have hD := numV_lt V ds
        rw [hd.out] at hD
        have e1 : l1 = lg + 1 := by omega
        have e2 : l2 = lg + 2 := by omega
        rw [← HALL.out, ← HT.out, e1, e2, ← less_num hul.out htl2.out hul2.out hD f1 f2 f3, List.nil_append, List.append_assoc, numV_append, numV_append, bits2, hd.out, List.length_cons, List.length_singleton, Nat.mul_add, ← Nat.mul_assoc, ← Nat.pow_add, Nat.add_assoc]
      rw [hnum, decide_eq_true rfl]
      have E := E.quiet hb21
      have HE := Lib.hid E.c.2
      clear hnum hK hvals E
      go_wp2
      go_ret
      exact ⟨rfl, HB1.out.trans (HE.out.mono HB1.out.size)⟩
    · have hk3 : 20 < (ys.length : Int) := by omega
      have hk2 : ¬ (20 < (xs.length : Int)) := by omega
      go_wp2
      go_ret
      exact ⟨rfl, HB1.out⟩
  · have hk2 : 20 < (xs.length : Int) := by omega
    go_wp2
    go_ret
    exact ⟨rfl, HB1.out⟩
end Go.Proofs.Ytdljgifoboiaeaa
