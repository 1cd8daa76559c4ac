/- slipsticklaw17: awake. -/
import Derived.Test.YtdljgifoboiaeaaL14
import Derived.Test.YtdljgifoboiaeaaShift4
import Derived.Test.YtdljgifoboiaeaaR17
namespace Go.Proofs.Ytdljgifoboiaeaa
open Go.RowKit

set_option maxHeartbeats 8000000 in
set_option maxRecDepth 100000 in
theorem awake17 (w : World) : Calls Try.prog 58 #[] w fun e w' => e = .returned (.bool true) ∧ Below w.heap.size w w' := by
  go_enter Try.func58, Try.ntmps58
  go_wp2_with fail
  refine (in14 w 4 2 (by omega) (by omega)).mono ?_
  rintro e w1 ⟨p, X, vx, vy, xs, ys, c, st1, rfl, hx, hy, hi, hP, E⟩
  have hx0 : 0 < xs.length := by rw [hx.out]; omega
  have hy0 : 0 < ys.length := by rw [hy.out]; omega
  have HX0 := Lib.hid hx0
  have HY0 := Lib.hid hy0
  clear hx0 hy0
  go_wp2_with fail
  refine (E.left (xs := xs) (ys := ys) (by repeat with_reducible first | apply mem_hd | assumption | apply mem_tl) (by repeat with_reducible first | apply mem_hd | assumption | apply mem_tl) HX0.out HY0.out (by omega)).mono ?_
  rintro e w2 ⟨vl, ls, st2, hl, rfl, -, -, -, E⟩
  rw [hx.out] at hl
  obtain ⟨M, hM⟩ : ∃ M, 3000 + 100000 = M := ⟨_, rfl⟩
  rw [hM] at E
  go_wp2_with fail
  refine (E.right (xs := xs) (ys := ys) (by repeat with_reducible first | apply mem_hd | assumption | apply mem_tl) (by repeat with_reducible first | apply mem_hd | assumption | apply mem_tl) HX0.out HY0.out (by omega)).mono ?_
  rintro e w3 ⟨vr, rs, lost, st3, hr, rfl, -, -, -, E⟩
  rw [hx.out] at hr
  obtain ⟨M2, hM2⟩ : ∃ M2, M + 100000 = M2 := ⟨_, rfl⟩
  rw [hM2] at E
  go_wp2_with fail
  refine (E.lead (xs := xs) (by repeat with_reducible first | apply mem_hd | assumption | apply mem_tl) HX0.out (by rw [hx.out]; omega) (by omega)).mono ?_
  rintro e w4 ⟨vc, cs, st4, hc, rfl, -, -, -, E⟩
  rw [hx.out, show nbits 4 = 3 from rfl] at hc
  obtain ⟨M3, hM3⟩ : ∃ M3, M2 + 100000 = M3 := ⟨_, rfl⟩
  rw [hM3] at E
  go_wp2_with fail
  refine (E.norm (xs := xs) (by repeat with_reducible first | apply mem_hd | assumption | apply mem_tl) HX0.out (by rw [hx.out]; omega) (by omega)).mono ?_
  rintro e w5 ⟨vn, ns, vm, ms, st5, hn, hm, rfl, -, -, -, -, E⟩
  rw [hx.out] at hn
  rw [hx.out, show nbits 4 = 3 from rfl] at hm
  obtain ⟨M4, hM4⟩ : ∃ M4, M3 + 200000 = M4 := ⟨_, rfl⟩
  rw [hM4] at E
  obtain ⟨Al, cl, hvl, -, -⟩ := E.shape (xs := ls) (by repeat with_reducible first | apply mem_hd | assumption | apply mem_tl)
  obtain ⟨Ar, cr, hvr, -, -⟩ := E.shape (xs := rs) (by repeat with_reducible first | apply mem_hd | assumption | apply mem_tl)
  obtain ⟨Ac, cc, hvc, -, -⟩ := E.shape (xs := cs) (by repeat with_reducible first | apply mem_hd | assumption | apply mem_tl)
  obtain ⟨An, cn, hvn, -, -⟩ := E.shape (xs := ns) (by repeat with_reducible first | apply mem_hd | assumption | apply mem_tl)
  obtain ⟨Am, cm, hvm, -, -⟩ := E.shape (xs := ms) (by repeat with_reducible first | apply mem_hd | assumption | apply mem_tl)
  rw [hl.out] at hvl
  rw [hr.out] at hvr
  rw [hc.out] at hvc
  rw [hn.out] at hvn
  rw [hm.out] at hvm
  subst hvl; subst hvr; subst hvc; subst hvn; subst hvm
  have HM : Hid (M4 = 503000) := Lib.hid (by omega)
  clear hM hM2 hM3 hM4
  have t0 : w5.heap.size ≤ (w5.alloc (.cells #[] 3)).heap.size := by simp
  have t1 := (E.alloc (.cells #[] 3)).wd (xs := ls) (by repeat with_reducible first | apply mem_hd | assumption | apply mem_tl)
  have t2 := (E.alloc (.cells #[] 3)).okay (xs := ls) (by repeat with_reducible first | apply mem_hd | assumption | apply mem_tl)
  have t3 : 0 < ls.length := by rw [hl.out]; omega
  have t4 : ([] : List Int).length + ls.length ≤ 1024 := by rw [hl.out]; simp
  go_wp2_with (first
    | (at_builtin; refine appE rfl (.tmp 67) (.tmp 68) rfl Try.underlying26 infoInt (E.alloc (.cells #[] 3)) E.lit0 E.size t0 rfl rfl t1 t2 t3 t4 ?_; intro v6 w6 k6 f6 E6; have t5 := E6.wd (xs := rs) (by repeat with_reducible first | apply mem_hd | assumption | apply mem_tl); have t6 := E6.okay (xs := rs) (by repeat with_reducible first | apply mem_hd | assumption | apply mem_tl); have t7 : 0 < rs.length := (by rw [hr.out]; omega); have t8 : ([] ++ ls).length + rs.length ≤ 1024 := (by simp; rw [hl.out, hr.out]; omega); have t9 : w5.heap.size ≤ w6.heap.size := Nat.le_trans t0 k6.size)
    | (at_builtin; refine appE rfl (.tmp 69) (.tmp 70) rfl Try.underlying26 infoInt E6 f6 E.size t9 rfl rfl t5 t6 t7 t8 ?_; intro v7 w7 k7 f7 E7; have s1 := f7.quiet E7 ((Below.refl _ _).alloc (Nat.le_refl _) (.cells #[.int .i64 lost] 3)); have s2 : w5.heap.size ≤ (w7.alloc (.cells #[.int .i64 lost] 3)).heap.size := (by have := k7.size; simp at this ⊢; omega); have s3 := litI w7 [lost] 1 rfl (by omega) #[.int .i64 lost] rfl; have s4 := okay_cons (E7.at_ (c := lost) (by repeat with_reducible first | apply mem_hd | assumption | apply mem_tl)) (okay_nil _); have s5 : ([] ++ ls ++ rs).length + [lost].length ≤ 1024 := (by simp; rw [hl.out, hr.out]; omega); have s6 : 0 < [lost].length := (by simp))
    | (at_builtin; refine appE rfl (.tmp 71) (.tmp 73) rfl Try.underlying26 infoInt (E7.alloc _) s1 E.size s2 rfl rfl s3 s4 s6 s5 ?_; intro v8 w8 k8 f8 E8; have r1 := E8.wd (xs := ns) (by repeat with_reducible first | apply mem_hd | assumption | apply mem_tl); have r2 := E8.okay (xs := ns) (by repeat with_reducible first | apply mem_hd | assumption | apply mem_tl); have r3 : 0 < ns.length := (by rw [hn.out]; omega); have r4 : ([] ++ ls ++ rs ++ [lost]).length + ns.length ≤ 1024 := (by simp; rw [hl.out, hr.out, hn.out]; omega); have r5 : w5.heap.size ≤ w8.heap.size := Nat.le_trans s2 k8.size)
    | (at_builtin; refine appE rfl (.tmp 74) (.tmp 75) rfl Try.underlying26 infoInt E8 f8 E.size r5 rfl rfl r1 r2 r3 r4 ?_; intro v9 w9 k9 f9 E9; have E10 := E9.top.fine f9; have q1 : 0 < ([] ++ ls ++ rs ++ [lost] ++ ns).length := (by simp; omega); have q2 : st1.outs.length < 100 := (by rw [hi.out.2]; simp))
    | (go_at_call 17; refine (E10.out hP ⟨#[122]⟩ (by repeat with_reducible first | apply mem_hd | assumption | apply mem_tl) q1 q2).mono ?_; rintro e w9 ⟨st9, rfl, hi9, hP9, E⟩))
  rw [hi.out.1, hi.out.2, List.nil_append] at hi9
  clear t0 t1 t2 t3 t4 t5 t6 t7 t8 t9 s1 s2 s3 s4 s5 s6 r1 r2 r3 r4 r5 q1 q2 k6 k7 k8 k9 f6 f7 f8 f9 E6 E7 E8 E9 E10
  refine (E.ref (word01_ref _ _ E.there 6 (by decide))).mono ?_
  rintro e w10 ⟨v10, rfl, -, E⟩
  go_wp2_with fail
  refine (E.ref (word01_ref _ _ E.there 2 (by decide))).mono ?_
  rintro e w11 ⟨v11, rfl, -, E⟩
  go_wp2_with fail
  refine (E.told hP9 hi9 (a := 6) (b := 2) false (by repeat with_reducible first | apply mem_hd | assumption | apply mem_tl) (by repeat with_reducible first | apply mem_hd | assumption | apply mem_tl) (by decide) (by decide) 4 2 hx hy (by omega) (by omega) (by have := HM.out; omega)).mono ?_
  rintro e w12 ⟨v12, V, rfl, -, hV, hvals, E⟩
  have hK := Lib.hid (E.sem V hV)
  go_wp2_with fail
  refine (E.ref (word01_ref _ _ E.there 6424 (by decide))).mono ?_
  rintro e w13 ⟨v13, rfl, -, E⟩
  go_wp2_with fail
  refine (is_ref _ _ _ E.there _ _ (parts32 (numV V ([] ++ ls ++ rs ++ [lost] ++ ns))) 6424 (E.rwF (v := v12) (by repeat with_reducible first | apply mem_hd | assumption | apply mem_tl)) (E.rwF (v := v13) (by repeat with_reducible first | apply mem_hd | assumption | apply mem_tl)) (out_len V (by simp; rw [hl.out, hr.out, hn.out]; omega)) (by decide)).mono ?_
  rintro e w14 ⟨rfl, hb14⟩
  have hnum : numV V ([] ++ ls ++ rs ++ [lost] ++ ns) = 6424 := by
    obtain ⟨⟨⟨⟨-, f1⟩, f2, f3⟩, -⟩, -, f5⟩ := hK.out
    obtain ⟨g1, g2, g3⟩ := hvals.out
    rw [hx.out, g1, g2] at f1
    rw [g1, g2] at f2 f3
    rw [hx.out, g1] at f5
    rw [List.nil_append, numV_append, numV_append, numV_append, f1, f2, numV_one, f3, f5]
    simp only [List.length_append, hl.out, hr.out, List.length_singleton]
    decide
  rw [hnum, decide_eq_true rfl]
  have E := E.quiet hb14
  have HE := Lib.hid E.c.2
  clear hnum hK hvals E
  have hw4 : nbits (4 : Int).toNat = 3 := rfl
  have hw3 : nbits (3 : Int).toNat = 2 := rfl
  have hw1 : nbits (-1 : Int).toNat = 0 := rfl
  go_wp2_with fail
  refine (wide_calls _ 4 (by omega)).mono ?_
  rintro e w15 ⟨rfl, rfl⟩
  rw [hw4]
  go_wp2_with fail
  refine (wide_calls _ 3 (by omega)).mono ?_
  rintro e w16 ⟨rfl, rfl⟩
  rw [hw3]
  go_wp2_with fail
  refine (wide_calls _ (-1) (by omega)).mono ?_
  rintro e w17 ⟨rfl, rfl⟩
  rw [hw1]
  go_wp2
  go_ret
  exact ⟨rfl, HE.out⟩
end Go.Proofs.Ytdljgifoboiaeaa
