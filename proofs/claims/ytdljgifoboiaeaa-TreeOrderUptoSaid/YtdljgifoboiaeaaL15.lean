/- slipsticklaw15: awake. -/
import Derived.Test.YtdljgifoboiaeaaTotal
namespace Go.Proofs.Ytdljgifoboiaeaa
open Go.RowKit

section
variable {C : World → Prop} {p X : Nat} {st0 st : BSt} {w : World} {N : Nat} {L : List Ent} {K : (Int → Bool) → Prop}
/-- a row of words that is written out -/
theorem Env.litsW (E : Env C p X st0 w st N L K) (xss : List (List Int)) (vs : List Value) (n : Nat) (hn : xss.length = n) (hl : vs.length = xss.length) (hl2 : xss.length ≤ 1024) (h : ∀ (i : Nat) x v, xss[i]? = some x → vs[i]? = some v → Ent.word v x ∈ L) (cs : Array Value) (hcs : cs = vs.toArray) :
    Env C p (w.alloc (.cells cs 26)).heap.size st0 (w.alloc (.cells cs 26)) st N (.words (.slice (some ⟨w.heap.size, 0, none⟩) n n) xss :: L) K := by
  subst hn
  subst hcs
  have hb : Below w.heap.size w (w.alloc (.cells vs.toArray 26)) := (Below.refl _ _).alloc (Nat.le_refl _) _
  have hr := lit_row (k := kInt) (S := foot w (some p)) 26 w xss vs hl (by omega) (fun i x v hx hv => (E.wd (h i x v hx hv)).mono fun _ _ h => .inr h) E.there
  refine (E.quiet hb).top.add (.words _ xss) ⟨hr.mono fun i hi hm => hm.elim (fun h => by omega) fun h => (foot_of_heap (w := w) (w' := w.alloc (.cells vs.toArray 26)) (fun i hi => hb.block i (E.rep.fin i hi)) i).1 h, fun xs hx => ?_⟩
  obtain ⟨i, hi, rfl⟩ := List.mem_iff_getElem.1 hx
  have hm := h i _ (vs[i]'(by omega)) (List.getElem?_eq_getElem hi) (List.getElem?_eq_getElem _)
  exact ⟨E.okay hm, E.len hm⟩
end

set_option maxHeartbeats 8000000 in
set_option maxRecDepth 100000 in
theorem awake15 (w : World) : Calls Try.prog 46 #[] w fun e w' => e = .returned (.bool true) ∧ Below w.heap.size w w' := by
  go_enter Try.func46, Try.ntmps46
  go_wp2_with fail
  refine (in14 w 2 2 (by omega) (by omega)).mono ?_
  rintro e w1 ⟨p, X, vx, vy, xs, ys, c, st1, rfl, hx, hy, hi, hP, E⟩
  have E2 := E.litW [c] 1 rfl (by omega) (okay_cons (E.at_ (c := c) (by repeat with_reducible first | apply mem_hd | assumption | apply mem_tl)) (okay_nil _)) #[.int .i64 c] rfl
  go_wp2_with fail
  refine (E2.three (xs := xs) (ys := ys) (zs := [c]) (by repeat with_reducible first | apply mem_hd | assumption | apply mem_tl) (by repeat with_reducible first | apply mem_hd | assumption | apply mem_tl) (by repeat with_reducible first | apply mem_hd | assumption | apply mem_tl) (by rw [hx.out]; omega) (by rw [hx.out, hy.out]; simp) (by omega)).mono ?_
  rintro e w2 ⟨vs, rs, vk, rk, st2, hs, hk, rfl, -, -, -, -, E3⟩
  rw [hx.out, hy.out, show max (max 2 2) [c].length = 2 from rfl] at hs hk
  obtain ⟨Ax, cx, hvx, -, -⟩ := E3.shape (xs := xs) (by repeat with_reducible first | apply mem_hd | assumption | apply mem_tl)
  obtain ⟨Ay, cy, hvy, -, -⟩ := E3.shape (xs := ys) (by repeat with_reducible first | apply mem_hd | assumption | apply mem_tl)
  obtain ⟨As, cs, hvs, -, -⟩ := E3.shape (xs := rs) (by repeat with_reducible first | apply mem_hd | assumption | apply mem_tl)
  obtain ⟨Ak, ck, hvk, -, -⟩ := E3.shape (xs := rk) (by repeat with_reducible first | apply mem_hd | assumption | apply mem_tl)
  rw [hx.out] at hvx
  rw [hy.out] at hvy
  rw [hs.out] at hvs
  rw [hk.out] at hvk
  subst hvx; subst hvy; subst hvs; subst hvk
  have E4 := E3.litsW [xs, ys, xs, ys] [.slice Ax 2 cx, .slice Ay 2 cy, .slice Ax 2 cx, .slice Ay 2 cy] 4 rfl rfl (by simp) (fun i x v hx hv => by
    match i, hx, hv with
    | 0, hx, hv => simp at hx hv; subst hx; subst hv; exact (by repeat with_reducible first | apply mem_hd | assumption | apply mem_tl)
    | 1, hx, hv => simp at hx hv; subst hx; subst hv; exact (by repeat with_reducible first | apply mem_hd | assumption | apply mem_tl)
    | 2, hx, hv => simp at hx hv; subst hx; subst hv; exact (by repeat with_reducible first | apply mem_hd | assumption | apply mem_tl)
    | 3, hx, hv => simp at hx hv; subst hx; subst hv; exact (by repeat with_reducible first | apply mem_hd | assumption | apply mem_tl)) #[.slice Ax 2 cx, .slice Ay 2 cy, .slice Ax 2 cx, .slice Ay 2 cy] rfl
  clear E E2 E3
  go_wp2_with fail
  refine (E4.total 4 (by omega) (xss := [xs, ys, xs, ys]) (by repeat with_reducible first | apply mem_hd | assumption | apply mem_tl) (by simp) (by omega)).mono ?_
  rintro e w3 ⟨vt, ts, st3, ht, rfl, -, -, -, E⟩
  obtain ⟨At, ct, hvt, -, -⟩ := E.shape (xs := ts) (by repeat with_reducible first | apply mem_hd | assumption | apply mem_tl)
  rw [ht.out] at hvt
  subst hvt
  have E5 := E.litsW [rs, rk] [.slice As 2 cs, .slice Ak 3 ck] 2 rfl rfl (by simp) (fun i x v hx hv => by
    match i, hx, hv with
    | 0, hx, hv => simp at hx hv; subst hx; subst hv; exact (by repeat with_reducible first | apply mem_hd | assumption | apply mem_tl)
    | 1, hx, hv => simp at hx hv; subst hx; subst hv; exact (by repeat with_reducible first | apply mem_hd | assumption | apply mem_tl)) #[.slice As 2 cs, .slice Ak 3 ck] rfl
  clear E4
  go_wp2_with fail
  refine (E5.total 4 (by omega) (xss := [rs, rk]) (by repeat with_reducible first | apply mem_hd | assumption | apply mem_tl) (by simp) (by omega)).mono ?_
  rintro e w4 ⟨vq, qs, st4, hq, rfl, -, -, -, E6⟩
  obtain ⟨Aq, cq, hvq, -, -⟩ := E6.shape (xs := qs) (by repeat with_reducible first | apply mem_hd | assumption | apply mem_tl)
  rw [hq.out] at hvq
  subst hvq
  have t1 : 0 < qs.length := by rw [hq.out]; omega
  have t2 : ([] : List Int).length + qs.length ≤ 1024 := by rw [hq.out]; simp
  have t3 : w4.heap.size ≤ (w4.alloc (.cells #[] 3)).heap.size := by simp
  have t4 := (E6.alloc (.cells #[] 3)).wd (xs := qs) (by repeat with_reducible first | apply mem_hd | assumption | apply mem_tl)
  have t5 := (E6.alloc (.cells #[] 3)).okay (xs := qs) (by repeat with_reducible first | apply mem_hd | assumption | apply mem_tl)
  clear E E5
  go_wp2_with (first
    | (at_builtin; refine appE rfl (.tmp 59) (.tmp 60) rfl Try.underlying26 infoInt (E6.alloc (.cells #[] 3)) E6.lit0 E6.size t3 rfl rfl t4 t5 t1 t2 ?_; intro v6 w6 k6 f6 E7; have t6 := E7.wd (xs := ts) (by repeat with_reducible first | apply mem_hd | assumption | apply mem_tl); have t7 := E7.okay (xs := ts) (by repeat with_reducible first | apply mem_hd | assumption | apply mem_tl); have t8 : 0 < ts.length := (by rw [ht.out]; omega); have t9 : ([] ++ qs).length + ts.length ≤ 1024 := (by simp; rw [hq.out, ht.out]; omega); have t10 : w4.heap.size ≤ w6.heap.size := Nat.le_trans t3 k6.size)
    | (at_builtin; refine appE rfl (.tmp 61) (.tmp 62) rfl Try.underlying26 infoInt E7 f6 E6.size t10 rfl rfl t6 t7 t8 t9 ?_; intro v8 w8 k8 f8 E8; have E9 := E8.top.fine f8; have t17 : 0 < ([] ++ qs ++ ts).length := (by simp; omega); have t18 : st1.outs.length < 100 := (by rw [hi.out.2]; simp))
    | (go_at_call 17; refine (E9.out hP ⟨#[122]⟩ (by repeat with_reducible first | apply mem_hd | assumption | apply mem_tl) t17 t18).mono ?_; rintro e w9 ⟨st9, rfl, hi9, hP9, E⟩))
  rw [hi.out.1, hi.out.2, List.nil_append] at hi9
  clear t1 t2 t3 t4 t5 t6 t7 t8 t9 t10 t17 t18 k6 k8 f6 f8 E6 E7 E8 E9
  refine (E.ref (word01_ref _ _ E.there 3 (by decide))).mono ?_
  rintro e w10 ⟨v10, rfl, -, E⟩
  go_wp2_with fail
  refine (E.ref (word01_ref _ _ E.there 2 (by decide))).mono ?_
  rintro e w11 ⟨v11, rfl, -, E⟩
  go_wp2_with fail
  refine (E.told hP9 hi9 (a := 3) (b := 2) true (by repeat with_reducible first | apply mem_hd | assumption | apply mem_tl) (by repeat with_reducible first | apply mem_hd | assumption | apply mem_tl) (by decide) (by decide) 2 2 hx hy (by omega) (by omega) (by omega)).mono ?_
  rintro e w12 ⟨v12, V, rfl, -, hV, hvals, E⟩
  have hK := Lib.hid (E.sem V hV)
  go_wp2_with fail
  refine (E.ref (word01_ref _ _ E.there 166 (by decide))).mono ?_
  rintro e w13 ⟨v13, rfl, -, E⟩
  go_wp2_with fail
  refine (is_ref _ _ _ E.there _ _ (parts32 (numV V ([] ++ qs ++ ts))) 166 (E.rwF (v := v12) (by repeat with_reducible first | apply mem_hd | assumption | apply mem_tl)) (E.rwF (v := v13) (by repeat with_reducible first | apply mem_hd | assumption | apply mem_tl)) (out_len V (by simp; rw [hq.out, ht.out]; omega)) (by decide)).mono ?_
  rintro e w14 ⟨rfl, hb14⟩
  have hnum : numV V ([] ++ qs ++ ts) = 166 := by
    obtain ⟨⟨⟨-, f1⟩, f2⟩, f3⟩ := hK.out
    obtain ⟨g1, g2, g3⟩ := hvals.out
    rw [numV_one, g1, g2, g3] at f1
    rw [sumV_cons, sumV_cons, sumV_cons, sumV_cons, sumV_nil, g1, g2] at f2
    rw [sumV_cons, sumV_cons, sumV_nil, Nat.add_zero, f1] at f3
    rw [List.nil_append, numV_append, hq.out, f2, f3]
    decide
  rw [hnum, decide_eq_true rfl]
  have E := E.quiet hb14
  have HE := Lib.hid E.c.2
  clear hnum hK hvals E
  have hr9 : rounds 9 = 4 := by decide
  have hr2 : rounds 2 = 0 := by decide
  go_wp2_with fail
  refine (rounds_calls _ 9 (by omega)).mono ?_
  rintro e w15 ⟨rfl, rfl⟩
  rw [hr9]
  go_wp2_with fail
  refine (rounds_calls _ 2 (by omega)).mono ?_
  rintro e w16 ⟨rfl, rfl⟩
  rw [hr2]
  go_wp2
  go_ret
  exact ⟨rfl, HE.out⟩
end Go.Proofs.Ytdljgifoboiaeaa
