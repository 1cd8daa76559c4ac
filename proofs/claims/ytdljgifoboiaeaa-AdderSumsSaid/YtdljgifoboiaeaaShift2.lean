/- shift: Left, Right. -/
import Derived.Test.YtdljgifoboiaeaaShift
namespace Go.Proofs.Ytdljgifoboiaeaa
open Go.RowKit

section
variable {P : Program} {o : Oper} {a : Act} {Q : Exit → Act → World → Prop} {C : World → Prop} {p X : Nat} {st0 st : BSt} {W : World} {N : Nat} {L : List Ent} {K : (Int → Bool) → Prop}
/-- append(v, ys...), ys a row that is read, empty or not, as a step of a region -/
theorem appGR {J : Act → World → Prop} (s x : Operand) (ho : o.op = .call { callee := .builtin .append, args := #[s, x], argTypes := #[26, 26] })
    (ht : P.underlying 26 = some (.slice 3)) (hinfo : (P.info? 3).map (fun i => (i.zero, i.size, i.bytes)) = some (some (.int .i64 0), 1, 8))
    (E : Env C p X st0 W st N L K) {B : Nat} {v : Value} {xs : List Int} (hf : Fine W p st B v xs) (hXB : X ≤ B) (hB : B ≤ W.heap.size) (hs : a.eval s = v)
    {S : Nat → Prop} {ad : Addr} {m c : Nat} {ys : List Int} (hx : a.eval x = .slice (some ad) m c) (hy : Row kInt W S (.slice (some ad) m c) ys) (hyo : Okay st ys) (hl : xs.length + ys.length ≤ 1024)
    (hK : ∀ v' w', Kept B (some p) W w' → Fine w' p st B v' (xs ++ ys) → Env C p X st0 w' st N L K → J (a.put o.dst v') w') : o.wp P a W J Q := by
  obtain ⟨A', c', css, he, h1, h2, _, h3, h4⟩ := hy
  injection he with e1 e2 e3
  subst e1; subst e2; subst e3
  refine wp_app kInt 3 26 (.int .i64 0) 8 s x ho ht hinfo rfl (by decide) (by decide) (some p) B hf.own E.rep.fin hB hs ad ys.length c ys css hx rfl ⟨h3.1, fun i x cs hx hc => h3.2 i x cs hx hc⟩
    (fun j u hu => ?_) (by omega)
    fun v' w' q1 q2 _ _ q5 _ => hK v' w' q2 ⟨q1, hf.okay.append hyo, by simp; omega⟩ (E.kept (q2.mono hXB) (E.rep.grown q5 fun g hg => hf.own.off hg))
  by_cases h0 : 0 < ys.length
  · obtain ⟨b, off, hb, _, _, hc⟩ := h4 h0
    injection hb with hb
    subst hb
    rw [Addr.add_lit]
    exact hc j u hu
  · have hflat := h3.flat
    have := (List.getElem?_eq_some_iff.1 hu).1
    rw [hflat, show ys.length = 0 by omega] at this
    omega
/-- the same, in a list of operations -/
theorem appG {ops : Array Oper} {rest : List Oper} (hgd : o.guard = none) (s x : Operand) (ho : o.op = .call { callee := .builtin .append, args := #[s, x], argTypes := #[26, 26] })
    (ht : P.underlying 26 = some (.slice 3)) (hinfo : (P.info? 3).map (fun i => (i.zero, i.size, i.bytes)) = some (some (.int .i64 0), 1, 8))
    (E : Env C p X st0 W st N L K) {B : Nat} {v : Value} {xs : List Int} (hf : Fine W p st B v xs) (hXB : X ≤ B) (hB : B ≤ W.heap.size) (hs : a.eval s = v)
    {S : Nat → Prop} {ad : Addr} {m c : Nat} {ys : List Int} (hx : a.eval x = .slice (some ad) m c) (hy : Row kInt W S (.slice (some ad) m c) ys) (hyo : Okay st ys) (hl : xs.length + ys.length ≤ 1024)
    (hK : ∀ v' w', Kept B (some p) W w' → Fine w' p st B v' (xs ++ ys) → Env C p X st0 w' st N L K → wpList P ops Q rest (a.put o.dst v') w') : wpList P ops Q (o :: rest) a W :=
  wpList_plain hgd fun _ hK' => appGR s x ho ht hinfo E hf hXB hB hs hx hy hyo hl fun v' w' q1 q2 q3 => hK' _ _ (hK v' w' q1 q2 q3)
end

theorem wrap_pow {k far n : Nat} (h : 2 ^ k ≤ 1024) (hf : min (2 ^ k) n = far) : min (wrap64 (2 ^ k)) (n : Int) = far := by
  have e : ((2 : Int) ^ k) = ((2 ^ k : Nat) : Int) := by push_cast; rfl
  rw [e]
  unfold wrap64
  clear e
  generalize 2 ^ k = q at *
  omega

theorem num_take_succ (V : Int → Bool) {ys : List Int} {k : Nat} (h : k < ys.length) : numV V (ys.take (k + 1)) = numV V (ys.take k) + 2 ^ k * (V ys[k]).toNat := by
  rw [List.take_succ_eq_append_getElem h, numV_snoc, List.length_take, Nat.min_eq_left (by omega)]

/-- one step to the left -/
theorem left_step {n far k o s x : Nat} (hn : far = min (2 ^ k) n) (ho : o = x * 2 ^ s % 2 ^ n) : 2 ^ far * (o % 2 ^ (n - far)) = x * 2 ^ (s + 2 ^ k) % 2 ^ n := by
  rcases Nat.lt_or_ge (2 ^ k) n with h | h
  · obtain rfl : far = 2 ^ k := by omega
    obtain ⟨d, rfl⟩ : ∃ d, n = 2 ^ k + d := ⟨n - 2 ^ k, by omega⟩
    rw [Nat.add_sub_cancel_left, Nat.pow_add 2 s, ← Nat.mul_assoc, Nat.mul_comm (x * 2 ^ s), Nat.pow_add, Nat.mul_mod_mul_left]
    congr 1
    rw [ho, Nat.pow_add, Nat.mod_mul_left_mod]
  · obtain rfl : far = n := by omega
    rw [Nat.sub_self, Nat.pow_zero, Nat.mod_one, Nat.mul_zero]
    obtain ⟨d, hd⟩ : ∃ d, s + 2 ^ k = far + d := ⟨s + 2 ^ k - far, by omega⟩
    rw [hd, Nat.pow_add, ← Nat.mul_assoc, Nat.mul_right_comm, Nat.mul_mod_left]

section
variable {C : World → Prop} {p X : Nat} {st0 st : BSt} {w : World} {N : Nat} {L : List Ent} {K : (Int → Bool) → Prop}
set_option maxHeartbeats 4000000 in
set_option maxRecDepth 100000 in
attribute [local go_sem] max2_int min2_int max_two min_two in
theorem Env.left (E : Env C p X st0 w st N L K) {v u : Value} {xs ys : List Int} (hx : Ent.word v xs ∈ L) (hy : Ent.word u ys ∈ L) (h0 : 0 < xs.length) (h1 : 0 < ys.length) (hN : N + 100000 < 1099511627776) :
    Calls Try.prog 59 #[.pointer (some ⟨p, 0, none⟩), v, u] w (ToldW C p st0 st w (N + 100000) L K xs.length fun V r => numV V r = numV V xs * 2 ^ numV V ys % 2 ^ xs.length) := by
  have hl := E.len hx
  have hl2 := E.len hy
  obtain ⟨A1, c1, rfl, -, -⟩ := E.shape hx
  obtain ⟨m, hm⟩ : ∃ m, min (nbits (xs.length - 1)) ys.length = m := ⟨_, rfl⟩
  have hm10 : m ≤ 10 := by have : nbits (xs.length - 1) ≤ 10 := nbits_le (by omega); omega
  have hym : (ys.take m).length = m := by rw [List.length_take]; omega
  have HYM := Lib.hid hym
  clear hym
  go_enter Try.func59, Try.ntmps59
  go_wp2_with fail
  refine (E.mark.amounts (ys := ys) (by repeat with_reducible first | apply mem_hd | assumption | apply mem_tl) h1 xs.length (by omega) m hm (by omega)).mono ?_
  rintro e w1 ⟨vl, call, st1, rfl, k1, x1, E1⟩
  obtain ⟨A2, c2, rfl, -, -⟩ := E1.shape (xs := ys.take m) (by repeat with_reducible first | apply mem_hd | assumption | apply mem_tl)
  rw [HYM.out] at E1 ⊢
  go_wp2_with fail
  refine (E1.clone (xs := xs) (by repeat with_reducible first | apply mem_hd | assumption | apply mem_tl)).mono ?_
  rintro e w2 ⟨v2, r0, st2, h2, rfl, k2, x2, f2, E2⟩
  have HM := Lib.hid hm
  clear hm
  obtain ⟨A3, c3, rfl, -, -⟩ := E2.shape (xs := r0) (by repeat with_reducible first | apply mem_hd | assumption | apply mem_tl)
  rw [h2.out] at E2 ⊢
  go_wp2_with fail
  have k12 := k1.then k2
  clear f2 E1 k1 k2 x1 x2
  go_loopw [9, 25] (fun ov iv wr => ∃ (k : Nat) (A : Option Addr) (c : Nat) (r : List Int) (st' : BSt), k ≤ m ∧ iv = .int .i64 (k : Nat) ∧ ov = .slice A xs.length c ∧ Hid (r.length = xs.length) ∧
      Env (fun a => C a ∧ Kept w.heap.size (some p) w a) p wr.heap.size st wr st' (N + 1024 + 5120 * k) (.word (.slice A xs.length c) r :: .pl call :: .word (.slice A2 m c2) (ys.take m) :: L) (fun V => (K V ∧ V call = decide (2 ^ m ≤ numV V ys)) ∧ numV V r = numV V xs * 2 ^ numV V (ys.take k) % 2 ^ xs.length))
    (fun _ iv _ => m - (intOf iv).toNat)
  case atStart => exact ⟨0, A3, c3, r0, st2, by omega, rfl, rfl, h2, E2.know fun V ⟨h, e⟩ => ⟨h, by rw [e, List.take_zero, numV_nil, Nat.pow_zero, Nat.mul_one, numV_wide V (Nat.le_refl _)]⟩⟩
  case round =>
    clear E2
    obtain ⟨k, A, c, r, st', hk, rfl, rfl, hr, E3⟩ := hrel
    by_cases hlt : k < m
    · obtain ⟨far, hfar⟩ : ∃ far, min (2 ^ k) xs.length = far := ⟨_, rfl⟩
      have hp2 : 2 ^ k ≤ 1024 := (Nat.pow_le_pow_right (by decide) (by omega) : 2 ^ k ≤ 2 ^ 10)
      have hw := wrap_pow hp2 hfar
      have hfn : far ≤ xs.length := by omega
      obtain ⟨d, hd⟩ : ∃ d, xs.length - far = d := ⟨_, rfl⟩
      have hw2 : IntKind.i64.wrap ((xs.length : Int) - (far : Int)) = (d : Int) := by rw [show (xs.length : Int) - (far : Int) = (d : Int) by omega]; exact IntWalk.i64_in _ (by omega)
      have hdn : d ≤ xs.length := by omega
      have hdl := Lib.hid hd
      have HFAR := Lib.hid hfar
      clear hfar hp2 hd
      obtain ⟨b3, o3, rfl⟩ := E3.start_ (A := A) (by repeat with_reducible first | apply mem_hd | assumption | apply mem_tl) (by have := hr.out; omega)
      have E4 := (E3.wTake (xs := r) (j := d) (by repeat with_reducible first | apply mem_hd | assumption | apply mem_tl) hdn).drew
      have hdc : d ≤ c := by obtain ⟨A', c', he, h1, -⟩ := E3.shape (xs := r) (by repeat with_reducible first | apply mem_hd | assumption | apply mem_tl); injection he with _ _ he; have := hr.out; omega
      go_wp2_with fail
      go_region_held3 (fun _ => True) (exact trivial) (first | (go_at_call 30; refine (E4.padNil far (by omega) (by omega)).mono ?_; rintro e w4 ⟨v4, r4, st4, h4, rfl, k4, x4, f4, E5⟩; have E5 := E4.behind k4 x4 E5; have kt := E5.wdTop (xs := r.take d) (by repeat with_reducible first | apply mem_hd | assumption | apply mem_tl); have ko := E5.okay (xs := r.take d) (by repeat with_reducible first | apply mem_hd | assumption | apply mem_tl)) | (refine step_app rfl (appGR (.tmp 35) (.tmp 41) rfl Try.underlying26 infoInt E5 f4 (Nat.le_refl _) k4.size rfl rfl kt ko (by have := h4.out; have := hr.out; have := hdl.out; rw [List.length_take]; omega) ?_); intro v5 w5 k5 f5 E6))
      have E6 := E6.top.fine f5
      clear f5 f4 E4 E5 kt ko hw hw2
      have hkm : k < (ys.take m).length := by have := HYM.out; omega
      obtain ⟨b4, o4, rfl⟩ := E6.start_ (A := A2) (by repeat with_reducible first | apply mem_hd | assumption | apply mem_tl) (by omega)
      have kc := (E6.okay (v := .slice (some ⟨b4, o4, none⟩) m c2) (xs := ys.take m) (by repeat with_reducible first | apply mem_hd | assumption | apply mem_tl)).at hkm
      have q1 := E6.cell (b := b4) (off := o4) (m := m) (c := c2) (xs := ys.take m) (by repeat with_reducible first | apply mem_hd | assumption | apply mem_tl) hkm
      have hky : k < ys.length := by rw [List.length_take] at hkm; omega
      have hg : (ys.take m)[k] = ys[k] := by simp
      rw [hg] at kc q1
      have E7 := E6.addPl kc
      have hlen5 : (r4 ++ r.take d).length = xs.length := by rw [List.length_append, List.length_take]; have := h4.out; have := hr.out; have := hdl.out; omega
      have HL5 := Lib.hid hlen5
      clear hlen5 kc E6 hg
      go_wp2_with fail
      refine (E7.pick (xs := r) (ys := r4 ++ r.take d) (c := ys[k]) (by repeat with_reducible first | apply mem_hd | assumption | apply mem_tl) (by repeat with_reducible first | apply mem_hd | assumption | apply mem_tl) (by repeat with_reducible first | apply mem_hd | assumption | apply mem_tl) (by omega)).mono ?_
      rintro e w6 ⟨v6, r6, st6, h6, rfl, k6, x6, f6, E8⟩
      have hl6 : Hid (r6.length = xs.length) := Lib.hid (by have := h6.out; have := hr.out; have := HL5.out; omega)
      obtain ⟨A6, c6, rfl, -, -⟩ := E8.shape (xs := r6) (by repeat with_reducible first | apply mem_hd | assumption | apply mem_tl)
      rw [hl6.out] at E8 ⊢
      go_wp2_with fail
      go_roundw
      case rel =>
        refine ⟨k + 1, A6, c6, r6, st6, by omega, by go_num, rfl, hl6, ((E8.only (L' := .word (.slice A6 xs.length c6) r6 :: .pl call :: .word (.slice (some ⟨b4, o4, none⟩) m c2) (ys.take m) :: L) (by repeat with_reducible first | refine sub_cons (by repeat with_reducible first | apply mem_hd | assumption | apply mem_tl) ?_ | exact sub_nil | apply sub_refl | apply sub_tail)).cntle (by omega)).know fun V ⟨⟨⟨⟨hK, hcall⟩, e1⟩, e2⟩, e3⟩ => ⟨⟨hK, hcall⟩, ?_⟩⟩
        have h4l := h4.out
        rw [e3, num_take_succ V hky]
        rw [numV_append, e2, numV_take, show r4.length = far by omega, Nat.zero_add, ← hdl.out, e1]
        cases V ys[k]
        · simp
        · rw [if_pos rfl, left_step HFAR.out.symm rfl]; simp
      case measure => simp [intOf]; omega
    · obtain rfl : k = m := by omega
      go_wp2_with fail
      refine (E3.none_ (xs := r) (c := call) (by repeat with_reducible first | apply mem_hd | assumption | apply mem_tl) (by repeat with_reducible first | apply mem_hd | assumption | apply mem_tl) (by omega)).mono ?_
      rintro e w4 ⟨v4, r4, st4, h4, rfl, k4, x4, f4, E5⟩
      go_wp2
      go_ret
      refine ⟨v4, r4, st4, Lib.hid (h4.out.trans hr.out), rfl, E5.c.2, E5.ext, f4.lower E3.c.2.size, (((E5.only (L' := .word v4 r4 :: L) (by repeat with_reducible first | refine sub_cons (by repeat with_reducible first | apply mem_hd | assumption | apply mem_tl) ?_ | exact sub_nil | apply sub_refl | apply sub_tail)).cntle (by omega)).done E).know fun V ⟨⟨⟨hK, hcall⟩, e1⟩, e2⟩ => ⟨hK, ?_⟩⟩
      dsimp only
      rw [e2, hcall, e1, numV_take]
      by_cases hb : 2 ^ k ≤ numV V ys
      · rw [decide_eq_true hb, if_pos rfl]
        have hyv := numV_lt V ys
        have hk2 : k < ys.length := by
          rcases Nat.lt_or_ge k ys.length with h | h
          · exact h
          · have := Nat.pow_le_pow_right (n := 2) (by decide) h; omega
        have hk3 : nbits (xs.length - 1) = k := by have := HM.out; omega
        have hn1 := lt_nbits (xs.length - 1)
        rw [hk3] at hn1
        obtain ⟨t, ht⟩ : ∃ t, numV V ys = xs.length + t := ⟨numV V ys - xs.length, by omega⟩
        rw [ht, Nat.pow_add, ← Nat.mul_assoc, Nat.mul_right_comm, Nat.mul_mod_left]
      · rw [decide_eq_false hb, if_neg (by decide), Nat.mod_eq_of_lt (Nat.lt_of_not_le hb)]
end
end Go.Proofs.Ytdljgifoboiaeaa
