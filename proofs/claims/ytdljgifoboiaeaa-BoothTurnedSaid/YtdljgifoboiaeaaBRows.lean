/- booth.rows, an iterator: the rows of a product. -/
import Derived.Test.YtdljgifoboiaeaaFineB
import Derived.Test.YtdljgifoboiaeaaBMath
namespace Go.Proofs.Ytdljgifoboiaeaa
open Go.RowKit
attribute [local go_sem] Oper.semAt_some

section
variable {C : World → Prop} {p X : Nat} {st0 st : BSt} {w : World} {N : Nat} {L : List Ent} {K : (Int → Bool) → Prop}
set_option maxRecDepth 100000 in
theorem Env.rows (E : Env C p X st0 w st N L K) {v u : Value} {xs ys : List Int} (hx : Ent.word v xs ∈ L) (hy : Ent.word u ys ∈ L) :
    Calls Try.prog 123 #[.pointer (some ⟨p, 0, none⟩), v, u] w fun e w' => ∃ b, b = w.heap.size ∧ e = .returned (.func (.func 132) #[] #[.pointer (some ⟨b + 1 + 1, 0, none⟩), .pointer (some ⟨b, 0, none⟩), .pointer (some ⟨b + 1, 0, none⟩), .pointer (some ⟨b + 1 + 1 + 1, 0, none⟩)]) ∧
      Kept w.heap.size (some p) w w' ∧ Env C p X st0 w' st N L K ∧ Box w' p b (.pointer (some ⟨p, 0, none⟩)) ∧ Box w' p (b + 1) v ∧ Box w' p (b + 1 + 1) u ∧ Box w' p (b + 1 + 1 + 1) (.int .i64 ((xs.length + ys.length : Nat) : Int)) := by
  have l1 := E.len hx
  have l2 := E.len hy
  obtain ⟨A1, c1, rfl, -, -⟩ := E.shape hx
  obtain ⟨A2, c2, rfl, -, -⟩ := E.shape hy
  have E1 := E.alloc (.cells #[.pointer (some ⟨p, 0, none⟩)] 24)
  have b1 := E.box (.pointer (some ⟨p, 0, none⟩)) 24
  have E2 := E1.alloc (.cells #[.slice A1 xs.length c1] 26)
  have b2 := E1.box (.slice A1 xs.length c1) 26
  have E3 := E2.alloc (.cells #[.slice A2 ys.length c2] 26)
  have b3 := E2.box (.slice A2 ys.length c2) 26
  have E4 := E3.alloc (.cells #[.int .i64 ((xs.length + ys.length : Nat) : Int)] 3)
  have b4 := E3.box (.int .i64 ((xs.length + ys.length : Nat) : Int)) 3
  have k1 := E1.kalloc (.cells #[.slice A1 xs.length c1] 26)
  have k2 := E2.kalloc (.cells #[.slice A2 ys.length c2] 26)
  have k3 := E3.kalloc (.cells #[.int .i64 ((xs.length + ys.length : Nat) : Int)] 3)
  have k0 := E.kalloc (.cells #[.pointer (some ⟨p, 0, none⟩)] 24)
  have b1 := ((b1.then k1).then k2).then k3
  have b2 := (b2.then k2).then k3
  have b3 := b3.then k3
  have hX := E.size
  simp only [World.size_alloc] at b2 b3 b4
  have kk := ((k0.then k1).then k2).then k3
  clear E1 E2 E3 k0 k1 k2 k3
  go_enter Try.func123, Try.ntmps123
  go_wp2
  go_ret
  refine ⟨_, rfl, rfl, ?_⟩
  rw [show ((xs.length : Int) + (ys.length : Int)) = ((xs.length + ys.length : Nat) : Int) by omega]
  exact ⟨kk, E4, b1, b2, b3, b4⟩
end

abbrev RowT := Value × List Int × Int
/-- what is known while rows come: all but the words that have come -/
structure MulI (C : World → Prop) (p : Nat) (st0 : BSt) (X M : Nat) (L : List Ent) (K : (Int → Bool) → Prop) (B3 bl bb : Nat) (vx vy : Value) (wd : Nat) (pre : List RowT) (W : World) (lv : Value) (st' : BSt) : Prop where
  cnt : Hid (pre.length ≤ 1000)
  hl : Box W p bl lv
  hb : Box W p bb (.pointer (some ⟨p, 0, none⟩))
  hx : Box W p (bb + 1) vx
  hy : Box W p (bb + 1 + 1) vy
  hw : Box W p (bb + 1 + 1 + 1) (.int .i64 (wd : Nat))
  fin : FineB W p st' B3 B3 lv (pre.map fun x => x.2.1)
  pls : ∀ x ∈ pre, At st' x.2.2
  size : B3 ≤ W.heap.size
  env : Env C p X st0 W st' M L K
def KI (K : (Int → Bool) → Prop) (xs ys : List Int) (pre : List RowT) : (Int → Bool) → Prop := fun V => K V ∧ sumV V (pre.map fun x => x.2.1) = sumN (numV V xs) (numV V ys) (xs.length + ys.length) pre.length ∧ ∀ x, pre.getLast? = some x → V x.2.2 = dNeg (numV V ys) ((pre.length - 1) / 2)
def KX (xs ys : List Int) (j : Nat) (x : RowT) : (Int → Bool) → Prop := fun V => (numV V x.2.1 = if j % 2 = 0 then rowN (numV V xs) (numV V ys) (xs.length + ys.length) (j / 2) else negN (numV V ys) (j / 2)) ∧ V x.2.2 = dNeg (numV V ys) (j / 2)
section
variable {C : World → Prop} {p X M M' : Nat} {st0 st st' st'' : BSt} {w W W' : World} {N : Nat} {L : List Ent} {K K' : (Int → Bool) → Prop} {B3 bl bb wd : Nat} {vx vy lv : Value} {pre : List RowT}
theorem MulI.later (h : MulI C p st0 X M L K B3 bl bb vx vy wd pre W lv st') (k : Kept W.heap.size (some p) W W') (x : Ext st' st'') (E : Env C p X st0 W' st'' M' L K') : MulI C p st0 X M' L K' B3 bl bb vx vy wd pre W' lv st'' :=
  ⟨h.cnt, h.hl.then k, h.hb.then k, h.hx.then k, h.hy.then k, h.hw.then k, h.fin.kept k x, fun y hy => (h.pls y hy).ext x, Nat.le_trans h.size k.size, E⟩
theorem MulI.turned (h : MulI C p st0 X M L K B3 bl bb vx vy wd pre W lv st') {row : Option Nat} (hg : W.grownBy W' row) (hr : ∀ r, row = some r → X ≤ r ∧ ∃ o : Obj, W.heap[r]? = some o ∧ o.isCells = false) : MulI C p st0 X M L K B3 bl bb vx vy wd pre W' lv st' :=
  ⟨h.cnt, h.hl.turned h.env hg hr, h.hb.turned h.env hg hr, h.hx.turned h.env hg hr, h.hy.turned h.env hg hr, h.hw.turned h.env hg hr, h.fin.turned h.env hg hr, h.pls, Nat.le_trans h.size hg.size, (h.env.turned hg hr).1⟩
/-- between two rounds -/
def MulIx (C : World → Prop) (p : Nat) (st0 : BSt) (X N : Nat) (L : List Ent) (K : (Int → Bool) → Prop) (B3 bl bb : Nat) (vx vy : Value) (xs ys : List Int) (pre : List RowT) (W : World) : Prop :=
  ∃ lv st', MulI C p st0 X (N + 20000 * pre.length) L (KI K xs ys pre) B3 bl bb vx vy (xs.length + ys.length) pre W lv st'
/-- where x is handed over -/
def MulY (C : World → Prop) (p : Nat) (st0 : BSt) (X N : Nat) (L : List Ent) (K : (Int → Bool) → Prop) (B3 bl bb : Nat) (vx vy : Value) (xs ys : List Int) (pre : List RowT) (x : RowT) (W : World) : Prop :=
  ∃ lv st' Bx, Hid (pre.length < 1000) ∧ MulI C p st0 X (N + 20000 * (pre.length + 1)) L (fun V => KI K xs ys pre V ∧ KX xs ys pre.length x V) B3 bl bb vx vy (xs.length + ys.length) pre W lv st' ∧ Fine W p st' Bx x.1 x.2.1 ∧ (∀ g, lv.ownBlock = some g → g < Bx) ∧ B3 ≤ Bx ∧ At st' x.2.2
variable {xs ys : List Int}
theorem MulIx.calm (hX : X ≤ B3) (pre : List RowT) : Calm B3 (MulIx C p st0 X N L K B3 bl bb vx vy xs ys pre) := fun W W' row ⟨lv, st', h⟩ hg hr => ⟨lv, st', h.turned hg fun r e => ⟨Nat.le_trans hX (hr r e).1, (hr r e).2⟩⟩
theorem MulY.calm (hX : X ≤ B3) (pre : List RowT) (x : RowT) : Calm B3 (MulY C p st0 X N L K B3 bl bb vx vy xs ys pre x) := fun W W' row ⟨lv, st', Bx, h0, h, f, h1, h2, h3⟩ hg hr =>
  have hr' : ∀ r, row = some r → X ≤ r ∧ ∃ o : Obj, W.heap[r]? = some o ∧ o.isCells = false := fun r e => ⟨Nat.le_trans hX (hr r e).1, (hr r e).2⟩
  ⟨lv, st', Bx, h0, h.turned hg hr', f.turned h.env hg hr', h1, h2, h3⟩
theorem KI.snoc {V : Int → Bool} {x : RowT} (h : KI K xs ys pre V) (hx : KX xs ys pre.length x V) : KI K xs ys (pre ++ [x]) V :=
  ⟨h.1, by rw [List.map_append, sumV_append, List.length_append, List.length_singleton, h.2.1, sumN, ← hx.1]; simp [sumV_cons, sumV_nil], fun y hy => by
    rw [List.getLast?_append] at hy
    simp at hy
    subst hy
    rw [List.length_append, List.length_singleton, Nat.add_sub_cancel]
    exact hx.2⟩

set_option maxHeartbeats 4000000 in
set_option maxRecDepth 100000 in
attribute [local go_sem] max2_int min2_int max_two min_two in
theorem rows_iter (hX : X ≤ B3) (hx : Ent.word vx xs ∈ L) (hy : Ent.word vy ys ∈ L) (hl : xs.length + ys.length ≤ 200) (hN : N + 20000 * 1000 < 1099511627776) :
    IterOwn Try.prog 2 132 #[.pointer (some ⟨bb + 1 + 1, 0, none⟩), .pointer (some ⟨bb, 0, none⟩), .pointer (some ⟨bb + 1, 0, none⟩), .pointer (some ⟨bb + 1 + 1 + 1, 0, none⟩)] (fun x : RowT => #[x.1])
      (MulIx C p st0 X N L K B3 bl bb vx vy xs ys) (MulY C p st0 X N L K B3 bl bb vx vy xs ys) (fun pre => pre.length = 2 * (ys.length / 2 + 1)) := by
  intro l T W hT hY h0 hT0
  obtain ⟨D, hD⟩ : ∃ D, ys.length / 2 + 1 = D := ⟨_, rfl⟩
  have hD2 : D ≤ 200 := by omega
  refine callsIn_of_wp Try.func132 rfl trivial ?_ rfl
  simp only [Try.ntmps132, List.size_toArray, List.length_cons, List.length_nil, Nat.reduceAdd, Nat.reduceSub, Array.replicate_succ, Array.replicate_zero, List.push_toArray, List.append_toArray, List.nil_append, List.cons_append]
  have HI0 := Lib.hid h0
  obtain ⟨lv0, st1, h0⟩ := h0
  obtain ⟨A1, c1, hvx, -, -⟩ := h0.env.shape hx
  obtain ⟨A2, c2, hvy, -, -⟩ := h0.env.shape hy
  subst hvx; subst hvy
  have q1 := h0.hy.1
  have CD := digits_calls W A2 ys.length c2 (by omega)
  rw [hD] at CD
  have HD := Lib.hid hD
  clear hD h0
  gi_wp2_with (refine ⟨trivial, ?_⟩; gi_at_call 74; refine (callsIn_wide.2 CD).mono ?_; rintro e W1 ⟨rfl, rfl⟩; clear CD)
  gi_loopw [11] (fun i V => ∃ (k : Nat) (pre : List RowT), i = .int .i64 (k : Nat) ∧ k ≤ D ∧ Hid (pre.length = 2 * k) ∧ Hid (MulIx C p st0 X N L K B3 bl bb (.slice A1 xs.length c1) (.slice A2 ys.length c2) xs ys pre V) ∧ T V) (fun i _ => D - (intOf i).toNat)
  case atStart => exact ⟨0, [], rfl, by omega, Lib.hid rfl, HI0, hT0⟩
  case round =>
    clear HI0 hT0 q1
    obtain ⟨k, pre, rfl, hk, hpl, HI, hTr⟩ := hrel
    by_cases hlt : k < D
    · obtain ⟨lv, st', hI⟩ := HI.out
      have q1 := hI.hb.1
      have q2 := hI.hx.1
      have q3 := hI.hy.1
      have q4 := hI.hw.1
      obtain ⟨wd, hwd⟩ : ∃ wd, xs.length + ys.length = wd := ⟨_, rfl⟩
      obtain ⟨Na, hNa⟩ : ∃ Na, N + 20000 * pre.length = Na := ⟨_, rfl⟩
      have hbig : Na + 20000 < 1099511627776 := by have := hpl.out; omega
      rw [hwd] at q4
      have EA := hI.env
      rw [hNa] at EA
      have CR := EA.brow (xs := xs) (ys := ys) hx hy k wd (by omega) (by omega) (by omega)
      have HW := Lib.hid hwd
      have HNa := Lib.hid hNa
      clear hwd hNa
      gi_wp2_with (refine ⟨trivial, ?_⟩; gi_at_call 77; refine (callsIn_wide.2 CR).mono ?_; rintro e V2 ⟨v, r, c, st2, hr, rfl, k2, x2, f2, E2⟩; clear CR)
      have EB := EA.behind k2 x2 E2
      have hT2 := hT _ _ hTr (EA.others k2)
      have hbl : ∀ g, lv.ownBlock = some g → g < wr.heap.size := fun g hg => (hI.fin.base hg).2
      have HY1 : MulY C p st0 X N L K B3 bl bb (.slice A1 xs.length c1) (.slice A2 ys.length c2) xs ys pre (v, r, c) V2 :=
        ⟨lv, st2, wr.heap.size, Lib.hid (by have := hpl.out; omega), hI.later (M' := N + 20000 * (pre.length + 1)) (K' := fun V => KI K xs ys pre V ∧ KX xs ys pre.length (v, r, c) V) k2 x2 ((EB.cntle (by have := HNa.out; omega)).know fun V ⟨h, h1, h2⟩ => ⟨h, by
            show numV V r = _
            rw [hpl.out, Nat.mul_mod_right, if_pos rfl, Nat.mul_div_cancel_left _ (by decide), HW.out]
            refine Nat.eq_of_testBit_eq fun j => ?_
            rw [rowN_testBit]
            by_cases hj : j < wd
            · rw [h2 j hj, decide_eq_true hj, Bool.true_and]
            · rw [decide_eq_false hj, Bool.false_and, numV_beyond (by rw [hr.out]; omega)], by
            show V c = _
            rw [hpl.out, Nat.mul_div_cancel_left _ (by decide)]
            exact h1⟩), f2, hbl, hI.size, E2.at_ (c := c) (by repeat with_reducible first | apply mem_hd | assumption | apply mem_tl)⟩
      obtain ⟨fn, tmps, asg, bd, hy1, hR⟩ := hY pre (v, r, c) V2 HY1 hT2
      dsimp only at hy1
      clear HY1 EB E2 hbl hT2 f2 k2 x2 EA q1 q2 q3 q4 hI hTr
      rw [hy1]
      gi_wp2
      refine hR.mono ?_
      rintro e V3 ⟨rfl, hJ3, hT3⟩
      obtain ⟨lv3, st3, h3⟩ := hJ3
      have hat := h3.pls (v, r, c) (by simp)
      have q5 := h3.hb.1
      have hp3 : (pre ++ [(v, r, c)]).length = 2 * k + 1 := by rw [List.length_append, hpl.out]; rfl
      have hk2 : (2 : Int) * k ≤ 1024 := by omega
      have hXB := Nat.le_trans hX h3.size
      obtain ⟨Nb, hNb⟩ : ∃ Nb, N + 20000 * (pre ++ [(v, r, c)]).length = Nb := ⟨_, rfl⟩
      have hbig2 : Nb + 1024 < 1099511627776 := by omega
      have E3 := h3.env
      rw [hNb] at E3
      have E3 := E3.addPl hat
      have CP := E3.padNil (2 * (k : Int)) hk2 hbig2
      have HP3 := Lib.hid hp3
      have HNb := Lib.hid hNb
      clear hy1 hR hp3 hNb
      gi_wp2_with (first
        | (refine ⟨trivial, ?_⟩; gi_at_call 30; refine (callsIn_wide.2 CP).mono ?_; rintro e V4 ⟨v4, r4, st4, h4, rfl, k4, x4, f4, E4⟩; clear CP; have E4b := E3.behind k4 x4 E4; have kg := E4b.at_ (c := c) (by repeat with_reducible first | apply mem_hd | assumption | apply mem_tl); have hl4 : r4.length + 1 ≤ 1024 := (by have := h4.out; omega))
        | (gi_at_builtin; refine listWide (fun c h => nomatch h) rfl (fun K hK => app2R (.tmp 32) (.tmp 34) rfl Try.underlying26 infoInt E4b f4 hXB k4.size rfl c rfl kg hl4 ?_); intro v5 V5 k5 o5 gr5 f5 E5; refine hK _ _ ?_; clear hK K))
      have k45 := k4.trans k5
      have o45 := (h3.env.others k4).trans o5
      have hT5 := hT _ _ hT3 o45
      have hbl3 : ∀ g, lv3.ownBlock = some g → g < V3.heap.size := fun g hg => (h3.fin.base hg).2
      have HY2 : MulY C p st0 X N L K B3 bl bb (.slice A1 xs.length c1) (.slice A2 ys.length c2) xs ys (pre ++ [(v, r, c)]) (v5, r4 ++ [c], c) V5 :=
        ⟨lv3, st4, V3.heap.size, Lib.hid (by have := HP3.out; omega), h3.later (M' := N + 20000 * ((pre ++ [(v, r, c)]).length + 1)) (K' := fun V => KI K xs ys (pre ++ [(v, r, c)]) V ∧ KX xs ys (pre ++ [(v, r, c)]).length (v5, r4 ++ [c], c) V) k45 x4 (((E5.only (L' := L) (by repeat with_reducible first | refine sub_cons (by repeat with_reducible first | apply mem_hd | assumption | apply mem_tl) ?_ | exact sub_nil | apply sub_refl | apply sub_tail)).cntle (by have := HNb.out; omega)).know fun V ⟨h, h1⟩ => by
          have h2 : V c = dNeg (numV V ys) k := by
            have := h.2.2 (v, r, c) (by simp)
            rw [HP3.out, Nat.add_sub_cancel, Nat.mul_div_cancel_left _ (by decide)] at this
            exact this
          refine ⟨h, ?_, ?_⟩
          · show numV V (r4 ++ [c]) = _
            rw [HP3.out, if_neg (by omega), show (2 * k + 1) / 2 = k by omega, numV_snoc, h1, h4.out, h2, negN, show (2 * (k : Int)).toNat = 2 * k by omega, Nat.pow_mul, Nat.zero_add]
          · show V c = _
            rw [HP3.out, show (2 * k + 1) / 2 = k by omega]
            exact h2), f5, hbl3, h3.size, E5.at_ (c := c) (by repeat with_reducible first | apply mem_hd | assumption | apply mem_tl)⟩
      obtain ⟨fn2, tmps2, asg2, bd2, hy2, hR2⟩ := hY _ _ V5 HY2 hT5
      dsimp only at hy2
      clear HY2 E5 E4b E4 f4 f5 k4 k5 o5 gr5 hbl3 hT5 o45 k45 hT3 E3 h3
      rw [hy2]
      gi_wp2
      refine hR2.mono ?_
      rintro e V6 ⟨rfl, hJ6, hT6⟩
      clear hy2 hR2
      gi_wp2
      go_roundw
      case rel => exact ⟨k + 1, pre ++ [(v, r, c)] ++ [(v5, r4 ++ [c], c)], by go_num, by omega, Lib.hid (by rw [List.length_append, HP3.out]; simp; omega), Lib.hid hJ6, hT6⟩
      case measure => simp [intOf]; omega
    · obtain rfl : k = D := by omega
      gi_wp2
      go_end0
      exact ⟨⟨_, rfl⟩, pre, by rw [HD.out]; exact hpl.out, HI.out, hTr⟩
end
end Go.Proofs.Ytdljgifoboiaeaa
