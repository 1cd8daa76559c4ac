/- adder.Prefix: sums by carries that are told ahead. -/
import Derived.Test.YtdljgifoboiaeaaAdd
import Derived.IntWalk
namespace Go.Proofs.Ytdljgifoboiaeaa
open Go.RowKit

section
variable {C : World → Prop} {p X : Nat} {st0 st : BSt} {w : World} {N : Nat} {L : List Ent} {K : (Int → Bool) → Prop}

/-- the carry into a place -/
def c0V (m q : Nat) (c : Bool) (i : Nat) : Bool := if i = 0 then c else m.testBit (i - 1) || (q.testBit (i - 1) && c)
set_option maxHeartbeats 4000000 in
theorem Env.c0 (E : Env C p X st0 w st N L K) {v u : Value} {ms ps : List Int} {c : Int} (hm : Ent.word v ms ∈ L) (hp : Ent.word u ps ∈ L) (hc : Ent.pl c ∈ L) (i : Nat) (h1 : i ≤ ms.length) (h2 : i ≤ ps.length) (hN : N + 2 < 1099511627776) :
    Calls Try.prog 115 #[.pointer (some ⟨p, 0, none⟩), v, u, .int .i64 c, .int .i64 i] w (ToldPl C p X st0 st w (N + 2) L K fun V r => V r = c0V (numV V ms) (numV V ps) (V c) i) := by
  rcases i with _ | k
  · go_enter Try.func115, Try.ntmps115
    go_wp2
    go_ret
    exact ⟨c, st, rfl, Kept.refl _ _ _, Ext.refl _, ((E.addPl (E.at_ hc)).cntle (by omega)).know fun V h => ⟨h, by simp [c0V]⟩⟩
  · obtain ⟨A1, c1, rfl, -, -⟩ := E.shape hm
    obtain ⟨A2, c2, rfl, -, -⟩ := E.shape hp
    have l1 := E.len hm
    have l2 := E.len hp
    have hk1 : k < ms.length := by omega
    have hk2 : k < ps.length := by omega
    obtain ⟨b1, o1, rfl⟩ := E.start_ hm (by omega)
    obtain ⟨b2, o2, rfl⟩ := E.start_ hp (by omega)
    have ka := (E.okay hm).at hk1
    have kb := (E.okay hp).at hk2
    have E1 := ((E.addPl ka).addPl kb)
    have q1 := E1.cell (b := b1) (off := o1) (m := ms.length) (c := c1) (by repeat with_reducible first | apply mem_hd | assumption | apply mem_tl) hk1
    have q2 := E1.cell (b := b2) (off := o2) (m := ps.length) (c := c2) (by repeat with_reducible first | apply mem_hd | assumption | apply mem_tl) hk2
    have E2 := E1.drew
    obtain ⟨j, hj⟩ : ∃ j : Int, ((k + 1 : Nat) : Int) = j := ⟨_, rfl⟩
    rw [hj]
    have e1 : j - 1 = k := by omega
    have e2 : (j == 0) = false := by simp; omega
    have e3 : IntKind.i64.wrap (j - 1) = k := by rw [e1]; exact IntWalk.i64_in _ (by omega)
    have e4 : 0 ≤ j := by omega
    have e5 : j ≤ 1024 := by omega
    have e6 : IntKind.i64.wrap (k : Int) = k := IntWalk.i64_in _ (by omega)
    clear hj e1
    have z0 : (0 : Int) ≤ k := by omega
    have z1 : (k : Int) < ms.length := by omega
    have z2 : (k : Int) < ps.length := by omega
    clear ka kb
    go_enter Try.func115, Try.ntmps115
    go_wp2_with fail
    go_region_held3 (fun w' => w'.cell? ⟨b1, o1 + k, none⟩ = some (.int .i64 ms[k]) ∧ w'.cell? ⟨b2, o2 + k, none⟩ = some (.int .i64 ps[k]))
        (first | with_reducible exact ⟨q1, q2⟩ | with_reducible exact ⟨E2.cell (b := b1) (off := o1) (m := ms.length) (c := c1) (by repeat with_reducible first | apply mem_hd | assumption | apply mem_tl) hk1, E2.cell (b := b2) (off := o2) (m := ps.length) (c := c2) (by repeat with_reducible first | apply mem_hd | assumption | apply mem_tl) hk2⟩)
        (first | (go_at_call 83; refine (E2.and (x := ps[k]) (y := c) (by repeat with_reducible first | apply mem_hd | assumption | apply mem_tl) (by repeat with_reducible first | apply mem_hd | assumption | apply mem_tl) (by omega)).mono ?_; rintro e w4 ⟨g3, st4, rfl, k3, x3, E2⟩) | (go_at_call 113; refine (E2.or (by repeat with_reducible first | apply mem_hd | assumption | apply mem_tl) (by repeat with_reducible first | apply mem_hd | assumption | apply mem_tl) (by omega)).mono ?_; rintro e w4 ⟨g4, st5, rfl, k4, x4, E2⟩))
    go_wp2
    go_ret
    exact ⟨g4, st5, rfl, (E.kdrew.then k3).then k4, x3.trans x4, (E2.only (by repeat with_reducible first | refine sub_cons (by repeat with_reducible first | apply mem_hd | assumption | apply mem_tl) ?_ | exact sub_nil | apply sub_refl | apply sub_tail)).know fun V ⟨⟨h, e1⟩, e2⟩ => ⟨h, by
      dsimp only at e1 e2 ⊢
      rw [e2, e1, c0V, if_neg (by omega), Nat.add_sub_cancel, numV_at hk1, numV_at hk2]⟩⟩

/-- what adder.Prefix knows behind its rounds of doubling -/
def wins (V : Int → Bool) (xs ys ms ps : List Int) (f : Nat) : Prop := ∀ i, i < ms.length → (numV V ms).testBit i = (win (numV V xs) (numV V ys) f i).1 ∧ (numV V ps).testBit i = (win (numV V xs) (numV V ys) f i).2
/-- while a round of doubling is done: below k the new ones, from k on the old ones -/
def half (V : Int → Bool) (xs ys ms ps : List Int) (f k : Nat) : Prop := ∀ i, i < ms.length → (numV V ms).testBit i = (win (numV V xs) (numV V ys) (if i < k then f * 2 else f) i).1 ∧ (numV V ps).testBit i = (win (numV V xs) (numV V ys) (if i < k then f * 2 else f) i).2

/-- the carry into each place, where all windows reach down to the end -/
theorem wins_carry {V : Int → Bool} {xs ys ms ps : List Int} {f n : Nat} (c : Bool) (hm : ms.length = n) (hn : n ≤ f) (hw : wins V xs ys ms ps f) {i : Nat} (hi : i ≤ n) : c0V (numV V ms) (numV V ps) c i = carryIn (numV V xs) (numV V ys) c i := by
  rcases i with _ | j
  · rw [carryIn_zero]; rfl
  · obtain ⟨h1, h2⟩ := hw j (by omega)
    rw [win_all _ _ _ _ (by omega)] at h1 h2
    rw [c0V, if_neg (by omega), Nat.add_sub_cancel, h1, h2]; rfl
theorem half_step {V : Int → Bool} {xs ys ms ps mt pt : List Int} {f k n : Nat} {g1 g2 : Int} (hf : 1 ≤ f) (hfk : f ≤ k) (hm : ms.length = n) (hmt : mt.length = n) (hpt : pt.length = n) (hkn : k < n)
    (hw : wins V xs ys ms ps f) (hh : half V xs ys mt pt f k) (e1 : V g1 = ((numV V ms).testBit k || ((numV V ps).testBit k && (numV V ms).testBit (k - f)))) (e2 : V g2 = ((numV V ps).testBit k && (numV V ps).testBit (k - f))) :
    half V xs ys (mt.set k g1) (pt.set k g2) f (k + 1) := by
  intro i hi
  rw [List.length_set] at hi
  rw [numV_set (by omega), numV_set (by omega)]
  by_cases hik : i = k
  · subst hik
    rw [if_pos rfl, if_pos rfl, if_pos (by omega), e1, e2, win_double _ _ _ _ hfk]
    obtain ⟨a1, a2⟩ := hw i (by omega)
    obtain ⟨a3, a4⟩ := hw (i - f) (by omega)
    rw [a1, a2, a3, a4]
    exact ⟨rfl, rfl⟩
  · rw [if_neg hik, if_neg hik]
    have := hh i hi
    by_cases h : i < k
    · rw [if_pos (by omega)]; rw [if_pos h] at this; exact this
    · rw [if_neg (by omega)]; rw [if_neg h] at this; exact this

set_option maxHeartbeats 4000000 in
set_option maxRecDepth 100000 in
theorem Env.prefix (E : Env C p X st0 w st N L K) {v u : Value} {xs ys : List Int} {c : Int} (hx : Ent.word v xs ∈ L) (hy : Ent.word u ys ∈ L) (hc : Ent.pl c ∈ L) (hN : N + 8388608 < 1099511627776) :
    Calls Try.prog 55 #[.pointer (some ⟨p, 0, none⟩), v, u, .int .i64 c] w (ToldWP C p st0 st w (N + 8388608) L K (max xs.length ys.length) fun V r c' => numV V r + 2 ^ (max xs.length ys.length) * (V c').toNat = numV V xs + numV V ys + (V c).toNat) := by
  have l1 := E.len hx
  have l2 := E.len hy
  obtain ⟨n, hn⟩ : ∃ n, max xs.length ys.length = n := ⟨_, rfl⟩
  have hn2 : n ≤ 1024 := by omega
  go_enter Try.func55, Try.ntmps55
  go_wp2_with fail
  have E1_ := E
  refine (E.mark.level hx hy (by omega)).mono ?_
  rintro e w1 ⟨v1, r1, v2, r2, st1, h1, h2, rfl, k1, -, f1, f2, E1⟩
  rw [hn] at h1 h2
  have HN := Lib.hid hn
  clear hn f1 f2
  go_wp2_with fail
  refine (E1.each 5 (ys := r2) (xs := r1) (by repeat with_reducible first | apply mem_hd | assumption | apply mem_tl) (by repeat with_reducible first | apply mem_hd | assumption | apply mem_tl) (by omega)).mono ?_
  rintro e w2 ⟨v3, hs, st2, h3, rfl, k2, -, -, E1⟩
  go_wp2_with fail
  refine (E1.each 3 (ys := r2) (xs := r1) (by repeat with_reducible first | apply mem_hd | assumption | apply mem_tl) (by repeat with_reducible first | apply mem_hd | assumption | apply mem_tl) (by omega)).mono ?_
  rintro e w3 ⟨v4, ms, st3, h4, rfl, k3, -, -, E1⟩
  go_wp2_with fail
  refine (E1.clone (xs := hs) (by repeat with_reducible first | apply mem_hd | assumption | apply mem_tl)).mono ?_
  rintro e w4 ⟨v5, ps, st4, h5, rfl, k4, -, -, E1⟩
  obtain ⟨A1, c1, rfl, -, -⟩ := E1.shape (v := v1) (by repeat with_reducible first | apply mem_hd | assumption | apply mem_tl)
  have hwT : w.heap.size ≤ w4.heap.size := Nat.le_trans (Nat.le_trans (Nat.le_trans k1.size k2.size) k3.size) k4.size
  have E2 := (E1.only (L' := .word v4 ms :: .word v5 ps :: .word v3 hs :: .word (.slice A1 r1.length c1) r1 :: .pl c :: L) (by repeat with_reducible first | refine sub_cons (by repeat with_reducible first | apply mem_hd | assumption | apply mem_tl) ?_ | exact sub_nil | apply sub_refl | apply sub_tail)).know (K' := fun V => (K V ∧ ∀ i, i < n → (numV V hs).testBit i = ((numV V xs).testBit i != (numV V ys).testBit i)) ∧ wins V xs ys ms ps 1) fun V ⟨⟨⟨⟨h, a, b⟩, d⟩, e⟩, g⟩ => by
    dsimp only at g d e
    subst g
    refine ⟨⟨h, fun i hi => ?_⟩, fun i hi => ?_⟩
    · rw [d i (by have := h1.out; omega), a, b]; rfl
    · have hi2 : i < n := by have := h4.out; have := h1.out; have := h2.out; omega
      rw [d i (by have := h1.out; omega), e i (by have := h1.out; omega), a, b, win_one]
      exact ⟨rfl, rfl⟩
  have hm : Hid (ms.length = n) := Lib.hid (by have := h4.out; have := h1.out; have := h2.out; omega)
  have hp : Hid (ps.length = n) := Lib.hid (by have := h3.out; have := h5.out; have := h1.out; have := h2.out; omega)
  have hhs : Hid (hs.length = n) := Lib.hid (by have := h3.out; have := h1.out; have := h2.out; omega)
  clear E1 k1 k2 k3 k4 h2 h3 h4 h5
  go_wp2_with fail
  go_loopw [11, 12, 13] (fun mv pv fv wr => ∃ f T ms ps st', 1 ≤ f ∧ f ≤ 2048 ∧ fv = .int .i64 (f : Nat) ∧ w.heap.size ≤ T ∧ Hid (ms.length = n) ∧ Hid (ps.length = n) ∧
      Env (fun a => C a ∧ Kept w.heap.size (some p) w a) p T st wr st' (N + 20000 + 3072 * f) (.word mv ms :: .word pv ps :: .word v3 hs :: .word (.slice A1 r1.length c1) r1 :: .pl c :: L) (fun V => (K V ∧ ∀ i, i < n → (numV V hs).testBit i = ((numV V xs).testBit i != (numV V ys).testBit i)) ∧ wins V xs ys ms ps f))
    (fun _ _ fv _ => n - (intOf fv).toNat)
  case atStart => exact ⟨1, _, ms, ps, _, by omega, by omega, rfl, hwT, hm, hp, E2.cntle (by omega)⟩
  case round =>
    clear E2 hm hp
    obtain ⟨f, T, ms, ps, st', hf1, hf2, rfl, hT, hm, hp, E3⟩ := hrel
    by_cases hlt : f < n
    · have hx1 : f < r1.length := by have := h1.out; omega
      obtain ⟨wo, rfl⟩ : ∃ wo : World, wo = wr := ⟨_, rfl⟩
      have E := E3.top
      obtain ⟨Am, cm0, rfl, -, -⟩ := E3.shape (xs := ms) (by repeat with_reducible first | apply mem_hd | assumption | apply mem_tl)
      obtain ⟨Ap, cp0, rfl, -, -⟩ := E3.shape (xs := ps) (by repeat with_reducible first | apply mem_hd | assumption | apply mem_tl)
      obtain ⟨b1, o1, rfl⟩ := E3.start_ (xs := ms) (by repeat with_reducible first | apply mem_hd | assumption | apply mem_tl) (by have := hm.out; omega)
      obtain ⟨b2, o2, rfl⟩ := E3.start_ (xs := ps) (by repeat with_reducible first | apply mem_hd | assumption | apply mem_tl) (by have := hp.out; omega)
      go_wp2_with fail
      refine (E.cloneOwn (xs := ms) (by repeat with_reducible first | apply mem_hd | assumption | apply mem_tl)).mono ?_
      rintro e wa ⟨va, rfl, hba, fm, E⟩
      have hgm0 := fun g (h : va.ownBlock = some g) => (fm.own.base h).2
      have HGM := Lib.hid hgm0
      clear hgm0
      go_wp2_with fail
      refine (E.cloneOwn (xs := ps) (by repeat with_reducible first | apply mem_hd | assumption | apply mem_tl)).mono ?_
      rintro e wb ⟨vb, rfl, hbb, fp, Eb⟩
      have fm := fm.quiet E hbb
      obtain ⟨gm, cm, rfl, -, -⟩ := fm.own.form (by have := hm.out; omega)
      obtain ⟨gp, cp, rfl, -, -⟩ := fp.own.form (by have := hp.out; omega)
      have hne : gm < gp := Nat.lt_of_lt_of_le (HGM.out gm rfl) (fp.own.base rfl).1
      have hwa : wo.heap.size ≤ wa.heap.size := hba.size
      have HF : Hid (Ext st st') := Lib.hid E3.ext
      have HTT : w.heap.size ≤ wo.heap.size := Nat.le_trans hT E3.size
      have E := Eb
      clear HGM E3 Eb hba hbb
      obtain ⟨T1, hT1⟩ : ∃ T1, wo.heap.size = T1 := ⟨_, rfl⟩
      obtain ⟨T2, hT2⟩ : ∃ T2, wa.heap.size = T2 := ⟨_, rfl⟩
      rw [hT1] at E fm hwa HTT
      rw [hT2] at fp hwa
      clear hT1 hT2
      go_wp2_with fail
      go_loopw [16] (fun iv wr => ∃ k mt pt st'', f ≤ k ∧ k ≤ n ∧ iv = .int .i64 (k : Nat) ∧ Hid (mt.length = n) ∧ Hid (pt.length = n) ∧
          Fine wr p st'' T1 (.slice (some ⟨gm, 0, none⟩) ms.length cm) mt ∧ Fine wr p st'' T2 (.slice (some ⟨gp, 0, none⟩) ps.length cp) pt ∧
          Env (fun a => C a ∧ Kept w.heap.size (some p) w a) p T1 st wr st'' (N + 20000 + 3072 * f + 3 * k) (.word (.slice (some ⟨b1, o1, none⟩) ms.length cm0) ms :: .word (.slice (some ⟨b2, o2, none⟩) ps.length cp0) ps :: .word v3 hs :: .word (.slice A1 r1.length c1) r1 :: .pl c :: L) (fun V => ((K V ∧ ∀ i, i < n → (numV V hs).testBit i = ((numV V xs).testBit i != (numV V ys).testBit i)) ∧ wins V xs ys ms ps f) ∧ half V xs ys mt pt f k))
        (fun iv _ => n - (intOf iv).toNat)
      case atStart => exact ⟨f, ms, ps, _, by omega, by omega, rfl, hm, hp, fm, fp, (E.cntle (by omega)).know fun V h => ⟨h, fun i hi => by
        have := h.2 i hi
        by_cases hif : i < f
        · rw [if_pos hif, win_short _ _ _ _ hif]; exact this
        · rw [if_neg hif]; exact this⟩⟩
      case round =>
        clear E fm fp
        obtain ⟨k, mt, pt, st'', hk1, hk2, rfl, hmt, hpt, fm, fp, E⟩ := hrel
        by_cases hlt2 : k < n
        · have hx2 : k < r1.length := by have := h1.out; omega
          have y1 : k < ms.length := by have := hm.out; omega
          have y2 : k < ps.length := by have := hp.out; omega
          obtain ⟨d, hd⟩ : ∃ d, k - f = d := ⟨_, rfl⟩
          have y3 : d < ms.length := by omega
          have y4 : d < ps.length := by omega
          have yd : IntKind.i64.wrap ((k : Int) - f) = d := by rw [show (k : Int) - f = d by omega]; exact IntWalk.i64_in _ (by omega)
          have HD := Lib.hid hd
          have E0 := (((E.addPl ((E.okay (xs := ms) (by repeat with_reducible first | apply mem_hd | assumption | apply mem_tl)).at y1)).addPl ((E.okay (xs := ps) (by repeat with_reducible first | apply mem_hd | assumption | apply mem_tl)).at y2)).addPl ((E.okay (xs := ms) (by repeat with_reducible first | apply mem_hd | assumption | apply mem_tl)).at y3)).addPl ((E.okay (xs := ps) (by repeat with_reducible first | apply mem_hd | assumption | apply mem_tl)).at y4)
          have q1 := E0.cell (xs := ms) (by repeat with_reducible first | apply mem_hd | assumption | apply mem_tl) y1
          have q2 := E0.cell (xs := ps) (by repeat with_reducible first | apply mem_hd | assumption | apply mem_tl) y2
          have q3 := E0.cell (xs := ms) (by repeat with_reducible first | apply mem_hd | assumption | apply mem_tl) y3
          have fm := fm.drew E
          have fp := fp.drew E
          have E := E0.drew
          clear hd E0
          go_wp2_with fail
          go_region_held3 (fun w' => w'.cell? ⟨b1, o1 + k, none⟩ = some (.int .i64 ms[k]) ∧ w'.cell? ⟨b2, o2 + k, none⟩ = some (.int .i64 ps[k]) ∧ w'.cell? ⟨b1, o1 + d, none⟩ = some (.int .i64 ms[d]))
            (first | with_reducible exact ⟨q1, q2, q3⟩ | with_reducible exact ⟨E.cell (xs := ms) (by repeat with_reducible first | apply mem_hd | assumption | apply mem_tl) y1, E.cell (xs := ps) (by repeat with_reducible first | apply mem_hd | assumption | apply mem_tl) y2, E.cell (xs := ms) (by repeat with_reducible first | apply mem_hd | assumption | apply mem_tl) y3⟩ | (have E := (fm.store E (Nat.le_refl _) k (E.at_ (c := g4) (by repeat with_reducible first | apply mem_hd | assumption | apply mem_tl))).2.1; with_reducible exact ⟨E.cell (xs := ms) (by repeat with_reducible first | apply mem_hd | assumption | apply mem_tl) y1, E.cell (xs := ps) (by repeat with_reducible first | apply mem_hd | assumption | apply mem_tl) y2, E.cell (xs := ms) (by repeat with_reducible first | apply mem_hd | assumption | apply mem_tl) y3⟩))
            (first | (go_at_call 83; refine (E.and (x := ps[k]) (y := ms[d]) (by repeat with_reducible first | apply mem_hd | assumption | apply mem_tl) (by repeat with_reducible first | apply mem_hd | assumption | apply mem_tl) (by omega)).mono ?_; rintro e w4 ⟨g3, st4, rfl, k5, x5, E⟩; have fm := fm.kept k5 x5; have fp := fp.kept k5 x5) | (go_at_call 113; refine (E.or (x := ms[k]) (by repeat with_reducible first | apply mem_hd | assumption | apply mem_tl) (by repeat with_reducible first | apply mem_hd | assumption | apply mem_tl) (by omega)).mono ?_; rintro e w5 ⟨g4, st5, rfl, k6, x6, E⟩; have fm := fm.kept k6 x6; have fp := fp.kept k6 x6; obtain ⟨cm1, cm2⟩ := fm.own.cellAt (i := k) (by have := hmt.out; omega)))
          obtain ⟨fm, E, kp⟩ := fm.store E (Nat.le_refl _) k (E.at_ (c := g4) (by repeat with_reducible first | apply mem_hd | assumption | apply mem_tl))
          have fp := kp fp (by simp [Value.ownBlock]; omega)
          clear kp cm1 cm2 q1 q2 q3
          have q2 := E.cell (xs := ps) (by repeat with_reducible first | apply mem_hd | assumption | apply mem_tl) y2
          have q4 := E.cell (xs := ps) (by repeat with_reducible first | apply mem_hd | assumption | apply mem_tl) y4
          have fm := fm.drew E
          have fp := fp.drew E
          have E := E.drew
          go_wp2_with fail
          go_region_held3 (fun w' => w'.cell? ⟨b2, o2 + k, none⟩ = some (.int .i64 ps[k]) ∧ w'.cell? ⟨b2, o2 + d, none⟩ = some (.int .i64 ps[d]))
            (first | with_reducible exact ⟨q2, q4⟩ | with_reducible exact ⟨E.cell (xs := ps) (by repeat with_reducible first | apply mem_hd | assumption | apply mem_tl) y2, E.cell (xs := ps) (by repeat with_reducible first | apply mem_hd | assumption | apply mem_tl) y4⟩ | (have E := (fp.store E hwa k (E.at_ (c := g5) (by repeat with_reducible first | apply mem_hd | assumption | apply mem_tl))).2.1; with_reducible exact ⟨E.cell (xs := ps) (by repeat with_reducible first | apply mem_hd | assumption | apply mem_tl) y2, E.cell (xs := ps) (by repeat with_reducible first | apply mem_hd | assumption | apply mem_tl) y4⟩))
            (first | (go_at_call 83; refine (E.and (x := ps[k]) (y := ps[d]) (by repeat with_reducible first | apply mem_hd | assumption | apply mem_tl) (by repeat with_reducible first | apply mem_hd | assumption | apply mem_tl) (by omega)).mono ?_; rintro e w6 ⟨g5, st6, rfl, k7, x7, E⟩; have fm := fm.kept k7 x7; have fp := fp.kept k7 x7; obtain ⟨cm1, cm2⟩ := fp.own.cellAt (i := k) (by have := hpt.out; omega)))
          obtain ⟨fp, E, kp⟩ := fp.store E hwa k (E.at_ (c := g5) (by repeat with_reducible first | apply mem_hd | assumption | apply mem_tl))
          have fm := kp fm (by simp [Value.ownBlock]; omega)
          clear kp cm1 cm2 q2 q4
          go_wp2
          go_roundw
          case rel =>
            exact ⟨k + 1, _, _, _, by omega, by omega, by go_num, Lib.hid (by rw [List.length_set]; exact hmt.out), Lib.hid (by rw [List.length_set]; exact hpt.out), fm, fp, ((E.only (by repeat with_reducible first | refine sub_cons (by repeat with_reducible first | apply mem_hd | assumption | apply mem_tl) ?_ | exact sub_nil | apply sub_refl | apply sub_tail)).cntle (by omega)).know fun V ⟨⟨⟨⟨h, hh⟩, e1⟩, e2⟩, e3⟩ => ⟨h, half_step hf1 hk1 hm.out hmt.out hpt.out hlt2 h.2 hh (by
              obtain rfl : k - f = d := HD.out
              rw [e2, e1, numV_at y1, numV_at y2, numV_at y3]) (by
              obtain rfl : k - f = d := HD.out
              rw [e3, numV_at y2, numV_at y4])⟩⟩
          case measure => simp [intOf]; omega
        · obtain rfl : k = n := by omega
          have hx2 : ¬ k < r1.length := by have := h1.out; omega
          have ef : IntKind.i64.wrap ((f : Int) * 2) = f * 2 := IntWalk.i64_in _ (by omega)
          have E5 := (((E.top.fine fp).fine fm).only (L' := .word (.slice (some ⟨gm, 0, none⟩) ms.length cm) mt :: .word (.slice (some ⟨gp, 0, none⟩) ps.length cp) pt :: .word v3 hs :: .word (.slice A1 r1.length c1) r1 :: .pl c :: L) (by repeat with_reducible first | refine sub_cons (by repeat with_reducible first | apply mem_hd | assumption | apply mem_tl) ?_ | exact sub_nil | apply sub_refl | apply sub_tail)).cntle (N' := N + 20000 + 3072 * (f * 2)) (by omega)
          go_wp2
          go_roundw
          case rel =>
            exact ⟨f * 2, _, mt, pt, _, by omega, by omega, by go_num, Nat.le_trans HTT (Nat.le_trans (Nat.le_refl _) E.size), hmt, hpt, E5.know fun V ⟨⟨h, hw⟩, hh⟩ => ⟨h, fun i hi => by
              have := hh i hi
              rw [if_pos (by have := hmt.out; omega)] at this
              exact this⟩⟩
          case measure => simp [intOf]; omega
    · have hx1 : ¬ f < r1.length := by have := h1.out; omega
      obtain ⟨wo, rfl⟩ : ∃ wo : World, wo = wr := ⟨_, rfl⟩
      have E := E3.top
      obtain ⟨T1, hT1⟩ : ∃ T1, wo.heap.size = T1 := ⟨_, rfl⟩
      have hT1w : w.heap.size ≤ T1 := hT1 ▸ Nat.le_trans hT E3.size
      rw [hT1] at E
      obtain ⟨A3, c3, rfl, -, -⟩ := E.shape (xs := hs) (by repeat with_reducible first | apply mem_hd | assumption | apply mem_tl)
      clear hT1 E3
      go_wp2_with fail
      go_loopw [17, 93] (fun sv iv wr => ∃ i r st'', i ≤ n ∧ iv = .int .i64 (i : Nat) ∧ Hid (r.length = i) ∧ Fine wr p st'' T1 sv r ∧
          Env (fun a => C a ∧ Kept w.heap.size (some p) w a) p T1 st wr st'' (N + 20000 + 3072 * f + 3 * i) (.word _ ms :: .word _ ps :: .word (.slice A3 hs.length c3) hs :: .word (.slice A1 r1.length c1) r1 :: .pl c :: L)
            (fun V => ((K V ∧ ∀ i, i < n → (numV V hs).testBit i = ((numV V xs).testBit i != (numV V ys).testBit i)) ∧ wins V xs ys ms ps f) ∧ numV V r + 2 ^ i * (carryIn (numV V xs) (numV V ys) (V c) i).toNat = numV V xs % 2 ^ i + numV V ys % 2 ^ i + (V c).toNat))
        (fun _ iv _ => n - (intOf iv).toNat)
      case atStart => exact ⟨0, [], _, by omega, rfl, Lib.hid rfl, ⟨Own.nil _ _ _ _ _, Okay.nil _, by simp⟩, E.know fun V h => ⟨h, by simp [numV_nil, Nat.mod_one, carryIn_zero]⟩⟩
      case round =>
        clear E
        obtain ⟨i, r, st'', hi, rfl, hr, fr, E⟩ := hrel
        by_cases hlt2 : i < n
        · have hx2 : i < r1.length := by have := h1.out; omega
          have y1 : i < hs.length := by have := hhs.out; omega
          obtain ⟨b3, o3, rfl⟩ := E.start_ (xs := hs) (by repeat with_reducible first | apply mem_hd | assumption | apply mem_tl) (by omega)
          have E0 := E.addPl ((E.okay (xs := hs) (by repeat with_reducible first | apply mem_hd | assumption | apply mem_tl)).at y1)
          have q1 := E0.cell (xs := hs) (by repeat with_reducible first | apply mem_hd | assumption | apply mem_tl) y1
          have fr := fr.drew E
          have E := E0.drew
          clear E0
          go_wp2_with fail
          go_region_held3 (fun w' => w'.cell? ⟨b3, o3 + i, none⟩ = some (.int .i64 hs[i]))
            (first | with_reducible exact q1 | with_reducible exact E.cell (xs := hs) (by repeat with_reducible first | apply mem_hd | assumption | apply mem_tl) y1 | with_reducible exact (E.alloc _).cell (xs := hs) (by repeat with_reducible first | apply mem_hd | assumption | apply mem_tl) y1)
            (first | (go_at_call 115; refine (E.c0 (ms := ms) (ps := ps) (by repeat with_reducible first | apply mem_hd | assumption | apply mem_tl) (by repeat with_reducible first | apply mem_hd | assumption | apply mem_tl) (by repeat with_reducible first | apply mem_hd | assumption | apply mem_tl) i (by have := hm.out; omega) (by have := hp.out; omega) (by omega)).mono ?_; rintro e w6 ⟨g5, st6, rfl, k7, x7, E⟩; have fr := fr.kept k7 x7) | (go_at_call 108; refine (E.xor (x := hs[i]) (by repeat with_reducible first | apply mem_hd | assumption | apply mem_tl) (by repeat with_reducible first | apply mem_hd | assumption | apply mem_tl) (by omega)).mono ?_; rintro e w7 ⟨g6, st7, rfl, k8, x8, E⟩; have fr := fr.kept k8 x8; have kg := E.at_ (c := g6) (by repeat with_reducible first | apply mem_hd | assumption | apply mem_tl)) | (refine step_app rfl (app1R (.tmp 96) (.tmp 109) rfl Try.underlying26 infoInt E fr (Nat.le_refl _) E.size rfl g6 rfl kg (by have := hr.out; omega) ?_); intro v' w8 k9 fr E))
          go_wp2
          go_roundw
          case rel =>
            exact ⟨i + 1, _, _, by omega, by go_num, Lib.hid (by rw [List.length_append, hr.out]; rfl), fr, ((E.only (by repeat with_reducible first | refine sub_cons (by repeat with_reducible first | apply mem_hd | assumption | apply mem_tl) ?_ | exact sub_nil | apply sub_refl | apply sub_tail)).cntle (by omega)).know fun V ⟨⟨⟨⟨hK, hw⟩, hS⟩, e1⟩, e2⟩ => ⟨⟨hK, hw⟩, by
              rw [numV_snoc, hr.out, e2, e1, wins_carry (V c) hm.out (by omega) hw (by omega), ← numV_at (V := V) y1, hK.2 i hlt2, carryIn_succ]
              exact rip_step hS⟩⟩
          case measure => simp [intOf]; omega
        · obtain rfl : i = n := by omega
          have hx2 : ¬ i < r1.length := by have := h1.out; omega
          go_wp2_with fail
          refine (E.c0 (ms := ms) (ps := ps) (by repeat with_reducible first | apply mem_hd | assumption | apply mem_tl) (by repeat with_reducible first | apply mem_hd | assumption | apply mem_tl) (by repeat with_reducible first | apply mem_hd | assumption | apply mem_tl) r1.length (by have := hm.out; have := h1.out; omega) (by have := hp.out; have := h1.out; omega) (by omega)).mono ?_
          rintro e w6 ⟨g5, st6, rfl, k7, x7, E6⟩
          have fr := fr.kept k7 x7
          have E4 := ((E6.top.fine fr).addPl (E6.at_ (c := g5) (by repeat with_reducible first | apply mem_hd | assumption | apply mem_tl))).only (L' := .pl g5 :: .word _ r :: L) (by repeat with_reducible first | refine sub_cons (by repeat with_reducible first | apply mem_hd | assumption | apply mem_tl) ?_ | exact sub_nil | apply sub_refl | apply sub_tail)
          have E0 := E1_
          clear E6 E
          go_wp2
          go_ret2
          exact ⟨_, r, g5, st6, Lib.hid (hr.out.trans HN.out.symm), rfl, E4.c.2, E4.ext, fr.lower hT1w, ((E4.cntle (by omega)).done E0).know fun V ⟨⟨⟨hK, hw⟩, hS⟩, e1⟩ => ⟨hK.1, by
            dsimp only at e1 ⊢
            rw [HN.out, e1, h1.out, wins_carry (V c) hm.out (by omega) hw (Nat.le_refl _), hS, numV_wide V (by have := HN.out; omega), numV_wide V (by have := HN.out; omega)]⟩⟩
end
end Go.Proofs.Ytdljgifoboiaeaa
