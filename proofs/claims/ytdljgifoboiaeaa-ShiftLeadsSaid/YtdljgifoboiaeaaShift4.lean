/- shift: Lead, Norm. -/
import Derived.Test.YtdljgifoboiaeaaShift3
namespace Go.Proofs.Ytdljgifoboiaeaa
open Go.RowKit

theorem nbits_cat {a b h : Nat} (ha : a < 2 ^ h) (hb : 0 < b) : nbits (a + 2 ^ h * b) = h + nbits b := by
  have hb2 := nbits_pos.2 hb
  have h1 := lt_nbits b
  have h2 := two_pow_le_of_nbits hb
  have hlt : a + 2 ^ h * b < 2 ^ (h + nbits b) := by
    rw [Nat.pow_add]
    have : 2 ^ h * (b + 1) ≤ 2 ^ h * 2 ^ nbits b := Nat.mul_le_mul_left _ h1
    rw [Nat.mul_add] at this
    omega
  have hle := nbits_le hlt
  rcases Nat.lt_or_ge (nbits (a + 2 ^ h * b)) (h + nbits b) with h3 | h3
  · have h4 := lt_nbits (a + 2 ^ h * b)
    have h5 : 2 ^ nbits (a + 2 ^ h * b) ≤ 2 ^ (h + (nbits b - 1)) := Nat.pow_le_pow_right (by decide) (by omega)
    rw [Nat.pow_add] at h5
    have h6 := Nat.mul_le_mul_left (2 ^ h) h2
    omega
  · omega
theorem nbits_ones (d : Nat) : nbits (2 ^ d - 1) = d := by
  have hp := Nat.two_pow_pos d
  have h1 : nbits (2 ^ d - 1) ≤ d := nbits_le (by omega)
  rcases Nat.lt_or_ge (nbits (2 ^ d - 1)) d with h | h
  · have h2 := lt_nbits (2 ^ d - 1)
    have h3 : 2 ^ (nbits (2 ^ d - 1) + 1) ≤ 2 ^ d := Nat.pow_le_pow_right (by decide) h
    rw [Nat.pow_succ] at h3
    have h4 := Nat.two_pow_pos (nbits (2 ^ d - 1))
    omega
  · omega
/-- bits 1 below a word -/
theorem lead_start {d x : Nat} (hd : 0 < d) : nbits (2 ^ d - 1 + 2 ^ d * x) = d + nbits x ∧ 0 < 2 ^ d - 1 + 2 ^ d * x := by
  have hp : 2 ≤ 2 ^ d := by
    obtain ⟨e, rfl⟩ : ∃ e, d = e + 1 := ⟨d - 1, by omega⟩
    have := Nat.two_pow_pos e
    rw [Nat.pow_succ]; omega
  refine ⟨?_, by omega⟩
  rcases Nat.eq_zero_or_pos x with rfl | hx
  · rw [Nat.mul_zero, Nat.add_zero, nbits_ones]; rfl
  · exact nbits_cat (by omega) hx
/-- one step: the upper half is 0, or it is not -/
theorem lead_step {m h t n D : Nat} (hm : 0 < m) (hlt : m < 2 ^ (2 * h)) (e : D * (2 * h) + (2 * h - nbits m) = t) (hn : n = if m / 2 ^ h = 0 then m % 2 ^ h else m / 2 ^ h) :
    0 < n ∧ ((if m / 2 ^ h = 0 then 1 else 0) + 2 * D) * h + (h - nbits n) = t := by
  have hp := Nat.two_pow_pos h
  have hdm := Nat.div_add_mod m (2 ^ h)
  have hmod := Nat.mod_lt m hp
  have hD : 2 * D * h = D * (2 * h) := by rw [Nat.mul_comm 2 D, Nat.mul_assoc]
  by_cases hz : m / 2 ^ h = 0
  · rw [if_pos hz] at hn ⊢
    rw [hz, Nat.mul_zero, Nat.zero_add] at hdm
    rw [hdm] at hn
    have hb : nbits m ≤ h := nbits_le (by omega)
    subst hn
    refine ⟨hm, ?_⟩
    rw [Nat.add_mul, Nat.one_mul, hD]
    omega
  · rw [if_neg hz] at hn ⊢
    have hb : nbits m = h + nbits (m / 2 ^ h) := by
      have := nbits_cat hmod (Nat.pos_of_ne_zero hz)
      rw [Nat.add_comm, hdm] at this
      exact this
    subst hn
    refine ⟨Nat.pos_of_ne_zero hz, ?_⟩
    rw [Nat.zero_add, hD]
    omega
theorem numV_repl (V : Int → Bool) (r : List Int) (h : ∀ x ∈ r, V x = true) : numV V r + 1 = 2 ^ r.length := by
  induction r with
  | nil => rfl
  | cons x r ih =>
    rw [numV_cons, h x (by simp), List.length_cons, Nat.pow_succ]
    have := ih fun y hy => h y (by simp [hy])
    simp
    omega

section
variable {C : World → Prop} {p X : Nat} {st0 st : BSt} {w : World} {N : Nat} {L : List Ent} {K : (Int → Bool) → Prop}
set_option maxHeartbeats 4000000 in
set_option maxRecDepth 100000 in
attribute [local go_sem] max2_int min2_int max_two min_two in
theorem Env.lead (E : Env C p X st0 w st N L K) {v : Value} {xs : List Int} (hx : Ent.word v xs ∈ L) (h0 : 0 < xs.length) (h1 : xs.length ≤ 1023) (hN : N + 100000 < 1099511627776) :
    Calls Try.prog 65 #[.pointer (some ⟨p, 0, none⟩), v] w (ToldW C p st0 st w (N + 100000) L K (nbits xs.length) fun V r => numV V r = xs.length - nbits (numV V xs)) := by
  obtain ⟨A1, c1, rfl, -, -⟩ := E.shape hx
  obtain ⟨b1, o1, rfl⟩ := E.start_ hx h0
  obtain ⟨k, hk⟩ : ∃ k, nbits xs.length = k := ⟨_, rfl⟩
  have hkp : 0 < k := hk ▸ nbits_pos.2 h0
  have hk10 : k ≤ 10 := hk ▸ nbits_le (by omega)
  have hk2 : xs.length < 2 ^ k := hk ▸ lt_nbits _
  have hk3 : 2 ^ k ≤ 1024 := (Nat.pow_le_pow_right (by decide) hk10 : 2 ^ k ≤ 2 ^ 10)
  obtain ⟨d, hd⟩ : ∃ d, 2 ^ k - xs.length = d := ⟨_, rfl⟩
  have hw : IntKind.i64.wrap (wrap64 (2 ^ k) - (xs.length : Int)) = (d : Int) := by
    have e : ((2 : Int) ^ k) = ((2 ^ k : Nat) : Int) := by push_cast; rfl
    rw [e]
    unfold wrap64
    clear e
    generalize 2 ^ k = q at *
    rw [show (((q : Int) + 9223372036854775808) % 18446744073709551616 - 9223372036854775808) - (xs.length : Int) = (d : Int) by omega]
    exact IntWalk.i64_in _ (by omega)
  have hw : IntKind.i64.wrap (wrap64 (2 ^ k) - (xs.length : Int)) = (d : Int) := hw
  have hk0 : ((k : Int) == 0) = false := by simpa using (by omega : k ≠ 0)
  obtain ⟨B, hB⟩ : ∃ B, w.heap.size = B := ⟨_, rfl⟩
  have E0 := E.mark
  rw [hB] at E0
  have HB := Lib.hid hB
  have HD := Lib.hid hd
  have HK := Lib.hid hk
  have HK2 := Lib.hid hk2
  have HK3 := Lib.hid hk3
  have hdp : 0 < d := by omega
  have hd1 : d ≤ 1024 := by omega
  clear hB hd hk2 hk3
  go_enter Try.func65, Try.ntmps65
  go_wp2_with fail
  refine (wide_calls _ _ (by omega)).mono ?_
  rintro e w1 ⟨rfl, rfl⟩
  rw [Int.toNat_natCast, hk]
  clear hk
  go_wp2_with fail
  go_loopw [6, 21] (fun sv iv wr => ∃ i r st', i ≤ d ∧ iv = .int .i64 (i : Nat) ∧ Hid (r.length = i) ∧ Fine wr p st' B sv r ∧ Env (fun a => C a ∧ Kept B (some p) w a) p B st wr st' (N + i) L (fun V => K V ∧ ∀ y ∈ r, V y = true))
    (fun _ iv _ => d - (intOf iv).toNat)
  case atStart => exact ⟨0, [], st, by omega, rfl, Lib.hid rfl, ⟨Own.nil _ _ _ _ _, Okay.nil _, by simp⟩, E0.know fun V h => ⟨h, by simp⟩⟩
  case round =>
    clear E0
    obtain ⟨i, r, st', hi, rfl, hr, fr, E1⟩ := hrel
    by_cases hlt : i < d
    · go_wp2_with fail
      refine (E1.bit 1 (by omega)).mono ?_
      rintro e w2 ⟨g, st2, rfl, k2, x2, E2⟩
      have fr := fr.kept k2 x2
      have kg := E2.at_ (c := g) (by repeat with_reducible first | apply mem_hd | assumption | apply mem_tl)
      go_wp2_with (at_builtin; refine app1E rfl (.tmp 23) (.tmp 26) rfl Try.underlying26 infoInt E2 fr (Nat.le_refl _) E2.size rfl g rfl kg (by have := hr.out; omega) ?_; intro v' w4 k5 fr E2)
      go_roundw
      case rel => exact ⟨i + 1, _, _, by omega, by go_num, Lib.hid (by rw [List.length_append, hr.out]; rfl), fr, (E2.only (by repeat with_reducible first | refine sub_cons (by repeat with_reducible first | apply mem_hd | assumption | apply mem_tl) ?_ | exact sub_nil | apply sub_refl | apply sub_tail)).know fun V ⟨⟨h, hj⟩, e1⟩ => ⟨h, fun y hy => by
        rcases List.mem_append.1 hy with hy | hy
        · exact hj y hy
        · rw [List.mem_singleton] at hy; rw [hy]; exact e1⟩⟩
      case measure => simp [intOf]; omega
    · obtain rfl : i = d := by omega
      have tx := E1.wdTop hx
      have ty := E1.okay hx
      have t0 : r.length + xs.length ≤ 1024 := by have := hr.out; have := HD.out; have := HK3.out; have := HK2.out; omega
      have hmk := make_ints k (by omega)
      have hE1 := E1.size
      go_wp2_with (at_builtin; refine appG rfl (.tmp 29) (.tmp 30) rfl Try.underlying26 infoInt E1 fr (Nat.le_refl _) E1.size rfl rfl tx ty t0 ?_; intro v3 w3 k3 f3 E3)
      have fc : Fine (w3.alloc (.cells (madeCells #[.int .i64 0] k) 3)) p st' B (.slice (some ⟨w3.heap.size, 0, none⟩) k k) (List.replicate k 0) :=
        Fine.lower ⟨(made_ints k (by omega) w3).give E3.rep.fin ((Below.refl _ _).alloc (Nat.le_refl _) _), fun y hy => by
          rw [List.eq_of_mem_replicate hy]
          have := ty.at (i := 0) h0
          omega, by rw [List.length_replicate]; omega⟩ (Nat.le_trans hE1 (by have := k3.size; omega))
      have fl := f3.quiet E3 ((Below.refl _ _).alloc (Nat.le_refl _) (.cells (madeCells #[.int .i64 0] k) 3))
      have hne : ∀ q, v3.ownBlock = some q → q ≠ w3.heap.size := fun q hq => by have := (f3.own.base hq).2; omega
      have E4 := E3.alloc (.cells (madeCells #[.int .i64 0] k) 3)
      have hl3 : Hid ((r ++ xs).length = 2 ^ (k - 0)) := Lib.hid (by rw [List.length_append, Nat.sub_zero]; have := hr.out; have := HD.out; have := HK2.out; omega)
      have E5 : Env (fun a => C a ∧ Kept B (some p) w a) p B st (w3.alloc (.cells (madeCells #[.int .i64 0] k) 3)) st' (N + 1024 + 5200 * 0) L (fun V => K V ∧ 0 < numV V (r ++ xs) ∧ numV V ((List.replicate k (0 : Int)).drop (k - 0)) * 2 ^ (k - 0) + (2 ^ (k - 0) - nbits (numV V (r ++ xs))) = xs.length - nbits (numV V xs)) :=
        (E4.cntle (by omega)).know fun V ⟨hK, h1⟩ => ⟨hK, by
          have e1 := numV_repl V r h1
          rw [hr.out] at e1
          obtain ⟨e2, e3⟩ := lead_start (d := i) (x := numV V xs) hdp
          rw [numV_append, hr.out, show numV V r = 2 ^ i - 1 by omega, e2, Nat.sub_zero, List.drop_of_length_le (by simp), numV_nil, Nat.zero_mul, Nat.zero_add]
          refine ⟨e3, ?_⟩
          have := HD.out; have := HK2.out
          omega⟩
      obtain ⟨A3, c3, rfl, -, -⟩ := f3.own.shape
      generalize hl0 : r ++ xs = l0 at *
      clear hl0
      generalize hW4 : w3.alloc (.cells (madeCells #[.int .i64 0] k) 3) = W4 at *
      generalize hg0 : w3.heap.size = g0 at *
      clear hW4 hg0 hmk tx ty t0 E3 E4 f3 k3 fr E1 hr
      go_loopw [6, 35] (fun lv iv wr => ∃ (i : Nat) (A : Option Addr) (c : Nat) (l cnt : List Int) (st' : BSt), i ≤ k ∧ iv = .int .i64 (i : Nat) ∧ lv = .slice A l.length c ∧ Hid (l.length = 2 ^ (k - i)) ∧ Hid (cnt.length = k) ∧ Fine wr p st' B (.slice A l.length c) l ∧ Fine wr p st' B (.slice (some ⟨g0, 0, none⟩) k k) cnt ∧ (∀ q, (Value.slice A l.length c).ownBlock = some q → q ≠ g0) ∧
          Env (fun a => C a ∧ Kept B (some p) w a) p B st wr st' (N + 1024 + 5200 * i) L (fun V => K V ∧ 0 < numV V l ∧ numV V (cnt.drop (k - i)) * 2 ^ (k - i) + (2 ^ (k - i) - nbits (numV V l)) = xs.length - nbits (numV V xs)))
        (fun _ iv _ => k - (intOf iv).toNat)
      case atStart => exact ⟨0, A3, c3, l0, List.replicate k 0, st', by omega, rfl, rfl, hl3, Lib.hid (by simp), fl, fc, hne, E5⟩
      case round =>
        clear E5 fc fl hne hl3
        obtain ⟨j, A, c, l, cnt, st2, hj, rfl, rfl, hl, hc, fl, fc, hne, E6⟩ := hrel
        by_cases hlt : j < k
        · obtain ⟨h, hh⟩ : ∃ h, 2 ^ (k - j - 1) = h := ⟨_, rfl⟩
          have hl2 : l.length = 2 * h := by rw [hl.out, show k - j = (k - j - 1) + 1 by omega, Nat.pow_succ, Nat.mul_comm, hh]
          have hhp : 0 < h := hh ▸ Nat.two_pow_pos _
          have HH := Lib.hid hh
          have HL2 := Lib.hid hl2
          have hlen := fl.len
          rw [hl2] at fl hne hlen ⊢
          clear hh hl2
          have ET := E6.top.fine fl
          obtain ⟨b2, o2, rfl⟩ := ET.start_ (A := A) (xs := l) (by repeat with_reducible first | apply mem_hd | assumption | apply mem_tl) (by have := HL2.out; omega)
          have hhc : 2 * h ≤ c := by obtain ⟨A', c', he, h1, -⟩ := ET.shape (xs := l) (by repeat with_reducible first | apply mem_hd | assumption | apply mem_tl); injection he with _ _ he; have := HL2.out; omega
          have ED := ET.wDrop (b := b2) (off := o2) (m := 2 * h) (c := c) (xs := l) (by repeat with_reducible first | apply mem_hd | assumption | apply mem_tl) h (by omega)
          have ha1 : h ≤ c := by omega
          have ha2 : ¬ c = h := by omega
          have ha3 : h ≤ 2 * h := by omega
          go_wp2_with fail
          refine (ED.fold 4 (xs := l.drop h) (by repeat with_reducible first | apply mem_hd | assumption | apply mem_tl) (by omega)).mono ?_
          rintro e w4 ⟨g1, st4, rfl, k4, x4, E7⟩
          obtain ⟨ix, hix⟩ : ∃ ix, k - 1 - j = ix := ⟨_, rfl⟩
          have hs1 : (k : Int) - 1 - j = ix := by omega
          have hixk : ix < k := by omega
          go_wp2_with fail
          refine (E7.not (x := g1) (by repeat with_reducible first | apply mem_hd | assumption | apply mem_tl) (by omega)).mono ?_
          rintro e w5 ⟨z, st5, rfl, k5, x5, E8⟩
          have fc5 := (fc.kept k4 x4).kept k5 x5
          have fl5 := (fl.kept k4 x4).kept k5 x5
          have hcl : ix < cnt.length := by have := hc.out; omega
          obtain ⟨qc, qf⟩ := fc5.own.cellAt? (List.getElem?_eq_getElem hcl)
          have E9 := (E6.behind (k4.then k5) (x4.trans x5) E8).addPl (E8.at_ (c := z) (by repeat with_reducible first | apply mem_hd | assumption | apply mem_tl))
          obtain ⟨fc6, E10, kp⟩ := fc5.store E9 (Nat.le_refl _) ix (E9.at_ (c := z) (by repeat with_reducible first | apply mem_hd | assumption | apply mem_tl))
          have fl6 := kp fl5 (fun e => hne g0 e rfl)
          have HIX := Lib.hid hix
          clear hix fc fl E7 E8 ED ET
          go_wp2_with fail
          have hz1 : (h : Int) ≤ 2 * (h : Int) := by omega
          have EP := (((E10.top.fine fl6).wDrop (b := b2) (off := o2) (m := 2 * h) (c := c) (xs := l) (by repeat with_reducible first | apply mem_hd | assumption | apply mem_tl) h (by omega)).wTake (A := some ⟨b2, o2, none⟩) (m := 2 * h) (c := c) (xs := l) (by repeat with_reducible first | apply mem_hd | assumption | apply mem_tl) h (by omega)).drew
          go_region_held3 (fun _ => True) (exact trivial) ((go_at_call 29; refine (EP.pick (xs := l.drop h) (ys := l.take h) (c := z) (by repeat with_reducible first | apply mem_hd | assumption | apply mem_tl) (by repeat with_reducible first | apply mem_hd | assumption | apply mem_tl) (by repeat with_reducible first | apply mem_hd | assumption | apply mem_tl) (by omega)).mono ?_; rintro e w7 ⟨v7, l7, st7, h7, rfl, k7, x7, f7, E11⟩))
          obtain ⟨A7, c7, rfl, -, -⟩ := f7.own.shape
          have k8 := E10.kdrew.then k7
          have fc8 := (fc6.drew E10).kept k7 x7
          have E12 := (E10.behind k8 x7 E11).only (L' := L) (by repeat with_reducible first | refine sub_cons (by repeat with_reducible first | apply mem_hd | assumption | apply mem_tl) ?_ | exact sub_nil | apply sub_refl | apply sub_tail)
          have hl7 : Hid (l7.length = 2 ^ (k - (j + 1))) := Lib.hid (by
            have e1 := h7.out
            rw [List.length_drop, List.length_take] at e1
            have := HL2.out; have := HH.out
            rw [show k - (j + 1) = k - j - 1 by omega]
            omega)
          have hne7 : ∀ q, (Value.slice A7 l7.length c7).ownBlock = some q → q ≠ g0 := fun q hq => by
            have h1 := (f7.own.base hq).1
            have h2 := (fc6.own.base (g := g0) rfl).2
            have h3 : (wr : World) = wr := rfl
            simp at h1 h2
            omega
          have fl7 := f7.lower (B' := B) (by have := E10.size; simp at this ⊢; omega)
          have hset : (cnt.set ix z).drop (k - (j + 1)) = z :: cnt.drop (k - j) := by
            have hi2 : k - (j + 1) = ix := by have := HIX.out; omega
            rw [hi2, List.drop_eq_getElem_cons (by rw [List.length_set]; exact hcl), List.getElem_set_self, List.drop_set_of_lt (by omega), show ix + 1 = k - j by omega]
          have HSET := Lib.hid hset
          clear hset
          go_wp2_with fail
          go_roundw
          case rel =>
            refine ⟨j + 1, A7, c7, l7, cnt.set ix z, st7, by omega, by go_num, rfl, hl7, Lib.hid (by rw [List.length_set]; exact hc.out), fl7, fc8, hne7, (E12.cntle (by omega)).know fun V hV => ?_⟩
            obtain ⟨⟨⟨⟨hK, hpos, heq⟩, e1⟩, e2⟩, e3⟩ := hV
            refine ⟨hK, ?_⟩
            have hlt2 := numV_lt V l
            rw [HL2.out] at hlt2
            have h2h : 2 ^ (k - j) = 2 * h := by have := HL2.out; rw [hl.out] at this; exact this
            rw [h2h] at heq
            have hz : V z = decide (numV V l / 2 ^ h = 0) := by
              rw [e2, e1, foldB_or, numV_drop]
              by_cases hq : numV V l / 2 ^ h = 0
              · rw [hq]; rfl
              · rw [decide_eq_true (p := numV V l / 2 ^ h ≠ 0) hq, decide_eq_false hq]; rfl
            obtain ⟨r1, r2⟩ := lead_step (n := numV V l7) hpos hlt2 heq (by rw [e3, hz, numV_take, numV_drop]; by_cases hq : numV V l / 2 ^ h = 0 <;> simp [hq])
            refine ⟨r1, ?_⟩
            rw [HSET.out, numV_cons, show k - (j + 1) = k - j - 1 by omega, HH.out, hz, ← r2]
            by_cases hq : numV V l / 2 ^ h = 0 <;> simp [hq]
          case measure => simp [intOf]; omega
        · obtain rfl : j = k := by omega
          have E7 := (E6.top.fine fc).only (L' := .word _ cnt :: L) (by repeat with_reducible first | refine sub_cons (by repeat with_reducible first | apply mem_hd | assumption | apply mem_tl) ?_ | exact sub_nil | apply sub_refl | apply sub_tail)
          go_wp2
          go_ret
          obtain rfl := HB.out
          have hcl : cnt.length = nbits xs.length := hc.out.trans HK.out.symm
          refine ⟨_, cnt, st2, Lib.hid hcl, rfl, E7.c.2, E7.ext, fc, ((E7.cntle (by omega)).done E).know fun V ⟨hK, hpos, heq⟩ => ⟨hK, ?_⟩⟩
          have h1l := numV_lt V l
          have hl1 := hl.out
          rw [Nat.sub_self, Nat.pow_zero] at hl1 heq
          rw [hl1] at h1l
          have hone : numV V l = 1 := by omega
          rw [hone, show nbits 1 = 1 from rfl, List.drop_zero] at heq
          dsimp only
          omega

theorem Env.norm (E : Env C p X st0 w st N L K) {v : Value} {xs : List Int} (hx : Ent.word v xs ∈ L) (h0 : 0 < xs.length) (h1 : xs.length ≤ 1023) (hN : N + 200000 < 1099511627776) :
    Calls Try.prog 66 #[.pointer (some ⟨p, 0, none⟩), v] w fun e w' => ∃ y r u q st', Hid (r.length = xs.length) ∧ Hid (q.length = nbits xs.length) ∧ e = .returned (.tuple #[y, u]) ∧ Kept w.heap.size (some p) w w' ∧ Ext st st' ∧ Fine w' p st' w.heap.size y r ∧ Fine w' p st' w.heap.size u q ∧
      Env C p w'.heap.size st0 w' st' (N + 200000) (.word u q :: .word y r :: L) (fun V => K V ∧ numV V q = xs.length - nbits (numV V xs) ∧ numV V r = numV V xs * 2 ^ (xs.length - nbits (numV V xs)) % 2 ^ xs.length) := by
  have hq0 : 0 < nbits xs.length := nbits_pos.2 h0
  have HN := Lib.hid hN
  clear hN
  go_enter Try.func66, Try.ntmps66
  go_wp2_with fail
  refine (E.mark.lead (xs := xs) (by repeat with_reducible first | apply mem_hd | assumption | apply mem_tl) h0 h1 (by have := HN.out; omega)).mono ?_
  rintro e w1 ⟨u, q, st1, hq, rfl, k1, x1, f1, E1⟩
  obtain ⟨M, hM⟩ : ∃ M, N + 100000 = M := ⟨_, rfl⟩
  rw [hM] at E1
  have HM := Lib.hid hM
  clear hM
  go_wp2_with fail
  refine (E1.left (xs := xs) (ys := q) (by repeat with_reducible first | apply mem_hd | assumption | apply mem_tl) (by repeat with_reducible first | apply mem_hd | assumption | apply mem_tl) h0 (by have := hq.out; omega) (by have := HM.out; have := HN.out; omega)).mono ?_
  rintro e w2 ⟨y, r, st2, hr, rfl, k2, x2, f2, E2⟩
  go_wp2
  go_ret2
  have E3 := (E2.only (L' := .word u q :: .word y r :: L) (by repeat with_reducible first | refine sub_cons (by repeat with_reducible first | apply mem_hd | assumption | apply mem_tl) ?_ | exact sub_nil | apply sub_refl | apply sub_tail)).cntle (N' := N + 200000) (by have := HM.out; omega)
  have E4 := (E3.done E).know (K' := fun V => K V ∧ numV V q = xs.length - nbits (numV V xs) ∧ numV V r = numV V xs * 2 ^ (xs.length - nbits (numV V xs)) % 2 ^ xs.length) fun V ⟨⟨h, e1⟩, e2⟩ => ⟨h, e1, by rw [e2, e1]⟩
  exact ⟨y, r, u, q, st2, hr, hq, rfl, E2.c.2, E2.ext, f2.lower k1.size, f1.kept k2 x2, E4⟩
end
end Go.Proofs.Ytdljgifoboiaeaa
