/- shift: Right. -/
import Derived.Test.YtdljgifoboiaeaaShift2
namespace Go.Proofs.Ytdljgifoboiaeaa
open Go.RowKit

/-- one step to the right -/
theorem right_step {n far k o s x : Nat} (hn : far = min (2 ^ k) n) (ho : o = x / 2 ^ s) (hx : o < 2 ^ n) : o / 2 ^ far = x / 2 ^ (s + 2 ^ k) ∧ (decide (x % 2 ^ s ≠ 0) || decide (o % 2 ^ far ≠ 0)) = decide (x % 2 ^ (s + 2 ^ k) ≠ 0) := by
  have h1 : o / 2 ^ far = o / 2 ^ (2 ^ k) ∧ o % 2 ^ far = o % 2 ^ (2 ^ k) := by
    rcases Nat.lt_or_ge (2 ^ k) n with h | h
    · rw [hn, Nat.min_eq_left (by omega)]; exact ⟨rfl, rfl⟩
    · have h2 : 2 ^ n ≤ 2 ^ (2 ^ k) := Nat.pow_le_pow_right (by decide) h
      rw [hn, Nat.min_eq_right h, Nat.div_eq_of_lt hx, Nat.div_eq_of_lt (by omega), Nat.mod_eq_of_lt hx, Nat.mod_eq_of_lt (by omega)]
      exact ⟨rfl, rfl⟩
  have h3 : x % 2 ^ (s + 2 ^ k) = x % 2 ^ s + 2 ^ s * (x / 2 ^ s % 2 ^ (2 ^ k)) := by rw [Nat.pow_add, Nat.mod_mul]
  rw [h1.1, h1.2, h3, ho, Nat.div_div_eq_div_mul, ← Nat.pow_add]
  refine ⟨rfl, ?_⟩
  have hp := Nat.two_pow_pos s
  generalize x % 2 ^ s = a
  generalize x / 2 ^ s % 2 ^ (2 ^ k) = b
  generalize 2 ^ s = q at *
  by_cases ha : a = 0
  · subst ha
    by_cases hb : b = 0
    · subst hb; simp
    · have : q * b ≠ 0 := Nat.mul_ne_zero (by omega) hb
      simp [hb, this]
  · simp [ha]

section
variable {C : World → Prop} {p X : Nat} {st0 st : BSt} {w : World} {N : Nat} {L : List Ent} {K : (Int → Bool) → Prop}
set_option maxHeartbeats 4000000 in
set_option maxRecDepth 100000 in
attribute [local go_sem] max2_int min2_int max_two min_two in
theorem Env.right (E : Env C p X st0 w st N L K) {v u : Value} {xs ys : List Int} (hx : Ent.word v xs ∈ L) (hy : Ent.word u ys ∈ L) (h0 : 0 < xs.length) (h1 : 0 < ys.length) (hN : N + 100000 < 1099511627776) :
    Calls Try.prog 60 #[.pointer (some ⟨p, 0, none⟩), v, u] w (ToldWP C p st0 st w (N + 100000) L K xs.length fun V r c => numV V r = numV V xs / 2 ^ numV V ys ∧ V c = decide (numV V xs % 2 ^ numV V ys ≠ 0)) := by
  have hl := E.len hx
  have hl2 := E.len hy
  obtain ⟨A1, c1, rfl, -, -⟩ := E.shape hx
  obtain ⟨m, hm⟩ : ∃ m, min (nbits (xs.length - 1)) ys.length = m := ⟨_, rfl⟩
  have hm10 : m ≤ 10 := by have : nbits (xs.length - 1) ≤ 10 := nbits_le (by omega); omega
  have hym : (ys.take m).length = m := by rw [List.length_take]; omega
  have HYM := Lib.hid hym
  clear hym
  go_enter Try.func60, Try.ntmps60
  go_wp2_with fail
  refine (E.mark.amounts (ys := ys) (by repeat with_reducible first | apply mem_hd | assumption | apply mem_tl) h1 xs.length (by omega) m hm (by omega)).mono ?_
  rintro e w1 ⟨vl, call, st1, rfl, k1, x1, E1⟩
  obtain ⟨A2, c2, rfl, -, -⟩ := E1.shape (xs := ys.take m) (by repeat with_reducible first | apply mem_hd | assumption | apply mem_tl)
  rw [HYM.out] at E1 ⊢
  go_wp2_with fail
  refine (E1.clone (xs := xs) (by repeat with_reducible first | apply mem_hd | assumption | apply mem_tl)).mono ?_
  rintro e w2 ⟨v2, r0, st2, h2, rfl, k2, x2, f2, E2⟩
  have HM := Lib.hid hm
  clear hm
  obtain ⟨A3, c3, rfl, -, -⟩ := E2.shape (xs := r0) (by repeat with_reducible first | apply mem_hd | assumption | apply mem_tl)
  rw [h2.out] at E2 ⊢
  go_wp2_with fail
  refine (E2.bit 0 (by omega)).mono ?_
  rintro e w3 ⟨l0, st3, rfl, k3, x3, E2⟩
  have E2 := E2.top
  clear f2 E1 k1 k2 x1 x2 k3 x3
  go_wp2_with fail
  go_loopw [10, 11, 30] (fun ov lv iv wr => ∃ (k : Nat) (A : Option Addr) (c : Nat) (r : List Int) (lost : Int) (st' : BSt), k ≤ m ∧ iv = .int .i64 (k : Nat) ∧ ov = .slice A xs.length c ∧ lv = .int .i64 lost ∧ Hid (r.length = xs.length) ∧
      Env (fun a => C a ∧ Kept w.heap.size (some p) w a) p wr.heap.size st wr st' (N + 1025 + 6200 * k) (.word (.slice A xs.length c) r :: .pl lost :: .pl call :: .word (.slice A2 m c2) (ys.take m) :: L) (fun V => (K V ∧ V call = decide (2 ^ m ≤ numV V ys)) ∧ numV V r = numV V xs / 2 ^ numV V (ys.take k) ∧ V lost = decide (numV V xs % 2 ^ numV V (ys.take k) ≠ 0)))
    (fun _ _ iv _ => m - (intOf iv).toNat)
  case atStart => exact ⟨0, A3, c3, r0, l0, st3, by omega, rfl, rfl, rfl, h2, (E2.only (by repeat with_reducible first | refine sub_cons (by repeat with_reducible first | apply mem_hd | assumption | apply mem_tl) ?_ | exact sub_nil | apply sub_refl | apply sub_tail)).know fun V ⟨⟨h, e⟩, e2⟩ => ⟨h, by rw [e, List.take_zero, numV_nil, Nat.pow_zero, Nat.div_one], by rw [List.take_zero, numV_nil, Nat.pow_zero, Nat.mod_one]; exact e2⟩⟩
  case round =>
    clear E2
    obtain ⟨k, A, c, r, lost, st', hk, rfl, rfl, rfl, hr, E3⟩ := hrel
    by_cases hlt : k < m
    · obtain ⟨far, hfar⟩ : ∃ far, min (2 ^ k) xs.length = far := ⟨_, rfl⟩
      have hp2 : 2 ^ k ≤ 1024 := (Nat.pow_le_pow_right (by decide) (by omega) : 2 ^ k ≤ 2 ^ 10)
      have hp3 : 0 < 2 ^ k := Nat.two_pow_pos k
      have hw := wrap_pow hp2 hfar
      have hfn : far ≤ xs.length := by omega
      have hf0 : 0 < far := by omega
      have HFAR := Lib.hid hfar
      clear hfar hp2 hp3
      obtain ⟨b3, o3, rfl⟩ := E3.start_ (A := A) (by repeat with_reducible first | apply mem_hd | assumption | apply mem_tl) (by have := hr.out; omega)
      have hnc : xs.length ≤ c := by obtain ⟨A', c', he, h1, -⟩ := E3.shape (xs := r) (by repeat with_reducible first | apply mem_hd | assumption | apply mem_tl); injection he with _ _ he; have := hr.out; omega
      have hfc : far ≤ c := by omega
      have hkm : k < (ys.take m).length := by have := HYM.out; omega
      obtain ⟨b4, o4, rfl⟩ := E3.start_ (A := A2) (by repeat with_reducible first | apply mem_hd | assumption | apply mem_tl) (by omega)
      have hky : k < ys.length := by rw [List.length_take] at hkm; omega
      have hg : (ys.take m)[k] = ys[k] := by simp
      have kc := (E3.okay (v := .slice (some ⟨b4, o4, none⟩) m c2) (xs := ys.take m) (by repeat with_reducible first | apply mem_hd | assumption | apply mem_tl)).at hkm
      rw [hg] at kc
      have E4 := ((E3.addPl kc).wTake (xs := r) (A := some ⟨b3, o3, none⟩) (m := xs.length) (c := c) (by repeat with_reducible first | apply mem_hd | assumption | apply mem_tl) far hfn).drew
      have q1 := E4.cell (b := b4) (off := o4) (m := m) (c := c2) (xs := ys.take m) (by repeat with_reducible first | apply mem_hd | assumption | apply mem_tl) hkm
      rw [hg] at q1
      go_wp2_with fail
      go_region_held3 (fun w' => w'.cell? ⟨b4, o4 + k, none⟩ = some (.int .i64 ys[k])) (first | with_reducible exact q1 | with_reducible exact q2 | with_reducible exact q3)
        (first | (go_at_call 118; refine (E4.fold 4 (xs := r.take far) (by repeat with_reducible first | apply mem_hd | assumption | apply mem_tl) (by omega)).mono ?_; rintro e w4 ⟨g1, st4, rfl, k4, x4, E5⟩; have q2 := E5.cell (b := b4) (off := o4) (m := m) (c := c2) (xs := ys.take m) (by repeat with_reducible first | apply mem_hd | assumption | apply mem_tl) hkm; rw [hg] at q2) | (go_at_call 83; refine (E5.and (x := g1) (y := ys[k]) (by repeat with_reducible first | apply mem_hd | assumption | apply mem_tl) (by repeat with_reducible first | apply mem_hd | assumption | apply mem_tl) (by omega)).mono ?_; rintro e w5 ⟨g2, st5, rfl, k5, x5, E6⟩; have q3 := E6.cell (b := b4) (off := o4) (m := m) (c := c2) (xs := ys.take m) (by repeat with_reducible first | apply mem_hd | assumption | apply mem_tl) hkm; rw [hg] at q3))
      go_wp2_with fail
      refine (E6.or (x := lost) (y := g2) (by repeat with_reducible first | apply mem_hd | assumption | apply mem_tl) (by repeat with_reducible first | apply mem_hd | assumption | apply mem_tl) (by omega)).mono ?_
      rintro e w6 ⟨l2, st6, rfl, k6, x6, E7⟩
      have E8 := E7.only (L' := .pl ys[k] :: .pl l2 :: .word (.slice (some ⟨b3, o3, none⟩) xs.length c) r :: .pl call :: .word (.slice (some ⟨b4, o4, none⟩) m c2) (ys.take m) :: L) (by repeat with_reducible first | refine sub_cons (by repeat with_reducible first | apply mem_hd | assumption | apply mem_tl) ?_ | exact sub_nil | apply sub_refl | apply sub_tail)
      clear hw E4 E5 E6 E7 q1 q2 q3 kc
      by_cases hcf : c = far
      · obtain rfl : far = xs.length := by omega
        obtain rfl : xs.length = c := by omega
        have hdr : r.drop xs.length = [] := List.drop_of_length_le (by have := hr.out; omega)
        have E9 := E8.wNil ⟨b3, o3, none⟩ 0 (Nat.zero_le _)
        rw [← hdr] at E9
        go_wp2_with fail
        refine (E9.clone (v := .slice (some ⟨b3, o3, none⟩) 0 0) (xs := r.drop xs.length) (by repeat with_reducible first | apply mem_hd | assumption | apply mem_tl)).mono ?_
        rintro e w7 ⟨v7, r7, st7, h7, rfl, k7, x7, f7, E10⟩
        go_wp2_with fail
        refine (E10.padNil xs.length (by omega) (by omega)).mono ?_
        rintro e w8 ⟨v8, r8, st8, h8, rfl, k8, x8, f8, E11⟩
        obtain ⟨A8, c8, rfl, -, -⟩ := E11.shape (xs := r8) (by repeat with_reducible first | apply mem_hd | assumption | apply mem_tl)
        have f7 := f7.kept k8 x8
        have hl7 := h7.out
        rw [List.length_drop] at hl7
        have hl8 : Hid (r8.length = xs.length) := Lib.hid (by have := h8.out; omega)
        have t1 := E11.wdTop (xs := r8) (by repeat with_reducible first | apply mem_hd | assumption | apply mem_tl)
        have t2 := E11.okay (xs := r8) (by repeat with_reducible first | apply mem_hd | assumption | apply mem_tl)
        have E12 := E9.behind (k7.then k8) (x7.trans x8) E11
        have t3 : wr.heap.size ≤ w6.heap.size := E9.size
        have t4 : w6.heap.size ≤ w8.heap.size := Nat.le_trans k7.size k8.size
        have t5 : 0 < r8.length := by have := hl8.out; omega
        have t6 : r7.length + r8.length ≤ 1024 := by have := hl8.out; have := hr.out; omega
        clear E10 E11 k7 k8 x7 x8 f8
        go_wp2_with (at_builtin; refine appE rfl (.tmp 56) (.tmp 59) rfl Try.underlying26 infoInt E12 f7 t3 t4 rfl rfl t1 t2 t5 t6 ?_; intro v9 w9 k9 f9 E13; have q1 := E13.cell (b := b4) (off := o4) (m := m) (c := c2) (xs := ys.take m) (by repeat with_reducible first | apply mem_hd | assumption | apply mem_tl) hkm; rw [hg] at q1)
        have E13 := (E13.top.fine f9).only (L' := .word v9 (r7 ++ r8) :: .pl ys[k] :: .pl l2 :: .word (.slice (some ⟨b3, o3, none⟩) xs.length xs.length) r :: .pl call :: .word (.slice (some ⟨b4, o4, none⟩) m c2) (ys.take m) :: L) (by repeat with_reducible first | refine sub_cons (by repeat with_reducible first | apply mem_hd | assumption | apply mem_tl) ?_ | exact sub_nil | apply sub_refl | apply sub_tail)
        have hlen9 : Hid ((r7 ++ r8).length = xs.length) := Lib.hid (by rw [List.length_append]; have := hl8.out; have := hr.out; omega)
        clear t1 t2 t3 t4 t5 t6 f7 f9 E12 k9 hl7
        go_wp2_with fail
        refine (E13.pick (xs := r) (ys := r7 ++ r8) (c := ys[k]) (by repeat with_reducible first | apply mem_hd | assumption | apply mem_tl) (by repeat with_reducible first | apply mem_hd | assumption | apply mem_tl) (by repeat with_reducible first | apply mem_hd | assumption | apply mem_tl) (by omega)).mono ?_
        rintro e w10 ⟨v10, r10, st10, h10, rfl, k10, x10, f10, E14⟩
        have hl10 : Hid (r10.length = xs.length) := Lib.hid (by have := h10.out; have := hr.out; have := hlen9.out; omega)
        obtain ⟨A10, c10, rfl, -, -⟩ := E14.shape (xs := r10) (by repeat with_reducible first | apply mem_hd | assumption | apply mem_tl)
        rw [hl10.out] at E14 ⊢
        go_wp2_with fail
        go_roundw
        case rel =>
          refine ⟨k + 1, A10, c10, r10, l2, st10, by omega, by go_num, rfl, rfl, hl10, ((E14.only (L' := .word (.slice A10 xs.length c10) r10 :: .pl l2 :: .pl call :: .word (.slice (some ⟨b4, o4, none⟩) m c2) (ys.take m) :: L) (by repeat with_reducible first | refine sub_cons (by repeat with_reducible first | apply mem_hd | assumption | apply mem_tl) ?_ | exact sub_nil | apply sub_refl | apply sub_tail)).cntle (by omega)).know fun V hV => ?_⟩
          obtain ⟨⟨⟨⟨⟨⟨⟨⟨hK, hcall⟩, e1, e2⟩, e3⟩, e4⟩, e5⟩, e6⟩, e7⟩, e8⟩ := hV
          refine ⟨⟨hK, hcall⟩, ?_⟩
          obtain ⟨s1, s2⟩ := right_step (n := xs.length) HFAR.out.symm e1 (by have := numV_lt V r; rwa [hr.out] at this)
          rw [e8, num_take_succ V hky, numV_append, e6, e7, Nat.mul_zero, Nat.add_zero, numV_drop]
          rw [e5, e4, e3, foldB_or, numV_take V r, e2]
          obtain ⟨bb, hbb⟩ : ∃ b, V ys[k] = b := ⟨_, rfl⟩
          rw [hbb]
          clear hbb
          clear E13 E14 E8 E9 E3 E
          cases bb
          · rw [if_neg (by decide), Bool.and_false, Bool.or_false, Bool.toNat_false, Nat.mul_zero, Nat.add_zero]; exact ⟨e1, rfl⟩
          · rw [if_pos rfl, Bool.and_true, Bool.toNat_true, Nat.mul_one]; exact ⟨s1, s2⟩
        case measure => simp [intOf]; omega
      · have E9 := E8.wDrop (b := b3) (off := o3) (m := xs.length) (c := c) (xs := r) (by repeat with_reducible first | apply mem_hd | assumption | apply mem_tl) far hfn
        go_wp2_with fail
        refine (E9.clone (v := .slice (some ⟨b3, o3 + far, none⟩) (xs.length - far) (c - far)) (xs := r.drop far) (by repeat with_reducible first | apply mem_hd | assumption | apply mem_tl)).mono ?_
        rintro e w7 ⟨v7, r7, st7, h7, rfl, k7, x7, f7, E10⟩
        go_wp2_with fail
        refine (E10.padNil far (by omega) (by omega)).mono ?_
        rintro e w8 ⟨v8, r8, st8, h8, rfl, k8, x8, f8, E11⟩
        obtain ⟨A8, c8, rfl, -, -⟩ := E11.shape (xs := r8) (by repeat with_reducible first | apply mem_hd | assumption | apply mem_tl)
        have f7 := f7.kept k8 x8
        have hl7 := h7.out
        rw [List.length_drop] at hl7
        have hl8 : Hid (r8.length = far) := Lib.hid (by have := h8.out; omega)
        have t1 := E11.wdTop (xs := r8) (by repeat with_reducible first | apply mem_hd | assumption | apply mem_tl)
        have t2 := E11.okay (xs := r8) (by repeat with_reducible first | apply mem_hd | assumption | apply mem_tl)
        have E12 := E9.behind (k7.then k8) (x7.trans x8) E11
        have t3 : wr.heap.size ≤ w6.heap.size := E9.size
        have t4 : w6.heap.size ≤ w8.heap.size := Nat.le_trans k7.size k8.size
        have t5 : 0 < r8.length := by have := hl8.out; omega
        have t6 : r7.length + r8.length ≤ 1024 := by have := hl8.out; have := hr.out; omega
        clear E10 E11 k7 k8 x7 x8 f8
        go_wp2_with (at_builtin; refine appE rfl (.tmp 56) (.tmp 59) rfl Try.underlying26 infoInt E12 f7 t3 t4 rfl rfl t1 t2 t5 t6 ?_; intro v9 w9 k9 f9 E13; have q1 := E13.cell (b := b4) (off := o4) (m := m) (c := c2) (xs := ys.take m) (by repeat with_reducible first | apply mem_hd | assumption | apply mem_tl) hkm; rw [hg] at q1)
        have E13 := (E13.top.fine f9).only (L' := .word v9 (r7 ++ r8) :: .pl ys[k] :: .pl l2 :: .word (.slice (some ⟨b3, o3, none⟩) xs.length c) r :: .pl call :: .word (.slice (some ⟨b4, o4, none⟩) m c2) (ys.take m) :: L) (by repeat with_reducible first | refine sub_cons (by repeat with_reducible first | apply mem_hd | assumption | apply mem_tl) ?_ | exact sub_nil | apply sub_refl | apply sub_tail)
        have hlen9 : Hid ((r7 ++ r8).length = xs.length) := Lib.hid (by rw [List.length_append]; have := hl8.out; have := hr.out; omega)
        clear t1 t2 t3 t4 t5 t6 f7 f9 E12 k9 hl7
        go_wp2_with fail
        refine (E13.pick (xs := r) (ys := r7 ++ r8) (c := ys[k]) (by repeat with_reducible first | apply mem_hd | assumption | apply mem_tl) (by repeat with_reducible first | apply mem_hd | assumption | apply mem_tl) (by repeat with_reducible first | apply mem_hd | assumption | apply mem_tl) (by omega)).mono ?_
        rintro e w10 ⟨v10, r10, st10, h10, rfl, k10, x10, f10, E14⟩
        have hl10 : Hid (r10.length = xs.length) := Lib.hid (by have := h10.out; have := hr.out; have := hlen9.out; omega)
        obtain ⟨A10, c10, rfl, -, -⟩ := E14.shape (xs := r10) (by repeat with_reducible first | apply mem_hd | assumption | apply mem_tl)
        rw [hl10.out] at E14 ⊢
        go_wp2_with fail
        go_roundw
        case rel =>
          refine ⟨k + 1, A10, c10, r10, l2, st10, by omega, by go_num, rfl, rfl, hl10, ((E14.only (L' := .word (.slice A10 xs.length c10) r10 :: .pl l2 :: .pl call :: .word (.slice (some ⟨b4, o4, none⟩) m c2) (ys.take m) :: L) (by repeat with_reducible first | refine sub_cons (by repeat with_reducible first | apply mem_hd | assumption | apply mem_tl) ?_ | exact sub_nil | apply sub_refl | apply sub_tail)).cntle (by omega)).know fun V hV => ?_⟩
          obtain ⟨⟨⟨⟨⟨⟨⟨⟨hK, hcall⟩, e1, e2⟩, e3⟩, e4⟩, e5⟩, e6⟩, e7⟩, e8⟩ := hV
          refine ⟨⟨hK, hcall⟩, ?_⟩
          obtain ⟨s1, s2⟩ := right_step (n := xs.length) HFAR.out.symm e1 (by have := numV_lt V r; rwa [hr.out] at this)
          rw [e8, num_take_succ V hky, numV_append, e6, e7, Nat.mul_zero, Nat.add_zero, numV_drop]
          rw [e5, e4, e3, foldB_or, numV_take V r, e2]
          obtain ⟨bb, hbb⟩ : ∃ b, V ys[k] = b := ⟨_, rfl⟩
          rw [hbb]
          clear hbb
          clear E13 E14 E8 E9 E3 E
          cases bb
          · rw [if_neg (by decide), Bool.and_false, Bool.or_false, Bool.toNat_false, Nat.mul_zero, Nat.add_zero]; exact ⟨e1, rfl⟩
          · rw [if_pos rfl, Bool.and_true, Bool.toNat_true, Nat.mul_one]; exact ⟨s1, s2⟩
        case measure => simp [intOf]; omega
    · obtain rfl : k = m := by omega
      go_wp2_with fail
      refine (E3.fold 4 (xs := xs) (by repeat with_reducible first | apply mem_hd | assumption | apply mem_tl) (by omega)).mono ?_
      rintro e w4 ⟨g1, st4, rfl, k4, x4, E4⟩
      go_wp2_with fail
      refine (E4.and (x := call) (y := g1) (by repeat with_reducible first | apply mem_hd | assumption | apply mem_tl) (by repeat with_reducible first | apply mem_hd | assumption | apply mem_tl) (by omega)).mono ?_
      rintro e w5 ⟨g2, st5, rfl, k5, x5, E5⟩
      go_wp2_with fail
      refine (E5.or (x := lost) (y := g2) (by repeat with_reducible first | apply mem_hd | assumption | apply mem_tl) (by repeat with_reducible first | apply mem_hd | assumption | apply mem_tl) (by omega)).mono ?_
      rintro e w6 ⟨g3, st6, rfl, k6, x6, E6⟩
      go_wp2_with fail
      refine (E6.none_ (xs := r) (c := call) (by repeat with_reducible first | apply mem_hd | assumption | apply mem_tl) (by repeat with_reducible first | apply mem_hd | assumption | apply mem_tl) (by omega)).mono ?_
      rintro e w7 ⟨v7, r7, st7, h7, rfl, k7, x7, f7, E7⟩
      go_wp2
      go_ret2
      refine ⟨v7, r7, g3, st7, Lib.hid (h7.out.trans hr.out), rfl, E7.c.2, E7.ext, f7.lower E6.c.2.size, (((E7.only (L' := .pl g3 :: .word v7 r7 :: L) (by repeat with_reducible first | refine sub_cons (by repeat with_reducible first | apply mem_hd | assumption | apply mem_tl) ?_ | exact sub_nil | apply sub_refl | apply sub_tail)).cntle (by omega)).done E).know fun V hV => ?_⟩
      obtain ⟨⟨⟨⟨⟨⟨hK, hcall⟩, e1, e2⟩, e3⟩, e4⟩, e5⟩, e6⟩ := hV
      refine ⟨hK, ?_⟩
      dsimp only
      rw [e6, e5, e4, e3, foldB_or, hcall, e1, e2, numV_take]
      have hxv := numV_lt V xs
      by_cases hb : 2 ^ k ≤ numV V ys
      · rw [decide_eq_true hb, if_pos rfl]
        have hyv := numV_lt V ys
        have hk2 : k < ys.length := by
          rcases Nat.lt_or_ge k ys.length with h | h
          · exact h
          · have := Nat.pow_le_pow_right (n := 2) (by decide) h; omega
        have hk3 : nbits (xs.length - 1) = k := by have := HM.out; omega
        have hn1 := lt_nbits (xs.length - 1)
        rw [hk3] at hn1
        have hle : 2 ^ xs.length ≤ 2 ^ numV V ys := Nat.pow_le_pow_right (by decide) (by omega)
        have hlt3 := Nat.lt_of_lt_of_le hxv hle
        rw [Nat.div_eq_of_lt hlt3, Nat.mod_eq_of_lt hlt3]
        refine ⟨rfl, ?_⟩
        by_cases hz : numV V xs = 0
        · rw [hz, Nat.zero_mod]; rfl
        · rw [decide_eq_true (p := numV V xs ≠ 0) hz, Bool.true_and, Bool.or_true]
      · rw [decide_eq_false hb, if_neg (by decide), Nat.mod_eq_of_lt (Nat.lt_of_not_le hb)]
        refine ⟨rfl, ?_⟩
        rw [Bool.false_and, Bool.or_false]
end
end Go.Proofs.Ytdljgifoboiaeaa
