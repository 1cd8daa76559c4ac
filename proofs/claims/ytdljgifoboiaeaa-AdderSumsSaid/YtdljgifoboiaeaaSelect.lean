/- adder.Select, walked. -/
import Derived.Test.YtdljgifoboiaeaaBag
import Derived.Test.YtdljgifoboiaeaaShift2
namespace Go.Proofs.Ytdljgifoboiaeaa
open Go.RowKit
attribute [local go_sem] Oper.semAt_some

/-- a block's sum, of the two that were made ready -/
theorem sel_step {R R5 R6 R7 a1 a2 x1 x2 l d : Nat} {c0 c5 c6 c8 c : Bool} (IH : R + 2 ^ l * c0.toNat = a1 + a2 + c.toNat) (e5 : R5 + 2 ^ d * c5.toNat = x1 + x2) (e6 : R6 + 2 ^ d * c6.toNat = x1 + x2 + 1)
    (e7 : R7 = if c0 then R6 else R5) (e8 : c8 = if c0 then c6 else c5) : R + 2 ^ l * R7 + 2 ^ (l + d) * c8.toNat = (a1 + 2 ^ l * x1) + (a2 + 2 ^ l * x2) + c.toNat := by
  have h : R7 + 2 ^ d * c8.toNat = x1 + x2 + c0.toNat := by subst e7; subst e8; cases c0 <;> simpa
  rw [Nat.pow_add, Nat.mul_assoc, Nat.add_assoc R, ← Nat.mul_add, h, Nat.mul_add, Nat.mul_add]
  omega
section
variable {C : World → Prop} {p X : Nat} {st0 st : BSt} {w : World} {N : Nat} {L : List Ent} {K : (Int → Bool) → Prop}

set_option maxHeartbeats 4000000 in
set_option maxRecDepth 100000 in
attribute [local go_sem] max2_int min2_int max_two min_two in
theorem Env.select (E : Env C p X st0 w st N L K) {v u : Value} {xs ys : List Int} {c : Int} (hx : Ent.word v xs ∈ L) (hy : Ent.word u ys ∈ L) (hc : Ent.pl c ∈ L) (blk : Int) (hblk : -4096 ≤ blk ∧ blk ≤ 4096) (hN : N + 40000000 < 1099511627776) :
    Calls Try.prog 54 #[.pointer (some ⟨p, 0, none⟩), v, u, .int .i64 c, .int .i64 blk] w (ToldWP C p st0 st w (N + 40000000) L K (max xs.length ys.length) fun V r c' => numV V r + 2 ^ max xs.length ys.length * (V c').toNat = numV V xs + numV V ys + (V c).toNat) := by
  have hl := E.len hx
  have hl2 := E.len hy
  obtain ⟨A1, c1, rfl, -, -⟩ := E.shape hx
  obtain ⟨A2, c2, rfl, -, -⟩ := E.shape hy
  obtain ⟨n, hn⟩ : ∃ n, max xs.length ys.length = n := ⟨_, rfl⟩
  obtain ⟨k, hk⟩ : ∃ k : Nat, max blk 1 = k := ⟨(max blk 1).toNat, by omega⟩
  have hk0 : 0 < k := by omega
  have hk1 : k ≤ 4096 := by omega
  rw [hn]
  have hn2 : n ≤ 1024 := by omega
  have HN := Lib.hid hn
  have HNN := Lib.hid hN
  clear hn hN
  refine (callsIn_wide (n := 3)).1 (callsIn_of_wp_marks Try.func54 rfl trivial (wpIn_wide.2 ?_))
  simp only [Try.ntmps54, List.size_toArray, List.length_cons, List.length_nil, Nat.reduceAdd, Nat.reduceSub, Array.replicate_succ, Array.replicate_zero, List.push_toArray, List.append_toArray, List.nil_append, List.cons_append]
  have E1 := E.mark.alloc (.cells #[.pointer (some ⟨p, 0, none⟩)] 24)
  have b5 := E.box (.pointer (some ⟨p, 0, none⟩)) 24
  have E2 := E1.alloc (.cells #[.slice A2 ys.length c2] 26)
  have b7 := E1.box (.slice A2 ys.length c2) 26
  have E3 := E2.alloc (.cells #[.int .i64 c] 3)
  have b8 := E2.box (.int .i64 c) 3
  have ka : ∀ {V : World} (o : Obj), Env (fun a => C a ∧ Kept w.heap.size (some p) w a) p w.heap.size st V st N L K → Kept V.heap.size (some p) V (V.alloc o) := fun o EV => Kept.of_below_all ((Below.refl _ _).alloc (Nat.le_refl _) o) EV.rep.fin (Nat.le_refl _)
  have b5 := (b5.then (ka (.cells #[.slice A2 ys.length c2] 26) E1)).then (ka (.cells #[.int .i64 c] 3) E2)
  have b7 := b7.then (ka (.cells #[.int .i64 c] 3) E2)
  simp only [World.size_alloc] at b7 b8
  go_wp2_with fail
  refine (E3.level (xs := xs) (ys := ys) (by repeat with_reducible first | apply mem_hd | assumption | apply mem_tl) (by repeat with_reducible first | apply mem_hd | assumption | apply mem_tl) (by have := HNN.out; omega)).mono ?_
  rintro e w1 ⟨v1, r1, v2, r2, st1, h1, h2, rfl, k1, x1, f1, f2, E4⟩
  rw [HN.out] at h1 h2
  have b5 := b5.then k1
  have b7 := b7.then k1
  have b8 := b8.then k1
  have E5 := E3.behind k1 x1 E4
  simp only [World.size_alloc] at f1 f2
  obtain ⟨A3, c3, rfl, hc3, hm3⟩ := f1.own.shape
  obtain ⟨A4, c4, rfl, hc4, hm4⟩ := f2.own.shape
  rw [h1.out] at f1 hc3 ⊢
  rw [h2.out] at f2 hc4 ⊢
  obtain ⟨s1, s2, s3, s4, s5⟩ := b7.store E5 (by omega) (.slice A4 n c4)
  have b5 := s4 b5 (by omega)
  have b8 := s4 b8 (by omega)
  have f1 := s5 f1 (by omega)
  have f2 := s5 f2 (by omega)
  have q7 := b7.1
  have q7' := b7.2.1
  have q8 := b8.1
  have q5 := b5.1
  clear E1 E2 E4 E5 ka k1 x1 s3 s4 s5
  obtain ⟨W1, hW1⟩ : ∃ W1, w1.setCell ⟨w.heap.size + 1, 0, none⟩ (.slice A4 n c4) = W1 := ⟨_, rfl⟩
  rw [hW1] at s1 s2 b5 b8 f1 f2
  by_cases hle : n ≤ k
  · have hle2 : (n : Int) ≤ k := by omega
    have q5 := b5.1
    have q7 := s1.1
    have q8 := b8.1
    have ET := ((s2.fine f1).fine f2).only (L' := .word (.slice A4 n c4) r2 :: .word (.slice A3 n c3) r1 :: L) (by repeat with_reducible first | refine sub_cons (by repeat with_reducible first | apply mem_hd | assumption | apply mem_tl) ?_ | exact sub_nil | apply sub_refl | apply sub_tail)
    clear s1 s2 b5 b8 f1 f2 E3
    go_wp2_with fail
    try rw [hW1]
    go_wp2_with fail
    refine (ET.ripple (xs := r1) (ys := r2) (c := c) (by repeat with_reducible first | apply mem_hd | assumption | apply mem_tl) (by repeat with_reducible first | apply mem_hd | assumption | apply mem_tl) (by repeat with_reducible first | apply mem_hd | assumption | apply mem_tl) (by have := HNN.out; omega)).mono ?_
    rintro e w2 ⟨v5, r5, c5, st5, h5, rfl, k5, x5, f5, E5⟩
    rw [h1.out, h2.out, Nat.max_self] at h5 E5
    go_wp2
    refine ⟨.tuple #[v5, .int .i64 c5], by simp [results, Try.results54, go_sem], ⟨v5, r5, c5, st5, h5, rfl, E5.c.2, E5.ext, f5.lower (Nat.le_trans ET.c.2.size (Nat.le_refl _)), (E5.done E).only (by repeat with_reducible first | refine sub_cons (by repeat with_reducible first | apply mem_hd | assumption | apply mem_tl) ?_ | exact sub_nil | apply sub_refl | apply sub_tail) |>.cntle (by omega) |>.know fun V h => ⟨h.1.1, by have h2 := h.2; rw [h.1.2.1, h.1.2.2] at h2; exact h2⟩⟩⟩
  · have hle2 : ¬ (n : Int) ≤ k := by omega
    have hsz : W1.heap.size = w1.heap.size := by rw [← hW1]; simp
    have hbw : w.heap.size + 1 + 1 + 1 ≤ W1.heap.size := by have := b8.lt; omega
    have hf1 : ∀ g, Value.ownBlock (.slice A3 n c3) = some g → g < W1.heap.size := fun g hg => (f1.own.base hg).2
    have hf2 : ∀ g, Value.ownBlock (.slice A4 n c4) = some g → g < W1.heap.size := fun g hg => (f2.own.base hg).2
    -- the boxes of the sum and of the place
    have E6 := s2.alloc (.cells #[.slice none 0 0] 26)
    have b12 := s2.box (.slice none 0 0) 26
    have E7 := E6.alloc (.cells #[.int .i64 0] 3)
    have b13 := E6.box (.int .i64 0) 3
    have kk := (s2.kalloc (.cells #[.slice none 0 0] 26)).then (E6.kalloc (.cells #[.int .i64 0] 3))
    have b12 := b12.then (E6.kalloc (.cells #[.int .i64 0] 3))
    have b5 := b5.then kk
    have b7 := s1.then kk
    have b8 := b8.then kk
    have f1 := f1.kept kk (Ext.refl _)
    have f2 := f2.kept kk (Ext.refl _)
    simp only [World.size_alloc] at b13
    rw [hsz] at b12 b13 hbw hf1 hf2
    have bag := ((((((Bag.mk (p := p) (B := w.heap.size) (bx := []) (fs := []) (st := st1) (fun _ h => by simp at h) (fun _ h => by simp at h) E7.c.2.size).add b12).add b8).add b7).add b5).addF f2 |>.addF f1).add b13
    have hszW : ((W1.alloc (.cells #[.slice none 0 0] 26)).alloc (.cells #[.int .i64 0] 3)).heap.size = w1.heap.size + 2 := by simp [hsz]
    clear b5 b7 b8 b12 b13 f1 f2 s1 s2 kk E6
    go_wp2_with fail
    obtain ⟨W2, hW2⟩ : ∃ W2, (W1.alloc (.cells #[.slice none 0 0] 26)).alloc (.cells #[.int .i64 0] 3) = W2 := ⟨_, rfl⟩
    rw [hW2] at E7 bag hszW ⊢
    clear hW2 hW1 hsz q5 q7 q7' q8
    generalize w1.heap.size = b12 at *
    have u2 := E7
    have bag := bag.drew u2
    have E8 := u2.drew
    obtain ⟨N0, hN0⟩ : ∃ N0, N + 2048 = N0 := ⟨_, rfl⟩
    rw [hN0] at E8
    have hNb : N0 + 2 < 1099511627776 := by have := HNN.out; omega
    obtain ⟨K0, hK0⟩ : ∃ K0 : (Int → Bool) → Prop, K0 = fun V => K V ∧ (numV V r1 = numV V xs ∧ numV V r2 = numV V ys) := ⟨_, rfl⟩
    have E8 := E8.know (K' := K0) fun V h => by rw [hK0]; exact h
    have HK0 := Lib.hid hK0
    obtain ⟨bx, hbx⟩ : ∃ bx : List (Nat × Value), [(b12 + 1, .int .i64 0), (w.heap.size, .pointer (some ⟨p, 0, none⟩)), (w.heap.size + 1, .slice A4 n c4), (w.heap.size + 1 + 1, .int .i64 c), (b12, .slice none 0 0)] = bx := ⟨_, rfl⟩
    rw [hbx] at bag
    have bag := Bag.mk (B := W2.drew.heap.size) bag.box bag.fin (Nat.le_refl _)
    obtain ⟨fs, hfs⟩ : ∃ fs : List (Nat × Value × List Int), [(w.heap.size + 1 + 1 + 1, .slice A3 n c3, r1), (w.heap.size + 1 + 1 + 1, .slice A4 n c4, r2)] = fs := ⟨_, rfl⟩
    rw [hfs] at bag
    obtain ⟨BB, hBB⟩ : ∃ BB, W2.drew.heap.size = BB := ⟨_, rfl⟩
    rw [hBB] at bag
    have hsB : BB = b12 + 2 := hBB.symm.trans hszW
    have hm5 : ((w.heap.size, .pointer (some ⟨p, 0, none⟩)) : Nat × Value) ∈ bx := by rw [← hbx]; simp
    have hbB : ∀ q ∈ bx, q.1 < BB := fun q hq => by
      rw [← hbx] at hq
      simp only [List.mem_cons, List.not_mem_nil, or_false] at hq
      rcases hq with rfl | rfl | rfl | rfl | rfl <;> simp <;> omega
    have hfB : ∀ q ∈ fs, ∀ g, q.2.1.ownBlock = some g → g < BB := fun q hq g hg => by
      rw [← hfs] at hq
      simp only [List.mem_cons, List.not_mem_nil, or_false] at hq
      rcases hq with rfl | rfl
      · have := hf1 _ hg; omega
      · have := hf2 _ hg; omega
    have HBX := Lib.hid hbx
    have HFS := Lib.hid hfs
    have hq5 := (bag.box _ hm5).1
    clear hbx hfs hK0 u2 E7 E3 hBB
    refine wp_region_noPanic ?_
    refine wp_region_held_drew (S := fun w' => w'.cell? ⟨w.heap.size, 0, none⟩ = some (.pointer (some ⟨p, 0, none⟩))) (by kernel_rfl) hq5 (fun _ => ?_)
    (refine takeOp (i := 0) (v := ?_) rfl (by kernel_rfl) (by kernel_rfl) (by kernel_rfl) (fun _ _ _ h => h) (by rfl) ?_ (by assumption) ?_; rotate_left; (focus (intro w hSw; (try dsimp only at hSw); go_simp; try with_reducible rfl)); (try simp only [Act.put, List.setIfInBounds_toArray, List.set_cons_zero, List.set_cons_succ])); (refine takeOp (i := 2) (v := ?_) rfl (by kernel_rfl) (by kernel_rfl) (by kernel_rfl) (fun _ _ _ h => h) (by rfl) ?_ (by assumption) ?_; rotate_left; (focus (intro w hSw; (try dsimp only at hSw); go_simp; try with_reducible rfl)); (try simp only [Act.put, List.setIfInBounds_toArray, List.set_cons_zero, List.set_cons_succ]))
    refine named fun M Qn hM hQ => ?_
    have hMM := fun f li a w => (congrFun (congrFun (congrFun (congrFun hM f) li) a) w).mp
    have hQQ := fun a w => (congrFun (congrFun hQ a) w).mp
    -- gen_sel
    have key : ∀ (act : Act) (W : World) (st' : BSt) (z o : Int) (g4 g5 : Nat), (∃ u : Nat → Value, act = { tmps := ([u 0, .slice A3 n c3, u 2, u 3, .int .i64 k, .pointer (some ⟨w.heap.size, 0, none⟩), u 6, .pointer (some ⟨w.heap.size + 1, 0, none⟩), .pointer (some ⟨w.heap.size + 1 + 1, 0, none⟩), u 9, .slice none 0 0, .int .i64 0, .pointer (some ⟨b12, 0, none⟩), .pointer (some ⟨b12 + 1, 0, none⟩), .pointer (some ⟨g4, 0, none⟩), .pointer (some ⟨g5, 0, none⟩), u 16, u 17, u 18, u 19, u 20, u 21, u 22, u 23, u 24, u 25, u 26, u 27, u 28, u 29, u 30, u 31, u 32, u 33, u 34, u 35, u 36, u 37, u 38, u 39, u 40, u 41, .pointer (some ⟨p, 0, none⟩), u 43, .pointer (some ⟨p, 0, none⟩), u 45, u 46, u 47, u 48, u 49, u 50, u 51, u 52, u 53, u 54, u 55, u 56, u 57, u 58, u 59, u 60, u 61, u 62, u 63, u 64, u 65, u 66, u 67, u 68, u 69, u 70, u 71, u 72, u 73, u 74, u 75, u 76, u 77, u 78, u 79, u 80, u 81, u 82, u 83, u 84, u 85, u 86, u 87, u 88, u 89, u 90]).toArray, defers := [] }) → Env (fun a => C a ∧ Kept w.heap.size (some p) w a) p w.heap.size st W st' (N0 + 2) L K0 → Bag p BB bx fs W st' → Ext st1 st' → Box W p g4 (.int .i64 z) → Box W p g5 (.int .i64 o) → BB ≤ g4 → BB ≤ g5 → g4 ≠ g5 → At st' z → (∀ V, Sat V st'.nodes → V z = false) → At st' o → (∀ V, Sat V st'.nodes → V o = true) → Qn act W := by
      rintro _ W st2 z o g4 g5 ⟨u, rfl⟩ E8 bag8 x8 b4 b5 hg4 hg5 hne hz1 hz2 ho1 ho2
      rw [hQ]
      refine NoPanic.normal ?_
      have hn0 : 0 < n := by omega
      have F1 : Fine W p st2 (w.heap.size + 1 + 1 + 1) (.slice A3 n c3) r1 := bag8.fin (w.heap.size + 1 + 1 + 1, .slice A3 n c3, r1) (by rw [← HFS.out]; simp)
      have F2 : Fine W p st2 (w.heap.size + 1 + 1 + 1) (.slice A4 n c4) r2 := bag8.fin (w.heap.size + 1 + 1 + 1, .slice A4 n c4, r2) (by rw [← HFS.out]; simp)
      obtain ⟨g1, hg1⟩ : ∃ g1, A3 = some ⟨g1, 0, none⟩ := by
        obtain ⟨g, c', he, -⟩ := F1.own.form (by rw [h1.out]; exact hn0)
        injection he with he
        exact ⟨g, he⟩
      obtain ⟨g2, hg2⟩ : ∃ g2, A4 = some ⟨g2, 0, none⟩ := by
        obtain ⟨g, c', he, -⟩ := F2.own.form (by rw [h2.out]; exact hn0)
        injection he with he
        exact ⟨g, he⟩
      subst hg1; subst hg2
      have m5 : Box W p w.heap.size (.pointer (some ⟨p, 0, none⟩)) := bag8.box (w.heap.size, .pointer (some ⟨p, 0, none⟩)) (by rw [← HBX.out]; simp)
      have m7 : Box W p (w.heap.size + 1) (.slice (some ⟨g2, 0, none⟩) n c4) := bag8.box (w.heap.size + 1, .slice (some ⟨g2, 0, none⟩) n c4) (by rw [← HBX.out]; simp)
      have m8 : Box W p (w.heap.size + 1 + 1) (.int .i64 c) := bag8.box (w.heap.size + 1 + 1, .int .i64 c) (by rw [← HBX.out]; simp)
      have m12 : Box W p b12 (.slice none 0 0) := bag8.box (b12, .slice none 0 0) (by rw [← HBX.out]; simp)
      have m13 : Box W p (b12 + 1) (.int .i64 0) := bag8.box (b12 + 1, .int .i64 0) (by rw [← HBX.out]; simp)
      have E9 := (((E8.addPl hz1).addPl ho1).addPl (x := c) (E8.at_ (c := c) (by assumption))).learn (F := fun V => V z = false ∧ V o = true) fun V h => ⟨hz2 V h, ho2 V h⟩
      have hBW := bag8.size
      have Ea := E9.alloc (.cells #[.slice (some ⟨g1, 0, none⟩) n c3] 26)
      have n1 := E9.box (.slice (some ⟨g1, 0, none⟩) n c3) 26
      have Eb := Ea.alloc (.cells #[.int .i64 k] 3)
      have n2 := Ea.box (.int .i64 k) 3
      have kk := (E9.kalloc (.cells #[.slice (some ⟨g1, 0, none⟩) n c3] 26)).then (Ea.kalloc (.cells #[.int .i64 k] 3))
      have n1 := n1.then (Ea.kalloc (.cells #[.int .i64 k] 3))
      have m5 := m5.then kk
      have m7 := m7.then kk
      have m8 := m8.then kk
      have m12 := m12.then kk
      have m13 := m13.then kk
      have m4 := b4.then kk
      have mo := b5.then kk
      have F1 := F1.kept kk (Ext.refl _)
      have F2 := F2.kept kk (Ext.refl _)
      simp only [World.size_alloc] at n2
      have hl4 := b4.lt
      have hl5 := b5.lt
      have hl13 := m13.lt
      clear E9 Ea bag8 b4 b5 kk E8 hMM hQQ hM hQ
      have hck : (1 : Int) ≤ (k : Int) := by omega
      go_wp2_with fail
      refine (chunk_calls _ _ _ _ _ hck).mono ?_
      rintro e W3 ⟨rfl, rfl⟩
      go_wp2_with fail
      skip
      obtain ⟨W3, hW3⟩ : ∃ W3, (W.alloc (.cells #[.slice (some ⟨g1, 0, none⟩) n c3] 26)).alloc (.cells #[.int .i64 k] 3) = W3 := ⟨_, rfl⟩
      have hsz3 : W3.heap.size = W.heap.size + 1 + 1 := by rw [← hW3]; simp
      rw [hW3] at Eb n1 n2 m5 m7 m8 m12 m13 m4 mo F1 F2 ⊢
      have hXW := Eb.size
      obtain ⟨M0, hM0⟩ : ∃ M0, N0 + 2 = M0 := ⟨_, rfl⟩
      rw [hM0] at Eb
      clear hW3
      obtain ⟨I, hID⟩ : ∃ I : List Nat → World → Prop, I = fun pre V => ∃ sv r c' l st', Hid (min (k * pre.length) n = l ∧ r.length = l ∧ pre.length ≤ 1024) ∧ KeepsOthers W3 V ∧
          Box V p w.heap.size (.pointer (some ⟨p, 0, none⟩)) ∧ Box V p (w.heap.size + 1) (.slice (some ⟨g2, 0, none⟩) n c4) ∧ Box V p g4 (.int .i64 z) ∧ Box V p g5 (.int .i64 o) ∧ Box V p W.heap.size (.slice (some ⟨g1, 0, none⟩) n c3) ∧ Box V p (W.heap.size + 1) (.int .i64 k) ∧
          Box V p (w.heap.size + 1 + 1) (.int .i64 c') ∧ Box V p b12 sv ∧ Box V p (b12 + 1) (.int .i64 (l : Nat)) ∧
          Fine V p st' (w.heap.size + 1 + 1 + 1) (.slice (some ⟨g1, 0, none⟩) n c3) r1 ∧ Fine V p st' (w.heap.size + 1 + 1 + 1) (.slice (some ⟨g2, 0, none⟩) n c4) r2 ∧ Fine V p st' W3.heap.size sv r ∧
          Env (fun a => C a ∧ Kept w.heap.size (some p) w a) p w.heap.size st V st' (M0 + 24097 * pre.length) (.pl c' :: .pl o :: .pl z :: L) (fun V => (K0 V ∧ V z = false ∧ V o = true) ∧ numV V r + 2 ^ l * (V c').toNat = numV V (r1.take l) + numV V (r2.take l) + (V c).toNat) := ⟨_, rfl⟩
      have hI : ∀ pre, Calm W3.heap.size (I pre) := by
        rw [hID]
        rintro pre V V' row ⟨sv, r, c', l, st', i1, i2, i3, i4, i5, i6, i7, i8, i9, i10, i11, i12, i13, i14, i15⟩ hg hr
        have hr' : ∀ r, row = some r → w.heap.size ≤ r ∧ ∃ o : Obj, V.heap[r]? = some o ∧ o.isCells = false := fun r e => ⟨by have := (hr r e).1; omega, (hr r e).2⟩
        exact ⟨sv, r, c', l, st', i1, ⟨Nat.le_trans i2.size hg.size, fun k o hk ho => (hg.block k (Array.getElem?_eq_some_iff.1 (i2.same k o hk ho)).1 fun e => by have := (hr k e.symm).1; have := (Array.getElem?_eq_some_iff.1 hk).1; omega).trans (i2.same k o hk ho)⟩,
          i3.turned i15 hg hr', i4.turned i15 hg hr', i5.turned i15 hg hr', i6.turned i15 hg hr', i7.turned i15 hg hr', i8.turned i15 hg hr', i9.turned i15 hg hr', i10.turned i15 hg hr', i11.turned i15 hg hr', i12.turned i15 hg hr', i13.turned i15 hg hr', i14.turned i15 hg hr', (i15.turned hg hr').1⟩
      have hI0 : I [] W3 := hID ▸ ⟨.slice none 0 0, [], c, 0, st2, Lib.hid ⟨by simp, rfl, by simp⟩, KeepsOthers.refl _, m5, m7, m4, mo, n1, n2, m8, m12, m13, F1, F2, ⟨Own.nil _ _ _ _ _, Okay.nil _, by simp⟩, (Eb.know fun V h => ⟨h, by simp [numV_nil]⟩).cntle (by omega)⟩
      have HI := Lib.hid hI
      have HI0 := Lib.hid hI0
      have HID := Lib.hid hID
      clear hI hI0 hID
      refine wpIn_wide.1 (range_law (n := 3) (gf := 131) (lb := #[.pointer (some ⟨W.heap.size, 0, none⟩), .pointer (some ⟨W.heap.size + 1, 0, none⟩)]) rfl (enters_of Try.func131 (by kernel_rfl) rfl) (chunk_iter 2 W.heap.size (W.heap.size + 1) g1 0 n c3 k (by omega) (by unfold maxLen at hm3 ⊢; omega)) (fun _ => rfl) W3.heap.size (Nat.le_refl _) I HI.out ?hBx HI0.out
        (fun i => { tmps := ([u 0, .slice (some ⟨g1, 0, none⟩) n c3, u 2, u 3, .int .i64 k, .pointer (some ⟨w.heap.size, 0, none⟩), u 6, .pointer (some ⟨w.heap.size + 1, 0, none⟩), .pointer (some ⟨w.heap.size + 1 + 1, 0, none⟩), u 9, .slice none 0 0, .int .i64 0, .pointer (some ⟨b12, 0, none⟩), .pointer (some ⟨b12 + 1, 0, none⟩), .pointer (some ⟨g4, 0, none⟩), .pointer (some ⟨g5, 0, none⟩), chunkOf g1 0 n k i, u 17, u 18, u 19, u 20, u 21, u 22, u 23, u 24, u 25, u 26, u 27, u 28, u 29, u 30, u 31, u 32, u 33, u 34, u 35, u 36, u 37, u 38, u 39, u 40, u 41, .pointer (some ⟨p, 0, none⟩), u 43, .pointer (some ⟨p, 0, none⟩), u 45, .slice (some ⟨g1, 0, none⟩) n c3, .int .i64 k, .func (.func 131) #[] #[.pointer (some ⟨W.heap.size, 0, none⟩), .pointer (some ⟨W.heap.size + 1, 0, none⟩)], chunkOf g1 0 n k i, u 50, u 51, u 52, u 53, u 54, u 55, u 56, u 57, u 58, u 59, u 60, u 61, u 62, u 63, u 64, u 65, u 66, u 67, u 68, u 69, u 70, u 71, u 72, u 73, u 74, u 75, u 76, u 77, u 78, u 79, u 80, u 81, u 82, u 83, u 84, u 85, u 86, u 87, u 88, u 89, u 90]).toArray, defers := [] }) ?assign ?body ?done)
      case hBx =>
        intro pre V hI
        rw [HID.out] at hI
        obtain ⟨sv, r, c', l, st', i1, i2, i3, i4, i5, i6, i7, i8, i9, i10, i11, i12, i13, i14, i15⟩ := hI
        exact ⟨i7.1, i8.1⟩
      case assign =>
        intro l x V K hK
        gi_wp2
        exact hK
      case body =>
        intro l0 pre i V hI hx
        rw [HID.out] at hI
        obtain ⟨sv, r, c', l, st', i1, i2, i3, i4, i5, i6, i7, i8, i9, i10, i11, i12, i13, i14, i15⟩ := hI
        obtain ⟨hi, hin⟩ := hx
        obtain ⟨A12, c12, hv12, -, -⟩ := i14.own.shape
        subst hv12
        obtain rfl : l = i := by have := i1.out.1; omega
        obtain ⟨d, hd⟩ : ∃ d, min k (n - l) = d := ⟨_, rfl⟩
        obtain ⟨e, he⟩ : ∃ e, l + d = e := ⟨_, rfl⟩
        have hch : chunkOf g1 0 n k l = .slice (some ⟨g1, l, none⟩) d d := by unfold chunkOf; rw [hd, Nat.zero_add]
        rw [hch]
        have hd0 : 0 < d := by omega
        have hen : e ≤ n := by omega
        have HNX := Lib.hid (show min (k * (pre ++ [l]).length) n = e by rw [List.length_append, List.length_singleton, Nat.mul_add, ← hi, Nat.mul_one]; omega)
        have HIX := Lib.hid hi
        have HE := Lib.hid he
        have hs1 : (l : Int) + (d : Int) = (e : Int) := by omega
        have hs2 : IntKind.i64.wrap ((l : Int) + (d : Int)) = (e : Int) := by rw [hs1]; exact IntWalk.i64_in _ (by omega)
        have ha1 : e ≤ c4 := by omega
        have ha2 : ¬ c4 = l := by omega
        have ha3 : l ≤ e := by omega
        have ha4 : l ≤ c4 := by omega
        have q7 := i4.1
        have q13 := i11.1
        have q13' := i11.2.1
        obtain ⟨s13, sE, sK, sB, -⟩ := i11.store i15 (by omega) (.int .i64 (e : Nat))
        have j3 := sB i3 (by omega)
        have j4 := sB i4 (by omega)
        have j5 := sB i5 (by omega)
        have j6 := sB i6 (by omega)
        have j7 := sB i7 (by omega)
        have j8 := sB i8 (by omega)
        have j9 := sB i9 (by omega)
        have j10 := sB i10 (by omega)
        have G1 := i12.stored (v' := .int .i64 (e : Nat)) i11 (fun h => by have := hf1 _ h; omega)
        have G2 := i13.stored (v' := .int .i64 (e : Nat)) i11 (fun h => by have := hf2 _ h; omega)
        have G3 := i14.stored (v' := .int .i64 (e : Nat)) i11 (fun h => by have := (i14.own.base h).1; omega)
        have o1 : KeepsOthers V (V.setCell ⟨b12 + 1, 0, none⟩ (.int .i64 (e : Nat))) := KeepsOthers.setCell _ _ _
        have q5 := j3.1
        have q14 := j5.1
        clear hd he hi hch
        have q5b := j6.1
        have hx1 : r1.length = n := h1.out
        have hx2 : r2.length = n := h2.out
        obtain ⟨Na, hNa⟩ : ∃ Na, M0 + 24097 * pre.length = Na := ⟨_, rfl⟩
        have hpl : pre.length ≤ 1024 := i1.out.2.2
        have hbig := HNN.out
        have hNA : Na + 10000 < 1099511627776 := by omega
        have HNa := Lib.hid hNa
        obtain ⟨Nb, hNb⟩ : ∃ Nb, Na + 10000 = Nb := ⟨_, rfl⟩
        have HNb := Lib.hid hNb
        have hNB : Nb + 10000 < 1099511627776 := by omega
        obtain ⟨Nc, hNc⟩ : ∃ Nc, Nb + 10000 = Nc := ⟨_, rfl⟩
        have HNc := Lib.hid hNc
        have hNC : Nc + 4096 < 1099511627776 := by omega
        obtain ⟨Nd, hNd⟩ : ∃ Nd, Nc + 4096 = Nd := ⟨_, rfl⟩
        have HNd := Lib.hid hNd
        have hND : Nd < 1099511627776 := by omega
        rw [hNa] at sE i15
        clear hbig hNa
        have EA := (sE.top.fine G1).fine G2
        have EA := EA.wPart (xs := r1) (g := g1) (m := n) (c := c3) (by repeat with_reducible first | apply mem_hd | assumption | apply mem_tl) l d (by omega) (c' := d) (Nat.le_refl _) (by omega)
        have EA := EA.wPart (xs := r2) (g := g2) (m := n) (c := c4) (by repeat with_reducible first | apply mem_hd | assumption | apply mem_tl) l d (by omega) (c' := c4 - l) (by omega) (Nat.le_refl _)
        have lx1 : ((r1.drop l).take d).length = d := by simp; omega
        have lx2 : ((r2.drop l).take d).length = d := by simp; omega
        obtain ⟨X1, hX1⟩ : ∃ X1, (r1.drop l).take d = X1 := ⟨_, rfl⟩
        obtain ⟨X2, hX2⟩ : ∃ X2, (r2.drop l).take d = X2 := ⟨_, rfl⟩
        rw [hX1] at EA lx1
        rw [hX2] at EA lx2
        have HX1 := Lib.hid hX1
        have HX2 := Lib.hid hX2
        clear hX1 hX2
        have hs3 : e - l = d := by have := HE.out; omega
        have CA := EA.ripple (xs := X1) (ys := X2) (c := z) (by repeat with_reducible first | apply mem_hd | assumption | apply mem_tl) (by repeat with_reducible first | apply mem_hd | assumption | apply mem_tl) (by repeat with_reducible first | apply mem_hd | assumption | apply mem_tl) hNA
        rw [hNb] at CA
        have hVV := Lib.hid s13
        gi_wp2_with (refine ⟨trivial, ?_⟩; gi_at_call 53; refine (CallsIn.inRound l0 (callsIn_wide.2 CA)).mono ?_; rintro e2 w4 ⟨v5, r5, c5, st5, h5, rfl, k5, x5, f5, E5⟩; clear CA; have q5 := (j3.then k5).1; have q5b := (j6.then k5).1)
        rw [lx1, lx2, Nat.max_self] at h5 E5
        have CB := E5.ripple (xs := X1) (ys := X2) (c := o) (by repeat with_reducible first | apply mem_hd | assumption | apply mem_tl) (by repeat with_reducible first | apply mem_hd | assumption | apply mem_tl) (by repeat with_reducible first | apply mem_hd | assumption | apply mem_tl) hNB
        rw [hNc] at CB
        gi_wp2_with (refine ⟨trivial, ?_⟩; gi_at_call 53; refine (CallsIn.inRound l0 (callsIn_wide.2 CB)).mono ?_; rintro e2 w5 ⟨v6, r6, c6, st6, h6, rfl, k6, x6, f6, E6⟩; clear CB)
        rw [lx1, lx2, Nat.max_self] at h6 E6
        have k56 := k5.then k6
        have x56 := x5.trans x6
        have ka := k56.then E6.kdrew
        have E7 := E6.drew
        have j3 := j3.then ka
        have j4 := j4.then ka
        have j5 := j5.then ka
        have j6 := j6.then ka
        have j7 := j7.then ka
        have j8 := j8.then ka
        have j9 := j9.then ka
        have j10 := j10.then ka
        have j13 := s13.then ka
        have G1 := G1.kept ka x56
        have G2 := G2.kept ka x56
        have G3 := G3.kept ka x56
        have oa := sE.others ka
        have q5 := j3.1
        have q8 := j9.1
        have q12 := j10.1
        have hmx : Try.prog.follows .mixedOrders = true := by kernel_rfl
        have hc5 := (E7.at_ (c := c5) (by repeat with_reducible first | apply mem_hd | assumption | apply mem_tl))
        have hc6 := (E7.at_ (c := c6) (by repeat with_reducible first | apply mem_hd | assumption | apply mem_tl))
        refine regionIn (fun V' => V'.cell? ⟨w.heap.size, 0, none⟩ = some (.pointer (some ⟨p, 0, none⟩)) ∧ V'.cell? ⟨w.heap.size + 1 + 1, 0, none⟩ = some (.int .i64 c')) hmx (by kernel_rfl) (fun ⟨_, _, h, _⟩ => by cases h) ⟨q5, q8⟩ (fun hS => ?_)
        (refine takeOp (i := 1) (v := ?_) rfl (by kernel_rfl) (by kernel_rfl) (by kernel_rfl) (fun _ _ _ h => h) (by rfl) ?_ (by assumption) ?_; rotate_left; (focus (intro w hSw; (try dsimp only at hSw); go_simp; try with_reducible rfl)); (try simp only [Act.put, List.setIfInBounds_toArray, List.set_cons_zero, List.set_cons_succ])); (refine takeOp (i := 2) (v := ?_) rfl (by kernel_rfl) (by kernel_rfl) (by kernel_rfl) (fun _ _ _ h => h) (by rfl) ?_ (by assumption) ?_; rotate_left; (focus (intro w hSw; (try dsimp only at hSw); go_simp; try with_reducible rfl)); (try simp only [Act.put, List.setIfInBounds_toArray, List.set_cons_zero, List.set_cons_succ])); (refine takeOp (i := 3) (v := ?_) rfl (by kernel_rfl) (by kernel_rfl) (by kernel_rfl) (fun _ _ _ h => h) (by rfl) ?_ (by assumption) ?_; rotate_left; (focus (intro w hSw; (try dsimp only at hSw); go_simp; try with_reducible rfl)); (try simp only [Act.put, List.setIfInBounds_toArray, List.set_cons_zero, List.set_cons_succ])); (refine takeOp (i := 4) (v := ?_) rfl (by kernel_rfl) (by kernel_rfl) (by kernel_rfl) (fun _ _ _ h => h) (by rfl) ?_ (by assumption) ?_; rotate_left; (focus (intro w hSw; (try dsimp only at hSw); go_simp; try with_reducible rfl)); (try simp only [Act.put, List.setIfInBounds_toArray, List.set_cons_zero, List.set_cons_succ]))
        (refine twoOps (i := 0) (j := 5) rfl rfl (by kernel_rfl) (by rfl) (by rfl) (fun K hK => ?_) (fun K hK => ?_))
        · go_simp
          refine hK.out _ _ ⟨q5, q8⟩ (fun _ => ?_)
          clear hK K
          (try simp only [Act.put, List.setIfInBounds_toArray, List.set_cons_zero, List.set_cons_succ])
          (refine onlyOp (i := 5) rfl (by kernel_rfl) (by rfl) fun K hK => ?_)
          go_simp
          refine (E7.pick (xs := r5) (ys := r6) (c := c') (by repeat with_reducible first | apply mem_hd | assumption | apply mem_tl) (by repeat with_reducible first | apply mem_hd | assumption | apply mem_tl) (by repeat with_reducible first | apply mem_hd | assumption | apply mem_tl) hNC).mono ?_
          rintro e2 w6 ⟨v7, r7, st7, h7, rfl, k7, x7, f7, E8⟩
          obtain ⟨A7, c7, rfl, -, -⟩ := f7.own.shape
          refine hK.out _ _ ⟨(j3.then k7).1, (j9.then k7).1⟩ (fun _ => ?_)
          clear hK K
          (try simp only [Act.put, List.setIfInBounds_toArray, List.set_cons_zero, List.set_cons_succ])
          rw [h5.out, h6.out, Nat.max_self] at h7
          rw [hNd] at E8
          have kb := ka.then k7
          have xb := x56.trans x7
          have EL := sE.behind kb xb E8
          have j3 := j3.then k7
          have j4 := j4.then k7
          have j5 := j5.then k7
          have j6 := j6.then k7
          have j7 := j7.then k7
          have j8 := j8.then k7
          have j9 := j9.then k7
          have j10 := j10.then k7
          have j13 := j13.then k7
          have G1 := G1.kept k7 x7
          have G2 := G2.kept k7 x7
          have G3 := G3.kept k7 x7
          have ob := (o1.trans oa).trans (E7.others k7)
          have hB6 : W3.heap.size ≤ w6.heap.size := Nat.le_trans i2.size ob.size
          have h70 : 0 < r7.length := by rw [h7.out]; exact hd0
          have hl7 : r.length + r7.length ≤ 1024 := by rw [h7.out, i1.out.2.1, HE.out]; omega
          have hc5 := (E8.at_ (c := c5) (by repeat with_reducible first | apply mem_hd | assumption | apply mem_tl))
          have hc6 := (E8.at_ (c := c6) (by repeat with_reducible first | apply mem_hd | assumption | apply mem_tl))
          (refine onlyOp (i := 6) rfl (by kernel_rfl) (by rfl) fun K hK => ?_)
          refine appR (.tmp 77) (.tmp 82) rfl Try.underlying26 infoInt EL G3 hXW hB6 rfl rfl f7.row f7.okay h70 hl7 ?_
          intro v9 w9 k9 o9 gr9 f9 E9
          obtain ⟨A9, c9, hv9, -, -⟩ := f9.own.shape
          obtain ⟨m9, hm9⟩ : ∃ m, (r ++ r7).length = m := ⟨_, rfl⟩
          rw [hm9] at hv9
          subst hv9
          have HM9 := Lib.hid hm9
          clear hm9
          have G1 := G1.grown EL gr9 (fun g hg => G3.own.off hg) (.inr fun h => by have := (G3.own.base h.symm).1; have := hf1 _ rfl; omega)
          have G2 := G2.grown EL gr9 (fun g hg => G3.own.off hg) (.inr fun h => by have := (G3.own.base h.symm).1; have := hf2 _ rfl; omega)
          have j3 := j3.kept k9 (by omega)
          have j4 := j4.kept k9 (by omega)
          have j5 := j5.kept k9 (by omega)
          have j6 := j6.kept k9 (by omega)
          have j7 := j7.kept k9 (by omega)
          have j8 := j8.kept k9 (by omega)
          have j9 := j9.kept k9 (by omega)
          have j10 := j10.kept k9 (by omega)
          have j13 := j13.kept k9 (by omega)
          refine hK.out _ _ ⟨j3.1, j9.1⟩ (fun _ => ?_)
          clear hK K
          (try simp only [Act.put, List.setIfInBounds_toArray, List.set_cons_zero, List.set_cons_succ])
          have q12 := j10.1
          have q12' := j10.2.1
          (refine onlyOp (i := 7) rfl (by kernel_rfl) (by rfl) fun K hK => ?_)
          go_simp
          obtain ⟨s12, E10, k10, sB, -⟩ := j10.store E9 (by omega) (.slice A9 m9 c9)
          have G1 := G1.stored (v' := .slice A9 m9 c9) j10 (fun h => by have := hf1 _ h; omega)
          have G2 := G2.stored (v' := .slice A9 m9 c9) j10 (fun h => by have := hf2 _ h; omega)
          have f9 := f9.stored (v' := .slice A9 m9 c9) j10 (fun h => by have := (f9.own.base h).1; omega)
          have j3 := sB j3 (by omega)
          have j4 := sB j4 (by omega)
          have j5 := sB j5 (by omega)
          have j6 := sB j6 (by omega)
          have j7 := sB j7 (by omega)
          have j8 := sB j8 (by omega)
          have j9 := sB j9 (by omega)
          have j13 := sB j13 (by omega)
          refine hK.out _ _ ⟨j3.1, j9.1⟩ (fun _ => ?_)
          clear hK K
          (try simp only [Act.put, List.setIfInBounds_toArray, List.set_cons_zero, List.set_cons_succ])
          refine doneOp (by kernel_rfl) ?_
          have oc := (ob.trans o9).trans (KeepsOthers.setCell w9 ⟨b12, 0, none⟩ (.slice A9 m9 c9))
          have q3 := j3.1
          have q9 := j9.1
          have E11 := (E10.addPl hc5).addPl hc6
          have CM := E11.mux (x := c5) (y := c6) (c := c') (by repeat with_reducible first | apply mem_hd | assumption | apply mem_tl) (by repeat with_reducible first | apply mem_hd | assumption | apply mem_tl) (by repeat with_reducible first | apply mem_hd | assumption | apply mem_tl) hND
          clear q5 q8 q12 q12' hS E7 E8 E9 EL sE i15
          gi_wp2_with (refine ⟨trivial, ?_⟩; gi_at_call 84; refine (CallsIn.inRound l0 (callsIn_wide.2 CM)).mono ?_; rintro e2 w10 ⟨c8, st8, rfl, k11, x11, E12⟩; clear CM; have q8 := (j9.then k11).1; have q8' := (j9.then k11).2.1)
          have hj9 := j9.then k11
          obtain ⟨s9, E13, -, sB, -⟩ := hj9.store E12 (by omega) (.int .i64 c8)
          have j3 := sB (j3.then k11) (by omega)
          have j4 := sB (j4.then k11) (by omega)
          have j5 := sB (j5.then k11) (by omega)
          have j6 := sB (j6.then k11) (by omega)
          have j7 := sB (j7.then k11) (by omega)
          have j8 := sB (j8.then k11) (by omega)
          have j10 := sB (s12.then k11) (by omega)
          have j13 := sB (j13.then k11) (by omega)
          have G1 := (G1.kept k11 x11).stored (v' := .int .i64 c8) hj9 (fun h => by have := (G1.own.base h).1; omega)
          have G2 := (G2.kept k11 x11).stored (v' := .int .i64 c8) hj9 (fun h => by have := (G2.own.base h).1; omega)
          have f9 := (f9.kept k11 x11).stored (v' := .int .i64 c8) hj9 (fun h => by have := (f9.own.base h).1; omega)
          have od := (oc.trans (E10.others k11)).trans (KeepsOthers.setCell w10 ⟨w.heap.size + 1 + 1, 0, none⟩ (.int .i64 c8))
          refine ⟨od, ?_⟩
          rw [HID.out]
          refine ⟨.slice A9 m9 c9, r ++ r7, c8, e, st8, Lib.hid ⟨HNX.out, by rw [List.length_append, h7.out, i1.out.2.1, HE.out], ?_⟩, i2.trans od, j3, j4, j5, j6, j7, j8, s9, j10, j13, G1, G2, f9, (E13.only (L' := .pl c8 :: .pl o :: .pl z :: L) (by repeat with_reducible first | refine sub_cons (by repeat with_reducible first | apply mem_hd | assumption | apply mem_tl) ?_ | exact sub_nil | apply sub_refl | apply sub_tail)).cntle ?_ |>.know fun V ⟨⟨⟨⟨⟨hk0, IH⟩, e5⟩, e6⟩, e7⟩, e8⟩ => ⟨hk0, ?_⟩⟩
          · have h2 := Nat.le_mul_of_pos_left pre.length (show 0 < k by omega)
            rw [← HIX.out] at h2
            rw [List.length_append, List.length_singleton]
            omega
          · rw [List.length_append, List.length_singleton, Nat.mul_add]
            have h1 := HNa.out
            have h2 := HNb.out
            have h3 := HNc.out
            have h4 := HNd.out
            omega
          · have hl1 : (r1.take l).length = l := by rw [List.length_take]; omega
            have hl2' : (r2.take l).length = l := by rw [List.length_take]; omega
            rw [hk0.2.1] at e5
            rw [hk0.2.2] at e6
            rw [numV_append, i1.out.2.1, ← HE.out, List.take_add, List.take_add, numV_append, numV_append, hl1, hl2', HX1.out, HX2.out]
            exact sel_step IH e5 e6 e7 e8
        · go_simp
          refine (E7.pick (xs := r5) (ys := r6) (c := c') (by repeat with_reducible first | apply mem_hd | assumption | apply mem_tl) (by repeat with_reducible first | apply mem_hd | assumption | apply mem_tl) (by repeat with_reducible first | apply mem_hd | assumption | apply mem_tl) hNC).mono ?_
          rintro e2 w6 ⟨v7, r7, st7, h7, rfl, k7, x7, f7, E8⟩
          obtain ⟨A7, c7, rfl, -, -⟩ := f7.own.shape
          refine hK.out _ _ ⟨(j3.then k7).1, (j9.then k7).1⟩ (fun _ => ?_)
          clear hK K
          (try simp only [Act.put, List.setIfInBounds_toArray, List.set_cons_zero, List.set_cons_succ])
          have q12 := (j10.then k7).1
          (refine onlyOp (i := 0) rfl (by kernel_rfl) (by rfl) fun K hK => ?_)
          go_simp
          refine hK.out _ _ ⟨(j3.then k7).1, (j9.then k7).1⟩ (fun _ => ?_)
          clear hK K
          (try simp only [Act.put, List.setIfInBounds_toArray, List.set_cons_zero, List.set_cons_succ])
          rw [h5.out, h6.out, Nat.max_self] at h7
          rw [hNd] at E8
          have kb := ka.then k7
          have xb := x56.trans x7
          have EL := sE.behind kb xb E8
          have j3 := j3.then k7
          have j4 := j4.then k7
          have j5 := j5.then k7
          have j6 := j6.then k7
          have j7 := j7.then k7
          have j8 := j8.then k7
          have j9 := j9.then k7
          have j10 := j10.then k7
          have j13 := j13.then k7
          have G1 := G1.kept k7 x7
          have G2 := G2.kept k7 x7
          have G3 := G3.kept k7 x7
          have ob := (o1.trans oa).trans (E7.others k7)
          have hB6 : W3.heap.size ≤ w6.heap.size := Nat.le_trans i2.size ob.size
          have h70 : 0 < r7.length := by rw [h7.out]; exact hd0
          have hl7 : r.length + r7.length ≤ 1024 := by rw [h7.out, i1.out.2.1, HE.out]; omega
          have hc5 := (E8.at_ (c := c5) (by repeat with_reducible first | apply mem_hd | assumption | apply mem_tl))
          have hc6 := (E8.at_ (c := c6) (by repeat with_reducible first | apply mem_hd | assumption | apply mem_tl))
          (refine onlyOp (i := 6) rfl (by kernel_rfl) (by rfl) fun K hK => ?_)
          refine appR (.tmp 77) (.tmp 82) rfl Try.underlying26 infoInt EL G3 hXW hB6 rfl rfl f7.row f7.okay h70 hl7 ?_
          intro v9 w9 k9 o9 gr9 f9 E9
          obtain ⟨A9, c9, hv9, -, -⟩ := f9.own.shape
          obtain ⟨m9, hm9⟩ : ∃ m, (r ++ r7).length = m := ⟨_, rfl⟩
          rw [hm9] at hv9
          subst hv9
          have HM9 := Lib.hid hm9
          clear hm9
          have G1 := G1.grown EL gr9 (fun g hg => G3.own.off hg) (.inr fun h => by have := (G3.own.base h.symm).1; have := hf1 _ rfl; omega)
          have G2 := G2.grown EL gr9 (fun g hg => G3.own.off hg) (.inr fun h => by have := (G3.own.base h.symm).1; have := hf2 _ rfl; omega)
          have j3 := j3.kept k9 (by omega)
          have j4 := j4.kept k9 (by omega)
          have j5 := j5.kept k9 (by omega)
          have j6 := j6.kept k9 (by omega)
          have j7 := j7.kept k9 (by omega)
          have j8 := j8.kept k9 (by omega)
          have j9 := j9.kept k9 (by omega)
          have j10 := j10.kept k9 (by omega)
          have j13 := j13.kept k9 (by omega)
          refine hK.out _ _ ⟨j3.1, j9.1⟩ (fun _ => ?_)
          clear hK K
          (try simp only [Act.put, List.setIfInBounds_toArray, List.set_cons_zero, List.set_cons_succ])
          have q12 := j10.1
          have q12' := j10.2.1
          (refine onlyOp (i := 7) rfl (by kernel_rfl) (by rfl) fun K hK => ?_)
          go_simp
          obtain ⟨s12, E10, k10, sB, -⟩ := j10.store E9 (by omega) (.slice A9 m9 c9)
          have G1 := G1.stored (v' := .slice A9 m9 c9) j10 (fun h => by have := hf1 _ h; omega)
          have G2 := G2.stored (v' := .slice A9 m9 c9) j10 (fun h => by have := hf2 _ h; omega)
          have f9 := f9.stored (v' := .slice A9 m9 c9) j10 (fun h => by have := (f9.own.base h).1; omega)
          have j3 := sB j3 (by omega)
          have j4 := sB j4 (by omega)
          have j5 := sB j5 (by omega)
          have j6 := sB j6 (by omega)
          have j7 := sB j7 (by omega)
          have j8 := sB j8 (by omega)
          have j9 := sB j9 (by omega)
          have j13 := sB j13 (by omega)
          refine hK.out _ _ ⟨j3.1, j9.1⟩ (fun _ => ?_)
          clear hK K
          (try simp only [Act.put, List.setIfInBounds_toArray, List.set_cons_zero, List.set_cons_succ])
          refine doneOp (by kernel_rfl) ?_
          have oc := (ob.trans o9).trans (KeepsOthers.setCell w9 ⟨b12, 0, none⟩ (.slice A9 m9 c9))
          have q3 := j3.1
          have q9 := j9.1
          have E11 := (E10.addPl hc5).addPl hc6
          have CM := E11.mux (x := c5) (y := c6) (c := c') (by repeat with_reducible first | apply mem_hd | assumption | apply mem_tl) (by repeat with_reducible first | apply mem_hd | assumption | apply mem_tl) (by repeat with_reducible first | apply mem_hd | assumption | apply mem_tl) hND
          clear q5 q8 q12 q12' hS E7 E8 E9 EL sE i15
          gi_wp2_with (refine ⟨trivial, ?_⟩; gi_at_call 84; refine (CallsIn.inRound l0 (callsIn_wide.2 CM)).mono ?_; rintro e2 w10 ⟨c8, st8, rfl, k11, x11, E12⟩; clear CM; have q8 := (j9.then k11).1; have q8' := (j9.then k11).2.1)
          have hj9 := j9.then k11
          obtain ⟨s9, E13, -, sB, -⟩ := hj9.store E12 (by omega) (.int .i64 c8)
          have j3 := sB (j3.then k11) (by omega)
          have j4 := sB (j4.then k11) (by omega)
          have j5 := sB (j5.then k11) (by omega)
          have j6 := sB (j6.then k11) (by omega)
          have j7 := sB (j7.then k11) (by omega)
          have j8 := sB (j8.then k11) (by omega)
          have j10 := sB (s12.then k11) (by omega)
          have j13 := sB (j13.then k11) (by omega)
          have G1 := (G1.kept k11 x11).stored (v' := .int .i64 c8) hj9 (fun h => by have := (G1.own.base h).1; omega)
          have G2 := (G2.kept k11 x11).stored (v' := .int .i64 c8) hj9 (fun h => by have := (G2.own.base h).1; omega)
          have f9 := (f9.kept k11 x11).stored (v' := .int .i64 c8) hj9 (fun h => by have := (f9.own.base h).1; omega)
          have od := (oc.trans (E10.others k11)).trans (KeepsOthers.setCell w10 ⟨w.heap.size + 1 + 1, 0, none⟩ (.int .i64 c8))
          refine ⟨od, ?_⟩
          rw [HID.out]
          refine ⟨.slice A9 m9 c9, r ++ r7, c8, e, st8, Lib.hid ⟨HNX.out, by rw [List.length_append, h7.out, i1.out.2.1, HE.out], ?_⟩, i2.trans od, j3, j4, j5, j6, j7, j8, s9, j10, j13, G1, G2, f9, (E13.only (L' := .pl c8 :: .pl o :: .pl z :: L) (by repeat with_reducible first | refine sub_cons (by repeat with_reducible first | apply mem_hd | assumption | apply mem_tl) ?_ | exact sub_nil | apply sub_refl | apply sub_tail)).cntle ?_ |>.know fun V ⟨⟨⟨⟨⟨hk0, IH⟩, e5⟩, e6⟩, e7⟩, e8⟩ => ⟨hk0, ?_⟩⟩
          · have h2 := Nat.le_mul_of_pos_left pre.length (show 0 < k by omega)
            rw [← HIX.out] at h2
            rw [List.length_append, List.length_singleton]
            omega
          · rw [List.length_append, List.length_singleton, Nat.mul_add]
            have h1 := HNa.out
            have h2 := HNb.out
            have h3 := HNc.out
            have h4 := HNd.out
            omega
          · have hl1 : (r1.take l).length = l := by rw [List.length_take]; omega
            have hl2' : (r2.take l).length = l := by rw [List.length_take]; omega
            rw [hk0.2.1] at e5
            rw [hk0.2.2] at e6
            rw [numV_append, i1.out.2.1, ← HE.out, List.take_add, List.take_add, numV_append, numV_append, hl1, hl2', HX1.out, HX2.out]
            exact sel_step IH e5 e6 e7 e8
      case done =>
        intro D pre V hD hS hI hd
        rw [HID.out] at hI
        obtain ⟨sv, r, c', l, st', i1, i2, i3, i4, i5, i6, i7, i8, i9, i10, i11, i12, i13, i14, i15⟩ := hI
        obtain rfl : l = n := by have := i1.out.1; have := hS.1; omega
        obtain ⟨A12, c12, hv12, -, -⟩ := i14.own.shape
        subst hv12
        have q12 := i10.1
        have q8 := i9.1
        have q12d : V.drew.cell? ⟨b12, 0, none⟩ = some (.slice A12 r.length c12) := q12
        have q8d : V.drew.cell? ⟨w.heap.size + 1 + 1, 0, none⟩ = some (.int .i64 c') := q8
        have HS := Lib.hid hS
        have HD := Lib.hid hD
        clear hS hD i2 i3 i4 i5 i6 i7 i8 i9 i10 i11 i12 i13
        go_wp2_with fail
        go_region_held3 (fun w' => w'.cell? ⟨b12, 0, none⟩ = some (.slice A12 r.length c12) ∧ w'.cell? ⟨w.heap.size + 1 + 1, 0, none⟩ = some (.int .i64 c')) (first | with_reducible exact ⟨q12, q8⟩ | with_reducible exact ⟨q12d, q8d⟩) (fail)
        go_wp2
        have hpl := i1.out.2.2
        refine leave_marks (B := W3.heap.size) (v := .tuple #[.slice A12 r.length c12, .int .i64 c']) (fun w => by simp [results, Try.results54, go_sem]) (fun U => Fine U p st' W3.heap.size (.slice A12 r.length c12) r ∧ Env (fun a => C a ∧ Kept w.heap.size (some p) w a) p w.heap.size st U st' (M0 + 24097 * pre.length) (.pl c' :: .pl o :: .pl z :: L) (fun V => (K0 V ∧ V z = false ∧ V o = true) ∧ numV V r + 2 ^ l * (V c').toNat = numV V (r1.take l) + numV V (r2.take l) + (V c).toNat))
          (fun U U' row ⟨f, EU⟩ hg hr => ?_) (fun U ⟨f, EU⟩ => ?_) _ _ ⟨by simp, fun d hd' => ⟨D, by simpa using hd', HD.out, hd⟩⟩ ⟨i14.drew i15, i15.drew⟩
        · have hr' : ∀ r, row = some r → w.heap.size ≤ r ∧ ∃ o : Obj, U.heap[r]? = some o ∧ o.isCells = false := fun r e => ⟨by have := (hr r e).1; omega, (hr r e).2⟩
          exact ⟨f.turned EU hg hr', (EU.turned hg hr').1⟩
        · refine ⟨.slice A12 r.length c12, r, c', st', Lib.hid i1.out.2.1, rfl, EU.c.2, EU.ext, f.lower hXW, (((((EU.top.fine f).addPl (EU.at_ (c := c') (by repeat with_reducible first | apply mem_hd | assumption | apply mem_tl))).only (L' := .pl c' :: .word (.slice A12 r.length c12) r :: L) (by repeat with_reducible first | refine sub_cons (by repeat with_reducible first | apply mem_hd | assumption | apply mem_tl) ?_ | exact sub_nil | apply sub_refl | apply sub_tail)).done E).cntle ?_).know fun V ⟨⟨hk0, _⟩, h⟩ => ?_⟩
          · have := HS.out.2
            have := HNN.out
            have := Nat.le_mul_of_pos_left pre.length (show 0 < k by omega)
            omega
          · rw [HK0.out] at hk0
            rw [List.take_of_length_le (by rw [h1.out]; omega), List.take_of_length_le (by rw [h2.out]; omega), hk0.2.1, hk0.2.2] at h
            exact ⟨hk0.1, h⟩
    have T211 : ∀ (act : Act) (W : World) (st' : BSt) (x14 x15 x43 x45 : Value), (∃ u : Nat → Value, act = { tmps := ([u 0, .slice A3 n c3, u 2, u 3, .int .i64 k, .pointer (some ⟨w.heap.size, 0, none⟩), u 6, .pointer (some ⟨w.heap.size + 1, 0, none⟩), .pointer (some ⟨w.heap.size + 1 + 1, 0, none⟩), u 9, .slice none 0 0, .int .i64 0, .pointer (some ⟨b12, 0, none⟩), .pointer (some ⟨b12 + 1, 0, none⟩), x14, x15, u 16, u 17, u 18, u 19, u 20, u 21, u 22, u 23, u 24, u 25, u 26, u 27, u 28, u 29, u 30, u 31, u 32, u 33, u 34, u 35, u 36, u 37, u 38, u 39, u 40, u 41, .pointer (some ⟨p, 0, none⟩), x43, .pointer (some ⟨p, 0, none⟩), x45, u 46, u 47, u 48, u 49, u 50, u 51, u 52, u 53, u 54, u 55, u 56, u 57, u 58, u 59, u 60, u 61, u 62, u 63, u 64, u 65, u 66, u 67, u 68, u 69, u 70, u 71, u 72, u 73, u 74, u 75, u 76, u 77, u 78, u 79, u 80, u 81, u 82, u 83, u 84, u 85, u 86, u 87, u 88, u 89, u 90]).toArray, defers := [] }) → Ones (fun a => C a ∧ Kept w.heap.size (some p) w a) p w.heap.size st N0 L K0 BB bx fs st1 2 true true x14 x15 x43 x45 W st' → M 2 #[true, true, true, true, true, true, false, false] act W := by
      rintro _ W st' x14 x15 x43 x45 ⟨u, rfl⟩ hO
      rw [hM]
      obtain ⟨z, rfl, hz1, hz2⟩ := hO.z (by omega)
      obtain ⟨o, rfl, ho1, ho2⟩ := hO.o (Nat.le_refl _)
      obtain ⟨g4, rfl, b4, hg4⟩ := hO.gi rfl
      obtain ⟨g5, rfl, b5, hg5⟩ := hO.gj rfl
      have hne : g4 ≠ g5 := fun e => hO.ne rfl rfl (by rw [e])
      (refine onlyOp (i := 6) rfl (by kernel_rfl) (by rfl) fun K hK => ?_)
      have q1 := b4.1
      have q2 := b4.2.1
      go_simp
      obtain ⟨s1, s2, s3, s4, s5⟩ := hO.bag.store hO.env b4 (by omega) (.int .i64 z) (fun q hq => by have := hbB q hq; omega) (fun q hq e => by have := hfB q hq _ e; omega)
      refine hK.out _ _ ((s3.box _ hm5).1) (fun _ => ?_)
      clear hK K
      (try simp only [Act.put, List.setIfInBounds_toArray, List.set_cons_zero, List.set_cons_succ])
      have b5 := s5 b5 hne.symm
      have q1 := b5.1
      have q2 := b5.2.1
      (refine onlyOp (i := 7) rfl (by kernel_rfl) (by rfl) fun K hK => ?_)
      go_simp
      obtain ⟨u1, u2, u3, u4, u5⟩ := s3.store s2 b5 (by omega) (.int .i64 o) (fun q hq => by have := hbB q hq; omega) (fun q hq e => by have := hfB q hq _ e; omega)
      refine hK.out _ _ ((u3.box _ hm5).1) (fun _ => ?_)
      clear hK K
      (try simp only [Act.put, List.setIfInBounds_toArray, List.set_cons_zero, List.set_cons_succ])
      refine doneOp (by kernel_rfl) ?_
      refine hQQ _ _ (key _ _ st' z o g4 g5 ?_ u2 u3 hO.ext (u5 s1 hne) u1 hg4 hg5 hne hz1 hz2 ho1 ho2)
      exact tmps_pat rfl
    have T201 : ∀ (act : Act) (W : World) (st' : BSt) (x14 x15 x43 x45 : Value), (∃ u : Nat → Value, act = { tmps := ([u 0, .slice A3 n c3, u 2, u 3, .int .i64 k, .pointer (some ⟨w.heap.size, 0, none⟩), u 6, .pointer (some ⟨w.heap.size + 1, 0, none⟩), .pointer (some ⟨w.heap.size + 1 + 1, 0, none⟩), u 9, .slice none 0 0, .int .i64 0, .pointer (some ⟨b12, 0, none⟩), .pointer (some ⟨b12 + 1, 0, none⟩), x14, x15, u 16, u 17, u 18, u 19, u 20, u 21, u 22, u 23, u 24, u 25, u 26, u 27, u 28, u 29, u 30, u 31, u 32, u 33, u 34, u 35, u 36, u 37, u 38, u 39, u 40, u 41, .pointer (some ⟨p, 0, none⟩), x43, .pointer (some ⟨p, 0, none⟩), x45, u 46, u 47, u 48, u 49, u 50, u 51, u 52, u 53, u 54, u 55, u 56, u 57, u 58, u 59, u 60, u 61, u 62, u 63, u 64, u 65, u 66, u 67, u 68, u 69, u 70, u 71, u 72, u 73, u 74, u 75, u 76, u 77, u 78, u 79, u 80, u 81, u 82, u 83, u 84, u 85, u 86, u 87, u 88, u 89, u 90]).toArray, defers := [] }) → Ones (fun a => C a ∧ Kept w.heap.size (some p) w a) p w.heap.size st N0 L K0 BB bx fs st1 2 false true x14 x15 x43 x45 W st' → M 3 #[true, true, true, true, false, true, false, false] act W := by
      rintro _ W st' x14 x15 x43 x45 ⟨u, rfl⟩ hO
      rw [hM]
      (refine onlyOp (i := 4) rfl (by kernel_rfl) (by rfl) fun K hK => ?_)
      go_simp
      refine hK.out _ _ (((hO.alI 3).bag.box _ hm5).1) (fun _ => ?_)
      clear hK K
      (try simp only [Act.put, List.setIfInBounds_toArray, List.set_cons_zero, List.set_cons_succ])
      refine hMM _ _ _ _ (T211 _ _ _ _ _ _ _ ?_ (hO.alI 3))
      exact tmps_pat rfl
    have T210 : ∀ (act : Act) (W : World) (st' : BSt) (x14 x15 x43 x45 : Value), (∃ u : Nat → Value, act = { tmps := ([u 0, .slice A3 n c3, u 2, u 3, .int .i64 k, .pointer (some ⟨w.heap.size, 0, none⟩), u 6, .pointer (some ⟨w.heap.size + 1, 0, none⟩), .pointer (some ⟨w.heap.size + 1 + 1, 0, none⟩), u 9, .slice none 0 0, .int .i64 0, .pointer (some ⟨b12, 0, none⟩), .pointer (some ⟨b12 + 1, 0, none⟩), x14, x15, u 16, u 17, u 18, u 19, u 20, u 21, u 22, u 23, u 24, u 25, u 26, u 27, u 28, u 29, u 30, u 31, u 32, u 33, u 34, u 35, u 36, u 37, u 38, u 39, u 40, u 41, .pointer (some ⟨p, 0, none⟩), x43, .pointer (some ⟨p, 0, none⟩), x45, u 46, u 47, u 48, u 49, u 50, u 51, u 52, u 53, u 54, u 55, u 56, u 57, u 58, u 59, u 60, u 61, u 62, u 63, u 64, u 65, u 66, u 67, u 68, u 69, u 70, u 71, u 72, u 73, u 74, u 75, u 76, u 77, u 78, u 79, u 80, u 81, u 82, u 83, u 84, u 85, u 86, u 87, u 88, u 89, u 90]).toArray, defers := [] }) → Ones (fun a => C a ∧ Kept w.heap.size (some p) w a) p w.heap.size st N0 L K0 BB bx fs st1 2 true false x14 x15 x43 x45 W st' → M 3 #[true, true, true, true, true, false, false, false] act W := by
      rintro _ W st' x14 x15 x43 x45 ⟨u, rfl⟩ hO
      rw [hM]
      (refine onlyOp (i := 5) rfl (by kernel_rfl) (by rfl) fun K hK => ?_)
      go_simp
      refine hK.out _ _ (((hO.alJ 3).bag.box _ hm5).1) (fun _ => ?_)
      clear hK K
      (try simp only [Act.put, List.setIfInBounds_toArray, List.set_cons_zero, List.set_cons_succ])
      refine hMM _ _ _ _ (T211 _ _ _ _ _ _ _ ?_ (hO.alJ 3))
      exact tmps_pat rfl
    have T200 : ∀ (act : Act) (W : World) (st' : BSt) (x14 x15 x43 x45 : Value), (∃ u : Nat → Value, act = { tmps := ([u 0, .slice A3 n c3, u 2, u 3, .int .i64 k, .pointer (some ⟨w.heap.size, 0, none⟩), u 6, .pointer (some ⟨w.heap.size + 1, 0, none⟩), .pointer (some ⟨w.heap.size + 1 + 1, 0, none⟩), u 9, .slice none 0 0, .int .i64 0, .pointer (some ⟨b12, 0, none⟩), .pointer (some ⟨b12 + 1, 0, none⟩), x14, x15, u 16, u 17, u 18, u 19, u 20, u 21, u 22, u 23, u 24, u 25, u 26, u 27, u 28, u 29, u 30, u 31, u 32, u 33, u 34, u 35, u 36, u 37, u 38, u 39, u 40, u 41, .pointer (some ⟨p, 0, none⟩), x43, .pointer (some ⟨p, 0, none⟩), x45, u 46, u 47, u 48, u 49, u 50, u 51, u 52, u 53, u 54, u 55, u 56, u 57, u 58, u 59, u 60, u 61, u 62, u 63, u 64, u 65, u 66, u 67, u 68, u 69, u 70, u 71, u 72, u 73, u 74, u 75, u 76, u 77, u 78, u 79, u 80, u 81, u 82, u 83, u 84, u 85, u 86, u 87, u 88, u 89, u 90]).toArray, defers := [] }) → Ones (fun a => C a ∧ Kept w.heap.size (some p) w a) p w.heap.size st N0 L K0 BB bx fs st1 2 false false x14 x15 x43 x45 W st' → M 4 #[true, true, true, true, false, false, false, false] act W := by
      rintro _ W st' x14 x15 x43 x45 ⟨u, rfl⟩ hO
      rw [hM]
      (refine twoOps (i := 4) (j := 5) rfl rfl (by kernel_rfl) (by rfl) (by rfl) (fun K hK => ?_) (fun K hK => ?_))
      · skip
        go_simp
        refine hK.out _ _ (((hO.alI 3).bag.box _ hm5).1) (fun _ => ?_)
        clear hK K
        (try simp only [Act.put, List.setIfInBounds_toArray, List.set_cons_zero, List.set_cons_succ])
        refine hMM _ _ _ _ (T210 _ _ _ _ _ _ _ ?_ (hO.alI 3))
        exact tmps_pat rfl
      · skip
        go_simp
        refine hK.out _ _ (((hO.alJ 3).bag.box _ hm5).1) (fun _ => ?_)
        clear hK K
        (try simp only [Act.put, List.setIfInBounds_toArray, List.set_cons_zero, List.set_cons_succ])
        refine hMM _ _ _ _ (T201 _ _ _ _ _ _ _ ?_ (hO.alJ 3))
        exact tmps_pat rfl
    have T111 : ∀ (act : Act) (W : World) (st' : BSt) (x14 x15 x43 x45 : Value), (∃ u : Nat → Value, act = { tmps := ([u 0, .slice A3 n c3, u 2, u 3, .int .i64 k, .pointer (some ⟨w.heap.size, 0, none⟩), u 6, .pointer (some ⟨w.heap.size + 1, 0, none⟩), .pointer (some ⟨w.heap.size + 1 + 1, 0, none⟩), u 9, .slice none 0 0, .int .i64 0, .pointer (some ⟨b12, 0, none⟩), .pointer (some ⟨b12 + 1, 0, none⟩), x14, x15, u 16, u 17, u 18, u 19, u 20, u 21, u 22, u 23, u 24, u 25, u 26, u 27, u 28, u 29, u 30, u 31, u 32, u 33, u 34, u 35, u 36, u 37, u 38, u 39, u 40, u 41, .pointer (some ⟨p, 0, none⟩), x43, .pointer (some ⟨p, 0, none⟩), x45, u 46, u 47, u 48, u 49, u 50, u 51, u 52, u 53, u 54, u 55, u 56, u 57, u 58, u 59, u 60, u 61, u 62, u 63, u 64, u 65, u 66, u 67, u 68, u 69, u 70, u 71, u 72, u 73, u 74, u 75, u 76, u 77, u 78, u 79, u 80, u 81, u 82, u 83, u 84, u 85, u 86, u 87, u 88, u 89, u 90]).toArray, defers := [] }) → Ones (fun a => C a ∧ Kept w.heap.size (some p) w a) p w.heap.size st N0 L K0 BB bx fs st1 1 true true x14 x15 x43 x45 W st' → M 3 #[true, true, true, false, true, true, false, false] act W := by
      rintro _ W st' x14 x15 x43 x45 ⟨u, rfl⟩ hO
      rw [hM]
      (refine onlyOp (i := 3) rfl (by kernel_rfl) (by rfl) fun K hK => ?_)
      go_simp
      refine (hO.bit1 hNb).mono ?_
      rintro e w2 ⟨z, st2, rfl, hO2⟩
      refine hK.out _ _ ((hO2.bag.box _ hm5).1) (fun _ => ?_)
      clear hK K
      (try simp only [Act.put, List.setIfInBounds_toArray, List.set_cons_zero, List.set_cons_succ])
      refine hMM _ _ _ _ (T211 _ _ _ _ _ _ _ ?_ (hO2))
      exact tmps_pat rfl
    have T101 : ∀ (act : Act) (W : World) (st' : BSt) (x14 x15 x43 x45 : Value), (∃ u : Nat → Value, act = { tmps := ([u 0, .slice A3 n c3, u 2, u 3, .int .i64 k, .pointer (some ⟨w.heap.size, 0, none⟩), u 6, .pointer (some ⟨w.heap.size + 1, 0, none⟩), .pointer (some ⟨w.heap.size + 1 + 1, 0, none⟩), u 9, .slice none 0 0, .int .i64 0, .pointer (some ⟨b12, 0, none⟩), .pointer (some ⟨b12 + 1, 0, none⟩), x14, x15, u 16, u 17, u 18, u 19, u 20, u 21, u 22, u 23, u 24, u 25, u 26, u 27, u 28, u 29, u 30, u 31, u 32, u 33, u 34, u 35, u 36, u 37, u 38, u 39, u 40, u 41, .pointer (some ⟨p, 0, none⟩), x43, .pointer (some ⟨p, 0, none⟩), x45, u 46, u 47, u 48, u 49, u 50, u 51, u 52, u 53, u 54, u 55, u 56, u 57, u 58, u 59, u 60, u 61, u 62, u 63, u 64, u 65, u 66, u 67, u 68, u 69, u 70, u 71, u 72, u 73, u 74, u 75, u 76, u 77, u 78, u 79, u 80, u 81, u 82, u 83, u 84, u 85, u 86, u 87, u 88, u 89, u 90]).toArray, defers := [] }) → Ones (fun a => C a ∧ Kept w.heap.size (some p) w a) p w.heap.size st N0 L K0 BB bx fs st1 1 false true x14 x15 x43 x45 W st' → M 4 #[true, true, true, false, false, true, false, false] act W := by
      rintro _ W st' x14 x15 x43 x45 ⟨u, rfl⟩ hO
      rw [hM]
      (refine twoOps (i := 3) (j := 4) rfl rfl (by kernel_rfl) (by rfl) (by rfl) (fun K hK => ?_) (fun K hK => ?_))
      · skip
        go_simp
        refine (hO.bit1 hNb).mono ?_
        rintro e w2 ⟨z, st2, rfl, hO2⟩
        refine hK.out _ _ ((hO2.bag.box _ hm5).1) (fun _ => ?_)
        clear hK K
        (try simp only [Act.put, List.setIfInBounds_toArray, List.set_cons_zero, List.set_cons_succ])
        refine hMM _ _ _ _ (T201 _ _ _ _ _ _ _ ?_ (hO2))
        exact tmps_pat rfl
      · skip
        go_simp
        refine hK.out _ _ (((hO.alI 3).bag.box _ hm5).1) (fun _ => ?_)
        clear hK K
        (try simp only [Act.put, List.setIfInBounds_toArray, List.set_cons_zero, List.set_cons_succ])
        refine hMM _ _ _ _ (T111 _ _ _ _ _ _ _ ?_ (hO.alI 3))
        exact tmps_pat rfl
    have T110 : ∀ (act : Act) (W : World) (st' : BSt) (x14 x15 x43 x45 : Value), (∃ u : Nat → Value, act = { tmps := ([u 0, .slice A3 n c3, u 2, u 3, .int .i64 k, .pointer (some ⟨w.heap.size, 0, none⟩), u 6, .pointer (some ⟨w.heap.size + 1, 0, none⟩), .pointer (some ⟨w.heap.size + 1 + 1, 0, none⟩), u 9, .slice none 0 0, .int .i64 0, .pointer (some ⟨b12, 0, none⟩), .pointer (some ⟨b12 + 1, 0, none⟩), x14, x15, u 16, u 17, u 18, u 19, u 20, u 21, u 22, u 23, u 24, u 25, u 26, u 27, u 28, u 29, u 30, u 31, u 32, u 33, u 34, u 35, u 36, u 37, u 38, u 39, u 40, u 41, .pointer (some ⟨p, 0, none⟩), x43, .pointer (some ⟨p, 0, none⟩), x45, u 46, u 47, u 48, u 49, u 50, u 51, u 52, u 53, u 54, u 55, u 56, u 57, u 58, u 59, u 60, u 61, u 62, u 63, u 64, u 65, u 66, u 67, u 68, u 69, u 70, u 71, u 72, u 73, u 74, u 75, u 76, u 77, u 78, u 79, u 80, u 81, u 82, u 83, u 84, u 85, u 86, u 87, u 88, u 89, u 90]).toArray, defers := [] }) → Ones (fun a => C a ∧ Kept w.heap.size (some p) w a) p w.heap.size st N0 L K0 BB bx fs st1 1 true false x14 x15 x43 x45 W st' → M 4 #[true, true, true, false, true, false, false, false] act W := by
      rintro _ W st' x14 x15 x43 x45 ⟨u, rfl⟩ hO
      rw [hM]
      (refine twoOps (i := 3) (j := 5) rfl rfl (by kernel_rfl) (by rfl) (by rfl) (fun K hK => ?_) (fun K hK => ?_))
      · skip
        go_simp
        refine (hO.bit1 hNb).mono ?_
        rintro e w2 ⟨z, st2, rfl, hO2⟩
        refine hK.out _ _ ((hO2.bag.box _ hm5).1) (fun _ => ?_)
        clear hK K
        (try simp only [Act.put, List.setIfInBounds_toArray, List.set_cons_zero, List.set_cons_succ])
        refine hMM _ _ _ _ (T210 _ _ _ _ _ _ _ ?_ (hO2))
        exact tmps_pat rfl
      · skip
        go_simp
        refine hK.out _ _ (((hO.alJ 3).bag.box _ hm5).1) (fun _ => ?_)
        clear hK K
        (try simp only [Act.put, List.setIfInBounds_toArray, List.set_cons_zero, List.set_cons_succ])
        refine hMM _ _ _ _ (T111 _ _ _ _ _ _ _ ?_ (hO.alJ 3))
        exact tmps_pat rfl
    have T100 : ∀ (act : Act) (W : World) (st' : BSt) (x14 x15 x43 x45 : Value), (∃ u : Nat → Value, act = { tmps := ([u 0, .slice A3 n c3, u 2, u 3, .int .i64 k, .pointer (some ⟨w.heap.size, 0, none⟩), u 6, .pointer (some ⟨w.heap.size + 1, 0, none⟩), .pointer (some ⟨w.heap.size + 1 + 1, 0, none⟩), u 9, .slice none 0 0, .int .i64 0, .pointer (some ⟨b12, 0, none⟩), .pointer (some ⟨b12 + 1, 0, none⟩), x14, x15, u 16, u 17, u 18, u 19, u 20, u 21, u 22, u 23, u 24, u 25, u 26, u 27, u 28, u 29, u 30, u 31, u 32, u 33, u 34, u 35, u 36, u 37, u 38, u 39, u 40, u 41, .pointer (some ⟨p, 0, none⟩), x43, .pointer (some ⟨p, 0, none⟩), x45, u 46, u 47, u 48, u 49, u 50, u 51, u 52, u 53, u 54, u 55, u 56, u 57, u 58, u 59, u 60, u 61, u 62, u 63, u 64, u 65, u 66, u 67, u 68, u 69, u 70, u 71, u 72, u 73, u 74, u 75, u 76, u 77, u 78, u 79, u 80, u 81, u 82, u 83, u 84, u 85, u 86, u 87, u 88, u 89, u 90]).toArray, defers := [] }) → Ones (fun a => C a ∧ Kept w.heap.size (some p) w a) p w.heap.size st N0 L K0 BB bx fs st1 1 false false x14 x15 x43 x45 W st' → M 5 #[true, true, true, false, false, false, false, false] act W := by
      rintro _ W st' x14 x15 x43 x45 ⟨u, rfl⟩ hO
      rw [hM]
      refine threeOps (i := 3) (j := 4) (k := 5) rfl rfl rfl (by kernel_rfl) (by rfl) (by rfl) (by rfl) (fun K hK => ?_) (fun K hK => ?_) (fun K hK => ?_)
      · skip
        go_simp
        refine (hO.bit1 hNb).mono ?_
        rintro e w2 ⟨z, st2, rfl, hO2⟩
        refine hK.out _ _ ((hO2.bag.box _ hm5).1) (fun _ => ?_)
        clear hK K
        (try simp only [Act.put, List.setIfInBounds_toArray, List.set_cons_zero, List.set_cons_succ])
        refine hMM _ _ _ _ (T200 _ _ _ _ _ _ _ ?_ (hO2))
        exact tmps_pat rfl
      · skip
        go_simp
        refine hK.out _ _ (((hO.alI 3).bag.box _ hm5).1) (fun _ => ?_)
        clear hK K
        (try simp only [Act.put, List.setIfInBounds_toArray, List.set_cons_zero, List.set_cons_succ])
        refine hMM _ _ _ _ (T110 _ _ _ _ _ _ _ ?_ (hO.alI 3))
        exact tmps_pat rfl
      · skip
        go_simp
        refine hK.out _ _ (((hO.alJ 3).bag.box _ hm5).1) (fun _ => ?_)
        clear hK K
        (try simp only [Act.put, List.setIfInBounds_toArray, List.set_cons_zero, List.set_cons_succ])
        refine hMM _ _ _ _ (T101 _ _ _ _ _ _ _ ?_ (hO.alJ 3))
        exact tmps_pat rfl
    have T011 : ∀ (act : Act) (W : World) (st' : BSt) (x14 x15 x43 x45 : Value), (∃ u : Nat → Value, act = { tmps := ([u 0, .slice A3 n c3, u 2, u 3, .int .i64 k, .pointer (some ⟨w.heap.size, 0, none⟩), u 6, .pointer (some ⟨w.heap.size + 1, 0, none⟩), .pointer (some ⟨w.heap.size + 1 + 1, 0, none⟩), u 9, .slice none 0 0, .int .i64 0, .pointer (some ⟨b12, 0, none⟩), .pointer (some ⟨b12 + 1, 0, none⟩), x14, x15, u 16, u 17, u 18, u 19, u 20, u 21, u 22, u 23, u 24, u 25, u 26, u 27, u 28, u 29, u 30, u 31, u 32, u 33, u 34, u 35, u 36, u 37, u 38, u 39, u 40, u 41, .pointer (some ⟨p, 0, none⟩), x43, .pointer (some ⟨p, 0, none⟩), x45, u 46, u 47, u 48, u 49, u 50, u 51, u 52, u 53, u 54, u 55, u 56, u 57, u 58, u 59, u 60, u 61, u 62, u 63, u 64, u 65, u 66, u 67, u 68, u 69, u 70, u 71, u 72, u 73, u 74, u 75, u 76, u 77, u 78, u 79, u 80, u 81, u 82, u 83, u 84, u 85, u 86, u 87, u 88, u 89, u 90]).toArray, defers := [] }) → Ones (fun a => C a ∧ Kept w.heap.size (some p) w a) p w.heap.size st N0 L K0 BB bx fs st1 0 true true x14 x15 x43 x45 W st' → M 4 #[true, false, true, false, true, true, false, false] act W := by
      rintro _ W st' x14 x15 x43 x45 ⟨u, rfl⟩ hO
      rw [hM]
      (refine onlyOp (i := 1) rfl (by kernel_rfl) (by rfl) fun K hK => ?_)
      go_simp
      refine (hO.bit0 hNb).mono ?_
      rintro e w2 ⟨z, st2, rfl, hO2⟩
      refine hK.out _ _ ((hO2.bag.box _ hm5).1) (fun _ => ?_)
      clear hK K
      (try simp only [Act.put, List.setIfInBounds_toArray, List.set_cons_zero, List.set_cons_succ])
      refine hMM _ _ _ _ (T111 _ _ _ _ _ _ _ ?_ (hO2))
      exact tmps_pat rfl
    have T001 : ∀ (act : Act) (W : World) (st' : BSt) (x14 x15 x43 x45 : Value), (∃ u : Nat → Value, act = { tmps := ([u 0, .slice A3 n c3, u 2, u 3, .int .i64 k, .pointer (some ⟨w.heap.size, 0, none⟩), u 6, .pointer (some ⟨w.heap.size + 1, 0, none⟩), .pointer (some ⟨w.heap.size + 1 + 1, 0, none⟩), u 9, .slice none 0 0, .int .i64 0, .pointer (some ⟨b12, 0, none⟩), .pointer (some ⟨b12 + 1, 0, none⟩), x14, x15, u 16, u 17, u 18, u 19, u 20, u 21, u 22, u 23, u 24, u 25, u 26, u 27, u 28, u 29, u 30, u 31, u 32, u 33, u 34, u 35, u 36, u 37, u 38, u 39, u 40, u 41, .pointer (some ⟨p, 0, none⟩), x43, .pointer (some ⟨p, 0, none⟩), x45, u 46, u 47, u 48, u 49, u 50, u 51, u 52, u 53, u 54, u 55, u 56, u 57, u 58, u 59, u 60, u 61, u 62, u 63, u 64, u 65, u 66, u 67, u 68, u 69, u 70, u 71, u 72, u 73, u 74, u 75, u 76, u 77, u 78, u 79, u 80, u 81, u 82, u 83, u 84, u 85, u 86, u 87, u 88, u 89, u 90]).toArray, defers := [] }) → Ones (fun a => C a ∧ Kept w.heap.size (some p) w a) p w.heap.size st N0 L K0 BB bx fs st1 0 false true x14 x15 x43 x45 W st' → M 5 #[true, false, true, false, false, true, false, false] act W := by
      rintro _ W st' x14 x15 x43 x45 ⟨u, rfl⟩ hO
      rw [hM]
      (refine twoOps (i := 1) (j := 4) rfl rfl (by kernel_rfl) (by rfl) (by rfl) (fun K hK => ?_) (fun K hK => ?_))
      · skip
        go_simp
        refine (hO.bit0 hNb).mono ?_
        rintro e w2 ⟨z, st2, rfl, hO2⟩
        refine hK.out _ _ ((hO2.bag.box _ hm5).1) (fun _ => ?_)
        clear hK K
        (try simp only [Act.put, List.setIfInBounds_toArray, List.set_cons_zero, List.set_cons_succ])
        refine hMM _ _ _ _ (T101 _ _ _ _ _ _ _ ?_ (hO2))
        exact tmps_pat rfl
      · skip
        go_simp
        refine hK.out _ _ (((hO.alI 3).bag.box _ hm5).1) (fun _ => ?_)
        clear hK K
        (try simp only [Act.put, List.setIfInBounds_toArray, List.set_cons_zero, List.set_cons_succ])
        refine hMM _ _ _ _ (T011 _ _ _ _ _ _ _ ?_ (hO.alI 3))
        exact tmps_pat rfl
    have T010 : ∀ (act : Act) (W : World) (st' : BSt) (x14 x15 x43 x45 : Value), (∃ u : Nat → Value, act = { tmps := ([u 0, .slice A3 n c3, u 2, u 3, .int .i64 k, .pointer (some ⟨w.heap.size, 0, none⟩), u 6, .pointer (some ⟨w.heap.size + 1, 0, none⟩), .pointer (some ⟨w.heap.size + 1 + 1, 0, none⟩), u 9, .slice none 0 0, .int .i64 0, .pointer (some ⟨b12, 0, none⟩), .pointer (some ⟨b12 + 1, 0, none⟩), x14, x15, u 16, u 17, u 18, u 19, u 20, u 21, u 22, u 23, u 24, u 25, u 26, u 27, u 28, u 29, u 30, u 31, u 32, u 33, u 34, u 35, u 36, u 37, u 38, u 39, u 40, u 41, .pointer (some ⟨p, 0, none⟩), x43, .pointer (some ⟨p, 0, none⟩), x45, u 46, u 47, u 48, u 49, u 50, u 51, u 52, u 53, u 54, u 55, u 56, u 57, u 58, u 59, u 60, u 61, u 62, u 63, u 64, u 65, u 66, u 67, u 68, u 69, u 70, u 71, u 72, u 73, u 74, u 75, u 76, u 77, u 78, u 79, u 80, u 81, u 82, u 83, u 84, u 85, u 86, u 87, u 88, u 89, u 90]).toArray, defers := [] }) → Ones (fun a => C a ∧ Kept w.heap.size (some p) w a) p w.heap.size st N0 L K0 BB bx fs st1 0 true false x14 x15 x43 x45 W st' → M 5 #[true, false, true, false, true, false, false, false] act W := by
      rintro _ W st' x14 x15 x43 x45 ⟨u, rfl⟩ hO
      rw [hM]
      (refine twoOps (i := 1) (j := 5) rfl rfl (by kernel_rfl) (by rfl) (by rfl) (fun K hK => ?_) (fun K hK => ?_))
      · skip
        go_simp
        refine (hO.bit0 hNb).mono ?_
        rintro e w2 ⟨z, st2, rfl, hO2⟩
        refine hK.out _ _ ((hO2.bag.box _ hm5).1) (fun _ => ?_)
        clear hK K
        (try simp only [Act.put, List.setIfInBounds_toArray, List.set_cons_zero, List.set_cons_succ])
        refine hMM _ _ _ _ (T110 _ _ _ _ _ _ _ ?_ (hO2))
        exact tmps_pat rfl
      · skip
        go_simp
        refine hK.out _ _ (((hO.alJ 3).bag.box _ hm5).1) (fun _ => ?_)
        clear hK K
        (try simp only [Act.put, List.setIfInBounds_toArray, List.set_cons_zero, List.set_cons_succ])
        refine hMM _ _ _ _ (T011 _ _ _ _ _ _ _ ?_ (hO.alJ 3))
        exact tmps_pat rfl
    have T000 : ∀ (act : Act) (W : World) (st' : BSt) (x14 x15 x43 x45 : Value), (∃ u : Nat → Value, act = { tmps := ([u 0, .slice A3 n c3, u 2, u 3, .int .i64 k, .pointer (some ⟨w.heap.size, 0, none⟩), u 6, .pointer (some ⟨w.heap.size + 1, 0, none⟩), .pointer (some ⟨w.heap.size + 1 + 1, 0, none⟩), u 9, .slice none 0 0, .int .i64 0, .pointer (some ⟨b12, 0, none⟩), .pointer (some ⟨b12 + 1, 0, none⟩), x14, x15, u 16, u 17, u 18, u 19, u 20, u 21, u 22, u 23, u 24, u 25, u 26, u 27, u 28, u 29, u 30, u 31, u 32, u 33, u 34, u 35, u 36, u 37, u 38, u 39, u 40, u 41, .pointer (some ⟨p, 0, none⟩), x43, .pointer (some ⟨p, 0, none⟩), x45, u 46, u 47, u 48, u 49, u 50, u 51, u 52, u 53, u 54, u 55, u 56, u 57, u 58, u 59, u 60, u 61, u 62, u 63, u 64, u 65, u 66, u 67, u 68, u 69, u 70, u 71, u 72, u 73, u 74, u 75, u 76, u 77, u 78, u 79, u 80, u 81, u 82, u 83, u 84, u 85, u 86, u 87, u 88, u 89, u 90]).toArray, defers := [] }) → Ones (fun a => C a ∧ Kept w.heap.size (some p) w a) p w.heap.size st N0 L K0 BB bx fs st1 0 false false x14 x15 x43 x45 W st' → M 6 #[true, false, true, false, false, false, false, false] act W := by
      rintro _ W st' x14 x15 x43 x45 ⟨u, rfl⟩ hO
      rw [hM]
      refine threeOps (i := 1) (j := 4) (k := 5) rfl rfl rfl (by kernel_rfl) (by rfl) (by rfl) (by rfl) (fun K hK => ?_) (fun K hK => ?_) (fun K hK => ?_)
      · skip
        go_simp
        refine (hO.bit0 hNb).mono ?_
        rintro e w2 ⟨z, st2, rfl, hO2⟩
        refine hK.out _ _ ((hO2.bag.box _ hm5).1) (fun _ => ?_)
        clear hK K
        (try simp only [Act.put, List.setIfInBounds_toArray, List.set_cons_zero, List.set_cons_succ])
        refine hMM _ _ _ _ (T100 _ _ _ _ _ _ _ ?_ (hO2))
        exact tmps_pat rfl
      · skip
        go_simp
        refine hK.out _ _ (((hO.alI 3).bag.box _ hm5).1) (fun _ => ?_)
        clear hK K
        (try simp only [Act.put, List.setIfInBounds_toArray, List.set_cons_zero, List.set_cons_succ])
        refine hMM _ _ _ _ (T010 _ _ _ _ _ _ _ ?_ (hO.alI 3))
        exact tmps_pat rfl
      · skip
        go_simp
        refine hK.out _ _ (((hO.alJ 3).bag.box _ hm5).1) (fun _ => ?_)
        clear hK K
        (try simp only [Act.put, List.setIfInBounds_toArray, List.set_cons_zero, List.set_cons_succ])
        refine hMM _ _ _ _ (T001 _ _ _ _ _ _ _ ?_ (hO.alJ 3))
        exact tmps_pat rfl
    -- gen_sel end
    exact T000 _ _ _ _ _ _ _ (tmps_pat rfl) (Ones.mk0 E8 bag _ _ _ _)
end
end Go.Proofs.Ytdljgifoboiaeaa
