/- slipsticklaw14: awake. -/
import Derived.Test.YtdljgifoboiaeaaLaw
import Derived.Test.YtdljgifoboiaeaaAdd2
namespace Go.Proofs.Ytdljgifoboiaeaa
open Go.RowKit

section
variable {C : World → Prop} {p X : Nat} {st0 st : BSt} {w : World} {N : Nat} {L : List Ent} {K : (Int → Bool) → Prop}
/-- a word that is written out -/
theorem Env.litW (E : Env C p X st0 w st N L K) (xs : List Int) (n : Nat) (hn : xs.length = n) (hl : n ≤ 1024) (hok : Okay st xs) (cs : Array Value) (hcs : cs.toList = xs.map (Value.int .i64)) :
    Env C p (w.alloc (.cells cs 3)).heap.size st0 (w.alloc (.cells cs 3)) st N (.word (.slice (some ⟨w.heap.size, 0, none⟩) n n) xs :: L) K := by
  subst hn
  have hr := lit_any kInt 3 w (foot w (some p)) E.there xs (xs.map fun x => [Value.int .i64 x]) cs (by rw [hcs, flat_ints]) (ints_pairs _ _ _) (by omega)
  have hb : Below w.heap.size w (w.alloc (.cells cs 3)) := (Below.refl _ _).alloc (Nat.le_refl _) _
  exact (E.quiet hb).addWord (hr.mono fun i hi hm => hm.elim (fun h => by omega) fun h => (foot_of_heap (w := w) (w' := w.alloc (.cells cs 3)) (fun i hi => hb.block i (E.rep.fin i hi)) i).1 h) hok hl
theorem Env.cells2 (E : Env C p X st0 w st N L K) {b off c : Nat} {x y : Int} (h : Ent.word (.slice (some ⟨b, off, none⟩) 2 c) [x, y] ∈ L) : w.cell? ⟨b, off, none⟩ = some (.int .i64 x) ∧ w.cell? ⟨b, off + 1, none⟩ = some (.int .i64 y) :=
  ⟨E.cell h (i := 0) (by simp), E.cell h (i := 1) (by simp)⟩
theorem okay_of (st : BSt) (xs : List Int) (h : ∀ x ∈ xs, At st x) : Okay st xs := h
end
theorem okay_nil (st : BSt) : ∀ x ∈ ([] : List Int), At st x := fun x h => by simp at h
theorem okay_cons {st : BSt} {y : Int} {xs : List Int} (h : At st y) (hs : ∀ x ∈ xs, At st x) : ∀ x ∈ y :: xs, At st x := fun x hx => by
  rcases List.mem_cons.1 hx with rfl | hx
  · exact h
  · exact hs x hx
theorem two_of {xs : List Int} (h : xs.length = 2) : ∃ a b, xs = [a, b] := by
  match xs, h with
  | [a, b], _ => exact ⟨a, b, rfl⟩


theorem bits2 (V : Int → Bool) (a b : Int) : numV V [a, b] = (V a).toNat + 2 * (V b).toNat := by simp [numV_cons, numV_nil]
theorem num7 (V : Int → Bool) (a b c d e f g : Int) : numV V [a, b, c, d, e, f, g] = (V a).toNat + 2 * (V b).toNat + 4 * (V c).toNat + 8 * (V d).toNat + 16 * (V e).toNat + 32 * (V f).toNat + 64 * (V g).toNat := by
  simp only [numV_cons, numV_nil]; omega
theorem toNat_le (b : Bool) : b.toNat ≤ 1 := by cases b <;> decide
set_option maxHeartbeats 4000000 in
set_option maxRecDepth 100000 in
theorem awake14 (w : World) : Calls Try.prog 35 #[] w fun e w' => e = .returned (.bool true) ∧ Below w.heap.size w w' := by
  go_enter Try.func35, Try.ntmps35
  go_wp2_with fail
  refine (in14 w 2 2 (by omega) (by omega)).mono ?_
  rintro e w1 ⟨p, X, vx, vy, xs, ys, c, st1, rfl, hx, hy, hi, hP, E⟩
  go_wp2_with fail
  refine (E.prefix (xs := xs) (ys := ys) (by repeat with_reducible first | apply mem_hd | assumption | apply mem_tl) (by repeat with_reducible first | apply mem_hd | assumption | apply mem_tl) (by repeat with_reducible first | apply mem_hd | assumption | apply mem_tl) (by omega)).mono ?_
  rintro e w2 ⟨vs, rs, top, st2, hs, rfl, -, -, -, E⟩
  rw [hx.out, hy.out, Nat.max_self] at hs
  go_wp2_with fail
  refine (E.sub (xs := xs) (ys := ys) (by repeat with_reducible first | apply mem_hd | assumption | apply mem_tl) (by repeat with_reducible first | apply mem_hd | assumption | apply mem_tl) (by omega)).mono ?_
  rintro e w3 ⟨vd, rd, no, st3, hd, rfl, -, -, -, E⟩
  rw [hx.out, hy.out, Nat.max_self] at hd
  obtain ⟨s0, s1, rfl⟩ := two_of hs.out
  obtain ⟨d0, d1, rfl⟩ := two_of hd.out
  obtain ⟨A1, c1, hv1, -, -⟩ := E.shape (v := vs) (by repeat with_reducible first | apply mem_hd | assumption | apply mem_tl)
  obtain ⟨A2, c2, hv2, -, -⟩ := E.shape (v := vd) (by repeat with_reducible first | apply mem_hd | assumption | apply mem_tl)
  subst hv1; subst hv2
  obtain ⟨b1, o1, rfl⟩ := E.start_ (xs := [s0, s1]) (by repeat with_reducible first | apply mem_hd | assumption | apply mem_tl) (by simp)
  obtain ⟨b2, o2, rfl⟩ := E.start_ (xs := [d0, d1]) (by repeat with_reducible first | apply mem_hd | assumption | apply mem_tl) (by simp)
  have a0 : At st3 s0 := (E.okay (xs := [s0, s1]) (by repeat with_reducible first | apply mem_hd | assumption | apply mem_tl)).at (i := 0) (by simp)
  have a1 : At st3 s1 := (E.okay (xs := [s0, s1]) (by repeat with_reducible first | apply mem_hd | assumption | apply mem_tl)).at (i := 1) (by simp)
  have a2 : At st3 d0 := (E.okay (xs := [d0, d1]) (by repeat with_reducible first | apply mem_hd | assumption | apply mem_tl)).at (i := 0) (by simp)
  have a3 : At st3 d1 := (E.okay (xs := [d0, d1]) (by repeat with_reducible first | apply mem_hd | assumption | apply mem_tl)).at (i := 1) (by simp)
  have E := (((E.addPl a0).addPl a1).addPl a2).addPl a3
  simp only [List.length_cons, List.length_nil, Nat.zero_add, Nat.reduceAdd] at E
  have q1 := E.cells2 (x := s0) (y := s1) (by repeat with_reducible first | apply mem_hd | assumption | apply mem_tl)
  have q2 := E.cells2 (x := d0) (y := d1) (by repeat with_reducible first | apply mem_hd | assumption | apply mem_tl)
  have E := E.drew
  clear hs hd a0 a1 a2 a3
  have Q := Lib.hid (And.intro q1 q2)
  clear q1 q2
  go_wp2_with fail
  go_region_held3 (fun w' => (w'.cell? ⟨b1, o1, none⟩ = some (.int .i64 s0) ∧ w'.cell? ⟨b1, o1 + 1, none⟩ = some (.int .i64 s1)) ∧ (w'.cell? ⟨b2, o2, none⟩ = some (.int .i64 d0) ∧ w'.cell? ⟨b2, o2 + 1, none⟩ = some (.int .i64 d1)))
    (first | with_reducible exact Q.out | with_reducible exact ⟨E.cells2 (by repeat with_reducible first | apply mem_hd | assumption | apply mem_tl), E.cells2 (by repeat with_reducible first | apply mem_hd | assumption | apply mem_tl)⟩ | with_reducible exact ⟨(E.alloc _).cells2 (by repeat with_reducible first | apply mem_hd | assumption | apply mem_tl), (E.alloc _).cells2 (by repeat with_reducible first | apply mem_hd | assumption | apply mem_tl)⟩)
    (first | (go_at_call 38; refine (E.less (xs := xs) (ys := ys) (by repeat with_reducible first | apply mem_hd | assumption | apply mem_tl) (by repeat with_reducible first | apply mem_hd | assumption | apply mem_tl) (by omega)).mono ?_; rintro e w4 ⟨l, st4, rfl, -, -, E⟩) | (go_at_call 17; refine ((E.litW [s0, s1, top, d0, d1, no, l] 7 rfl (by omega) (okay_cons (E.at_ (by repeat with_reducible first | apply mem_hd | assumption | apply mem_tl)) (okay_cons (E.at_ (by repeat with_reducible first | apply mem_hd | assumption | apply mem_tl)) (okay_cons (E.at_ (by repeat with_reducible first | apply mem_hd | assumption | apply mem_tl)) (okay_cons (E.at_ (by repeat with_reducible first | apply mem_hd | assumption | apply mem_tl)) (okay_cons (E.at_ (by repeat with_reducible first | apply mem_hd | assumption | apply mem_tl)) (okay_cons (E.at_ (by repeat with_reducible first | apply mem_hd | assumption | apply mem_tl)) (okay_cons (E.at_ (by repeat with_reducible first | apply mem_hd | assumption | apply mem_tl)) (okay_nil _)))))))) #[.int .i64 s0, .int .i64 s1, .int .i64 top, .int .i64 d0, .int .i64 d1, .int .i64 no, .int .i64 l] rfl).out hP ⟨#[122]⟩ (xs := [s0, s1, top, d0, d1, no, l]) (by repeat with_reducible first | apply mem_hd | assumption | apply mem_tl) (by simp) (by rw [hi.out.2]; simp)).mono ?_; rintro e w5 ⟨st5, rfl, hi5, hP5, E⟩))
  rw [hi.out.1, hi.out.2, List.nil_append] at hi5
  go_wp2_with fail
  refine (E.ref (word01_ref _ _ E.there 3 (by decide))).mono ?_
  rintro e w6 ⟨v6, rfl, -, E⟩
  go_wp2_with fail
  refine (E.ref (word01_ref _ _ E.there 1 (by decide))).mono ?_
  rintro e w7 ⟨v7, rfl, -, E⟩
  go_wp2_with fail
  refine (E.told hP5 hi5 (a := 3) (b := 1) false (by repeat with_reducible first | apply mem_hd | assumption | apply mem_tl) (by repeat with_reducible first | apply mem_hd | assumption | apply mem_tl) (by decide) (by decide) 2 2 hx hy (by omega) (by omega) (by omega)).mono ?_
  rintro e w8 ⟨v8, V, rfl, -, hV, hvals, E⟩
  have hK := Lib.hid (E.sem V hV)
  go_wp2_with fail
  refine (E.ref (word01_ref _ _ E.there 52 (by decide))).mono ?_
  rintro e w9 ⟨v9, rfl, -, E⟩
  go_wp2_with fail
  refine (is_ref _ _ _ E.there _ _ (parts32 (numV V [s0, s1, top, d0, d1, no, l])) 52 (E.rwF (by repeat with_reducible first | apply mem_hd | assumption | apply mem_tl)) (E.rwF (by repeat with_reducible first | apply mem_hd | assumption | apply mem_tl)) (out_len V (by simp)) (by decide)).mono ?_
  rintro e w10 ⟨rfl, hb10⟩
  have hnum : numV V [s0, s1, top, d0, d1, no, l] = 52 := by
    obtain ⟨⟨⟨-, f1⟩, f2⟩, f3⟩ := hK.out
    obtain ⟨g1, g2, g3⟩ := hvals.out
    rw [hx.out, hy.out, Nat.max_self, g1, g2, g3, bits2] at f1
    rw [hx.out, hy.out, Nat.max_self, g1, g2, bits2] at f2
    rw [g1, g2] at f3
    have f4 : V l = false := f3
    rw [num7, f4]
    have := toNat_le (V s0)
    have := toNat_le (V s1)
    have := toNat_le (V d0)
    have := toNat_le (V d1)
    have := toNat_le (V top)
    have := toNat_le (V no)
    simp at f1 f2 ⊢
    omega
  rw [hnum, decide_eq_true rfl]
  have E := E.quiet hb10
  have HE := Lib.hid E.c.2
  clear hnum hK hvals E
  go_wp2
  go_ret
  exact ⟨rfl, HE.out⟩
end Go.Proofs.Ytdljgifoboiaeaa
