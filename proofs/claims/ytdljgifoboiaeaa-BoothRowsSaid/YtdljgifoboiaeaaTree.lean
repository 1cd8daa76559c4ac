/- tree.Three: two words of three. -/
import Derived.Test.YtdljgifoboiaeaaL14
import Derived.Test.YtdljgifoboiaeaaApp
namespace Go.Proofs.Ytdljgifoboiaeaa
open Go.RowKit

theorem max_three (ats : Array TypeId) (ty : TypeId) (a b c : Value) : Builtin.max_ ats ty #[a, b, c] = (Builtin.max2 a b >>= fun s => Builtin.max2 s c >>= fun s => pure s) := by simp only [Builtin.max_, List.foldlM_cons, List.foldlM_nil]

/-- bit by bit: a full adder in each place -/
theorem three_num {a b c s k n : Nat} (ha : a < 2 ^ n) (hb : b < 2 ^ n) (hc : c < 2 ^ n) (hs : s < 2 ^ n) (hk : k < 2 ^ n)
    (h1 : ∀ i, i < n → s.testBit i = ((a.testBit i != b.testBit i) != c.testBit i)) (h2 : ∀ i, i < n → k.testBit i = ((a.testBit i && b.testBit i) || ((a.testBit i != b.testBit i) && c.testBit i))) : s + 2 * k = a + b + c := by
  have key : ∀ m, m ≤ n → s % 2 ^ m + 2 * (k % 2 ^ m) = a % 2 ^ m + b % 2 ^ m + c % 2 ^ m := by
    intro m
    induction m with
    | zero => intro _; simp [Nat.mod_one]
    | succ m ih =>
      intro hm
      have := ih (by omega)
      rw [mod_succ, mod_succ, mod_succ, mod_succ, mod_succ, h1 m (by omega), h2 m (by omega)]
      cases a.testBit m <;> cases b.testBit m <;> cases c.testBit m <;> simp <;> omega
  have := key n (Nat.le_refl _)
  rwa [Nat.mod_eq_of_lt ha, Nat.mod_eq_of_lt hb, Nat.mod_eq_of_lt hc, Nat.mod_eq_of_lt hs, Nat.mod_eq_of_lt hk] at this

section
variable {C : World → Prop} {p X : Nat} {st0 st : BSt} {w : World} {N : Nat} {L : List Ent} {K : (Int → Bool) → Prop}

set_option maxHeartbeats 4000000 in
set_option maxRecDepth 100000 in
attribute [local go_sem] max2_int min2_int max_two min_two max_three in
theorem Env.three (E : Env C p X st0 w st N L K) {v u t : Value} {xs ys zs : List Int} (hx : Ent.word v xs ∈ L) (hy : Ent.word u ys ∈ L) (hz : Ent.word t zs ∈ L) (h0 : 0 < xs.length) (hl : xs.length ≤ 1000 ∧ ys.length ≤ 1000 ∧ zs.length ≤ 1000) (hN : N + 24000 < 1099511627776) :
    Calls Try.prog 111 #[.pointer (some ⟨p, 0, none⟩), v, u, t] w (ToldW2 C p st0 st w (N + 24000) L K (max (max xs.length ys.length) zs.length) (max (max xs.length ys.length) zs.length + 1) fun V r q => numV V r + numV V q = numV V xs + numV V ys + numV V zs) := by
  obtain ⟨A1, c1, rfl, -, -⟩ := E.shape hx
  obtain ⟨A2, c2, rfl, -, -⟩ := E.shape hy
  obtain ⟨A3, c3, rfl, -, -⟩ := E.shape hz
  obtain ⟨n, hn⟩ : ∃ n : Nat, max (max (xs.length : Int) ys.length) zs.length = n := ⟨max (max xs.length ys.length) zs.length, by omega⟩
  have hn2 : Hid (max (max xs.length ys.length) zs.length = n) := Lib.hid (by omega)
  have hnl : xs.length ≤ n ∧ ys.length ≤ n ∧ zs.length ≤ n ∧ n ≤ 1000 := by omega
  have E0 := E
  go_enter Try.func111, Try.ntmps111
  go_wp2_with fail
  refine (E.mark.pad (xs := xs) (by repeat with_reducible first | apply mem_hd | assumption | apply mem_tl) n (by omega) (by omega)).mono ?_
  rintro e w1 ⟨v1, r1, st1, h1, rfl, k1, -, -, E⟩
  go_wp2_with fail
  refine (E.pad (xs := ys) (by repeat with_reducible first | apply mem_hd | assumption | apply mem_tl) n (by omega) (by omega)).mono ?_
  rintro e w2 ⟨v2, r2, st2, h2, rfl, k2, -, -, E⟩
  go_wp2_with fail
  refine (E.pad (xs := zs) (by repeat with_reducible first | apply mem_hd | assumption | apply mem_tl) n (by omega) (by omega)).mono ?_
  rintro e w3 ⟨v3, r3, st3, h3, rfl, k3, -, -, E⟩
  rw [Int.toNat_natCast] at h1 h2 h3
  go_wp2_with fail
  refine (E.each 5 (xs := r1) (ys := r2) (by repeat with_reducible first | apply mem_hd | assumption | apply mem_tl) (by repeat with_reducible first | apply mem_hd | assumption | apply mem_tl) (by omega)).mono ?_
  rintro e w4 ⟨v4, r4, st4, h4, rfl, k4, -, -, E⟩
  go_wp2_with fail
  refine (E.each 3 (xs := r1) (ys := r2) (by repeat with_reducible first | apply mem_hd | assumption | apply mem_tl) (by repeat with_reducible first | apply mem_hd | assumption | apply mem_tl) (by omega)).mono ?_
  rintro e w5 ⟨v5, r5, st5, h5, rfl, k5, -, -, E⟩
  go_wp2_with fail
  refine (E.bit 0 (by omega)).mono ?_
  rintro e w6 ⟨c, st6, rfl, k6, -, E⟩
  rw [h1.out, h2.out, Nat.max_self] at h4 h5
  have hw06 := ((((k1.then k2).then k3).then k4).then k5).then k6
  have f7 := E.litOwn [c] 1 rfl (by omega) (okay_cons (E.at_ (c := c) (by repeat with_reducible first | apply mem_hd | assumption | apply mem_tl)) (okay_nil _)) #[.int .i64 c] rfl
  have E7 := E.top.alloc (.cells #[.int .i64 c] 3)
  go_wp2_with fail
  refine (E7.each 3 (xs := r4) (ys := r3) (by repeat with_reducible first | apply mem_hd | assumption | apply mem_tl) (by repeat with_reducible first | apply mem_hd | assumption | apply mem_tl) (by omega)).mono ?_
  rintro e w8 ⟨v8, r8, st8, h8, rfl, k8, x8, -, E8⟩
  have f7 := f7.kept k8 x8
  have E7 := E7.behind k8 x8 E8
  go_wp2_with fail
  refine (E8.each 4 (xs := r5) (ys := r8) (by repeat with_reducible first | apply mem_hd | assumption | apply mem_tl) (by repeat with_reducible first | apply mem_hd | assumption | apply mem_tl) (by omega)).mono ?_
  rintro e w9 ⟨v9, r9, st9, h9, rfl, k9, x9, -, E9⟩
  have f7 := f7.kept k9 x9
  have E7 := E7.behind k9 x9 E9
  rw [h4.out, h3.out, Nat.max_self] at h8
  rw [h5.out, h8.out, Nat.max_self] at h9
  obtain ⟨A9, c9, hv9, -, -⟩ := E9.shape (xs := r9) (by repeat with_reducible first | apply mem_hd | assumption | apply mem_tl)
  subst hv9
  have t1 := E9.wd (xs := r9) (by repeat with_reducible first | apply mem_hd | assumption | apply mem_tl)
  have t2 := E9.okay (xs := r9) (by repeat with_reducible first | apply mem_hd | assumption | apply mem_tl)
  have t3 : 0 < r9.length := by rw [h9.out]; omega
  have t4 : [c].length + r9.length ≤ 1024 := by rw [h9.out]; simp; omega
  have hw7 : w.heap.size ≤ w6.heap.size := hw06.size
  clear E8 E9
  go_wp2_with ((at_builtin; refine appE rfl (.tmp 44) (.tmp 51) rfl Try.underlying26 infoInt E7 f7 (Nat.le_refl _) E7.size rfl rfl t1 t2 t3 t4 ?_; intro v10 w10 k10 f10 E10))
  refine (E10.each 5 (xs := r4) (ys := r3) (by repeat with_reducible first | apply mem_hd | assumption | apply mem_tl) (by repeat with_reducible first | apply mem_hd | assumption | apply mem_tl) (by omega)).mono ?_
  rintro e w11 ⟨v11, r11, st11, h11, rfl, k11, x11, f11, E11⟩
  have f12 := f10.kept k11 x11
  rw [h4.out, h3.out, Nat.max_self] at h11
  have E12 := (E11.top.fine f12).only (L' := .word v10 ([c] ++ r9) :: .word v11 r11 :: L) (by repeat with_reducible first | refine sub_cons (by repeat with_reducible first | apply mem_hd | assumption | apply mem_tl) ?_ | exact sub_nil | apply sub_refl | apply sub_tail)
  have hlen : ([c] ++ r9).length = n + 1 := by rw [List.length_append, h9.out, List.length_singleton, Nat.add_comm]
  have h710 : w6.heap.size ≤ w10.heap.size := E10.size
  clear E7 E10 E11 t1 t2 t3 t4
  go_wp2
  go_ret2
  exact ⟨v11, r11, v10, _, st11, Lib.hid (h11.out.trans hn2.out.symm), Lib.hid (hlen.trans (by rw [hn2.out])), rfl, E12.c.2, E12.ext, f11.lower (Nat.le_trans hw7 h710), f12.lower hw7, ((E12.cntle (by omega)).done E0).know fun V ⟨⟨⟨⟨⟨⟨⟨⟨⟨h, a1⟩, a2⟩, a3⟩, a4⟩, a5⟩, a6⟩, a8⟩, a9⟩, a11⟩ => ⟨h, by
    dsimp only
    rw [Int.toNat_natCast, numV_wide V (by omega)] at a1 a2 a3
    have l1 := numV_lt V xs
    have l2 := numV_lt V ys
    have l3 := numV_lt V zs
    have p1 : 2 ^ xs.length ≤ 2 ^ n := Nat.pow_le_pow_right (by omega) (by omega)
    have p2 : 2 ^ ys.length ≤ 2 ^ n := Nat.pow_le_pow_right (by omega) (by omega)
    have p3 : 2 ^ zs.length ≤ 2 ^ n := Nat.pow_le_pow_right (by omega) (by omega)
    have l4 := numV_lt V r11
    have l5 := numV_lt V r9
    rw [h11.out] at l4
    rw [h9.out] at l5
    rw [h1.out, h2.out, Nat.max_self, a1, a2] at a4 a5
    rw [h4.out, h3.out, Nat.max_self, a3] at a8 a11
    rw [h5.out, h8.out, Nat.max_self] at a9
    rw [numV_append, numV_one, a6]
    have key := three_num (Nat.lt_of_lt_of_le l1 p1) (Nat.lt_of_lt_of_le l2 p2) (Nat.lt_of_lt_of_le l3 p3) l4 l5 (fun i hi => by rw [a11 i hi, a4 i hi]; rfl) (fun i hi => by rw [a9 i hi, a5 i hi, a8 i hi, a4 i hi]; rfl)
    simpa using key⟩⟩
end
end Go.Proofs.Ytdljgifoboiaeaa
