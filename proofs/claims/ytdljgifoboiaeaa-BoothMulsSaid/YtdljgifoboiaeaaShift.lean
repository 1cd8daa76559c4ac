/- shift: Wide, amounts, none. -/
import Derived.Test.YtdljgifoboiaeaaFold2
import Derived.Test.YtdljgifoboiaeaaAdd2
import Derived.Test.YtdljgifoboiaeaaApp
import Derived.Test.YtdljgifoboiaeaaRowW
namespace Go.Proofs.Ytdljgifoboiaeaa
open Go.RowKit

theorem nbits_half {m : Nat} (h : 0 < m) : nbits m = nbits (m / 2) + 1 := by
  have h1 := two_pow_le_of_nbits h
  have h2 := lt_nbits m
  have h3 := nbits_pos.2 h
  obtain ⟨k, hk⟩ : ∃ k, nbits m = k + 1 := ⟨nbits m - 1, by omega⟩
  rw [hk] at h1 h2 ⊢
  rw [Nat.add_sub_cancel] at h1
  rw [Nat.pow_succ] at h2
  have h4 : nbits (m / 2) ≤ k := nbits_le (by omega)
  rcases Nat.lt_or_ge (nbits (m / 2)) k with h5 | h5
  · have h6 := lt_nbits (m / 2)
    have h7 : 2 ^ nbits (m / 2) * 2 ≤ 2 ^ k := by rw [← Nat.pow_succ]; exact Nat.pow_le_pow_right (by omega) h5
    omega
  · omega

set_option maxHeartbeats 1000000 in
set_option maxRecDepth 100000 in
theorem wide_calls (w : World) (n : Int) (hn : n < 4294967296) :
    Calls Try.prog 68 #[.int .i64 n] w fun e w' => e = .returned (.int .i64 (nbits n.toNat : Nat)) ∧ w = w' := by
  have hb : nbits n.toNat ≤ 32 := nbits_le (by omega)
  go_enter Try.func68, Try.ntmps68
  go_wp2
  go_loop [0, 3] (fun mv jv => ∃ (m : Int) (j : Nat), mv = .int .i64 m ∧ jv = .int .i64 j ∧ m < 4294967296 ∧ nbits m.toNat + j = nbits n.toNat) (fun mv _ => (intOf mv).toNat)
  case atStart => exact ⟨n, 0, rfl, rfl, hn, by omega⟩
  case round =>
    obtain ⟨m, j, rfl, rfl, hm, hj⟩ := hrel
    by_cases hp : 0 < m
    · obtain ⟨q, rfl⟩ : ∃ q : Nat, m = q := ⟨m.toNat, by omega⟩
      rw [Int.toNat_natCast] at hj
      have h2 := Lib.hid (nbits_half (m := q) (by omega))
      have hj2 : j ≤ 32 := by omega
      have HJ := Lib.hid hj
      have HB := Lib.hid hb
      clear hj hb hn
      have hq0 : 0 < q := by omega
      clear hp
      go_wp2_with fail
      exact ⟨⟨((q / 2 : Nat) : Int), j + 1, by congr 1, by congr 1, by omega, by rw [Int.toNat_natCast]; have := HJ.out; have := h2.out; omega⟩, by simp [intOf]; omega⟩
    · have h0 : m.toNat = 0 := by omega
      rw [h0, show nbits 0 = 0 from rfl] at hj
      have hj' : j = nbits n.toNat := by omega
      subst hj'
      go_wp2
      go_ret
      exact ⟨rfl, rfl⟩

/-! ### parts of words -/
theorem Row.takeR {α : Type} {k : Kd α} {w : World} {S : Nat → Prop} {A : Option Addr} {m c : Nat} {xs : List α} (h : Row k w S (.slice A m c) xs) (j : Nat) (hj : j ≤ m) : Row k w S (.slice A j c) (xs.take j) := by
  obtain ⟨A', c', css, he, h1, h2, h0, h3, h4⟩ := h
  injection he with e1 e2 e3
  subst e1; subst e2; subst e3
  refine ⟨A, c, css.take j, by rw [List.length_take, Nat.min_eq_left hj], by rw [List.length_take]; omega, h2, h0, h3.take j, fun hn => ?_⟩
  rw [List.length_take] at hn
  obtain ⟨b, off, hb, hlt, hS, hc⟩ := h4 (by omega)
  refine ⟨b, off, hb, hlt, hS, fun i u hu => hc i u ?_⟩
  have : css = css.take j ++ css.drop j := (List.take_append_drop j css).symm
  rw [this, List.flatten_append, List.getElem?_append_left (List.getElem?_eq_some_iff.1 hu).1]
  exact hu

section
variable {C : World → Prop} {p X : Nat} {st0 st : BSt} {w : World} {N : Nat} {L : List Ent} {K : (Int → Bool) → Prop}
theorem Env.wTake (E : Env C p X st0 w st N L K) {A : Option Addr} {m c : Nat} {xs : List Int} (h : Ent.word (.slice A m c) xs ∈ L) (j : Nat) (hj : j ≤ m) : Env C p X st0 w st N (.word (.slice A j c) (xs.take j) :: L) K :=
  E.add _ ⟨(E.wd h).takeR j hj, (E.okay h).take j, by rw [List.length_take]; have := E.len h; omega⟩
theorem Env.wDrop (E : Env C p X st0 w st N L K) {b off m c : Nat} {xs : List Int} (h : Ent.word (.slice (some ⟨b, off, none⟩) m c) xs ∈ L) (j : Nat) (hj : j ≤ m) : Env C p X st0 w st N (.word (.slice (some ⟨b, off + j, none⟩) (m - j) (c - j)) (xs.drop j) :: L) K :=
  E.add _ ⟨by have := (E.wd h).drop j hj; rwa [show j * kInt.size = j from Nat.mul_one j] at this, (E.okay h).drop j, by rw [List.length_drop]; have := E.len h; omega⟩
/-- an empty word, wherever it begins -/
theorem Env.wNil (E : Env C p X st0 w st N L K) (a : Addr) (c : Nat) (hc : c ≤ maxLen) : Env C p X st0 w st N (.word (.slice (some a) 0 c) [] :: L) K :=
  E.add _ ⟨⟨some a, c, [], rfl, Nat.zero_le _, hc, (fun h => nomatch h), Pairs.nil _ _ _, fun h => by simp at h⟩, Okay.nil _, by simp⟩

theorem foldB_or (V : Int → Bool) (xs : List Int) : foldB 4 (xs.map V) = decide (numV V xs ≠ 0) := by
  induction xs with
  | nil => rfl
  | cons x xs ih =>
    rw [List.map_cons, foldB_cons, ih, numV_cons]
    cases hx : V x
    · rw [show gateK 4 false (decide (numV V xs ≠ 0)) = decide (numV V xs ≠ 0) by simp [gateK]]
      congr 1
      simp; omega
    · simp [gateK]
theorem foldB_and (V : Int → Bool) (xs : List Int) : foldB 3 (xs.map V) = decide (numV V xs + 1 = 2 ^ xs.length) := by
  induction xs with
  | nil => rfl
  | cons x xs ih =>
    rw [List.map_cons, foldB_cons, ih, numV_cons, List.length_cons, Nat.pow_succ]
    cases hx : V x
    · simp [gateK]; omega
    · rw [show gateK 3 true (decide (numV V xs + 1 = 2 ^ xs.length)) = decide (numV V xs + 1 = 2 ^ xs.length) by simp [gateK]]
      congr 1
      simp; omega

set_option maxHeartbeats 4000000 in
set_option maxRecDepth 100000 in
attribute [local go_sem] max2_int min2_int max_two min_two in
/-- a word in two: the lowest places, and is there a 1 beyond? -/
theorem Env.amounts (E : Env C p X st0 w st N L K) {v : Value} {ys : List Int} (hy : Ent.word v ys ∈ L) (h0 : 0 < ys.length) (n : Nat) (hn : n ≤ 4096) (k : Nat) (hk : min (nbits (n - 1)) ys.length = k) (hN : N + 1024 < 1099511627776) :
    Calls Try.prog 116 #[.pointer (some ⟨p, 0, none⟩), v, .int .i64 n] w fun e w' => ∃ u c st', e = .returned (.tuple #[u, .int .i64 c]) ∧ Kept w.heap.size (some p) w w' ∧ Ext st st' ∧
      Env C p X st0 w' st' (N + 1024) (.pl c :: .word u (ys.take k) :: L) (fun V => K V ∧ V c = decide (2 ^ k ≤ numV V ys)) := by
  have hl := E.len hy
  obtain ⟨A1, c1, rfl, hc1, hc2⟩ := E.shape hy
  obtain ⟨b, off, rfl⟩ := E.start_ hy h0
  have hkl : k ≤ ys.length := by omega
  have E1 := E.wTake hy k hkl
  have hmin : min ((nbits (n - 1) : Nat) : Int) (ys.length : Int) = k := by omega
  have hnn : ((n : Int) - 1).toNat = n - 1 := by omega
  have hsem : ∀ V, decide (numV V (ys.drop k) ≠ 0) = decide (2 ^ k ≤ numV V ys) := fun V => by
    congr 1
    rw [numV_drop]
    have hp := Nat.two_pow_pos k
    refine propext ⟨fun h => Nat.le_of_not_lt fun h' => h (Nat.div_eq_of_lt h'), fun h h' => ?_⟩
    have := Nat.div_pos h hp
    omega
  have HK := Lib.hid hk
  clear hk
  by_cases hck : c1 = k
  · obtain rfl : k = ys.length := by omega
    obtain rfl : ys.length = c1 := by omega
    clear hc1 hkl hck
    have E2 := (E1.wNil ⟨b, off, none⟩ 0 (by omega)).drew
    have hd : ys.drop ys.length = [] := List.drop_of_length_le (by omega)
    go_enter Try.func116, Try.ntmps116
    go_wp2_with fail
    refine (wide_calls _ _ (by omega)).mono ?_
    rintro e w1 ⟨rfl, rfl⟩
    rw [hnn]
    go_wp2_with fail
    go_region_held3 (fun _ => True) (exact trivial) ((go_at_call 118; refine (E2.fold 4 (xs := []) (by repeat with_reducible first | apply mem_hd | assumption | apply mem_tl) hN).mono ?_; rintro e w2 ⟨c, st2, rfl, k2, x2, E3⟩))
    go_wp2
    go_ret2
    exact ⟨.slice (some ⟨b, off, none⟩) ys.length ys.length, c, st2, rfl, E.kdrew.then k2, x2, (E3.only (L' := .pl c :: .word _ (ys.take ys.length) :: L) (by repeat with_reducible first | refine sub_cons (by repeat with_reducible first | apply mem_hd | assumption | apply mem_tl) ?_ | exact sub_nil | apply sub_refl | apply sub_tail)).know fun V ⟨h, e⟩ => ⟨h, by rw [← hsem V, hd, ← foldB_or]; exact e⟩⟩
  · have E2 := (E1.wDrop (xs := ys) (by repeat with_reducible first | apply mem_hd | assumption | apply mem_tl) k hkl).drew
    have hk1 : k ≤ c1 := by omega
    go_enter Try.func116, Try.ntmps116
    go_wp2_with fail
    refine (wide_calls _ _ (by omega)).mono ?_
    rintro e w1 ⟨rfl, rfl⟩
    rw [hnn]
    go_wp2_with fail
    go_region_held3 (fun _ => True) (exact trivial) ((go_at_call 118; refine (E2.fold 4 (xs := ys.drop k) (by repeat with_reducible first | apply mem_hd | assumption | apply mem_tl) hN).mono ?_; rintro e w2 ⟨c, st2, rfl, k2, x2, E3⟩))
    go_wp2
    go_ret2
    exact ⟨.slice (some ⟨b, off, none⟩) k c1, c, st2, rfl, E.kdrew.then k2, x2, (E3.only (L' := .pl c :: .word _ (ys.take k) :: L) (by repeat with_reducible first | refine sub_cons (by repeat with_reducible first | apply mem_hd | assumption | apply mem_tl) ?_ | exact sub_nil | apply sub_refl | apply sub_tail)).know fun V ⟨h, e⟩ => ⟨h, by rw [← hsem V, ← foldB_or]; exact e⟩⟩

/-- a word, or 0, if a bit is 1 -/
theorem none_num {V : Int → Bool} {xs r : List Int} {a : Bool} (hl : r.length = xs.length) (h : ∀ j, j < xs.length → (numV V r).testBit j = ((numV V xs).testBit j && !a)) : numV V r = if a then 0 else numV V xs := by
  have hx := numV_lt V xs
  refine numV_ext (by rw [hl]; split <;> omega) fun i hi => ?_
  rw [← numV_at (V := V) hi, h i (by omega)]
  cases a <;> simp
set_option maxHeartbeats 1000000 in
theorem Env.none_ (E : Env C p X st0 w st N L K) {v : Value} {xs : List Int} {c : Int} (hx : Ent.word v xs ∈ L) (hc : Ent.pl c ∈ L) (hN : N + 1025 < 1099511627776) :
    Calls Try.prog 117 #[.pointer (some ⟨p, 0, none⟩), v, .int .i64 c] w (ToldW C p st0 st w (N + 1025) L K xs.length fun V r => numV V r = if V c then 0 else numV V xs) := by
  have hl := E.len hx
  obtain ⟨A1, c1, rfl, -, -⟩ := E.shape hx
  go_enter Try.func117, Try.ntmps117
  go_wp2_with fail
  refine (E.mark.not (x := c) (by repeat with_reducible first | apply mem_hd | assumption | apply mem_tl) (by omega)).mono ?_
  rintro e w1 ⟨kp, st1, rfl, k1, x1, E1⟩
  obtain ⟨B, hB⟩ : ∃ B, w1.heap.size = B := ⟨_, rfl⟩
  have hwB : w.heap.size ≤ B := hB ▸ k1.size
  have E0 := E1.top
  rw [hB] at E0
  clear E1
  go_wp2_with fail
  go_loopw [8, 16] (fun sv iv wr => ∃ i r st', i ≤ xs.length ∧ iv = .int .i64 (i : Nat) ∧ Hid (r.length = i) ∧ Fine wr p st' B sv r ∧
      Env (fun a => C a ∧ Kept w.heap.size (some p) w a) p B st wr st' (N + 1 + i) (.pl kp :: L) (fun V => (K V ∧ V kp = !V c) ∧ ∀ j, j < i → (numV V r).testBit j = ((numV V xs).testBit j && !V c)))
    (fun _ iv _ => xs.length - (intOf iv).toNat)
  case atStart => exact ⟨0, [], st1, by omega, rfl, Lib.hid rfl, ⟨Own.nil _ _ _ _ _, Okay.nil _, by simp⟩, E0.know fun V h => ⟨h, fun j hj => by omega⟩⟩
  case round =>
    clear E0
    obtain ⟨i, r, st', hi, rfl, hr, fr, E1⟩ := hrel
    by_cases hlt : i < xs.length
    · obtain ⟨b1, o1, rfl⟩ := E1.start_ (xs := xs) (by repeat with_reducible first | apply mem_hd | assumption | apply mem_tl) (by omega)
      have E2 := E1.addPl ((E1.okay (xs := xs) (by repeat with_reducible first | apply mem_hd | assumption | apply mem_tl)).at hlt)
      have q1 := E2.cell (xs := xs) (by repeat with_reducible first | apply mem_hd | assumption | apply mem_tl) hlt
      go_wp2_with fail
      refine (E2.and (x := xs[i]) (y := kp) (by repeat with_reducible first | apply mem_hd | assumption | apply mem_tl) (by repeat with_reducible first | apply mem_hd | assumption | apply mem_tl) (by omega)).mono ?_
      rintro e w2 ⟨g, st2, rfl, k2, x2, E2⟩
      have fr := fr.kept k2 x2
      have kg := E2.at_ (c := g) (by repeat with_reducible first | apply mem_hd | assumption | apply mem_tl)
      go_wp2_with (at_builtin; refine app1E rfl (.tmp 20) (.tmp 25) rfl Try.underlying26 infoInt E2 fr (Nat.le_refl _) E2.size rfl g rfl kg (by have := hr.out; omega) ?_; intro v' w4 k5 fr E2)
      go_roundw
      case rel =>
        exact ⟨i + 1, _, _, by omega, by go_num, Lib.hid (by rw [List.length_append, hr.out]; rfl), fr, ((E2.only (L' := .pl kp :: L) (by repeat with_reducible first | refine sub_cons (by repeat with_reducible first | apply mem_hd | assumption | apply mem_tl) ?_ | exact sub_nil | apply sub_refl | apply sub_tail)).cntle (by omega)).know fun V ⟨⟨⟨h, h2⟩, hj⟩, e1⟩ => ⟨⟨h, h2⟩, fun j hji => by
          rw [numV_testBit, List.map_append, List.getD_eq_getElem?_getD, List.getElem?_append]
          by_cases hj2 : j < i
          · rw [if_pos (by rw [List.length_map, hr.out]; exact hj2), ← hj j hj2, numV_testBit, List.getD_eq_getElem?_getD]
          · obtain rfl : j = i := by omega
            rw [if_neg (by rw [List.length_map, hr.out]; omega), List.length_map, hr.out, Nat.sub_self, numV_at hlt, ← h2]
            exact e1⟩⟩
      case measure => simp [intOf]; omega
    · obtain rfl : i = xs.length := by omega
      have E2 := (E1.top.fine fr).only (L' := .word _ r :: L) (by repeat with_reducible first | refine sub_cons (by repeat with_reducible first | apply mem_hd | assumption | apply mem_tl) ?_ | exact sub_nil | apply sub_refl | apply sub_tail)
      go_wp2
      go_ret
      exact ⟨_, r, st', hr, rfl, E1.c.2, E1.ext, fr.lower hwB, ((E2.cntle (by omega)).done E).know fun V ⟨⟨h, h2⟩, e1⟩ => ⟨h, none_num hr.out e1⟩⟩
end
end Go.Proofs.Ytdljgifoboiaeaa
