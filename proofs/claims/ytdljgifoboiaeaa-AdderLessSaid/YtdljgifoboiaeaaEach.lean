/- Words bit by bit: turned, chosen, put together. -/
import Derived.Test.YtdljgifoboiaeaaWords
import Derived.StillTailTactics
import Derived.Deep.DeepCutAuto
namespace Go.Proofs.Ytdljgifoboiaeaa
open Go.RowKit

theorem Row.int_at {w : World} {S : Nat → Prop} {A : Option Addr} {n c : Nat} {xs : List Int} (h : Row kInt w S (.slice A n c) xs) {i : Nat} (hi : i < xs.length) :
    ∃ b off, A = some ⟨b, off, none⟩ ∧ w.cell? ⟨b, off + i, none⟩ = some (.int .i64 xs[i]) := by
  have hn : n = xs.length := by obtain ⟨_, _, he, _⟩ := h.shape; injection he
  obtain ⟨b, off, rfl, x, cs, hx, hk, hc⟩ := h.at (i := i) (by omega)
  have hcs : cs = [.int .i64 x] := hk
  subst hcs
  refine ⟨b, off, rfl, ?_⟩
  have := hc 0 _ rfl
  have e : i * kInt.size + 0 = i := Nat.mul_one i
  rw [Nat.add_assoc, e] at this
  rw [this]
  rw [List.getElem?_eq_getElem hi] at hx
  injection hx with hx
  rw [hx]
theorem Row.len {α : Type} {k : Kd α} {w : World} {S : Nat → Prop} {A : Option Addr} {n c : Nat} {xs : List α} (h : Row k w S (.slice A n c) xs) : n = xs.length := by
  obtain ⟨_, _, he, _⟩ := h.shape; injection he

theorem Pairs.ints {w : World} {S : Nat → Prop} {xs : List Int} {css : List (List Value)} (h : Pairs kInt w S xs css) : css = xs.map fun x => [Value.int .i64 x] := by
  apply List.ext_getElem?
  intro i
  have hl := h.1
  rcases Nat.lt_or_ge i xs.length with hi | hi
  · have e : css[i]'(by omega) = [.int .i64 xs[i]] := h.2 i xs[i] _ (by simp [hi]) (by simp [show i < css.length by omega])
    simp [hi, show i < css.length by omega, e]
  · simp [hi, show css.length ≤ i by omega]
theorem flat_ints (xs : List Int) : (xs.map fun x => [Value.int .i64 x]).flatten = xs.map fun x => Value.int .i64 x := by
  induction xs with
  | nil => rfl
  | cons x xs ih => simp [ih]
theorem ints_pairs (w : World) (S : Nat → Prop) (xs : List Int) : Pairs kInt w S xs (xs.map fun x => [Value.int .i64 x]) :=
  ⟨by simp, fun i x cs hx hc => by simp [hx] at hc; exact hc.symm⟩
theorem Own.ints {e : TypeId} {w : World} {p : Option Nat} {B : Nat} {v : Value} {xs : List Int} (h : Own kInt e w p B v xs) : w.ownsRow B e 1 v xs.length (xs.map fun x => Value.int .i64 x) := by
  obtain ⟨css, h1, h2, _⟩ := h
  rw [h2.ints, flat_ints] at h1
  exact h1
theorem Own.of_ints {e : TypeId} {w : World} {p : Option Nat} {B : Nat} {v : Value} {xs : List Int} (h : w.ownsRow B e 1 v xs.length (xs.map fun x => Value.int .i64 x)) (hf : ∀ g, v.ownBlock = some g → ¬ foot w p g) : Own kInt e w p B v xs :=
  ⟨_, by rw [flat_ints]; exact h, ints_pairs _ _ _, hf⟩
theorem Own.form {α : Type} {k : Kd α} {e : TypeId} {w : World} {p : Option Nat} {B : Nat} {v : Value} {xs : List α} (h : Own k e w p B v xs) (hn : 0 < xs.length) : ∃ g c, v = .slice (some ⟨g, 0, none⟩) xs.length c ∧ xs.length ≤ c ∧ c ≤ maxLen := by
  obtain ⟨css, h1, _⟩ := h
  rcases h1.2 with ⟨_, h0⟩ | ⟨g, cap, _, hv, _, _, hc, hm, _⟩
  · omega
  · exact ⟨g, cap, hv, hc, hm⟩
theorem Own.cellAt {e : TypeId} {w : World} {p : Option Nat} {B g n c : Nat} {xs : List Int} (h : Own kInt e w p B (.slice (some ⟨g, 0, none⟩) n c) xs) {i : Nat} (hi : i < xs.length) : w.cell? ⟨g, i, none⟩ = some (.int .i64 xs[i]) ∧ w.frozen? ⟨g, i, none⟩ = false := by
  have h1 := h.ints
  have hn : n = xs.length := by obtain ⟨_, _, he, _⟩ := h.shape; injection he
  subst hn
  exact ⟨by rw [h1.cellAt i (by omega)]; simp [hi], h1.frozenAt i⟩
theorem Own.cellAt? {e : TypeId} {w : World} {p : Option Nat} {B g n c : Nat} {xs : List Int} (h : Own kInt e w p B (.slice (some ⟨g, 0, none⟩) n c) xs) {i : Nat} {r : Int} (hi : xs[i]? = some r) : w.cell? ⟨g, i, none⟩ = some (.int .i64 r) ∧ w.frozen? ⟨g, i, none⟩ = false := by
  obtain ⟨hl, rfl⟩ := List.getElem?_eq_some_iff.1 hi
  exact h.cellAt hl
/-- v[i] = r -/
theorem Own.store {e : TypeId} {w : World} {p : Option Nat} {B g n c : Nat} {xs : List Int} (h : Own kInt e w p B (.slice (some ⟨g, 0, none⟩) n c) xs) (hF : FootIn w p) (hB : B ≤ w.heap.size) (i : Nat) (r : Int) :
    Own kInt e (w.setCell ⟨g, i, none⟩ (.int .i64 r)) p B (.slice (some ⟨g, 0, none⟩) n c) (xs.set i r) ∧ w.grownBy (w.setCell ⟨g, i, none⟩ (.int .i64 r)) (some g) ∧ Kept B p w (w.setCell ⟨g, i, none⟩ (.int .i64 r)) ∧
      ∀ j, foot (w.setCell ⟨g, i, none⟩ (.int .i64 r)) p j ↔ foot w p j := by
  have hn : n = xs.length := by obtain ⟨_, _, he, _⟩ := h.shape; injection he
  subst hn
  have hs := h.ints.stored i (.int .i64 r)
  obtain ⟨hk, hfo⟩ := Kept.of_grown hs.2 hF hB fun g' hg => ⟨(h.base (g := g') hg).1, h.off hg⟩
  refine ⟨Own.of_ints ?_ (fun g' hg hf => h.off hg ((hfo _).1 hf)), hs.2, hk, hfo⟩
  rw [List.length_set, List.map_set]
  exact hs.1
/-- numbers that are owned can be read where their block is not in S -/
theorem Own.rowS {e : TypeId} {w : World} {p : Option Nat} {B : Nat} {v : Value} {xs : List Int} (h : Own kInt e w p B v xs) (S : Nat → Prop) (hS : ∀ g, v.ownBlock = some g → ¬ S g) : Row kInt w S v xs := by
  obtain ⟨A, c, css, rfl, r1, r2, r0, r3, r4⟩ := h.row (by decide) (Nat.le_refl _)
  refine ⟨A, c, css, rfl, r1, r2, r0, ⟨r3.1, fun i x cs hx hc => r3.2 i x cs hx hc⟩, fun hn => ?_⟩
  obtain ⟨b, off, rfl, q1, _, q3⟩ := r4 hn
  exact ⟨b, off, rfl, q1, hS b rfl, q3⟩

/-- read while the row X is written: neither the builder's, nor X's, nor later than B -/
def mayX (w : World) (p : Nat) (B : Nat) (X : Option Nat) (i : Nat) : Prop := B ≤ i ∨ foot w (some p) i ∨ X = some i
theorem Row.laidX {α : Type} {k : Kd α} {w w' : World} {p : Nat} {st : BSt} {B : Nat} {X : Option Nat} {v : Value} {xs : List α} (h : Row k w (mayX w p B X) v xs) (hL : Laid w p st w') : Row k w' (mayX w' p B X) v xs :=
  h.keep ⟨hL.2.size, fun i hi hn => hL.2.block i hi fun hf => hn (.inr (.inl hf))⟩ fun i hi hm => by
    rcases hm with h | h | h
    · exact .inl h
    · exact .inr (.inl (hL.2.ft i hi h))
    · exact .inr (.inr h)
theorem Row.storeX {α : Type} {k : Kd α} {w w' : World} {p : Nat} {B : Nat} {X : Option Nat} {v : Value} {xs : List α} (h : Row k w (mayX w p B X) v xs) (hg : w.grownBy w' X) (hfo : ∀ j, foot w' (some p) j ↔ foot w (some p) j) : Row k w' (mayX w' p B X) v xs :=
  h.keep ⟨hg.size, fun i hi hn => hg.block i hi fun he => hn (.inr (.inr he.symm))⟩ fun i hi hm => by
    rcases hm with h | h | h
    · exact .inl h
    · exact .inr (.inl ((hfo i).1 h))
    · exact .inr (.inr h)
theorem Row.ofMay {α : Type} {k : Kd α} {w : World} {p : Nat} {B : Nat} {X : Option Nat} {v : Value} {xs : List α} (h : Row k w (may w (some p) B) v xs) (hX : ∀ g, X = some g → B ≤ g) : Row k w (mayX w p B X) v xs :=
  h.mono fun i _ hm => by
    rcases hm with h | h | h
    · exact .inl h
    · exact .inr h
    · exact .inl (hX i h)

attribute [local go_sem] max2_int min2_int max_two min_two in
theorem both_calls (w : World) (p : Nat) (st : BSt) (B : Nat) (v u : Value) (xs ys : List Int) (hB : BRep w p st) (hBw : B ≤ w.heap.size) (hx : Row kInt w (may w (some p) B) v xs) (hy : Row kInt w (may w (some p) B) u ys)
    (hl : xs.length ≤ 1099511627776) (hm : ys.length ≤ 1099511627776) (hf : (bBoth xs ys st).2.nodes.length ≤ 1099511627776) :
    Calls Try.prog 101 #[.pointer (some ⟨p, 0, none⟩), v, u] w
      fun e w' => ∃ v' u', e = .returned (.tuple #[v', u']) ∧ Own kInt 3 w' (some p) w.heap.size v' (bBoth xs ys st).1.1 ∧ Own kInt 3 w' (some p) w.heap.size u' (bBoth xs ys st).1.2 ∧ (∀ g, v'.ownBlock = some g → u'.ownBlock ≠ some g) ∧ Laid w p (bBoth xs ys st).2 w' := by
  have hf1 : (bPad xs (max xs.length ys.length) st).2.nodes.length ≤ 1099511627776 := Nat.le_trans (pad_ext _ _ _).len hf
  have HF := Lib.hid hf
  obtain ⟨A, c, rfl, hc, hcm⟩ := hx.shape
  obtain ⟨A', c', rfl, hc', hcm'⟩ := hy.shape
  unfold maxLen at hcm hcm'
  have hmx : (max (xs.length : Int) (ys.length : Int)).toNat = max xs.length ys.length := by omega
  have H1 := Lib.hid hf1
  have HM := Lib.hid hmx
  clear hf hf1 hmx
  go_enter Try.func101, Try.ntmps101
  go_wp2_with fail
  refine (pad_calls _ p st _ _ xs (max (xs.length : Int) (ys.length : Int)) hB hx hl (by omega) (by rw [HM.out]; exact H1.out)).mono ?_
  rintro e w1 ⟨v1, rfl, ho1, hL1⟩
  rw [HM.out] at ho1 hL1
  have hy1 := hy.laid hL1 hBw
  go_wp2_with fail
  refine (pad_calls _ p _ _ _ ys (max (xs.length : Int) (ys.length : Int)) hL1.1 hy1 hm (by omega) (by rw [HM.out]; exact HF.out)).mono ?_
  rintro e w2 ⟨v2, rfl, ho2, hL2⟩
  rw [HM.out] at ho2 hL2
  go_wp2
  go_ret2
  refine ⟨v1, v2, rfl, ho1.laid hL2, ho2.lower hL1.2.size, fun g hg hg2 => ?_, hL1.trans hL2⟩
  have := (ho1.base hg).2
  have := (ho2.base hg2).1
  omega

set_option maxHeartbeats 1000000 in
theorem nots_calls (w : World) (p : Nat) (st : BSt) (B : Nat) (v : Value) (xs : List Int) (hB : BRep w p st) (hBw : B ≤ w.heap.size) (hx : Row kInt w (may w (some p) B) v xs)
    (hl : xs.length ≤ 1099511627776) (hf : (bNots xs st).2.nodes.length < 1099511627776) :
    Calls Try.prog 28 #[.pointer (some ⟨p, 0, none⟩), v] w
      fun e w' => ∃ v', e = .returned v' ∧ Own kInt 3 w' (some p) w.heap.size v' (bNots xs st).1 ∧ Laid w p (bNots xs st).2 w' := by
  obtain ⟨A, c, rfl, hc1, hc2⟩ := hx.shape
  unfold maxLen at hc2
  have hle : ∀ k, (mapS bNot (xs.take k) st).2.nodes.length < 1099511627776 := fun k => Nat.lt_of_le_of_lt (mapS_ext_le bNot (fun _ s => lay_ext _ s) xs k st).len hf
  have HLE := Lib.hid hle
  clear hf hle
  go_enter Try.func28, Try.ntmps28
  go_wp2
  go_loopw [5, 10] (fun v i wr => ∃ k : Nat, k ≤ xs.length ∧ i = .int .i64 k ∧ Own kInt 3 wr (some p) w.heap.size v (mapS bNot (xs.take k) st).1 ∧ Laid w p (mapS bNot (xs.take k) st).2 wr)
    (fun _ i _ => xs.length - (intOf i).toNat)
  case atStart => exact ⟨0, by omega, rfl, Own.nil _ _ _ _ _, Laid.refl hB⟩
  case round =>
    obtain ⟨k, hk, rfl, ho, hL⟩ := hrel
    obtain ⟨A', c', rfl, -, -⟩ := ho.shape
    by_cases hlt : k < xs.length
    · obtain ⟨b, off, rfl, hcell⟩ := (hx.laid hL hBw).int_at hlt
      have HS := Lib.hid (mapS_take_succ bNot xs k hlt st)
      have hlk := HLE.out k
      have hyl : (mapS bNot (xs.take k) st).1.length ≤ 1099511627776 := by rw [mapS_length]; simp; omega
      generalize (mapS bNot (xs.take k) st).1 = ys at ho HS hyl
      generalize (mapS bNot (xs.take k) st).2 = sk at hL HS hlk
      go_wp2_with (first
        | (go_at_call 103; refine (not_calls _ p sk _ hL.1 hlk).mono ?_; rintro e w2 ⟨rfl, hL2⟩)
        | (at_builtin; refine app1B kInt 3 26 (.int .i64 0) 8 rfl (.tmp 14) (.tmp 18) rfl Try.underlying26 infoInt rfl (by decide) (by decide) p _ hL2.1 w.heap.size (ho.laid hL2) (by have := hL2.2.size; have := hL.2.size; omega) rfl _ _ rfl rfl (by omega) ?_; intro v' w3 ho3 hB3 hk3))
      go_roundw
      case rel => exact ⟨k + 1, by omega, by go_num, by rw [HS.out]; exact ho3, by rw [HS.out]; exact ⟨hB3, (hL.2.trans (hL2.2.mono hL.2.size)).trans hk3⟩⟩
      case measure => simp [intOf]; omega
    · obtain rfl : k = xs.length := by omega
      have hr : mapS bNot (xs.take xs.length) st = bNots xs st := by rw [List.take_length]; rfl
      generalize mapS bNot (xs.take xs.length) st = r at hr ho hL ⊢
      subst hr
      go_wp2
      go_ret
      exact ⟨_, rfl, ho, hL⟩

theorem Row.drewX {α : Type} {k : Kd α} {w : World} {p : Nat} {B : Nat} {X : Option Nat} {v : Value} {xs : List α} (h : Row k w (mayX w p B X) v xs) : Row k w.drew (mayX w.drew p B X) v xs :=
  h.keep ⟨Nat.le_refl _, fun _ _ _ => rfl⟩ fun i hi hm => by
    rcases hm with h | h | h
    · exact .inl h
    · exact .inr (.inl ((foot_of_heap (w := w) (w' := w.drew) (fun _ _ => rfl) i).1 h))
    · exact .inr (.inr h)
/-- what a store into a word of the call's own does -/
theorem each_step {w w2 : World} {p : Nat} {st : BSt} {e : TypeId} {g n c : Nat} {Z : List Int} (hL : Laid w p st w2) (hO : Own kInt e w2 (some p) w.heap.size (.slice (some ⟨g, 0, none⟩) n c) Z) (i : Nat) (r : Int) :
    Own kInt e (w2.setCell ⟨g, i, none⟩ (.int .i64 r)) (some p) w.heap.size (.slice (some ⟨g, 0, none⟩) n c) (Z.set i r) ∧ Laid w p st (w2.setCell ⟨g, i, none⟩ (.int .i64 r)) ∧
      ∀ {B1 : Nat} {u : Value} {Y : List Int}, Row kInt w2 (mayX w2 p B1 (Value.slice (some ⟨g, 0, none⟩) n c).ownBlock) u Y → Row kInt (w2.setCell ⟨g, i, none⟩ (.int .i64 r)) (mayX (w2.setCell ⟨g, i, none⟩ (.int .i64 r)) p B1 (Value.slice (some ⟨g, 0, none⟩) n c).ownBlock) u Y := by
  obtain ⟨q1, q2, q3, q4⟩ := hO.store hL.1.fin hL.2.size i r
  exact ⟨q1, ⟨hL.1.grown q2 fun g' hg => hO.off hg, hL.2.trans q3⟩, fun hy => hy.storeX q2 q4⟩

/-- a word that is written place by place: what is done, and the rest -/
def partDone {σ : Type} (f : Int × Int → σ → Int × σ) (X Y : List Int) (k : Nat) (s : σ) : List Int := (mapS f ((X.zip Y).take k) s).1 ++ X.drop k
theorem partDone_length {σ : Type} (f : Int × Int → σ → Int × σ) (X Y : List Int) (k : Nat) (s : σ) (hk : k ≤ X.length) (hxy : X.length = Y.length) : (partDone f X Y k s).length = X.length := by
  simp [partDone, mapS_length]; omega
theorem partDone_at {σ : Type} (f : Int × Int → σ → Int × σ) (X Y : List Int) (k : Nat) (s : σ) (hk : k < X.length) (hxy : X.length = Y.length) : (partDone f X Y k s)[k]? = some X[k] := by
  have hl : (mapS f ((X.zip Y).take k) s).1.length = k := by simp [mapS_length]; omega
  unfold partDone
  rw [List.getElem?_append_right (by omega), hl, Nat.sub_self, List.getElem?_drop, Nat.add_zero, List.getElem?_eq_getElem hk]
theorem partDone_succ {σ : Type} (f : Int × Int → σ → Int × σ) (X Y : List Int) (k : Nat) (s : σ) (hk : k < X.length) (hxy : X.length = Y.length) :
    (partDone f X Y k s).set k (f (X[k], Y[k]) (mapS f ((X.zip Y).take k) s).2).1 = partDone f X Y (k + 1) s ∧ (f (X[k], Y[k]) (mapS f ((X.zip Y).take k) s).2).2 = (mapS f ((X.zip Y).take (k + 1)) s).2 := by
  have hz : k < (X.zip Y).length := by simp; omega
  have hl : (mapS f ((X.zip Y).take k) s).1.length = k := by simp [mapS_length]; omega
  have hs := mapS_take_succ f (X.zip Y) k hz s
  have he : (X.zip Y)[k] = (X[k], Y[k]) := by simp
  rw [he] at hs
  refine ⟨?_, by rw [hs]⟩
  unfold partDone
  rw [hs, List.set_append_right _ _ (by omega), hl, Nat.sub_self, List.drop_eq_getElem_cons hk, List.set_cons_zero, List.append_assoc]
  rfl
theorem partDone_all {σ : Type} (f : Int × Int → σ → Int × σ) (X Y : List Int) (s : σ) (hxy : X.length = Y.length) : partDone f X Y X.length s = (mapS f (X.zip Y) s).1 ∧ (mapS f ((X.zip Y).take X.length) s).2 = (mapS f (X.zip Y) s).2 := by
  have : (X.zip Y).take X.length = X.zip Y := List.take_of_length_le (by simp; omega)
  simp [partDone, this]

set_option maxHeartbeats 1000000 in
set_option maxRecDepth 100000 in
theorem pick_calls (w : World) (p : Nat) (st : BSt) (B : Nat) (v u : Value) (xs ys : List Int) (c : Int) (hB : BRep w p st) (hBw : B ≤ w.heap.size) (hx : Row kInt w (may w (some p) B) v xs) (hy : Row kInt w (may w (some p) B) u ys)
    (hl : xs.length ≤ 1099511627776) (hm : ys.length ≤ 1099511627776) (hf : (bPick xs ys c st).2.nodes.length < 1099511627776) :
    Calls Try.prog 29 #[.pointer (some ⟨p, 0, none⟩), v, u, .int .i64 c] w
      fun e w' => ∃ v', e = .returned v' ∧ Own kInt 3 w' (some p) w.heap.size v' (bPick xs ys c st).1 ∧ Laid w p (bPick xs ys c st).2 w' := by
  have hle : ∀ k, (mapS (fun q : Int × Int => bMux q.1 q.2 c) (((bBoth xs ys st).1.1.zip (bBoth xs ys st).1.2).take k) (bBoth xs ys st).2).2.nodes.length < 1099511627776 := fun k => Nat.lt_of_le_of_lt (mapS_ext_le _ (fun _ s => lay_ext _ s) _ k _).len hf
  have hf1 : (bBoth xs ys st).2.nodes.length ≤ 1099511627776 := by have := hle 0; simp [mapS] at this; omega
  have hlx : (bBoth xs ys st).1.1.length = max xs.length ys.length := pad_length _ _ _
  have hly : (bBoth xs ys st).1.2.length = max xs.length ys.length := pad_length _ _ _
  have HLE := Lib.hid hle
  have HF := Lib.hid hf1
  have HX := Lib.hid hlx
  have HY := Lib.hid hly
  clear hf hle hf1 hlx hly
  go_enter Try.func29, Try.ntmps29
  go_wp2_with fail
  refine (both_calls _ p st B _ _ xs ys hB hBw hx hy hl hm HF.out).mono ?_
  rintro e w1 ⟨v1, u1, rfl, ho, hou, hne, hL⟩
  have hyr := hou.rowS (mayX w1 p w1.heap.size v1.ownBlock) (fun g hg hm => by
    rcases hm with h | h | h
    · have := (hou.base hg).2; omega
    · exact hou.off hg h
    · exact hne g h hg)
  have hpick : bPick xs ys c st = mapS (fun q : Int × Int => bMux q.1 q.2 c) ((bBoth xs ys st).1.1.zip (bBoth xs ys st).1.2) (bBoth xs ys st).2 := rfl
  have HP := Lib.hid hpick
  clear hpick
  generalize hbb : bBoth xs ys st = bb at *
  clear hbb
  obtain ⟨⟨X, Y⟩, s0⟩ := bb
  obtain ⟨A1, c1, rfl, -, -⟩ := ho.shape
  obtain ⟨A2, c2, rfl, -, -⟩ := hou.shape
  have HXY : Hid (X.length = Y.length) := HX.out.trans HY.out.symm
  have hXm : X.length ≤ 1099511627776 := by have := HX.out; simp only at this; omega
  clear HX HY hou hne
  dsimp only at ho hyr hL HLE HP ⊢
  go_wp2_with fail
  go_loopw [19] (fun i wr => ∃ k : Nat, k ≤ X.length ∧ i = .int .i64 k ∧ Own kInt 3 wr (some p) w.heap.size (.slice A1 X.length c1) (partDone (fun q : Int × Int => bMux q.1 q.2 c) X Y k s0) ∧
      Row kInt wr (mayX wr p w1.heap.size (Value.slice A1 X.length c1).ownBlock) (.slice A2 Y.length c2) Y ∧ Laid w p (mapS (fun q : Int × Int => bMux q.1 q.2 c) ((X.zip Y).take k) s0).2 wr)
    (fun i _ => X.length - (intOf i).toNat)
  case atStart => exact ⟨0, by omega, rfl, ho, hyr, hL⟩
  case round =>
    obtain ⟨k, hk, rfl, hox, hyk, hLk⟩ := hrel
    by_cases hlt : k < X.length
    · obtain ⟨b2, off2, rfl, hcy⟩ := hyk.int_at (i := k) (by have := HXY.out; omega)
      have hZ := partDone_length (fun q : Int × Int => bMux q.1 q.2 c) X Y k s0 hk HXY.out
      obtain ⟨g, c1', he, -, -⟩ := hox.form (by omega)
      injection he with he1 he2 he3
      subst he1
      obtain ⟨hcx, hfx⟩ := hox.cellAt? (partDone_at _ X Y k s0 hlt HXY.out)
      have HS := Lib.hid (partDone_succ (fun q : Int × Int => bMux q.1 q.2 c) X Y k s0 hlt HXY.out)
      have hlk := HLE.out k
      clear he2 he3 hZ
      generalize hsk : (mapS (fun q : Int × Int => bMux q.1 q.2 c) ((X.zip Y).take k) s0).2 = sk at hLk HS hlk
      clear hsk
      have hLd : Laid w p sk wr.drew := hLk.quiet (Below.refl _ _).drew
      have hoxd := hox.kept (Kept.of_below_all (Below.refl _ _).drew hLk.1.fin (Nat.le_refl _))
      have HO := Lib.hid hoxd
      have HL := Lib.hid hLd
      have HY := Lib.hid hyk
      have hkx := hlt
      have hky : k < Y.length := by have := HXY.out; omega
      clear hoxd hLd hyk hLk hox hx hy
      go_wp2_with fail
      go_region_law (go_simp; go_at_call 84; refine (mux_calls _ p sk _ _ _ HL.out.1 hlk).mono ?_; rintro e w2 ⟨rfl, hL2⟩; have hc2 := (HO.out.laid hL2).cellAt? (partDone_at _ X Y k s0 hkx HXY.out); obtain ⟨hc2a, hc2b⟩ := hc2; have HL2 := Lib.hid hL2; clear hL2)
      all_goals
        go_wp2
        go_roundw
        case rel =>
          obtain ⟨r1, r2, r3⟩ := each_step (HL.out.trans HL2.out) (HO.out.laid HL2.out) k (bMux X[k] Y[k] c sk).1
          exact ⟨k + 1, by omega, by go_num, by rw [← HS.out.1]; exact r1, r3 (HY.out.drewX.laidX HL2.out), by rw [← HS.out.2]; exact r2⟩
        case measure => simp [intOf]; omega
    · obtain rfl : k = X.length := by omega
      have hr := partDone_all (fun q : Int × Int => bMux q.1 q.2 c) X Y s0 HXY.out
      rw [hr.1] at hox
      rw [hr.2] at hLk
      go_wp2
      go_ret
      rw [HP.out]
      exact ⟨_, rfl, hox, hLk⟩

theorem gate_calls (p : Nat) (kind : Int) : ∃ f, (∀ w, Calls Try.prog 102 #[.pointer (some ⟨p, 0, none⟩), .int .i64 kind] w fun e w' => e = .returned (.func (.func f) #[.pointer (some ⟨p, 0, none⟩)] #[]) ∧ w = w') ∧
    (∀ (args : Array Value) (W : World), (callFunc f args).run Try.prog W = .ok (.enter f args) W) ∧
    ∀ (w : World) (st : BSt) (x y : Int), BRep w p st → st.nodes.length < lim →
      Calls Try.prog f #[.pointer (some ⟨p, 0, none⟩), .int .i64 x, .int .i64 y] w fun e w' => e = .returned (.int .i64 (bGate kind x y st).1) ∧ Laid w p (bGate kind x y st).2 w' := by
  by_cases h3 : kind = 3
  · refine ⟨83, fun w => ?_, fun args W => by kernel_rfl, fun w st x y hB hl => ?_⟩
    · subst h3
      go_enter Try.func102, Try.ntmps102
      go_wp2
      go_ret
      exact ⟨rfl, rfl⟩
    · rw [show bGate kind x y st = bAnd x y st from if_pos h3]
      exact and_calls w p st x y hB hl
  · by_cases h4 : kind = 4
    · refine ⟨113, fun w => ?_, fun args W => by kernel_rfl, fun w st x y hB hl => ?_⟩
      · subst h4
        go_enter Try.func102, Try.ntmps102
        go_wp2
        go_ret
        exact ⟨rfl, rfl⟩
      · rw [show bGate kind x y st = bOr x y st from (if_neg h3).trans (if_pos h4)]
        exact or_calls w p st x y hB hl
    · refine ⟨108, fun w => ?_, fun args W => by kernel_rfl, fun w st x y hB hl => ?_⟩
      · have e3 : (kind == 3) = false := by simpa using h3
        have e4 : (kind == 4) = false := by simpa using h4
        go_enter Try.func102, Try.ntmps102
        go_wp2
        go_ret
        exact ⟨rfl, rfl⟩
      · rw [show bGate kind x y st = bXor x y st from (if_neg h3).trans (if_neg h4)]
        exact xor_calls w p st x y hB hl

set_option maxHeartbeats 1000000 in
set_option maxRecDepth 100000 in
theorem each_calls (w : World) (p : Nat) (st : BSt) (B : Nat) (v u : Value) (xs ys : List Int) (kind : Int) (hB : BRep w p st) (hBw : B ≤ w.heap.size) (hx : Row kInt w (may w (some p) B) v xs) (hy : Row kInt w (may w (some p) B) u ys)
    (hl : xs.length ≤ 1099511627776) (hm : ys.length ≤ 1099511627776) (hf : (bEach kind xs ys st).2.nodes.length < 1099511627776) :
    Calls Try.prog 27 #[.pointer (some ⟨p, 0, none⟩), .int .i64 kind, v, u] w
      fun e w' => ∃ v', e = .returned v' ∧ Own kInt 3 w' (some p) w.heap.size v' (bEach kind xs ys st).1 ∧ Laid w p (bEach kind xs ys st).2 w' := by
  obtain ⟨f, hgate, hrun, hcall⟩ := gate_calls p kind
  have HCALL := Lib.hid hcall
  clear hcall
  have hle : ∀ k, (mapS (fun q : Int × Int => bGate kind q.1 q.2) (((bBoth xs ys st).1.1.zip (bBoth xs ys st).1.2).take k) (bBoth xs ys st).2).2.nodes.length < 1099511627776 := fun k => Nat.lt_of_le_of_lt (mapS_ext_le _ (fun _ s => gate_ext _ _ _ s) _ k _).len hf
  have hf1 : (bBoth xs ys st).2.nodes.length ≤ 1099511627776 := by have := hle 0; simp [mapS] at this; omega
  have hlx : (bBoth xs ys st).1.1.length = max xs.length ys.length := pad_length _ _ _
  have hly : (bBoth xs ys st).1.2.length = max xs.length ys.length := pad_length _ _ _
  have HLE := Lib.hid hle
  have HF := Lib.hid hf1
  have HX := Lib.hid hlx
  have HY := Lib.hid hly
  clear hf hle hf1 hlx hly
  go_enter Try.func27, Try.ntmps27
  go_wp2_with fail
  refine (both_calls _ p st B _ _ xs ys hB hBw hx hy hl hm HF.out).mono ?_
  rintro e w1 ⟨v1, u1, rfl, ho, hou, hne, hL⟩
  have hyr := hou.rowS (mayX w1 p w1.heap.size v1.ownBlock) (fun g hg hm => by
    rcases hm with h | h | h
    · have := (hou.base hg).2; omega
    · exact hou.off hg h
    · exact hne g h hg)
  have heach : bEach kind xs ys st = mapS (fun q : Int × Int => bGate kind q.1 q.2) ((bBoth xs ys st).1.1.zip (bBoth xs ys st).1.2) (bBoth xs ys st).2 := rfl
  have HP := Lib.hid heach
  clear heach
  generalize hbb : bBoth xs ys st = bb at *
  clear hbb
  obtain ⟨⟨X, Y⟩, s0⟩ := bb
  obtain ⟨A1, c1, rfl, -, -⟩ := ho.shape
  obtain ⟨A2, c2, rfl, -, -⟩ := hou.shape
  have HXY : Hid (X.length = Y.length) := HX.out.trans HY.out.symm
  have hXm : X.length ≤ 1099511627776 := by have := HX.out; simp only at this; omega
  clear HX HY hou hne
  dsimp only at ho hyr hL HLE HP ⊢
  go_wp2_with fail
  refine (hgate _).mono ?_
  rintro e w1' ⟨rfl, rfl⟩
  go_wp2_with fail
  go_loopw [23] (fun i wr => ∃ k : Nat, k ≤ X.length ∧ i = .int .i64 k ∧ Own kInt 3 wr (some p) w.heap.size (.slice A1 X.length c1) (partDone (fun q : Int × Int => bGate kind q.1 q.2) X Y k s0) ∧
      Row kInt wr (mayX wr p w1.heap.size (Value.slice A1 X.length c1).ownBlock) (.slice A2 Y.length c2) Y ∧ Laid w p (mapS (fun q : Int × Int => bGate kind q.1 q.2) ((X.zip Y).take k) s0).2 wr)
    (fun i _ => X.length - (intOf i).toNat)
  case atStart => exact ⟨0, by omega, rfl, ho, hyr, hL⟩
  case round =>
    obtain ⟨k, hk, rfl, hox, hyk, hLk⟩ := hrel
    by_cases hlt : k < X.length
    · obtain ⟨b2, off2, rfl, hcy⟩ := hyk.int_at (i := k) (by have := HXY.out; omega)
      have hZ := partDone_length (fun q : Int × Int => bGate kind q.1 q.2) X Y k s0 hk HXY.out
      obtain ⟨g, c1', he, -, -⟩ := hox.form (by omega)
      injection he with he1 he2 he3
      subst he1
      obtain ⟨hcx, hfx⟩ := hox.cellAt? (partDone_at _ X Y k s0 hlt HXY.out)
      have HS := Lib.hid (partDone_succ (fun q : Int × Int => bGate kind q.1 q.2) X Y k s0 hlt HXY.out)
      have hlk := HLE.out k
      clear he2 he3 hZ
      generalize hsk : (mapS (fun q : Int × Int => bGate kind q.1 q.2) ((X.zip Y).take k) s0).2 = sk at hLk HS hlk
      clear hsk
      have hLd : Laid w p sk wr.drew := hLk.quiet (Below.refl _ _).drew
      have hoxd := hox.kept (Kept.of_below_all (Below.refl _ _).drew hLk.1.fin (Nat.le_refl _))
      have HO := Lib.hid hoxd
      have HL := Lib.hid hLd
      have HY := Lib.hid hyk
      have hkx := hlt
      have hky : k < Y.length := by have := HXY.out; omega
      clear hoxd hLd hyk hLk hox hx hy
      go_wp2_with fail
      go_region_law (go_simp; refine (HCALL.out _ sk _ _ HL.out.1 hlk).mono ?_; rintro e w2 ⟨rfl, hL2⟩; have hc2 := (HO.out.laid hL2).cellAt? (partDone_at _ X Y k s0 hkx HXY.out); obtain ⟨hc2a, hc2b⟩ := hc2; have HL2 := Lib.hid hL2; clear hL2)
      all_goals
        go_wp2
        go_roundw
        case rel =>
          obtain ⟨r1, r2, r3⟩ := each_step (HL.out.trans HL2.out) (HO.out.laid HL2.out) k (bGate kind X[k] Y[k] sk).1
          exact ⟨k + 1, by omega, by go_num, by rw [← HS.out.1]; exact r1, r3 (HY.out.drewX.laidX HL2.out), by rw [← HS.out.2]; exact r2⟩
        case measure => simp [intOf]; omega
    · obtain rfl : k = X.length := by omega
      have hr := partDone_all (fun q : Int × Int => bGate kind q.1 q.2) X Y s0 HXY.out
      rw [hr.1] at hox
      rw [hr.2] at hLk
      go_wp2
      go_ret
      rw [HP.out]
      exact ⟨_, rfl, hox, hLk⟩
end Go.Proofs.Ytdljgifoboiaeaa
