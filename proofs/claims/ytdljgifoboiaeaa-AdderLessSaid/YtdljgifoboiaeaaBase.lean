/- Memory words for the walks: what may change, data that is read, rows that a call owns. Plain: nothing of the program but type numbers. -/
import Derived.WalkKit
import Derived.Deep.AppendLies
import Derived.Lib.SmallJoins
import Derived.Lib.Hide
namespace Go.Proofs.Ytdljgifoboiaeaa
open Go.RowKit

/-- the blocks in which the slices in a block's cells begin -/
def kids (w : World) (b i : Nat) : Prop := ∃ j v, w.cell? ⟨b, j, none⟩ = some v ∧ v.ownBlock = some i

/-- the blocks in which the slices begin that lie in the rows of the slices in a block's cells (of two cells each) -/
def kids2 (w : World) (b i : Nat) : Prop := ∃ j q off n c j' u, w.cell? ⟨b, j, none⟩ = some (.slice (some ⟨q, off, none⟩) n c) ∧ j' < n * 2 ∧ w.cell? ⟨q, off + j', none⟩ = some u ∧ u.ownBlock = some i

/-- the builder's blocks: its struct, its rows, its ports' bits -/
def foot (w : World) (p : Option Nat) (i : Nat) : Prop := ∃ b, p = some b ∧ (i = b ∨ kids w b i ∨ kids2 w b i)

/-- what may change: what came later than B, and the builder -/
def may (w : World) (p : Option Nat) (B : Nat) (i : Nat) : Prop := B ≤ i ∨ foot w p i

/-- outside S all that is there stays -/
def Same (S : Nat → Prop) (w w' : World) : Prop := w.heap.size ≤ w'.heap.size ∧ ∀ i, i < w.heap.size → ¬ S i → w'.heap[i]? = w.heap[i]?

theorem foot_none (w : World) (i : Nat) : ¬ foot w none i := by rintro ⟨b, h, _⟩; cases h

theorem kids_of_heap {w w' : World} {b i : Nat} (h : w'.heap[b]? = w.heap[b]?) : kids w' b i ↔ kids w b i := by
  constructor
  · rintro ⟨j, v, hc, ho⟩; exact ⟨j, v, by rw [← hc]; exact (World.cell?_of_block h).symm, ho⟩
  · rintro ⟨j, v, hc, ho⟩; exact ⟨j, v, by rw [← hc]; exact World.cell?_of_block h, ho⟩

structure Kept (B : Nat) (p : Option Nat) (w w' : World) : Prop where
  os : w'.os = w.os
  tape : w'.tape = w.tape
  output : w'.output = w.output
  size : w.heap.size ≤ w'.heap.size
  block : ∀ i, i < B → ¬ foot w p i → w'.heap[i]? = w.heap[i]?
  ft : ∀ i, i < B → foot w' p i → foot w p i

theorem Kept.refl (B : Nat) (p : Option Nat) (w : World) : Kept B p w w := ⟨rfl, rfl, rfl, Nat.le_refl _, fun _ _ _ => rfl, fun _ _ h => h⟩
theorem Kept.trans {B : Nat} {p : Option Nat} {a b c : World} (h : Kept B p a b) (k : Kept B p b c) : Kept B p a c :=
  ⟨k.os.trans h.os, k.tape.trans h.tape, k.output.trans h.output, Nat.le_trans h.size k.size,
    fun i hi hf => (k.block i hi (fun hb => hf (h.ft i hi hb))).trans (h.block i hi hf), fun i hi hf => h.ft i hi (k.ft i hi hf)⟩
theorem Kept.mono {B B' : Nat} {p : Option Nat} {w w' : World} (h : Kept B p w w') (hB : B' ≤ B) : Kept B' p w w' :=
  ⟨h.os, h.tape, h.output, h.size, fun i hi => h.block i (Nat.lt_of_lt_of_le hi hB), fun i hi => h.ft i (Nat.lt_of_lt_of_le hi hB)⟩
theorem Kept.same {B : Nat} {p : Option Nat} {w w' : World} (h : Kept B p w w') : Same (may w p B) w w' :=
  ⟨h.size, fun i _ hS => h.block i (Nat.lt_of_not_le fun hb => hS (.inl hb)) (fun hf => hS (.inr hf))⟩
theorem Kept.mayOf {B : Nat} {p : Option Nat} {w w' : World} (h : Kept B p w w') : ∀ i, i < w.heap.size → may w' p B i → may w p B i := by
  intro i _ hm
  rcases hm with hm | hm
  · exact .inl hm
  · by_cases hb : B ≤ i
    · exact .inl hb
    · exact .inr (h.ft i (by omega) hm)
theorem Kept.below {B : Nat} {w w' : World} (h : Kept B none w w') : Below B w w' := ⟨h.os, h.tape, h.output, h.size, fun i hi => h.block i hi (foot_none w i)⟩
theorem Kept.of_below {B : Nat} {w w' : World} (h : Below B w w') : Kept B none w w' := ⟨h.os, h.tape, h.output, h.size, fun i hi _ => h.block i hi, fun i _ hf => (foot_none w' i hf).elim⟩

/-- the builder's blocks are there -/
def FootIn (w : World) (p : Option Nat) : Prop := ∀ i, foot w p i → i < w.heap.size
theorem FootIn.none (w : World) : FootIn w none := fun i h => (foot_none w i h).elim

theorem kids2_of_heap {w w' : World} {b i : Nat} (h : w'.heap[b]? = w.heap[b]?) (h2 : ∀ q, kids w b q → w'.heap[q]? = w.heap[q]?) : kids2 w' b i ↔ kids2 w b i := by
  constructor
  · rintro ⟨j, q, off, n, c, j', u, a1, a2, a3, a4⟩
    have b1 : w.cell? ⟨b, j, none⟩ = some (.slice (some ⟨q, off, none⟩) n c) := by rw [← a1]; exact (World.cell?_of_block h).symm
    exact ⟨j, q, off, n, c, j', u, b1, a2, by rw [← a3]; exact (World.cell?_of_block (h2 q ⟨j, _, b1, rfl⟩)).symm, a4⟩
  · rintro ⟨j, q, off, n, c, j', u, a1, a2, a3, a4⟩
    exact ⟨j, q, off, n, c, j', u, by rw [← a1]; exact World.cell?_of_block h, a2, by rw [← a3]; exact World.cell?_of_block (h2 q ⟨j, _, a1, rfl⟩), a4⟩

theorem foot_of_heap {w w' : World} {p : Option Nat} (h : ∀ i, foot w p i → w'.heap[i]? = w.heap[i]?) : ∀ i, foot w' p i ↔ foot w p i := by
  intro i
  constructor
  · rintro ⟨b, rfl, hi⟩
    have hb := h b ⟨b, rfl, .inl rfl⟩
    rcases hi with rfl | hi | hi
    · exact ⟨_, rfl, .inl rfl⟩
    · exact ⟨b, rfl, .inr (.inl ((kids_of_heap hb).1 hi))⟩
    · exact ⟨b, rfl, .inr (.inr ((kids2_of_heap hb fun q hq => h q ⟨b, rfl, .inr (.inl hq)⟩).1 hi))⟩
  · rintro ⟨b, rfl, hi⟩
    have hb := h b ⟨b, rfl, .inl rfl⟩
    rcases hi with rfl | hi | hi
    · exact ⟨_, rfl, .inl rfl⟩
    · exact ⟨b, rfl, .inr (.inl ((kids_of_heap hb).2 hi))⟩
    · exact ⟨b, rfl, .inr (.inr ((kids2_of_heap hb fun q hq => h q ⟨b, rfl, .inr (.inl hq)⟩).2 hi))⟩

/-- what leaves all old blocks alone leaves the builder -/
theorem Kept.of_below_all {B : Nat} {p : Option Nat} {w w' : World} (h : Below w.heap.size w w') (hf : FootIn w p) (hB : B ≤ w.heap.size) : Kept B p w w' := by
  have hfo : ∀ i, foot w' p i ↔ foot w p i := foot_of_heap fun i hi => h.block i (hf i hi)
  exact ⟨h.os, h.tape, h.output, h.size, fun i hi _ => h.block i (by omega), fun i _ hi => (hfo i).1 hi⟩

/-- a write to one row of the call's own, that is no block of the builder -/
theorem Kept.of_grown {B : Nat} {p : Option Nat} {w w' : World} {row : Option Nat} (h : w.grownBy w' row) (hf : FootIn w p) (hB : B ≤ w.heap.size)
    (hr : ∀ g, row = some g → B ≤ g ∧ ¬ foot w p g) : Kept B p w w' ∧ ∀ i, foot w' p i ↔ foot w p i := by
  have hfo : ∀ i, foot w' p i ↔ foot w p i := foot_of_heap fun i hi => h.block i (hf i hi) (fun e => (hr i e.symm).2 hi)
  exact ⟨⟨h.os, h.tape, h.output, h.size, fun i hi _ => h.block i (by omega) (fun e => by have := (hr i e.symm).1; omega), fun i _ hi => (hfo i).1 hi⟩, hfo⟩

theorem FootIn.iff {w w' : World} {p : Option Nat} (h : FootIn w p) (hfo : ∀ i, foot w' p i ↔ foot w p i) (hs : w.heap.size ≤ w'.heap.size) : FootIn w' p :=
  fun i hi => Nat.lt_of_lt_of_le (h i ((hfo i).1 hi)) hs

/-! ### data: kinds -/

structure Kd (α : Type) where
  size : Nat
  K : World → (Nat → Prop) → α → List Value → Prop
  len : ∀ {w S x cs}, K w S x cs → cs.length = size
  one : ∀ {w S x cs}, K w S x cs → ∀ u ∈ cs, u.oneCell' = true
  keep : ∀ {w w' : World} {S S' : Nat → Prop} {x cs}, K w S x cs → Same S w w' → (∀ i, i < w.heap.size → S' i → S i) → K w' S' x cs

/-- elements and their cells, pair by pair -/
def Pairs {α : Type} (k : Kd α) (w : World) (S : Nat → Prop) (xs : List α) (css : List (List Value)) : Prop :=
  css.length = xs.length ∧ ∀ (i : Nat) (x : α) (cs : List Value), xs[i]? = some x → css[i]? = some cs → k.K w S x cs

theorem Pairs.keep {α : Type} {k : Kd α} {w w' : World} {S S' : Nat → Prop} {xs : List α} {css : List (List Value)} (h : Pairs k w S xs css) (hs : Same S w w') (hS : ∀ i, i < w.heap.size → S' i → S i) : Pairs k w' S' xs css :=
  ⟨h.1, fun i x cs hx hc => k.keep (h.2 i x cs hx hc) hs hS⟩
theorem Pairs.nil {α : Type} (k : Kd α) (w : World) (S : Nat → Prop) : Pairs k w S [] [] := ⟨rfl, fun i x cs hx => by simp at hx⟩
theorem Pairs.snoc {α : Type} {k : Kd α} {w : World} {S : Nat → Prop} {xs : List α} {css : List (List Value)} (h : Pairs k w S xs css) {x : α} {cs : List Value} (hx : k.K w S x cs) : Pairs k w S (xs ++ [x]) (css ++ [cs]) := by
  refine ⟨by simp [h.1], fun i y ds hy hd => ?_⟩
  rw [List.getElem?_append] at hy hd
  have hl := h.1
  split at hy
  · rename_i hi
    rw [if_pos (by omega)] at hd
    exact h.2 i y ds hy hd
  · rename_i hi
    rw [if_neg (by omega)] at hd
    have : i = xs.length := by
      have := (List.getElem?_eq_some_iff.1 hy).1
      simp at this
      omega
    subst this
    simp at hy
    rw [hl] at hd
    simp at hd
    subst hy; subst hd
    exact hx
theorem Pairs.append {α : Type} {k : Kd α} {w : World} {S : Nat → Prop} {xs ys : List α} {css dss : List (List Value)} (h : Pairs k w S xs css) (h' : Pairs k w S ys dss) : Pairs k w S (xs ++ ys) (css ++ dss) := by
  refine ⟨by simp [h.1, h'.1], fun i y ds hy hd => ?_⟩
  rw [List.getElem?_append] at hy hd
  have hl := h.1
  split at hy
  · rename_i hi
    rw [if_pos (by omega)] at hd
    exact h.2 i y ds hy hd
  · rename_i hi
    rw [if_neg (by omega)] at hd
    rw [hl] at hd
    exact h'.2 _ y ds hy hd
theorem Pairs.set {α : Type} {k : Kd α} {w : World} {S : Nat → Prop} {xs : List α} {css : List (List Value)} (h : Pairs k w S xs css) (n : Nat) {x : α} {cs : List Value} (hx : k.K w S x cs) : Pairs k w S (xs.set n x) (css.set n cs) := by
  refine ⟨by simp [h.1], fun i y ds hy hd => ?_⟩
  rw [List.getElem?_set] at hy hd
  have hl := h.1
  split at hy
  · rename_i hi
    subst hi
    rw [if_pos rfl] at hd
    by_cases hn : n < xs.length
    · rw [if_pos hn] at hy
      rw [if_pos (by omega)] at hd
      simp at hy hd
      subst hy; subst hd
      exact hx
    · rw [if_neg hn] at hy; cases hy
  · rename_i hi
    rw [if_neg hi] at hd
    exact h.2 i y ds hy hd
theorem Pairs.drop {α : Type} {k : Kd α} {w : World} {S : Nat → Prop} {xs : List α} {css : List (List Value)} (h : Pairs k w S xs css) (n : Nat) : Pairs k w S (xs.drop n) (css.drop n) :=
  ⟨by simp [h.1], fun i y ds hy hd => h.2 (n + i) y ds (by simpa using hy) (by simpa using hd)⟩
theorem Pairs.take {α : Type} {k : Kd α} {w : World} {S : Nat → Prop} {xs : List α} {css : List (List Value)} (h : Pairs k w S xs css) (n : Nat) : Pairs k w S (xs.take n) (css.take n) := by
  refine ⟨by simp [h.1], fun i y ds hy hd => ?_⟩
  rw [List.getElem?_take] at hy hd
  split at hy
  · rename_i hi
    rw [if_pos hi] at hd
    exact h.2 i y ds hy hd
  · cases hy
theorem Pairs.flat {α : Type} {k : Kd α} {w : World} {S : Nat → Prop} : ∀ {xs : List α} {css : List (List Value)}, Pairs k w S xs css → css.flatten.length = xs.length * k.size
  | [], css, h => by
    have : css = [] := List.eq_nil_of_length_eq_zero h.1
    subst this; simp
  | x :: xs, css, h => by
    match css, h with
    | [], h => have := h.1; simp at this
    | c :: css, h =>
      have ht : Pairs k w S xs css := ⟨by have := h.1; simp at this; exact this, fun i y ds hy hd => h.2 (i + 1) y ds (by simpa using hy) (by simpa using hd)⟩
      have hc := k.len (h.2 0 x c rfl rfl)
      simp only [List.flatten_cons, List.length_append, List.length_cons, ht.flat, hc]
      rw [Nat.add_mul]; omega
theorem Pairs.one {α : Type} {k : Kd α} {w : World} {S : Nat → Prop} {xs : List α} {css : List (List Value)} (h : Pairs k w S xs css) : ∀ u ∈ css.flatten, u.oneCell' = true := by
  intro u hu
  obtain ⟨cs, hcs, hu⟩ := List.mem_flatten.1 hu
  obtain ⟨i, hi, rfl⟩ := List.mem_iff_getElem.1 hcs
  have hx : i < xs.length := by have := h.1; omega
  exact k.one (h.2 i xs[i] css[i] (by simp [hx]) (by simp [hi])) u hu

/-- the cells of element i within all -/
theorem flat_at : ∀ (css : List (List Value)) (n : Nat), (∀ cs ∈ css, cs.length = n) → ∀ (i : Nat) (cs : List Value), css[i]? = some cs → ∀ (j : Nat) (u : Value), cs[j]? = some u → css.flatten[i * n + j]? = some u
  | [], n, h, i, cs, hc, j, u, hu => by simp at hc
  | c :: css, n, h, i, cs, hc, j, u, hu => by
    have hn := h c (by simp)
    match i, hc with
    | 0, hc =>
      simp at hc; subst hc
      have hj := (List.getElem?_eq_some_iff.1 hu).1
      simp only [List.flatten_cons, Nat.zero_mul, Nat.zero_add]
      rw [List.getElem?_append_left hj]; exact hu
    | i + 1, hc =>
      simp only [List.flatten_cons]
      rw [List.getElem?_append_right (by rw [hn, Nat.add_mul]; omega)]
      have e : (i + 1) * n + j - c.length = i * n + j := by rw [hn, Nat.add_mul]; omega
      rw [e]
      exact flat_at css n (fun cs hcs => h cs (List.mem_cons_of_mem _ hcs)) i cs (by simpa using hc) j u hu
theorem Pairs.lens {α : Type} {k : Kd α} {w : World} {S : Nat → Prop} {xs : List α} {css : List (List Value)} (h : Pairs k w S xs css) : ∀ cs ∈ css, cs.length = k.size := by
  intro cs hcs
  obtain ⟨i, hi, rfl⟩ := List.mem_iff_getElem.1 hcs
  have hx : i < xs.length := by have := h.1; omega
  exact k.len (h.2 i xs[i] css[i] (by simp [hx]) (by simp [hi]))

/-- a slice that is read: its data, none of it in S -/
def Row {α : Type} (k : Kd α) (w : World) (S : Nat → Prop) (v : Value) (xs : List α) : Prop :=
  ∃ A c css, v = .slice A xs.length c ∧ xs.length ≤ c ∧ c ≤ maxLen ∧ (A = none → c = 0) ∧ Pairs k w S xs css ∧
    (0 < xs.length → ∃ b off, A = some ⟨b, off, none⟩ ∧ b < w.heap.size ∧ ¬ S b ∧ ∀ j u, css.flatten[j]? = some u → w.cell? ⟨b, off + j, none⟩ = some u)

theorem Row.keep {α : Type} {k : Kd α} {w w' : World} {S S' : Nat → Prop} {v : Value} {xs : List α} (h : Row k w S v xs) (hs : Same S w w') (hS : ∀ i, i < w.heap.size → S' i → S i) : Row k w' S' v xs := by
  obtain ⟨A, c, css, rfl, h1, h2, h0, h3, h4⟩ := h
  refine ⟨A, c, css, rfl, h1, h2, h0, h3.keep hs hS, fun hn => ?_⟩
  obtain ⟨b, off, rfl, hb, hSb, hc⟩ := h4 hn
  exact ⟨b, off, rfl, Nat.lt_of_lt_of_le hb hs.1, fun hb' => hSb (hS b hb hb'), fun j u hu => (World.cell?_of_block (hs.2 b hb hSb)).trans (hc j u hu)⟩
theorem Row.kept {α : Type} {k : Kd α} {w w' : World} {B : Nat} {p : Option Nat} {v : Value} {xs : List α} (h : Row k w (may w p B) v xs) (hk : Kept B p w w') : Row k w' (may w' p B) v xs :=
  h.keep hk.same hk.mayOf
theorem Row.mono {α : Type} {k : Kd α} {w : World} {S S' : Nat → Prop} {v : Value} {xs : List α} (h : Row k w S v xs) (hS : ∀ i, i < w.heap.size → S' i → S i) : Row k w S' v xs :=
  h.keep ⟨Nat.le_refl _, fun _ _ _ => rfl⟩ hS
theorem Row.lift {α : Type} {k : Kd α} {w : World} {B B' : Nat} {p : Option Nat} {v : Value} {xs : List α} (h : Row k w (may w p B) v xs) (hB : B ≤ B') : Row k w (may w p B') v xs :=
  h.mono fun i _ hm => hm.elim (fun h => .inl (by omega)) .inr
theorem Row.bare {α : Type} {k : Kd α} {w : World} {B : Nat} {p : Option Nat} {v : Value} {xs : List α} (h : Row k w (may w p B) v xs) : Row k w (may w none w.heap.size) v xs :=
  h.mono fun i hi hm => hm.elim (fun h => by omega) (fun h => (foot_none w i h).elim)
theorem Row.shape {α : Type} {k : Kd α} {w : World} {S : Nat → Prop} {v : Value} {xs : List α} (h : Row k w S v xs) : ∃ A c, v = .slice A xs.length c ∧ xs.length ≤ c ∧ c ≤ maxLen := by
  obtain ⟨A, c, css, rfl, h1, h2, _⟩ := h
  exact ⟨A, c, rfl, h1, h2⟩
theorem Row.at {α : Type} {k : Kd α} {w : World} {S : Nat → Prop} {A : Option Addr} {n c : Nat} {xs : List α} (h : Row k w S (.slice A n c) xs) {i : Nat} (hi : i < n) :
    ∃ b off, A = some ⟨b, off, none⟩ ∧ ∃ x cs, xs[i]? = some x ∧ k.K w S x cs ∧ ∀ j u, cs[j]? = some u → w.cell? ⟨b, off + i * k.size + j, none⟩ = some u := by
  obtain ⟨A', c', css, he, h1, h2, _, h3, h4⟩ := h
  injection he with e1 e2 e3
  subst e1; subst e2; subst e3
  obtain ⟨b, off, rfl, hb, hSb, hc⟩ := h4 (by omega)
  have hcs : i < css.length := by have := h3.1; omega
  refine ⟨b, off, rfl, xs[i], css[i], by simp [hi], h3.2 i _ _ (by simp [hi]) (by simp [hcs]), fun j u hu => ?_⟩
  have := flat_at css k.size h3.lens i css[i] (by simp [hcs]) j u hu
  rw [Nat.add_assoc]
  exact hc _ _ this

/-- a row of the call's own: it may be written, and grow -/
def Own {α : Type} (k : Kd α) (e : TypeId) (w : World) (p : Option Nat) (B : Nat) (v : Value) (xs : List α) : Prop :=
  ∃ css, w.ownsRow B e k.size v xs.length css.flatten ∧ Pairs k w (fun i => foot w p i ∨ v.ownBlock = some i) xs css ∧ ∀ g, v.ownBlock = some g → ¬ foot w p g

theorem Own.nil {α : Type} (k : Kd α) (e : TypeId) (w : World) (p : Option Nat) (B : Nat) : Own k e w p B (.slice none 0 0) [] :=
  ⟨[], World.ownsRow_nil w B e k.size, Pairs.nil k w _, by simp [Value.ownBlock]⟩
theorem Own.base {α : Type} {k : Kd α} {e : TypeId} {w : World} {p : Option Nat} {B : Nat} {v : Value} {xs : List α} (h : Own k e w p B v xs) {g : Nat} (hg : v.ownBlock = some g) : B ≤ g ∧ g < w.heap.size := by
  obtain ⟨css, h1, _⟩ := h
  exact h1.lt g hg
theorem Own.off {α : Type} {k : Kd α} {e : TypeId} {w : World} {p : Option Nat} {B : Nat} {v : Value} {xs : List α} (h : Own k e w p B v xs) {g : Nat} (hg : v.ownBlock = some g) : ¬ foot w p g := by
  obtain ⟨css, _, _, h3⟩ := h
  exact h3 g hg
theorem Own.shape {α : Type} {k : Kd α} {e : TypeId} {w : World} {p : Option Nat} {B : Nat} {v : Value} {xs : List α} (h : Own k e w p B v xs) : ∃ A c, v = .slice A xs.length c ∧ xs.length ≤ c ∧ c ≤ maxLen := by
  obtain ⟨css, h1, _⟩ := h
  rcases h1.2 with ⟨rfl, h0⟩ | ⟨g, cap, cur, rfl, _, _, hc, hm, _⟩
  · exact ⟨none, 0, by rw [h0], by omega, by simp [maxLen]⟩
  · exact ⟨_, cap, rfl, hc, hm⟩
theorem ownsRow_base {w : World} {B B' : Nat} {e : TypeId} {size n : Nat} {v : Value} {xs : List Value} (h : w.ownsRow B e size v n xs) (hB : B' ≤ B) : w.ownsRow B' e size v n xs :=
  ⟨h.1, h.2.elim .inl fun ⟨g, cap, cur, r1, r2, r3⟩ => .inr ⟨g, cap, cur, r1, by omega, r3⟩⟩
theorem Own.lower {α : Type} {k : Kd α} {e : TypeId} {w : World} {p : Option Nat} {B B' : Nat} {v : Value} {xs : List α} (h : Own k e w p B v xs) (hB : B' ≤ B) : Own k e w p B' v xs := by
  obtain ⟨css, h1, h2, h3⟩ := h
  exact ⟨css, ownsRow_base h1 hB, h2, h3⟩
/-- behind a change that leaves the row alone -/
theorem Own.kept {α : Type} {k : Kd α} {e : TypeId} {w w' : World} {p : Option Nat} {B : Nat} {v : Value} {xs : List α} (h : Own k e w p B v xs) (hk : Kept w.heap.size p w w') : Own k e w' p B v xs := by
  obtain ⟨css, h1, h2, h3⟩ := h
  have hS : ∀ i, i < w.heap.size → (foot w' p i ∨ v.ownBlock = some i) → (foot w p i ∨ v.ownBlock = some i) := fun i hi hm => hm.elim (fun hf => .inl (hk.ft i hi hf)) .inr
  refine ⟨css, ⟨h1.1, ?_⟩, h2.keep ⟨hk.size, fun i hi hn => hk.block i hi fun hf => hn (.inl hf)⟩ hS, fun g hg hf => h3 g hg (hk.ft g ((h1.lt g hg).2) hf)⟩
  rcases h1.2 with hn | ⟨g, cap, cur, rfl, hb, hgg, rest⟩
  · exact .inl hn
  · refine .inr ⟨g, cap, cur, rfl, hb, ?_, rest⟩
    rw [hk.block g (Array.getElem?_eq_some_iff.1 hgg).1 (h3 g rfl)]
    exact hgg
/-- what is owned can be read, later than it was made -/
theorem Own.row {α : Type} {k : Kd α} {e : TypeId} {w : World} {p : Option Nat} {B : Nat} {v : Value} {xs : List α} (h : Own k e w p B v xs) (hs : 0 < k.size) {B' : Nat} (hB : w.heap.size ≤ B') : Row k w (may w p B') v xs := by
  obtain ⟨css, h1, h2, h3⟩ := h
  have hp : Pairs k w (may w p B') xs css := h2.keep ⟨Nat.le_refl _, fun _ _ _ => rfl⟩ fun i hi hm => hm.elim (fun h => by omega) .inl
  rcases h1.2 with ⟨rfl, h0⟩ | ⟨g, cap, cur, rfl, hb, hgg, hc, hm, hcs, ht⟩
  · exact ⟨none, 0, css, by rw [h0], by omega, by simp [maxLen], fun _ => rfl, hp, fun hn => by omega⟩
  · have hlt := (Array.getElem?_eq_some_iff.1 hgg).1
    refine ⟨some ⟨g, 0, none⟩, cap, css, rfl, hc, hm, (fun h => nomatch h), hp, fun hn => ⟨g, 0, rfl, hlt, ?_, fun j u hu => ?_⟩⟩
    · intro hmay
      rcases hmay with h | h
      · omega
      · exact h3 g rfl h
    · have := h1.cells (g := g) rfl j u hu
      rw [show ((⟨g, 0, none⟩ : Addr).add j) = ⟨g, 0 + j, none⟩ by unfold Addr.add; split <;> simp_all] at this
      exact this

end Go.Proofs.Ytdljgifoboiaeaa
