/- Rows of the call's own, of any kinds, each in a block of its own: what is kept of them when one is written, or grows. -/
import Derived.Test.YtbfjacgfifecpaaNh
namespace Go.Proofs.Ytbfjacgfifecpaa
open Go.RowKit

structure Rw where
  e : TypeId
  size : Nat
  v : Value
  n : Nat
  cs : List Value
abbrev Rw.at (r : Rw) (w : World) (B : Nat) : Prop := w.ownsRow B r.e r.size r.v r.n r.cs
structure Keep (w : World) (B : Nat) (T : List Rw) : Prop where
  own : ∀ (i : Nat) (r : Rw), T[i]? = some r → r.at w B
  apart : ∀ (i j : Nat) (p q : Rw), T[i]? = some p → T[j]? = some q → i ≠ j → ∀ b, p.v.ownBlock = some b → q.v.ownBlock ≠ some b
  base : B ≤ w.heap.size

theorem Keep.nil {w : World} {B : Nat} (h : B ≤ w.heap.size) : Keep w B [] := ⟨fun i r h => by simp at h, fun i j p q h => by simp at h, h⟩
theorem Keep.other {w w' : World} {B : Nat} {T : List Rw} {row : Option Nat} (h : Keep w B T) (hg : w.grownBy w' row) (hr : ∀ (i : Nat) (p : Rw), T[i]? = some p → p.v.ownBlock = none ∨ p.v.ownBlock ≠ row) : Keep w' B T where
  own i p hp := (h.own i p hp).kept hg (hr i p hp)
  apart := h.apart
  base := Nat.le_trans h.base hg.size
theorem Keep.below {w w' : World} {B : Nat} {T : List Rw} (h : Keep w B T) (hb : Below w.heap.size w w') : Keep w' B T :=
  h.other (row := none) ⟨hb.os, hb.tape, hb.output, hb.size, fun k hk _ => hb.block k hk⟩ (fun i p _ => by cases p.v.ownBlock <;> simp)
theorem Keep.alloc {w : World} {B : Nat} {T : List Rw} (h : Keep w B T) (o : Obj) : Keep (w.alloc o) B T := h.below ((Below.refl _ _).alloc (Nat.le_refl _) o)
theorem Keep.drew {w : World} {B : Nat} {T : List Rw} (h : Keep w B T) : Keep w.drew B T := h.below (Below.refl _ _).drew
theorem Keep.lower {w : World} {B B' : Nat} {T : List Rw} (h : Keep w B T) (hB : B' ≤ B) : Keep w B' T := ⟨fun i r hr => ownsRow_base (h.own i r hr) hB, h.apart, Nat.le_trans hB h.base⟩
theorem Keep.lt {w : World} {B : Nat} {T : List Rw} (h : Keep w B T) {i : Nat} {r : Rw} (hi : T[i]? = some r) {b : Nat} (hb : r.v.ownBlock = some b) : B ≤ b ∧ b < w.heap.size := (h.own i r hi).lt b hb
/-- one row more, made later -/
theorem Keep.push {w w' : World} {B : Nat} {T : List Rw} (h : Keep w B T) (hb : Below w.heap.size w w') {r : Rw} (hr : r.at w' w.heap.size) : Keep w' B (T ++ [r]) := by
  have h' := h.below hb
  have hat : ∀ (i : Nat) (p : Rw), (T ++ [r])[i]? = some p → T[i]? = some p ∨ (i = T.length ∧ p = r) := fun i p hp => by
    rcases Nat.lt_or_ge i T.length with hi | hi
    · rw [List.getElem?_append_left hi] at hp; exact .inl hp
    · rw [List.getElem?_append_right hi] at hp
      have : i - T.length = 0 := by
        rcases Nat.eq_zero_or_pos (i - T.length) with e | e
        · exact e
        · rw [List.getElem?_eq_none (by simp only [List.length_singleton]; omega)] at hp; exact absurd hp (by simp)
      rw [this] at hp
      exact .inr ⟨by omega, by simpa using hp.symm⟩
  refine ⟨fun i p hp => ?_, fun i j p q hp hq hij b hb1 hb2 => ?_, h'.base⟩
  · rcases hat i p hp with e | ⟨-, rfl⟩
    · exact h'.own i p e
    · exact ownsRow_base hr h.base
  · rcases hat i p hp with e | ⟨e1, rfl⟩
    · rcases hat j q hq with e' | ⟨e1', rfl⟩
      · exact h.apart i j p q e e' hij b hb1 hb2
      · have := (h.own i p e).lt b hb1
        have := hr.lt b hb2
        omega
    · rcases hat j q hq with e' | ⟨e1', rfl⟩
      · have := (h.own j q e').lt b hb2
        have := hr.lt b hb1
        omega
      · omega
/-- one row is written, or grows -/
theorem Keep.set {w w' : World} {B : Nat} {T : List Rw} (h : Keep w B T) {i : Nat} {r r' : Rw} (hi : T[i]? = some r) (ho : r'.at w' B) (hg : w.grownBy w' r.v.ownBlock)
    (hloc : r'.v.ownBlock = r.v.ownBlock ∨ ∃ b, r'.v.ownBlock = some b ∧ w.heap.size ≤ b) : Keep w' B (T.set i r') := by
  have hlt : i < T.length := (List.getElem?_eq_some_iff.1 hi).1
  have hsplit : ∀ (j : Nat) (p : Rw), (T.set i r')[j]? = some p → (j = i ∧ p = r') ∨ (j ≠ i ∧ T[j]? = some p) := fun j p hp => by
    rw [List.getElem?_set] at hp
    split at hp
    · rename_i e; subst e
      try rw [if_pos hlt] at hp
      injection hp with hp
      exact .inl ⟨rfl, hp.symm⟩
    · rename_i e
      exact .inr ⟨fun h => e h.symm, hp⟩
  have hothers : ∀ (j : Nat) (p : Rw), j ≠ i → T[j]? = some p → p.v.ownBlock = none ∨ p.v.ownBlock ≠ r.v.ownBlock := fun j p hj hp => by
    cases hb : p.v.ownBlock with
    | none => exact .inl rfl
    | some b => exact .inr fun e => h.apart j i p _ hp hi hj b hb e.symm
  refine ⟨fun j p hp => ?_, fun j k p q hp hq hjk b hb => ?_, Nat.le_trans h.base hg.size⟩
  · rcases hsplit j p hp with ⟨rfl, rfl⟩ | ⟨hj, hp⟩
    · exact ho
    · exact (h.own j p hp).kept hg (hothers j p hj hp)
  · rcases hsplit j p hp with ⟨rfl, rfl⟩ | ⟨hj, hp2⟩
    · rcases hsplit k q hq with ⟨rfl, rfl⟩ | ⟨hk, hq2⟩
      · exact absurd rfl hjk
      · intro hqb
        rcases hloc with e | ⟨b', hb', hsz⟩
        · exact h.apart j k _ _ hi hq2 hjk b (by rw [← e]; exact hb) hqb
        · have e : b' = b := by rw [hb'] at hb; injection hb
          have := (h.own k q hq2).lt b hqb
          omega
    · rcases hsplit k q hq with ⟨rfl, rfl⟩ | ⟨hk, hq2⟩
      · intro hqb
        rcases hloc with e | ⟨b', hb', hsz⟩
        · exact h.apart j k _ _ hp2 hi hj b hb (by rw [← e]; exact hqb)
        · have e : b' = b := by rw [hb'] at hqb; injection hqb
          have := (h.own j p hp2).lt b hb
          omega
      · exact h.apart j k p q hp2 hq2 hjk b hb
/-- a store into a row -/
theorem Keep.store {w : World} {B : Nat} {T : List Rw} (h : Keep w B T) {i : Nat} {r : Rw} (hi : T[i]? = some r) {g c : Nat} (hv : r.v = .slice (some ⟨g, 0, none⟩) r.n c) (j : Nat) (u : Value) :
    Keep (w.setCell ⟨g, j, none⟩ u) B (T.set i { r with cs := r.cs.set j u }) := by
  have ho := h.own i r hi
  obtain ⟨e, size, v, n, cs⟩ := r
  dsimp only at hv
  subst hv
  have hs := World.ownsRow.stored ho j u
  exact h.set hi hs.1 hs.2 (.inl rfl)
theorem Keep.cell {w : World} {B : Nat} {T : List Rw} (h : Keep w B T) {i : Nat} {r : Rw} (hi : T[i]? = some r) {g c : Nat} (hv : r.v = .slice (some ⟨g, 0, none⟩) r.n c) {j : Nat} {u : Value} (hu : r.cs[j]? = some u) :
    w.cell? ⟨g, j, none⟩ = some u ∧ w.frozen? ⟨g, j, none⟩ = false := by
  have ho := h.own i r hi
  obtain ⟨e, size, v, n, cs⟩ := r
  dsimp only at hv
  subst hv
  have hj : j < n * size := by have := (List.getElem?_eq_some_iff.1 hu).1; have := ho.1; dsimp only at *; omega
  exact ⟨(World.ownsRow.cellAt ho j hj).trans hu, World.ownsRow.frozenAt ho j⟩
/-- rows of a part of the list -/
theorem Keep.pick {w : World} {B : Nat} {T U : List Rw} (h : Keep w B T) (f : Nat → Nat) (hf : ∀ i j, i < U.length → j < U.length → f i = f j → i = j) (hU : ∀ (i : Nat) (r : Rw), U[i]? = some r → T[f i]? = some r) : Keep w B U :=
  ⟨fun i r hr => h.own (f i) r (hU i r hr), fun i j p q hp hq hij => h.apart (f i) (f j) p q (hU i p hp) (hU j q hq) (fun e => hij (hf i j (List.getElem?_eq_some_iff.1 hp).1 (List.getElem?_eq_some_iff.1 hq).1 e)), h.base⟩

abbrev rwInts (e : TypeId) (v : Value) (xs : List Int) : Rw := ⟨e, 1, v, xs.length, xs.map fun x => Value.int .i64 x⟩
abbrev rwBools (e : TypeId) (v : Value) (xs : List Bool) : Rw := ⟨e, 1, v, xs.length, xs.map fun x => Value.bool x⟩
/-- a cell of its own -/
abbrev rwBox (e : TypeId) (g : Nat) (u : Value) : Rw := ⟨e, 1, .slice (some ⟨g, 0, none⟩) 1 1, 1, [u]⟩
theorem rwInts_at {e : TypeId} {w : World} {B : Nat} {v : Value} {xs : List Int} : (rwInts e v xs).at w B ↔ Own kInt e w none B v xs :=
  ⟨fun h => Own.of_ints h fun _ _ => foot_none _ _, fun h => h.ints⟩
theorem rwBools_at {e : TypeId} {w : World} {B : Nat} {v : Value} {xs : List Bool} : (rwBools e v xs).at w B ↔ Own kBool e w none B v xs :=
  ⟨fun h => Own.of_bools h fun _ _ => foot_none _ _, fun h => h.boolsRow⟩
theorem rwBox_alloc (w : World) (e : TypeId) (u : Value) : (rwBox e w.heap.size u).at (w.alloc (.cells #[u] e)) w.heap.size :=
  World.ownsRow_lit w #[u] 1 (Nat.le_refl _) (by simp [maxLen]) rfl
section
variable {w w' : World} {B : Nat} {T : List Rw} {i : Nat} {e : TypeId} {v : Value} {xs : List Int} {bs : List Bool} {g c n : Nat} {u : Value}
theorem Keep.ints (h : Keep w B T) (hi : T[i]? = some (rwInts e v xs)) : Own kInt e w none B v xs := rwInts_at.1 (h.own i _ hi)
theorem Keep.bools (h : Keep w B T) (hi : T[i]? = some (rwBools e v bs)) : Own kBool e w none B v bs := rwBools_at.1 (h.own i _ hi)
theorem Keep.box (h : Keep w B T) (hi : T[i]? = some (rwBox e g u)) : w.cell? ⟨g, 0, none⟩ = some u ∧ w.frozen? ⟨g, 0, none⟩ = false := h.cell hi rfl rfl
theorem Keep.setBox (h : Keep w B T) (hi : T[i]? = some (rwBox e g u)) (u' : Value) : Keep (w.setCell ⟨g, 0, none⟩ u') B (T.set i (rwBox e g u')) := h.store hi rfl 0 u'
theorem Keep.setInt (h : Keep w B T) (hi : T[i]? = some (rwInts e (.slice (some ⟨g, 0, none⟩) n c) xs)) (j : Nat) (r : Int) : Keep (w.setCell ⟨g, j, none⟩ (.int .i64 r)) B (T.set i (rwInts e (.slice (some ⟨g, 0, none⟩) n c) (xs.set j r))) := by
  have hO := h.ints hi
  have hs := hO.store (FootIn.none _) h.base j r
  exact h.set hi (rwInts_at.2 hs.1) hs.2.1 (.inl rfl)
theorem Keep.setBool (h : Keep w B T) (hi : T[i]? = some (rwBools e (.slice (some ⟨g, 0, none⟩) n c) bs)) (j : Nat) (r : Bool) : Keep (w.setCell ⟨g, j, none⟩ (.bool r)) B (T.set i (rwBools e (.slice (some ⟨g, 0, none⟩) n c) (bs.set j r))) := by
  have hO := h.bools hi
  have hn : n = bs.length := by obtain ⟨_, _, he, _⟩ := hO.shape; injection he
  have hg : w.grownBy (w.setCell ⟨g, j, none⟩ (.bool r)) (some g) := by subst hn; exact (hO.boolsRow.stored j (.bool r)).2
  exact h.set hi (rwBools_at.2 (hO.storeBool j r)) hg (.inl rfl)
theorem Keep.setRow (h : Keep w B T) (hi : T[i]? = some (rwInts e v xs)) {v' : Value} {ys : List Int} (ho : Own kInt e w' none B v' ys) (hg : w.grownBy w' v.ownBlock) (hloc : v'.ownBlock = v.ownBlock ∨ ∃ b, v'.ownBlock = some b ∧ w.heap.size ≤ b) : Keep w' B (T.set i (rwInts e v' ys)) :=
  h.set hi (rwInts_at.2 ho) hg hloc
/-- a box is not in the block of a row -/
theorem Keep.ne (h : Keep w B T) {j : Nat} {p q : Rw} (hi : T[i]? = some p) (hj : T[j]? = some q) (hij : i ≠ j) {b : Nat} (hb : p.v.ownBlock = some b) : some b ≠ q.v.ownBlock := fun e => h.apart i j p q hi hj hij b hb e.symm
end
end Go.Proofs.Ytbfjacgfifecpaa
