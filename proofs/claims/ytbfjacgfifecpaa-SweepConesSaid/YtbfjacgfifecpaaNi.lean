/- Rows of the call's own, each in a block of its own, and a table of them. -/
import Derived.Test.YtbfjacgfifecpaaNh
import Derived.Test.YtbfjacgfifecpaaLev
namespace Go.Proofs.Ytbfjacgfifecpaa
open Go.RowKit

structure LevM (w : World) (B g n : Nat) (T : List (Value × List Int)) (vals : List Value) : Prop where
  own : ∀ (i : Nat) (p : Value × List Int), T[i]? = some p → Own kInt 3 w none B p.1 p.2
  apart : ∀ (i j : Nat) (p q : Value × List Int), T[i]? = some p → T[j]? = some q → i ≠ j → ∀ b, p.1.ownBlock = some b → q.1.ownBlock ≠ some b
  tab : w.ownsRow B 28 1 (.slice (some ⟨g, 0, none⟩) n n) n vals
  off : ∀ (i : Nat) (p : Value × List Int), T[i]? = some p → p.1.ownBlock ≠ some g

theorem LevM.other {w w' : World} {B g n : Nat} {T : List (Value × List Int)} {vals : List Value} {row : Option Nat} (h : LevM w B g n T vals) (hg : w.grownBy w' row)
    (hr : ∀ (i : Nat) (p : Value × List Int), T[i]? = some p → p.1.ownBlock = none ∨ p.1.ownBlock ≠ row) (hgr : some g ≠ row) : LevM w' B g n T vals where
  own i p hp := (h.own i p hp).other hg (fun _i => ⟨fun hf => (foot_none _ _ hf).elim, fun hf => (foot_none _ _ hf).elim⟩) (hr i p hp) (fun _ _ h => h)
  apart := h.apart
  tab := h.tab.kept hg (.inr hgr)
  off := h.off
theorem LevM.alloc {w : World} {B g n : Nat} {T : List (Value × List Int)} {vals : List Value} (h : LevM w B g n T vals) (o : Obj) : LevM (w.alloc o) B g n T vals :=
  h.other (World.grownBy_alloc w o none) (fun i p _ => by cases p.1.ownBlock <;> simp) (by simp)
theorem LevM.drew {w : World} {B g n : Nat} {T : List (Value × List Int)} {vals : List Value} (h : LevM w B g n T vals) : LevM w.drew B g n T vals :=
  h.other (row := none) ⟨rfl, rfl, rfl, Nat.le_refl _, fun _ _ _ => rfl⟩ (fun i p _ => by cases p.1.ownBlock <;> simp) (by simp)
/-- what is Below keeps all -/
theorem LevM.below {w w' : World} {B g n : Nat} {T : List (Value × List Int)} {vals : List Value} (h : LevM w B g n T vals) (hb : Below w.heap.size w w') : LevM w' B g n T vals :=
  h.other (row := none) ⟨hb.os, hb.tape, hb.output, hb.size, fun k hk _ => hb.block k hk⟩ (fun i p _ => by cases p.1.ownBlock <;> simp) (by simp)
theorem LevM.tabLt {w : World} {B g n : Nat} {T : List (Value × List Int)} {vals : List Value} (h : LevM w B g n T vals) : B ≤ g ∧ g < w.heap.size := h.tab.lt g rfl
theorem LevM.set {w w' : World} {B g n : Nat} {T : List (Value × List Int)} {vals : List Value} (h : LevM w B g n T vals) {i : Nat} {v : Value} {xs : List Int} (hi : T[i]? = some (v, xs))
    {v' : Value} {ys : List Int} (ho : Own kInt 3 w' none B v' ys) (hg : w.grownBy w' v.ownBlock) (hloc : v'.ownBlock = v.ownBlock ∨ ∃ b, v'.ownBlock = some b ∧ w.heap.size ≤ b) : LevM w' B g n (T.set i (v', ys)) vals := by
  have hlt : i < T.length := (List.getElem?_eq_some_iff.1 hi).1
  have hsplit : ∀ (j : Nat) (p : Value × List Int), (T.set i (v', ys))[j]? = some p → (j = i ∧ p = (v', ys)) ∨ (j ≠ i ∧ T[j]? = some p) := fun j p hp => by
    rw [List.getElem?_set] at hp
    split at hp
    · rename_i e; subst e
      try rw [if_pos hlt] at hp
      injection hp with hp
      exact .inl ⟨rfl, hp.symm⟩
    · rename_i e
      exact .inr ⟨fun h => e h.symm, hp⟩
  have hothers : ∀ (j : Nat) (p : Value × List Int), j ≠ i → T[j]? = some p → p.1.ownBlock = none ∨ p.1.ownBlock ≠ v.ownBlock := fun j p hj hp => by
    cases hb : p.1.ownBlock with
    | none => exact .inl rfl
    | some b => exact .inr fun e => h.apart j i p _ hp hi hj b hb e.symm
  have hgg : some g ≠ v.ownBlock := fun e => h.off i _ hi e.symm
  refine ⟨fun j p hp => ?_, fun j k p q hp hq hjk b hb => ?_, h.tab.kept hg (.inr hgg), fun j p hp => ?_⟩
  · rcases hsplit j p hp with ⟨rfl, rfl⟩ | ⟨hj, hp⟩
    · exact ho
    · exact (h.own j p hp).other hg (fun i => ⟨fun hf => (foot_none _ _ hf).elim, fun hf => (foot_none _ _ hf).elim⟩) (hothers j p hj hp) (fun _ _ h => h)
  · rcases hsplit j p hp with ⟨rfl, rfl⟩ | ⟨hj, hp2⟩
    · rcases hsplit k q hq with ⟨rfl, rfl⟩ | ⟨hk, hq2⟩
      · exact absurd rfl hjk
      · intro hqb
        rcases hloc with e | ⟨b', hb', hsz⟩
        · exact h.apart j k _ _ hi hq2 hjk b (by rw [← e]; exact hb) hqb
        · have e : b' = b := by rw [hb'] at hb; injection hb
          have := ((h.own k q hq2).base hqb).2
          omega
    · rcases hsplit k q hq with ⟨rfl, rfl⟩ | ⟨hk, hq2⟩
      · intro hqb
        rcases hloc with e | ⟨b', hb', hsz⟩
        · exact h.apart j k _ _ hp2 hi hj b hb (by rw [← e]; exact hqb)
        · have e : b' = b := by rw [hb'] at hqb; injection hqb
          have := ((h.own j p hp2).base hb).2
          omega
      · exact h.apart j k p q hp2 hq2 hjk b hb
  · rcases hsplit j p hp with ⟨rfl, rfl⟩ | ⟨hj, hp⟩
    · intro hb
      rcases hloc with e | ⟨b', hb', hsz⟩
      · exact hgg (by rw [← e]; exact hb.symm)
      · have e : b' = g := by rw [hb'] at hb; injection hb
        have := h.tabLt.2
        omega
    · exact h.off j p hp
/-- a store into the table -/
theorem LevM.tabSet {w : World} {B g n : Nat} {T : List (Value × List Int)} {vals : List Value} (h : LevM w B g n T vals) (i : Nat) (x : Value) : LevM (w.setCell ⟨g, i, none⟩ x) B g n T (vals.set i x) := by
  have hs := h.tab.stored i x
  exact ⟨fun j p hp => (h.own j p hp).other hs.2 (fun i => ⟨fun hf => (foot_none _ _ hf).elim, fun hf => (foot_none _ _ hf).elim⟩) (.inr (h.off j p hp)) (fun _ _ h => h), h.apart, hs.1, h.off⟩
/-- a store into a row -/
theorem LevM.rowSet {w : World} {B g n : Nat} {T : List (Value × List Int)} {vals : List Value} (h : LevM w B g n T vals) {i b m c : Nat} {xs : List Int} (hi : T[i]? = some (.slice (some ⟨b, 0, none⟩) m c, xs)) (j : Nat) (r : Int) :
    LevM (w.setCell ⟨b, j, none⟩ (.int .i64 r)) B g n (T.set i (.slice (some ⟨b, 0, none⟩) m c, xs.set j r)) vals := by
  have hO := h.own i _ hi
  have hB : B ≤ w.heap.size := by have := h.tabLt; omega
  have hs := hO.store (FootIn.none _) hB j r
  exact h.set hi hs.1 hs.2.1 (.inl rfl)
end Go.Proofs.Ytbfjacgfifecpaa
