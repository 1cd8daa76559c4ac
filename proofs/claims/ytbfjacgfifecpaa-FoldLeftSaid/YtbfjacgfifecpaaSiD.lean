/- An order of any net whose levels are: slipstickref07.Fast. -/
import Derived.Test.YtbfjacgfifecpaaSiC
namespace Go.Proofs.Ytbfjacgfifecpaa
open Go.RowKit

theorem max_one {nodes : List Node} {l : List Int} {i : Nat} {st : List Int} {o s : List Nat} {a : Nat} (h : FI nodes l i st o (s ++ [a])) : max (st.getD a 0) 1 = 1 := by
  have ha := h.inn a (by simp)
  rcases h.val a ha.1 with e | e | e <;> omega
def undoneAt (w : World) (b i : Nat) : Bool := match w.cell? ⟨b, i, none⟩ with | some (.int _ x) => decide (x < 2) | _ => false
def undoneW (w : World) (b n : Nat) : Nat := (List.range n).countP (undoneAt w b)
theorem undone_range (st : List Int) : (List.range st.length).countP (fun i => decide (st.getD i 0 < 2)) = undone st := by
  have e : (List.range st.length).map (fun i => st.getD i 0) = st := by
    apply List.ext_getElem (by simp)
    intro i h1 h2
    simp [List.getD_eq_getElem?_getD, List.getElem?_eq_getElem h2]
  conv => rhs; rw [undone, ← e, List.countP_map]
  rfl
theorem undoneW_is {w : World} {G n c : Nat} {p : Option Nat} {B : Nat} {st : List Int} (h : Own kInt 3 w p B (.slice (some ⟨G, 0, none⟩) n c) st) (hn : st.length = n) : undoneW w G n = undone st := by
  rw [undoneW, ← undone_range, hn]
  apply List.countP_congr
  intro i hi
  have hi : i < st.length := by rw [hn]; simpa using hi
  rw [undoneAt, (h.cellAt hi).1]
  simp [List.getD_eq_getElem?_getD, List.getElem?_eq_getElem hi]
/-- the rows of the call's own -/
structure FR (w : World) (G n : Nat) (vo vs : Value) (st : List Int) (o s : List Nat) : Prop where
  st : Own kInt 3 w none G (.slice (some ⟨G, 0, none⟩) n n) st
  out : Own kInt 3 w none (G + 1) vo (nats o)
  way : Own kInt 3 w none (G + 1) vs (nats s)
  apart : ∀ g, vo.ownBlock = some g → vs.ownBlock ≠ some g
theorem FR.below {w w' : World} {G n : Nat} {vo vs : Value} {st : List Int} {o s : List Nat} (h : FR w G n vo vs st o s) (hb : Below w.heap.size w w') : FR w' G n vo vs st o s :=
  ⟨h.st.kept (Kept.of_below_all hb (FootIn.none _) (Nat.le_refl _)), h.out.kept (Kept.of_below_all hb (FootIn.none _) (Nat.le_refl _)), h.way.kept (Kept.of_below_all hb (FootIn.none _) (Nat.le_refl _)), h.apart⟩
theorem FR.lt {w : World} {G n : Nat} {vo vs : Value} {st : List Int} {o s : List Nat} (h : FR w G n vo vs st o s) : G + 1 ≤ w.heap.size := (h.st.base (g := G) rfl).2
theorem FR.put {w : World} {G n : Nat} {vo vs : Value} {st : List Int} {o s : List Nat} (h : FR w G n vo vs st o s) (a : Nat) (r : Int) : FR (w.setCell ⟨G, a, none⟩ (.int .i64 r)) G n vo vs (st.set a r) o s := by
  have hs := h.st.store (FootIn.none _) (Nat.le_of_lt (h.st.base (g := G) rfl).2) a r
  exact ⟨hs.1, h.out.other hs.2.1 hs.2.2.2 (.inr fun e => by have := (h.out.base (g := G) e).1; omega) (fun _ _ h => h), h.way.other hs.2.1 hs.2.2.2 (.inr fun e => by have := (h.way.base (g := G) e).1; omega) (fun _ _ h => h), h.apart⟩
theorem foot_same (w w' : World) (i : Nat) : foot w' none i ↔ foot w none i := ⟨fun h => (foot_none _ _ h).elim, fun h => (foot_none _ _ h).elim⟩
theorem FR.appOut {w w' : World} {G n : Nat} {vo vs v' : Value} {st : List Int} {o s : List Nat} {a : Nat} (h : FR w G n vo vs st o s) (ho : Own kInt 3 w' none (G + 1) v' (nats o ++ [(a : Int)])) (hg : w.grownBy w' vo.ownBlock) (hl : v'.ownBlock = vo.ownBlock ∨ ∃ b, v'.ownBlock = some b ∧ w.heap.size < b) : FR w' G n v' vs st (o ++ [a]) s := by
  refine ⟨h.st.other hg (foot_same _ _) (.inr fun e => by have := (h.out.base (g := G) e.symm).1; omega) (fun _ _ h => h), by rw [show nats (o ++ [a]) = nats o ++ [(a : Int)] by simp]; exact ho, h.way.other hg (foot_same _ _) ?_ (fun _ _ h => h), fun g hv he => ?_⟩
  · rcases hv : vs.ownBlock with _ | g
    · exact .inl rfl
    · exact .inr fun e => h.apart g e.symm hv
  · rcases hl with e | ⟨b, e, hb⟩
    · exact h.apart g (e.symm.trans hv) he
    · rw [e] at hv; injection hv with hv; subst hv; have := (h.way.base he).2; omega
theorem FR.appWay {w w' : World} {G n : Nat} {vo vs v' : Value} {st : List Int} {o s : List Nat} {a : Nat} (h : FR w G n vo vs st o s) (ho : Own kInt 3 w' none (G + 1) v' (nats s ++ [(a : Int)])) (hg : w.grownBy w' vs.ownBlock) (hl : v'.ownBlock = vs.ownBlock ∨ ∃ b, v'.ownBlock = some b ∧ w.heap.size < b) : FR w' G n vo v' st o (s ++ [a]) := by
  refine ⟨h.st.other hg (foot_same _ _) (.inr fun e => by have := (h.way.base (g := G) e.symm).1; omega) (fun _ _ h => h), h.out.other hg (foot_same _ _) ?_ (fun _ _ h => h), by rw [show nats (s ++ [a]) = nats s ++ [(a : Int)] by simp]; exact ho, fun g hv he => ?_⟩
  · rcases hv : vo.ownBlock with _ | g
    · exact .inl rfl
    · exact .inr fun e => h.apart g hv e.symm
  · rcases hl with e | ⟨b, e, hb⟩
    · exact h.apart g hv (e.symm.trans he)
    · rw [e] at he; injection he with he; subst he; have := (h.out.base hv).2; omega
theorem FR.pop {w : World} {G n gs k c : Nat} {vo : Value} {st : List Int} {o s : List Nat} {a : Nat} (h : FR w G n vo (.slice (some ⟨gs, 0, none⟩) (k + 1) c) st o (s ++ [a])) : FR w G n vo (.slice (some ⟨gs, 0, none⟩) k c) st o s := by
  have hw := h.way
  rw [show nats (s ++ [a]) = nats s ++ [(a : Int)] by simp] at hw
  exact ⟨h.st, h.out, hw.popLast, h.apart⟩
/-- where the way down is -/
def FL (nodes : List Node) (l : List Int) (j G : Nat) (vo vs : Value) (w : World) (st : List Int) (o s : List Nat) : Prop := FI nodes l j st o s ∧ FR w G nodes.length vo vs st o s ∧ (st.getD j 0 ≠ 0 ∨ j ∈ s)
theorem FL.measure {nodes : List Node} {l : List Int} {j G : Nat} {vo vs : Value} {w : World} {st : List Int} {o s : List Nat} (h : FL nodes l j G vo vs w st o s) : undoneW w G nodes.length * (nodes.length + 1) + (nodes.length - lenOf vs) = undone st * (nodes.length + 1) + (nodes.length - s.length) := by
  rw [undoneW_is h.2.1.st h.1.len]
  obtain ⟨A, c, rfl, -, -⟩ := h.2.1.way.shape
  simp [lenOf]
theorem FL.push {nodes : List Node} {l : List Int} (hf : Frm nodes) (hl : IsLev nodes l) {j G : Nat} {vo vs v' : Value} {w w' : World} {st : List Int} {o s : List Nat} {a u : Nat} (h : FL nodes l j G vo vs w st o (s ++ [a])) (hu : u ∈ useAt nodes a) (h2 : st.getD u 0 < 2)
    (hR : FR w' G nodes.length vo v' (st.set a 1) o (s ++ [a] ++ [u])) : FL nodes l j G vo v' w' (st.set a 1) o (s ++ [a] ++ [u]) ∧ undone (st.set a 1) * (nodes.length + 1) + (nodes.length - (s ++ [a] ++ [u]).length) < undone st * (nodes.length + 1) + (nodes.length - (s ++ [a]).length) := by
  obtain ⟨h0, hne, hp⟩ := h.1.push hf hl hu h2
  have hm := max_one h.1
  rw [hm] at hp
  have ha := h.1.inn a (by simp)
  have hal : a < st.length := by rw [h.1.len]; exact ha.1
  have hun := undone_set (x := 1) hal
  rw [if_pos ha.2, if_pos (by decide)] at hun
  have hsl := hp.slen
  refine ⟨⟨hp, hR, ?_⟩, ?_⟩
  · rcases h.2.2 with h3 | h3
    · left
      rw [getDI_set hal]
      split
      · decide
      · exact h3
    · exact .inr (List.mem_append_left _ h3)
  · rw [show undone (st.set a 1) = undone st by omega]
    simp only [List.length_append, List.length_singleton] at hsl ⊢
    omega
theorem FL.pop {nodes : List Node} {l : List Int} {j G : Nat} {vo vs vo' v' : Value} {w w' : World} {st : List Int} {o s : List Nat} {a : Nat} (h : FL nodes l j G vo vs w st o (s ++ [a])) (hu : ∀ u ∈ useAt nodes a, u < nodes.length ∧ ¬ st.getD u 0 < 2)
    (hR : FR w' G nodes.length vo' v' ((st.set a 1).set a 2) (o ++ [a]) s) : FL nodes l j G vo' v' w' ((st.set a 1).set a 2) (o ++ [a]) s ∧ undone ((st.set a 1).set a 2) * (nodes.length + 1) + (nodes.length - s.length) < undone st * (nodes.length + 1) + (nodes.length - (s ++ [a]).length) := by
  obtain ⟨hm, hp⟩ := h.1.pop hu
  rw [hm] at hp
  have ha := h.1.inn a (by simp)
  have hal : a < st.length := by rw [h.1.len]; exact ha.1
  have hun := undone_set (x := 2) hal
  rw [if_pos ha.2, if_neg (by decide)] at hun
  have hsl := h.1.slen
  refine ⟨⟨hp, hR, ?_⟩, ?_⟩
  · by_cases e : a = j
    · left
      rw [getDI_set (by rw [List.length_set]; exact hal), if_pos e]
      decide
    · rcases h.2.2 with h3 | h3
      · left
        rw [getDI_set (by rw [List.length_set]; exact hal), if_neg e, getDI_set hal, if_neg e]
        exact h3
      · right
        rcases List.mem_append.1 h3 with h3 | h3
        · exact h3
        · exact absurd (List.mem_singleton.1 h3).symm e
  · rw [List.set_set]
    have : undone st = undone (st.set a 2) + 1 := by omega
    rw [this, Nat.add_mul]
    simp only [List.length_append, List.length_singleton] at hsl ⊢
    omega
end Go.Proofs.Ytbfjacgfifecpaa
