/- A row of words of the call's own, kept in a box: the words lie beyond the boxes. -/
import Derived.Test.YtdljgifoboiaeaaRange2
import Derived.Test.YtdljgifoboiaeaaRowW
namespace Go.Proofs.Ytdljgifoboiaeaa
open Go.RowKit

/-- the words lie at or beyond B0 -/
def OwnB (w : World) (p B B0 : Nat) (v : Value) (xss : List (List Int)) : Prop :=
  ∃ css, w.ownsRow B 26 1 v xss.length css.flatten ∧ Pairs (kRow kInt) w (fun i => (foot w (some p) i ∨ v.ownBlock = some i) ∨ i < B0) xss css ∧ ∀ g, v.ownBlock = some g → ¬ foot w (some p) g
structure FineB (w : World) (p : Nat) (st : BSt) (B B0 : Nat) (v : Value) (xss : List (List Int)) : Prop where
  own : OwnB w p B B0 v xss
  okay : ∀ xs ∈ xss, Okay st xs ∧ xs.length ≤ 1024
  len : xss.length ≤ 1024
theorem OwnB.toOwn {w : World} {p B B0 : Nat} {v : Value} {xss : List (List Int)} (h : OwnB w p B B0 v xss) : Own (kRow kInt) 26 w (some p) B v xss := by
  obtain ⟨css, h1, h2, h3⟩ := h
  exact ⟨css, h1, h2.keep ⟨Nat.le_refl _, fun _ _ _ => rfl⟩ fun i _ hm => .inl hm, h3⟩
theorem OwnB.nil (w : World) (p B B0 : Nat) : OwnB w p B B0 (.slice none 0 0) [] := ⟨[], World.ownsRow_nil w B 26 1, Pairs.nil _ w _, by simp [Value.ownBlock]⟩
theorem OwnB.kept {w w' : World} {p B B0 : Nat} {v : Value} {xss : List (List Int)} (h : OwnB w p B B0 v xss) (hk : Kept w.heap.size (some p) w w') : OwnB w' p B B0 v xss := by
  obtain ⟨css, h1, h2, h3⟩ := h
  refine ⟨css, ⟨h1.1, ?_⟩, h2.keep ⟨hk.size, fun i hi hn => hk.block i hi fun hf => hn (.inl (.inl hf))⟩ (fun i hi hm => hm.elim (fun h => h.elim (fun hf => .inl (.inl (hk.ft i hi hf))) fun h => .inl (.inr h)) .inr), fun g hg hf => h3 g hg (hk.ft g ((h1.lt g hg).2) hf)⟩
  rcases h1.2 with hn | ⟨g, cap, cur, rfl, hb, hgg, rest⟩
  · exact .inl hn
  · refine .inr ⟨g, cap, cur, rfl, hb, ?_, rest⟩
    rw [hk.block g (Array.getElem?_eq_some_iff.1 hgg).1 (h3 g rfl)]
    exact hgg
/-- another block grows, or is turned: it lies below the words, or holds no cells -/
theorem OwnB.grown {w w' : World} {p B B0 : Nat} {v : Value} {xss : List (List Int)} {row : Option Nat} (h : OwnB w p B B0 v xss) (hg : w.grownBy w' row) (hfo : ∀ i, foot w' (some p) i ↔ foot w (some p) i) (hne : v.ownBlock = none ∨ v.ownBlock ≠ row)
    (hr : ∀ r, row = some r → r < B0 ∨ ∃ o : Obj, w.heap[r]? = some o ∧ o.isCells = false) : OwnB w' p B B0 v xss := by
  obtain ⟨css, h1, h2, h3⟩ := h
  refine ⟨css, h1.kept hg hne, ⟨h2.1, fun i x cs hx hc => ?_⟩, fun g hgv hf => h3 g hgv ((hfo g).1 hf)⟩
  obtain ⟨u, rfl, hu⟩ := h2.2 i x cs hx hc
  have hu2 : Row kInt w (fun i => ((foot w (some p) i ∨ v.ownBlock = some i) ∨ i < B0) ∨ row = some i) u x := by
    obtain ⟨A, c, dss, rfl, a1, a2, a3, a4, a5⟩ := hu
    refine ⟨A, c, dss, rfl, a1, a2, a3, ⟨a4.1, fun i x cs hx hc => a4.2 i x cs hx hc⟩, fun hn => ?_⟩
    obtain ⟨b, off, rfl, b1, b2, b3⟩ := a5 hn
    refine ⟨b, off, rfl, b1, fun hm => hm.elim b2 fun he => ?_, b3⟩
    rcases hr b he with hb | ⟨o, ho, hcl⟩
    · exact b2 (.inr hb)
    · have hne : 0 < dss.flatten.length := by
        have h5 := a4.flat
        rw [h5]
        exact Nat.mul_pos hn (by decide)
      obtain ⟨cs, t, fr, hh⟩ := cell_block (b3 0 dss.flatten[0] (by simp [hne]))
      rw [hh] at ho
      injection ho with ho
      rw [← ho] at hcl
      cases hcl
  exact ⟨u, rfl, hu2.keep ⟨hg.size, fun i hi hn => hg.block i hi fun he => hn (.inr he.symm)⟩ fun i hi hm => .inl (hm.elim (fun h => h.elim (fun h => .inl (.inl ((hfo i).1 h))) fun h => .inl (.inr h)) .inr)⟩

section
variable {C : World → Prop} {p X B B0 : Nat} {st0 st st' : BSt} {w w' : World} {N : Nat} {L : List Ent} {K : (Int → Bool) → Prop} {v : Value} {xss : List (List Int)}
theorem FineB.toR (h : FineB w p st B B0 v xss) : FineR w p st B v xss := ⟨h.own.toOwn, h.okay, h.len⟩
theorem FineB.nil (w : World) (p : Nat) (st : BSt) (B B0 : Nat) : FineB w p st B B0 (.slice none 0 0) [] := ⟨OwnB.nil _ _ _ _, fun _ h => by simp at h, by simp⟩
theorem FineB.kept (h : FineB w p st B B0 v xss) (hk : Kept w.heap.size (some p) w w') (he : Ext st st') : FineB w' p st' B B0 v xss := ⟨h.own.kept hk, fun xs hx => ⟨(h.okay xs hx).1.ext he, (h.okay xs hx).2⟩, h.len⟩
theorem FineB.base (h : FineB w p st B B0 v xss) {g : Nat} (hg : v.ownBlock = some g) : B ≤ g ∧ g < w.heap.size := h.own.toOwn.base hg
theorem FineB.shape (h : FineB w p st B B0 v xss) : ∃ A c, v = .slice A xss.length c := by
  obtain ⟨css, h1, -⟩ := h.own
  obtain ⟨A, c, rfl, -⟩ := ownsRow_shape h1
  exact ⟨A, c, rfl⟩
theorem FineB.stored {g : Nat} {u v' : Value} (h : FineB w p st B B0 v xss) (hb : Box w p g u) (hB : g < B0) (hne : v.ownBlock ≠ some g) : FineB (w.setCell ⟨g, 0, none⟩ v') p st B B0 v xss := by
  have hg : w.grownBy (w.setCell ⟨g, 0, none⟩ v') (some g) := grownBy_setCell' w g v'
  have hft : ∀ i, foot w (some p) i → (w.setCell ⟨g, 0, none⟩ v').heap[i]? = w.heap[i]? := fun i hi => Below.heap_setCell w ⟨g, 0, none⟩ v' i fun e => hb.2.2 (by have e' : i = g := e; rw [← e']; exact hi)
  exact ⟨h.own.grown hg (foot_of_heap hft) (.inr hne) fun r e => .inl (by cases e; exact hB), h.okay, h.len⟩
theorem FineB.turned (h : FineB w p st B B0 v xss) (E : Env C p X st0 w st N L K) {row : Option Nat} (hg : w.grownBy w' row) (hr : ∀ r, row = some r → X ≤ r ∧ ∃ o : Obj, w.heap[r]? = some o ∧ o.isCells = false) : FineB w' p st B B0 v xss := by
  have hn : ∀ g, row = some g → ¬ foot w (some p) g := fun g hgr hf => by
    obtain ⟨_, o, ho, hc⟩ := hr g hgr
    obtain ⟨o', ho', hc'⟩ := E.rep.cellsAll (E.bits.ext E.ext) hf
    rw [ho] at ho'
    injection ho' with ho'
    rw [ho', hc'] at hc
    cases hc
  refine ⟨h.own.grown hg (foot_of_heap fun i hi => hg.block i (E.rep.fin i hi) fun e => hn i e.symm hi) ?_ (fun r e => .inr (hr r e).2), h.okay, h.len⟩
  cases hv : v.ownBlock with
  | none => exact .inl rfl
  | some g =>
    refine .inr fun e => ?_
    obtain ⟨_, o, ho, hc⟩ := hr g e.symm
    obtain ⟨css, h1, -⟩ := h.own
    obtain ⟨cs, t, fr, hh⟩ := rowv_cells h1 hv
    rw [hh] at ho
    injection ho with ho
    rw [← ho] at hc
    cases hc
end

section
variable {P : Program} {o : Oper} {a : Act} {Q : Exit → Act → World → Prop} {C : World → Prop} {p X : Nat} {st0 st : BSt} {W : World} {N : Nat} {L : List Ent} {K : (Int → Bool) → Prop}
/-- append(v, u), a word of the call's own, that lies beyond -/
theorem appBR {J : Act → World → Prop} (s x : Operand) (ho : o.op = .call { callee := .builtin .append, args := #[s, x], argTypes := #[80, 80] })
    (ht : P.underlying 80 = some (.slice 26)) (hinfo : (P.info? 26).map (fun i => (i.zero, i.size, i.bytes)) = some (some (.slice none 0 0), 1, 24))
    (E : Env C p X st0 W st N L K) {B B0 : Nat} {v : Value} {xss : List (List Int)} (hf : FineB W p st B B0 v xss) (hXB : X ≤ B) (hB : B ≤ W.heap.size) (hs : a.eval s = v)
    {Bx : Nat} {u : Value} {ys : List Int} (hu : Fine W p st Bx u ys) (hBx : ∀ g, v.ownBlock = some g → g < Bx) (hB0 : B0 ≤ Bx) (hx : a.eval x = .slice (some ⟨W.heap.size, 0, none⟩) 1 1) (hl : xss.length + 1 ≤ 1024)
    (hK : ∀ v' w', Kept B (some p) W w' → KeepsOthers W w' → W.grownBy w' v.ownBlock → FineB w' p st B B0 v' (xss ++ [ys]) → Env C p X st0 w' st N L K → J (a.put o.dst v') w') :
    o.wp P a (W.alloc (.cells #[u] 26)) J Q := by
  have hbel : Below W.heap.size W (W.alloc (.cells #[u] 26)) := (Below.refl _ _).alloc (Nat.le_refl _) _
  have hfo : ∀ i, foot (W.alloc (.cells #[u] 26)) (some p) i ↔ foot W (some p) i := foot_of_heap fun i hi => hbel.block i (E.rep.fin i hi)
  have hkw : Kept W.heap.size (some p) W (W.alloc (.cells #[u] 26)) := Kept.of_below_all hbel E.rep.fin (Nat.le_refl _)
  have E1 := E.quiet hbel
  have hf1 := hf.kept hkw (Ext.refl _)
  have hu1 := hu.kept hkw (Ext.refl _)
  obtain ⟨css, h1, h2, h3⟩ := hf1.own
  obtain ⟨A, cc, hus, -⟩ := hu.own.shape
  refine wp_app_raw (w := W.alloc (.cells #[u] 26)) 26 80 (.slice none 0 0) 1 24 s x ho ht hinfo rfl Nat.zero_lt_one (by decide) B h1 (Nat.le_trans hB hbel.size) hs ⟨W.heap.size, 0, none⟩ 1 1 [u] hx rfl (fun j y hy => ?_) (fun y hy => ?_) (by omega) fun v' w' q1 q2 q3 => ?_
  · rw [Addr.add_lit, Nat.zero_add, World.cell?_alloc_new]; simpa using hy
  · simp at hy; subst hy; rw [hus]; rfl
  · have hoff : ∀ g, v.ownBlock = some g → ¬ foot (W.alloc (.cells #[u] 26)) (some p) g := h3
    obtain ⟨k1, k2⟩ := Kept.of_grown (p := some p) (B := B) q2 E1.rep.fin (Nat.le_trans hB hbel.size) fun g hg => ⟨(hf1.base hg).1, hoff g hg⟩
    have hS : ∀ i, i < (W.alloc (.cells #[u] 26)).heap.size → ((foot w' (some p) i ∨ v'.ownBlock = some i) ∨ i < B0) → ((foot (W.alloc (.cells #[u] 26)) (some p) i ∨ v.ownBlock = some i) ∨ i < B0) := fun i hi hm => by
      rcases hm with (hm | hm) | hm
      · exact .inl (.inl ((k2 i).1 hm))
      · rcases q3 with h | h
        · exact .inl (.inr (h ▸ hm))
        · rw [h] at hm; injection hm with hm; omega
      · exact .inr hm
    have hsame : Same (fun i => (foot (W.alloc (.cells #[u] 26)) (some p) i ∨ v.ownBlock = some i) ∨ i < B0) (W.alloc (.cells #[u] 26)) w' := ⟨q2.size, fun i hi hn => q2.block i hi fun he => hn (.inl (.inr he.symm))⟩
    have hrow : Row kInt (W.alloc (.cells #[u] 26)) (fun i => (foot (W.alloc (.cells #[u] 26)) (some p) i ∨ v.ownBlock = some i) ∨ i < B0) u ys :=
      hu1.own.rowS _ fun g hg hm => by
        rcases hm with (hm | hm) | hm
        · exact hu1.own.off hg hm
        · have := hBx g hm; have := (hu1.own.base hg).1; omega
        · have := (hu1.own.base hg).1; omega
    have hP : Pairs (kRow kInt) w' (fun i => (foot w' (some p) i ∨ v'.ownBlock = some i) ∨ i < B0) (xss ++ [ys]) (css ++ [[u]]) :=
      (h2.keep hsame hS).snoc ⟨u, rfl, hrow.keep hsame hS⟩
    refine hK v' w' (((Kept.of_below_all hbel E.rep.fin (Nat.le_refl _)).mono hB).trans k1) ((KeepsOthers.alloc _ _).trans (KeepsOthers.of_grownBy q2 fun j o hj ho => ?_)) ?_ ⟨⟨css ++ [[u]], by rw [List.length_append, List.flatten_append]; simpa using q1, hP, fun g hg hf' => ?_⟩, fun xs hx' => ?_, by rw [List.length_append]; exact hl⟩ (E1.kept (k1.mono hXB) (E1.rep.grown q2 hoff))
    · obtain ⟨cs, t, fr, hh⟩ := rowv_cells h1 hj
      rw [hh] at ho
      injection ho with ho
      rw [← ho]; rfl
    · exact ⟨q2.os, q2.tape, q2.output, Nat.le_trans hbel.size q2.size, fun i hi he => (q2.block i (Nat.lt_of_lt_of_le hi hbel.size) he).trans (hbel.block i hi)⟩
    · rcases q3 with h | h
      · exact h3 g (h ▸ hg) ((k2 g).1 hf')
      · rw [h] at hg; injection hg with hg
        subst hg
        have := E1.rep.fin _ ((k2 _).1 hf')
        omega
    · rcases List.mem_append.1 hx' with hx' | hx'
      · exact hf.okay xs hx'
      · simp at hx'; subst hx'; exact ⟨hu.okay, hu.len⟩
end
end Go.Proofs.Ytdljgifoboiaeaa
