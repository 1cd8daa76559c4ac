/- What a law's own builder leaves alone; rows that are written out. -/
import Derived.Test.YtdljgifoboiaeaaNat
namespace Go.Proofs.Ytdljgifoboiaeaa
open Go.RowKit

/-- none of the builder's blocks is older than B -/
def Fresh (B : Nat) (w : World) (p : Nat) : Prop := ∀ i, foot w (some p) i → B ≤ i
theorem Kept.fresh {B : Nat} {w w' : World} {p : Nat} (h : Kept w.heap.size (some p) w w') (hF : Fresh B w p) (hB : B ≤ w.heap.size) : Fresh B w' p ∧ Below B w w' := by
  refine ⟨fun i hi => ?_, h.os, h.tape, h.output, h.size, fun i hi => h.block i (by omega) fun hf => by have := hF i hf; omega⟩
  rcases Nat.lt_or_ge i w.heap.size with hlt | hge
  · exact hF i (h.ft i hlt hi)
  · omega
theorem Fresh.below {B : Nat} {w w' : World} {p : Nat} {st : BSt} (hF : Fresh B w p) (hR : BRep w p st) (hb : Below w.heap.size w w') : Fresh B w' p := by
  intro i hi
  exact hF i ((foot_of_heap (w := w) (w' := w') (fun i hi => hb.block i (hR.fin i hi)) i).1 hi)

/-- the law's builder: its state, nothing of it older than B, and what was there is as it was -/
def Mine (B : Nat) (w0 w : World) (p : Nat) (st : BSt) : Prop := BRep w p st ∧ Fresh B w p ∧ Below B w0 w ∧ B ≤ w.heap.size
theorem Mine.laid {B : Nat} {w0 w w' : World} {p : Nat} {st st' : BSt} (h : Mine B w0 w p st) (hL : Laid w p st' w') : Mine B w0 w' p st' := by
  obtain ⟨h1, h2⟩ := hL.2.fresh h.2.1 h.2.2.2
  exact ⟨hL.1, h1, h.2.2.1.trans h2, Nat.le_trans h.2.2.2 hL.2.size⟩
theorem Mine.quiet {B : Nat} {w0 w w' : World} {p : Nat} {st : BSt} (h : Mine B w0 w p st) (hb : Below w.heap.size w w') : Mine B w0 w' p st :=
  ⟨h.1.below hb, h.2.1.below h.1 hb, h.2.2.1.trans (hb.mono h.2.2.2), Nat.le_trans h.2.2.2 hb.size⟩

theorem new_mine (w : World) : Calls Try.prog 15 #[] w
      fun e w' => e = .returned (.pointer (some ⟨w.heap.size, 0, none⟩)) ∧ Mine w.heap.size w w' w.heap.size ⟨[], [], []⟩ := by
  go_enter Try.func15, Try.ntmps15
  go_wp2
  go_ret
  have hh := heap_alloc_new w (.cells #[.slice none 0 0, .slice none 0 0, .slice none 0 0] 122)
  have none_of : ∀ (j : Nat) (v : Value), (w.alloc (.cells #[.slice none 0 0, .slice none 0 0, .slice none 0 0] 122)).cell? ⟨w.heap.size, j, none⟩ = some v → v = .slice none 0 0 := by
    intro j v hc
    rw [cell_of_row _ _ j _ _ _ hh] at hc
    match j, hc with
    | 0, hc => simpa using hc.symm
    | 1, hc => simpa using hc.symm
    | 2, hc => simpa using hc.symm
  have hfo : ∀ i, foot (w.alloc (.cells #[.slice none 0 0, .slice none 0 0, .slice none 0 0] 122)) (some w.heap.size) i → i = w.heap.size := by
    rintro i ⟨b, hb, hi⟩
    injection hb with hb; subst hb
    rcases hi with rfl | ⟨j, v, hc, hv⟩ | ⟨j, q, off, n, c, j', u, hc, hj, _, _⟩
    · rfl
    · rw [none_of j v hc] at hv; cases hv
    · have := none_of j _ hc; cases this
  refine ⟨rfl, ⟨.slice none 0 0, .slice none 0 0, .slice none 0 0, hh, Own.nil _ _ _ _ _, ⟨[], World.ownsRow_nil _ _ _ _, Pairs.nil _ _ _⟩, ⟨[], World.ownsRow_nil _ _ _ _, Pairs.nil _ _ _⟩, .inl rfl, ?_⟩, fun i hi => by rw [hfo i hi]; exact Nat.le_refl _, (Below.refl _ _).alloc (Nat.le_refl _) _, by simp⟩
  intro i hi
  rw [hfo i hi]; simp

/-- a row that is written out -/
theorem lit_any {α : Type} (k : Kd α) (e : TypeId) (w : World) (S : Nat → Prop) (hS : There S w) (l : List α) (css : List (List Value)) (cs : Array Value) (hcs : cs.toList = css.flatten) (hP : Pairs k w S l css) (hl : l.length ≤ 1099511627776) :
    Row k (w.alloc (.cells cs e)) S (.slice (some ⟨w.heap.size, 0, none⟩) l.length l.length) l := by
  have hb : Below w.heap.size w (w.alloc (.cells cs e)) := (Below.refl _ _).alloc (Nat.le_refl _) _
  refine ⟨_, _, css, rfl, Nat.le_refl _, by simp only [maxLen]; omega, (fun h => nomatch h), hP.keep ⟨hb.size, fun i hi _ => hb.block i hi⟩ (fun _ _ h => h), fun hn => ⟨_, _, rfl, by simp, fun hs => by have := hS _ hs; omega, fun j u hu => ?_⟩⟩
  rw [Nat.zero_add, World.cell?_alloc_new, ← hcs] at *
  simpa using hu
theorem pairs_nodes (w : World) (S : Nat → Prop) (l : List Node) : Pairs kNode w S l (l.map Node.cells) :=
  ⟨by simp, fun i x cs hx hc => by rw [List.getElem?_map, hx] at hc; injection hc with hc; exact hc.symm⟩
theorem pairs_port {w : World} {S : Nat → Prop} (name : ByteArray) (bits : List Int) (v : Value) (h : Row kInt w S v bits) : Pairs kPort w S [⟨name, bits⟩] [[.string name, v]] := by
  refine ⟨rfl, fun i x cs hx hc => ?_⟩
  match i, hx, hc with
  | 0, hx, hc =>
    injection hx with hx; injection hc with hc
    subst hx; subst hc
    exact ⟨v, rfl, h⟩
end Go.Proofs.Ytdljgifoboiaeaa
