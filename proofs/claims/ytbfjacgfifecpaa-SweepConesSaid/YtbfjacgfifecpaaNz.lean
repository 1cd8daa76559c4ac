/- What law 06's awake asks, plain. -/
import Derived.Test.YtbfjacgfifecpaaNy
import Derived.Test.YtbfjacgfifecpaaNr
import Derived.Test.YtbfjacgfifecpaaNs
import Derived.Test.YtbfjacgfifecpaaNt
import Derived.Test.YtbfjacgfifecpaaNu
namespace Go.Proofs.Ytbfjacgfifecpaa
open Go.RowKit

def a6 : ByteArray := ⟨#[97]⟩
def z6 : ByteArray := ⟨#[122]⟩
def nodesA : List Node := [⟨1, 0, 0, 0⟩, ⟨1, 0, 0, 0⟩, ⟨3, 0, 1, 0⟩, ⟨2, 2, 0, 0⟩, ⟨7, 3, 1, 0⟩]
def nodesC : List Node := [⟨1, 0, 0, 0⟩, ⟨1, 0, 0, 0⟩, ⟨3, 3, 1, 0⟩, ⟨2, 2, 0, 0⟩, ⟨7, 3, 1, 0⟩]
abbrev insA : List Port := [⟨a6, [0, 1]⟩]
abbrev outsA : List Port := [⟨z6, [4, 2]⟩]
theorem name_a6 : nameB a6 = true := by unfold nameB a6; simp only [Lib.toList_data]; decide
theorem name_z6 : nameB z6 = true := by unfold nameB z6; simp only [Lib.toList_data]; decide
theorem name_a1 : nameB ⟨#[97, 95, 49]⟩ = true := by unfold nameB; simp only [Lib.toList_data]; decide
theorem name_wire : nameB ⟨#[119, 105, 114, 101]⟩ = false := by unfold nameB; simp only [Lib.toList_data]; decide
theorem name_ua : nameB ⟨#[95, 97]⟩ = false := by unfold nameB; simp only [Lib.toList_data]; decide
theorem dupA : dupB ((insA ++ outsA).map (·.name)) = false := by
  refine dupB_false fun i hi => ?_
  have hi : i < 2 := hi
  have e : (z6.toList == a6.toList) = false := by rw [Lib.toList_data, Lib.toList_data]; decide
  match i, hi with
  | 0, _ => rfl
  | 1, _ =>
    rw [dupAt_names (L := insA ++ outsA) (by decide)]
    show (z6.toList == a6.toList || false) = false
    rw [e]; rfl
theorem errA (b : Bool) : errP nodesA insA outsA b = if b = false then 9 else 0 := by
  have h1 : ¬ (262144 < nodesA.length ∨ 64 < insA.length + outsA.length) := by decide
  have h2 : formedB nodesA insA outsA = true := by decide
  have h3 : (insA ++ outsA).any badName = false := by simp [badName, name_a6, name_z6]
  have h4 := dupA
  have h5 : homeB nodesA insA = true := by decide
  rw [errP, if_neg h1, if_neg (by rw [h2]; simp), if_neg (by rw [h3]; simp), if_neg (by rw [h4]; simp), if_neg (by rw [h5]; simp)]
theorem errC (b : Bool) : errP nodesC insA outsA b = if b = false then 9 else 0 := by
  have h1 : ¬ (262144 < nodesC.length ∨ 64 < insA.length + outsA.length) := by decide
  have h2 : formedB nodesC insA outsA = true := by decide
  have h3 : (insA ++ outsA).any badName = false := by simp [badName, name_a6, name_z6]
  have h4 := dupA
  have h5 : homeB nodesC insA = true := by decide
  rw [errP, if_neg h1, if_neg (by rw [h2]; simp), if_neg (by rw [h3]; simp), if_neg (by rw [h4]; simp), if_neg (by rw [h5]; simp)]
theorem isLevA : IsLev nodesA [0, 0, 1, 2, 0] := by
  refine ⟨rfl, fun i x hx => ?_⟩
  match i, hx with
  | 0, hx => injection hx with hx; subst hx; decide
  | 1, hx => injection hx with hx; subst hx; decide
  | 2, hx => injection hx with hx; subst hx; decide
  | 3, hx => injection hx with hx; subst hx; decide
  | 4, hx => injection hx with hx; subst hx; decide
  | i + 5, hx => simp [nodesA] at hx
theorem levA : LevOut nodesA insA outsA 0 [0, 0, 1, 2, 0] := ⟨true, by rw [errA]; rfl, fun _ => ⟨_, isLevA⟩, fun h => by simp at h, fun _ => isLevA, fun h => absurd rfl h⟩
theorem levC : LevOut nodesC insA outsA 9 [] := by
  refine ⟨false, by rw [errC]; rfl, fun h => by simp at h, fun _ => ?_, fun h => by simp at h, fun _ => rfl⟩
  rintro ⟨l, hl⟩
  have h2 := hl.2 2 ⟨3, 3, 1, 0⟩ rfl
  have h3 := hl.2 3 ⟨2, 2, 0, 0⟩ rfl
  have q2 := lvl_ge (us := usesN ⟨3, 3, 1, 0⟩) (l := l) (u := 3) (by decide)
  have q3 := lvl_ge (us := usesN ⟨2, 2, 0, 0⟩) (l := l) (u := 2) (by decide)
  omega
def nodesF : List Node := [⟨8, 0, 0, 0⟩]
theorem levF : LevOut nodesF [] [] 2 [] := LevOut.err (by decide) fun b => by
  have h1 : ¬ (262144 < nodesF.length ∨ 64 < ([] : List Port).length + ([] : List Port).length) := by decide
  have h2 : formedB nodesF [] [] = false := by decide
  rw [errP, if_neg h1, if_pos h2]
theorem ordA {e : Int} {o : List Int} (h : OrdOut nodesA insA outsA e o) : e = 0 ∧ o = [0, 1, 4, 2, 3] := by
  obtain ⟨l, hl, rfl⟩ := h
  obtain ⟨rfl, rfl⟩ := hl.unique levA
  exact ⟨rfl, by decide⟩
theorem depA {e d : Int} (h : DepOut nodesA insA outsA e d) : e = 0 ∧ d = 2 := by
  obtain ⟨l, hl, rfl⟩ := h
  obtain ⟨rfl, rfl⟩ := hl.unique levA
  exact ⟨rfl, by decide⟩
theorem cntA : cntV nodesA = .agg #[.int .i64 0, .int .i64 2, .int .i64 1, .int .i64 1, .int .i64 0, .int .i64 0, .int .i64 0, .int .i64 1] := by rfl
theorem usesA : usesR ⟨3, 0, 1, 0⟩ = [0, 1] := by decide
theorem fitsA : Fits nodesA insA outsA := ⟨by decide, by decide, by decide, by decide, by decide, by decide⟩
theorem fitsC : Fits nodesC insA outsA := ⟨by decide, by decide, by decide, by decide, by decide, by decide⟩
theorem fitsF : Fits nodesF [] [] := ⟨by decide, by decide, by decide, by decide, by decide, by decide⟩

theorem NetV.boxV {w : World} {vn vi vo : Value} {nodes : List Node} {ins outs : List Port} (h : NetV w (.agg #[vn, vi, vo]) nodes ins outs) :
    ∀ W, Below (w.heap.size + 1) (w.alloc (netBox vn vi vo)) W → (W.cell? ⟨w.heap.size, 0, none⟩ = some vn ∧ W.cell? ⟨w.heap.size, 1, none⟩ = some vi ∧ W.cell? ⟨w.heap.size, 2, none⟩ = some vo) ∧ NetV W (.agg #[vn, vi, vo]) nodes ins outs ∧ Below w.heap.size w W := fun W hW => by
  have hb : Below w.heap.size w W := ((Below.refl _ _).alloc (Nat.le_refl _) _).trans (hW.mono (by omega))
  exact ⟨⟨(hW.cell (p := ⟨w.heap.size, 0, none⟩) (by simp)).trans (World.cell?_alloc_new _ _ _ 0), (hW.cell (p := ⟨w.heap.size, 1, none⟩) (by simp)).trans (World.cell?_alloc_new _ _ _ 1), (hW.cell (p := ⟨w.heap.size, 2, none⟩) (by simp)).trans (World.cell?_alloc_new _ _ _ 2)⟩, h.later hb, hb⟩
theorem ints_same (w : World) (v u : Value) (xs : List Int) (hx : Row kInt w (fun _ => False) v xs) (hy : Row kInt w (fun _ => False) u xs) (hl : xs.length ≤ 1099511627776) :
    Calls Try.prog 21 #[v, u] w fun e w' => e = .returned (.bool true) ∧ Below w.heap.size w w' :=
  (ints_ref w v u xs xs hx hy hl).mono fun e w' h => ⟨by rw [h.1, decide_eq_true rfl], h.2⟩
/-- a row that is written out -/
theorem lit_any {α : Type} (k : Kd α) (e : TypeId) (w : World) (S : Nat → Prop) (hS : There S w) (l : List α) (css : List (List Value)) (cs : Array Value) (hcs : cs.toList = css.flatten) (hP : Pairs k w S l css) (hl : l.length ≤ 1099511627776) :
    Row k (w.alloc (.cells cs e)) S (.slice (some ⟨w.heap.size, 0, none⟩) l.length l.length) l := by
  have hb : Below w.heap.size w (w.alloc (.cells cs e)) := (Below.refl _ _).alloc (Nat.le_refl _) _
  refine ⟨_, _, css, rfl, Nat.le_refl _, by simp only [maxLen]; omega, (fun h => nomatch h), hP.keep ⟨hb.size, fun i hi _ => hb.block i hi⟩ (fun _ _ h => h), fun hn => ⟨_, _, rfl, by simp, fun hs => by have := hS _ hs; omega, fun j u hu => ?_⟩⟩
  rw [Nat.zero_add, World.cell?_alloc_new, ← hcs] at *
  simpa using hu
theorem pairs_nodes (w : World) (S : Nat → Prop) (l : List Node) : Pairs kNode w S l (l.map Node.cells) :=
  ⟨by simp, fun i x cs hx hc => by rw [List.getElem?_map, hx] at hc; injection hc with hc; exact hc.symm⟩
theorem pairs_port {w : World} {S : Nat → Prop} (name : ByteArray) (bits : List Int) (v : Value) (h : Row kInt w S v bits) : Pairs kPort w S [⟨name, bits⟩] [[.string name, v]] := by
  refine ⟨rfl, fun i x cs hx hc => ?_⟩
  match i, hx, hc with
  | 0, hx, hc =>
    injection hx with hx; injection hc with hc
    subst hx; subst hc
    exact ⟨v, rfl, h⟩
theorem nodes_css {w : World} {S : Nat → Prop} {l : List Node} {css : List (List Value)} (h : Pairs kNode w S l css) : css = l.map Node.cells := by
  apply List.ext_getElem?
  intro i
  by_cases hi : i < l.length
  · have hc : i < css.length := by rw [h.1]; exact hi
    have := h.2 i l[i] css[i] (List.getElem?_eq_getElem hi) (List.getElem?_eq_getElem hc)
    rw [List.getElem?_eq_getElem hc, List.getElem?_map, List.getElem?_eq_getElem hi]
    exact congrArg some this
  · rw [List.getElem?_eq_none (by rw [h.1]; omega), List.getElem?_eq_none (by rw [List.length_map]; omega)]
theorem cellA {e : TypeId} {w : World} {B g c : Nat} (h : Own kNode e w none B (.slice (some ⟨g, 0, none⟩) 5 c) nodesA) : w.cell? ⟨g, 9, none⟩ = some (.int .i64 0) ∧ w.frozen? ⟨g, 9, none⟩ = false := by
  obtain ⟨css, h1, h2, h3⟩ := h
  have hc := nodes_css h2
  subst hc
  have h1 : w.ownsRow B e 4 (.slice (some ⟨g, 0, none⟩) 5 c) 5 (nodesA.map Node.cells).flatten := h1
  exact ⟨by rw [h1.cellAt 9 (by decide)]; rfl, h1.frozenAt 9⟩
/-- c.Nodes[2].A = 3 -/
theorem setC {e : TypeId} {w : World} {B g c : Nat} (h : Own kNode e w none B (.slice (some ⟨g, 0, none⟩) 5 c) nodesA) :
    Own kNode e (w.setCell ⟨g, 9, none⟩ (.int .i64 3)) none B (.slice (some ⟨g, 0, none⟩) 5 c) nodesC ∧ w.grownBy (w.setCell ⟨g, 9, none⟩ (.int .i64 3)) (some g) := by
  obtain ⟨css, h1, h2, h3⟩ := h
  have hc := nodes_css h2
  subst hc
  have hs := h1.stored 9 (.int .i64 3)
  refine ⟨⟨nodesC.map Node.cells, ?_, pairs_nodes _ _ _, fun _ _ => foot_none _ _⟩, hs.2⟩
  have e : (nodesA.map Node.cells).flatten.set 9 (.int .i64 3) = (nodesC.map Node.cells).flatten := by rfl
  rw [← e]
  exact hs.1
end Go.Proofs.Ytbfjacgfifecpaa
