/- fold: the walk of (*folder).look. -/
import Derived.Test.YtbfjacgfifecpaaFoD
import Derived.ScopeJumps
import Derived.Deep.CutRange
namespace Go.Proofs.Ytbfjacgfifecpaa
open Go.RowKit

abbrev rwFo (G : Nat) (vn vi vo sv : Value) : Rw := ⟨106, 4, .slice (some ⟨G, 0, none⟩) 1 1, 1, [vn, vi, vo, sv]⟩
abbrev foV (G : Nat) (vn : Value) (ns : List Node) (vi : Value) (is' : List Port) (vsi : List Value) (vo : Value) (os' : List Port) (vso : List Value) (sv : Value) (st : List Int) : List Rw :=
  rwFo G vn vi vo sv :: rwInts 3 sv st :: swU vn ns vi is' vsi vo os' vso
section
variable {w : World} {B G n : Nat} {st : List Nat} {sv vn vi vo : Value} {sl : List Int} {ns : List Node} {is' os' : List Port} {vsi vso : List Value} {g c P c2 : Nat}
theorem foV_cells (h : Keep w B (foV G vn ns vi is' vsi vo os' vso sv sl)) : (w.cell? ⟨G, 0, none⟩ = some vn ∧ w.cell? ⟨G, 1, none⟩ = some vi ∧ w.cell? ⟨G, 2, none⟩ = some vo ∧ w.cell? ⟨G, 3, none⟩ = some sv) ∧ w.frozen? ⟨G, 3, none⟩ = false :=
  ⟨⟨(h.cell (i := 0) (r := rwFo G vn vi vo sv) rfl rfl (j := 0) rfl).1, (h.cell (i := 0) (r := rwFo G vn vi vo sv) rfl rfl (j := 1) rfl).1, (h.cell (i := 0) (r := rwFo G vn vi vo sv) rfl rfl (j := 2) rfl).1, (h.cell (i := 0) (r := rwFo G vn vi vo sv) rfl rfl (j := 3) rfl).1⟩, (h.cell (i := 0) (r := rwFo G vn vi vo sv) rfl rfl (j := 3) rfl).2⟩
theorem foV_row (h : Keep w B (foV G vn ns vi is' vsi vo os' vso sv sl)) : Row kNode w (fun _ => False) vn ns := (rwNodes_at.1 (h.own 2 _ rfl)).rowNodes (fun _ h => h.elim)
theorem foV_at (h : Keep w B (foV G vn ns vi is' vsi vo os' vso (.slice (some ⟨P, 0, none⟩) n c2) (nats st))) {u : Nat} (hu : u < st.length) : w.cell? ⟨P, u, none⟩ = some (.int .i64 (stF st u : Nat)) ∧ w.frozen? ⟨P, u, none⟩ = false :=
  (h.ints (i := 1) rfl).cellAt? (stF_at hu)
theorem foV_node (h : Keep w B (foV G (.slice (some ⟨g, 0, none⟩) ns.length c) ns vi is' vsi vo os' vso sv sl)) {a : Nat} (ha : a < ns.length) (y : Node) :
    Keep (set4 w g (a * 4) y) B (foV G (.slice (some ⟨g, 0, none⟩) ns.length c) (ns.set a y) vi is' vsi vo os' vso sv sl) := by
  have h1 := h.store (i := 2) (r := rwNodes (.slice (some ⟨g, 0, none⟩) ns.length c) ns) rfl rfl (a * 4) (.int .i64 y.kind)
  have h2 := h1.store (i := 2) rfl rfl (a * 4 + 1) (.int .i64 y.a)
  have h3 := h2.store (i := 2) rfl rfl (a * 4 + 2) (.int .i64 y.b)
  have h4 := h3.store (i := 2) rfl rfl (a * 4 + 3) (.int .i64 y.c)
  have e : foV G (.slice (some ⟨g, 0, none⟩) ns.length c) (ns.set a y) vi is' vsi vo os' vso sv sl = rwFo G (.slice (some ⟨g, 0, none⟩) ns.length c) vi vo sv :: rwInts 3 sv sl :: (⟨38, 4, .slice (some ⟨g, 0, none⟩) ns.length c, ns.length, (((((ns.flatMap Node.cells).set (a * 4) (.int .i64 y.kind)).set (a * 4 + 1) (.int .i64 y.a)).set (a * 4 + 2) (.int .i64 y.b)).set (a * 4 + 3) (.int .i64 y.c))⟩ : Rw) :: (ptT vi is' vsi ++ ptT vo os' vso) := by
    rw [cells_set ns a y ha]
    simp [swU]
  rw [e]
  exact h4
theorem foV_nodeAt (h : Keep w B (foV G (.slice (some ⟨g, 0, none⟩) ns.length c) ns vi is' vsi vo os' vso sv sl)) {a : Nat} (ha : a < ns.length) : ∀ j, j < 4 → (∃ u, w.cell? ⟨g, a * 4 + j, none⟩ = some u) ∧ w.frozen? ⟨g, a * 4 + j, none⟩ = false := fun j hj => by
  have hl : a * 4 + j < (ns.flatMap Node.cells).length := by
    have := (h.own 2 _ rfl).1
    dsimp only at this
    rw [this]
    omega
  have hc := h.cell (i := 2) (r := rwNodes (.slice (some ⟨g, 0, none⟩) ns.length c) ns) rfl rfl (j := a * 4 + j) (List.getElem?_eq_getElem hl)
  exact ⟨⟨_, hc.1⟩, hc.2⟩
theorem foV_stand (h : Keep w B (foV G vn ns vi is' vsi vo os' vso (.slice (some ⟨P, 0, none⟩) n c2) (nats st))) (a was : Nat) : Keep (w.setCell ⟨P, a, none⟩ (.int .i64 (was : Int))) B (foV G vn ns vi is' vsi vo os' vso (.slice (some ⟨P, 0, none⟩) n c2) (nats (st.set a was))) := by
  have h1 := h.setInt (i := 1) rfl a (was : Int)
  rw [show (nats st).set a (was : Int) = nats (st.set a was) by simp [List.map_set]] at h1
  exact h1
end

theorem tmps_pat {l : List Value} {d : List Deferred} {T : (Nat → Value) → List Value} (h : T (fun i => l.getD i undef) = l) : ∃ u, ({ tmps := l.toArray, defers := d } : Act) = { tmps := (T u).toArray, defers := d } := ⟨_, by rw [h]⟩
/-- a node of the call's own, beside the state -/
structure LJ (B X : Nat) (T : List Rw) (w0 W : World) (x : Node) : Prop where
  k : Keep W B T
  b : Below B w0 W
  c : W.cell? ⟨X, 0, none⟩ = some (.int .i64 x.kind) ∧ W.cell? ⟨X, 1, none⟩ = some (.int .i64 x.a) ∧ W.cell? ⟨X, 2, none⟩ = some (.int .i64 x.b) ∧ W.cell? ⟨X, 3, none⟩ = some (.int .i64 x.c)
  f : ∀ j, W.frozen? ⟨X, j, none⟩ = false
  o : ∀ (j : Nat) (r : Rw), T[j]? = some r → r.v.ownBlock ≠ some X
  l : B ≤ X
  lt : X < W.heap.size
section
variable {B X Y : Nat} {T : List Rw} {w0 W W' : World} {x y : Node}
theorem LJ.new (hk : Keep W B T) (hb : Below B w0 W) (x : Node) : LJ B W.heap.size T w0 (W.alloc (ndBox x)) x :=
  have hB := hk.base
  ⟨hk.alloc _, hb.trans (((Below.refl _ _).alloc (Nat.le_refl _) _).mono hB), ⟨World.cell?_alloc_new _ _ _ 0, World.cell?_alloc_new _ _ _ 1, World.cell?_alloc_new _ _ _ 2, World.cell?_alloc_new _ _ _ 3⟩, fun j => World.frozen?_alloc_new _ _ _ _, fun j r hr e => by have := (hk.lt hr e).2; omega, hB, by simp⟩
theorem LJ.below (h : LJ B X T w0 W x) (hb : Below W.heap.size W W') : LJ B X T w0 W' x :=
  ⟨h.k.below hb, h.b.trans (hb.mono h.k.base), ⟨cellBelow hb h.c.1, cellBelow hb h.c.2.1, cellBelow hb h.c.2.2.1, cellBelow hb h.c.2.2.2⟩, fun j => by rw [World.frozen?_of_block (hb.block X h.lt)]; exact h.f j, h.o, h.l, Nat.lt_of_lt_of_le h.lt hb.size⟩
theorem LJ.drew (h : LJ B X T w0 W x) : LJ B X T w0 W.drew x := h.below (Below.refl _ _).drew
theorem LJ.skip (h : LJ B X T w0 W x) (h2 : LJ B Y T w0 W y) (hne : Y ≠ X) (j : Nat) (u : Value) : LJ B X T w0 (W.setCell ⟨Y, j, none⟩ u) x := by
  have ne : ∀ i, (⟨Y, j, none⟩ : Addr) ≠ ⟨X, i, none⟩ := fun i e => by injection e with e _; exact hne e
  refine ⟨h.k.skip h2.o j u, h.b.setCell h2.l _, ⟨?_, ?_, ?_, ?_⟩, fun i => ?_, h.o, h.l, by simpa using h.lt⟩
  · rw [World.cell?_setCell_other (h := ne 0)]; exact h.c.1
  · rw [World.cell?_setCell_other (h := ne 1)]; exact h.c.2.1
  · rw [World.cell?_setCell_other (h := ne 2)]; exact h.c.2.2.1
  · rw [World.cell?_setCell_other (h := ne 3)]; exact h.c.2.2.2
  · rw [World.frozen?_setCell]; exact h.f i
theorem LJ.set (h : LJ B X T w0 W x) (j : Nat) (hj : j < 4) (v : Int) : LJ B X T w0 (W.setCell ⟨X, j, none⟩ (.int .i64 v)) (if j = 0 then ⟨v, x.a, x.b, x.c⟩ else if j = 1 then ⟨x.kind, v, x.b, x.c⟩ else if j = 2 then ⟨x.kind, x.a, v, x.c⟩ else ⟨x.kind, x.a, x.b, v⟩) := by
  have ne : ∀ i, j ≠ i → (⟨X, j, none⟩ : Addr) ≠ ⟨X, i, none⟩ := fun i hi e => by injection e with _ e; exact hi e
  refine ⟨h.k.skip h.o j _, h.b.setCell h.l _, ?_, fun i => by rw [World.frozen?_setCell]; exact h.f i, h.o, h.l, by simpa using h.lt⟩
  obtain ⟨c0, c1, c2, c3⟩ := h.c
  rcases (show j = 0 ∨ j = 1 ∨ j = 2 ∨ j = 3 by omega) with rfl | rfl | rfl | rfl
  · exact ⟨World.cell?_setCell_same _ _ _ c0, by rw [World.cell?_setCell_other (h := ne 1 (by omega))]; exact c1, by rw [World.cell?_setCell_other (h := ne 2 (by omega))]; exact c2, by rw [World.cell?_setCell_other (h := ne 3 (by omega))]; exact c3⟩
  · exact ⟨by rw [World.cell?_setCell_other (h := ne 0 (by omega))]; exact c0, World.cell?_setCell_same _ _ _ c1, by rw [World.cell?_setCell_other (h := ne 2 (by omega))]; exact c2, by rw [World.cell?_setCell_other (h := ne 3 (by omega))]; exact c3⟩
  · exact ⟨by rw [World.cell?_setCell_other (h := ne 0 (by omega))]; exact c0, by rw [World.cell?_setCell_other (h := ne 1 (by omega))]; exact c1, World.cell?_setCell_same _ _ _ c2, by rw [World.cell?_setCell_other (h := ne 3 (by omega))]; exact c3⟩
  · exact ⟨by rw [World.cell?_setCell_other (h := ne 0 (by omega))]; exact c0, by rw [World.cell?_setCell_other (h := ne 1 (by omega))]; exact c1, by rw [World.cell?_setCell_other (h := ne 2 (by omega))]; exact c2, World.cell?_setCell_same _ _ _ c3⟩
/-- a node is written there -/
theorem LJ.put (h : LJ B X T w0 W x) (y : Node) : LJ B X T w0 ((((W.setCell ⟨X, 0, none⟩ (.int .i64 y.kind)).setCell ⟨X, 1, none⟩ (.int .i64 y.a)).setCell ⟨X, 2, none⟩ (.int .i64 y.b)).setCell ⟨X, 3, none⟩ (.int .i64 y.c)) y :=
  (((h.set 0 (by omega) y.kind).set 1 (by omega) y.a).set 2 (by omega) y.b).set 3 (by omega) y.c
theorem LJ.skip4 (h : LJ B X T w0 W x) (h2 : LJ B Y T w0 W y) (hne : Y ≠ X) (z : Node) : LJ B X T w0 ((((W.setCell ⟨Y, 0, none⟩ (.int .i64 z.kind)).setCell ⟨Y, 1, none⟩ (.int .i64 z.a)).setCell ⟨Y, 2, none⟩ (.int .i64 z.b)).setCell ⟨Y, 3, none⟩ (.int .i64 z.c)) x :=
  have s0 := h2.set 0 (by omega) z.kind
  have s1 := s0.set 1 (by omega) z.a
  have s2 := s1.set 2 (by omega) z.b
  (((h.skip h2 hne 0 _).skip s0 hne 1 _).skip s1 hne 2 _).skip s2 hne 3 _
end
end Go.Proofs.Ytbfjacgfifecpaa
