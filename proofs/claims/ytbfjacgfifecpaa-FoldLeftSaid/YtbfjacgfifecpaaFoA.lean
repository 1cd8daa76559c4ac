/- fold: what a node becomes; the walks of (*folder).is, other, flip, both, odd, choice. -/
import Derived.Test.YtbfjacgfifecpaaJShA
import Derived.Test.YtbfjacgfifecpaaSwJ
import Derived.Test.YtbfjacgfifecpaaJNC
import Derived.Deep.CutRange
import Derived.Test.YtbfjacgfifecpaaSwV
namespace Go.Proofs.Ytbfjacgfifecpaa
open Go.RowKit

theorem cells_set : ∀ (ns : List Node) (a : Nat) (y : Node), a < ns.length → (((((ns.flatMap Node.cells).set (a * 4) (.int .i64 y.kind)).set (a * 4 + 1) (.int .i64 y.a)).set (a * 4 + 2) (.int .i64 y.b)).set (a * 4 + 3) (.int .i64 y.c)) = (ns.set a y).flatMap Node.cells
  | [], a, y, h => by simp at h
  | x :: ns, 0, y, _ => by simp [Node.cells]
  | x :: ns, a + 1, y, h => by
    have ih := cells_set ns a y (by simpa using h)
    have hl : x.cells.length = 4 := rfl
    have e : ∀ j, (a + 1) * 4 + j = x.cells.length + (a * 4 + j) := fun j => by rw [hl]; omega
    have e0 : (a + 1) * 4 = x.cells.length + a * 4 := by rw [hl]; omega
    rw [List.set_cons_succ, List.flatMap_cons, List.flatMap_cons, e0, show x.cells.length + a * 4 + 1 = x.cells.length + (a * 4 + 1) by omega, show x.cells.length + a * 4 + 2 = x.cells.length + (a * 4 + 2) by omega, show x.cells.length + a * 4 + 3 = x.cells.length + (a * 4 + 3) by omega]
    rw [List.set_append_right _ _ (by omega), Nat.add_sub_cancel_left, List.set_append_right _ _ (by omega), Nat.add_sub_cancel_left, List.set_append_right _ _ (by omega), Nat.add_sub_cancel_left, List.set_append_right _ _ (by omega), Nat.add_sub_cancel_left, ih]
abbrev set4 (w : World) (g o : Nat) (y : Node) : World := (((w.setCell ⟨g, o, none⟩ (.int .i64 y.kind)).setCell ⟨g, o + 1, none⟩ (.int .i64 y.a)).setCell ⟨g, o + 2, none⟩ (.int .i64 y.b)).setCell ⟨g, o + 3, none⟩ (.int .i64 y.c)

def nd (m : List Node) (a : Int) : Node := m.getD a.toNat ⟨0, 0, 0, 0⟩
def isN (m : List Node) (a v : Int) : Bool := decide ((nd m a).kind = 0) && decide ((nd m a).a = v)
def otherN (m : List Node) (a b : Int) : Bool := (decide ((nd m a).kind = 2) && decide ((nd m a).a = b)) || (decide ((nd m b).kind = 2) && decide ((nd m b).a = a))
def flipN (m : List Node) (x : Node) : Node × Int :=
  if (nd m x.a).kind = 0 then (⟨0, 1 - (nd m x.a).a, 0, 0⟩, -1) else if (nd m x.a).kind = 2 then (x, (nd m x.a).a) else (x, -1)
def bothN (m : List Node) (x : Node) (v : Int) : Node × Int :=
  if (isN m x.a v || isN m x.b v) = true then (⟨0, v, 0, 0⟩, -1)
  else if isN m x.a (1 - v) = true then (x, x.b)
  else if isN m x.b (1 - v) = true then (x, x.a)
  else if x.a = x.b then (x, x.a)
  else if otherN m x.a x.b = true then (⟨0, v, 0, 0⟩, -1) else (x, -1)
def oddN (m : List Node) (x : Node) : Node × Int :=
  if x.a = x.b then (⟨0, 0, 0, 0⟩, -1)
  else if isN m x.a 0 = true then (x, x.b)
  else if isN m x.b 0 = true then (x, x.a)
  else if isN m x.a 1 = true then (⟨2, x.b, 0, 0⟩, -1)
  else if isN m x.b 1 = true then (⟨2, x.a, 0, 0⟩, -1)
  else if otherN m x.a x.b = true then (⟨0, 1, 0, 0⟩, -1) else (x, -1)
def choiceN (m : List Node) (x : Node) : Node × Int :=
  if isN m x.c 0 = true then (x, x.a)
  else if x.a = x.b ∧ isN m x.c 1 = false then (x, x.a)
  else if isN m x.c 1 = true then (x, x.b)
  else if (isN m x.a 0 && isN m x.b 1) = true then (x, x.c)
  else if (isN m x.a 1 && isN m x.b 0) = true then (⟨2, x.c, 0, 0⟩, -1)
  else if isN m x.a 0 = true then (⟨3, x.b, x.c, 0⟩, -1)
  else if isN m x.b 1 = true then (⟨4, x.a, x.c, 0⟩, -1) else (x, -1)
def fold1 (m : List Node) (x : Node) : Node × Int :=
  if x.kind = 2 then flipN m x else if x.kind = 3 then bothN m x 0 else if x.kind = 4 then bothN m x 1 else if x.kind = 5 then oddN m x else if x.kind = 6 then choiceN m x else (x, -1)
def fLook (m : List Node) : Nat → Node → Node × Int
  | 0, x => (x, -1)
  | k + 1, x => if (fold1 m x).1.kind = x.kind then fold1 m x else fLook m k (fold1 m x).1

theorem nd_at {m : List Node} {u : Nat} (h : u < m.length) : nd m (u : Int) = m[u] := by
  rw [nd, Int.toNat_natCast, List.getD_eq_getElem?_getD, List.getElem?_eq_getElem h]; rfl

section
variable (w : World) (S : Nat → Prop) (G c : Nat) (A : Option Addr) (m : List Node) (hc : w.cell? ⟨G, 0, none⟩ = some (.slice A m.length c)) (hr : Row kNode w S (.slice A m.length c) m)
include hc hr
set_option maxHeartbeats 1000000 in
theorem is_net (u : Nat) (hu : u < m.length) (v : Int) :
    Calls Try.prog 110 #[.pointer (some ⟨G, 0, none⟩), .int .i64 u, .int .i64 v] w fun e w' => e = .returned (.bool (isN m u v)) ∧ w' = w := by
  obtain ⟨b, off, rfl, y0, y1, y2, y3⟩ := hr.node_at hu
  have HR := Lib.hid (show isN m u v = (decide (m[u].kind = 0) && decide (m[u].a = v)) by rw [isN, nd_at hu])
  obtain ⟨x, hx⟩ : ∃ x, m[u] = x := ⟨_, rfl⟩
  rw [hx] at y0 y1 y2 y3 HR
  clear hr hx
  obtain ⟨xk, xa, xb, xc⟩ := x
  dsimp only at y0 y1 y2 y3 HR
  by_cases h0 : xk = 0
  · subst h0
    go_enter Try.func110, Try.ntmps110
    go_wp2_with fail
    go_ret
    exact ⟨by rw [HR.out]; by_cases e : xa = v <;> simp [e], rfl⟩
  · have hk : (xk == 0) = false := by simpa using h0
    have HN := Lib.hid h0
    clear h0
    go_enter Try.func110, Try.ntmps110
    go_wp2_with fail
    go_ret
    exact ⟨by rw [HR.out, decide_eq_false HN.out]; rfl, rfl⟩
set_option maxHeartbeats 4000000 in
set_option maxRecDepth 100000 in
theorem other_net (u v : Nat) (hu : u < m.length) (hv : v < m.length) :
    Calls Try.prog 111 #[.pointer (some ⟨G, 0, none⟩), .int .i64 u, .int .i64 v] w fun e w' => e = .returned (.bool (otherN m u v)) ∧ Below w.heap.size w w' := by
  obtain ⟨b, off, rfl, y0, y1, y2, y3⟩ := hr.node_at hu
  obtain ⟨b2, off2, he, z0, z1, z2, z3⟩ := hr.node_at hv
  injection he with he
  injection he with e1 e2
  subst e1 e2
  have HR := Lib.hid (show otherN m u v = ((decide (m[u].kind = 2) && decide (m[u].a = (v : Int))) || (decide (m[v].kind = 2) && decide (m[v].a = (u : Int)))) by rw [otherN, nd_at hu, nd_at hv])
  obtain ⟨x, hx⟩ : ∃ x, m[u] = x := ⟨_, rfl⟩
  obtain ⟨y, hy⟩ : ∃ y, m[v] = y := ⟨_, rfl⟩
  rw [hx] at y0 y1 y2 y3 HR
  rw [hy] at z0 z1 z2 z3 HR
  clear hr hx hy
  obtain ⟨xk, xa, xb, xc⟩ := x
  obtain ⟨yk, ya, yb, yc⟩ := y
  dsimp only at y0 y1 y2 y3 z0 z1 z2 z3 HR
  go_enter Try.func111, Try.ntmps111
  have HAL := Lib.hid (fun (W : World) (hW : Below w.heap.size w W) => show (fun W : World => W.cell? ⟨G, 0, none⟩ = some (.slice (some ⟨b, off, none⟩) m.length c) ∧ (W.cell? ⟨b, off + u * 4, none⟩ = some (.int .i64 xk) ∧ W.cell? ⟨b, off + u * 4 + 1, none⟩ = some (.int .i64 xa) ∧ W.cell? ⟨b, off + u * 4 + 2, none⟩ = some (.int .i64 xb) ∧ W.cell? ⟨b, off + u * 4 + 3, none⟩ = some (.int .i64 xc)) ∧ (W.cell? ⟨b, off + v * 4, none⟩ = some (.int .i64 yk) ∧ W.cell? ⟨b, off + v * 4 + 1, none⟩ = some (.int .i64 ya) ∧ W.cell? ⟨b, off + v * 4 + 2, none⟩ = some (.int .i64 yb) ∧ W.cell? ⟨b, off + v * 4 + 3, none⟩ = some (.int .i64 yc))) W from ⟨cellBelow hW hc, ⟨cellBelow hW y0, cellBelow hW y1, cellBelow hW y2, cellBelow hW y3⟩, ⟨cellBelow hW z0, cellBelow hW z1, cellBelow hW z2, cellBelow hW z3⟩⟩)
  go_wp2_with fail
  go_region_held3 (fun W : World => W.cell? ⟨G, 0, none⟩ = some (.slice (some ⟨b, off, none⟩) m.length c) ∧ (W.cell? ⟨b, off + u * 4, none⟩ = some (.int .i64 xk) ∧ W.cell? ⟨b, off + u * 4 + 1, none⟩ = some (.int .i64 xa) ∧ W.cell? ⟨b, off + u * 4 + 2, none⟩ = some (.int .i64 xb) ∧ W.cell? ⟨b, off + u * 4 + 3, none⟩ = some (.int .i64 xc)) ∧ (W.cell? ⟨b, off + v * 4, none⟩ = some (.int .i64 yk) ∧ W.cell? ⟨b, off + v * 4 + 1, none⟩ = some (.int .i64 ya) ∧ W.cell? ⟨b, off + v * 4 + 2, none⟩ = some (.int .i64 yb) ∧ W.cell? ⟨b, off + v * 4 + 3, none⟩ = some (.int .i64 yc)))
    (focus (refine HAL.out _ ?_; repeat' first | exact Below.refl _ _ | refine Below.drew ?_ | refine Below.alloc ?_ (by simp) _ | refine Below.setCell ?_ (by simp) _))
    (fail)
  clear HAL y0 y1 y2 y3 z0 z1 z2 z3 hc
  all_goals
    go_wp2_with fail
  all_goals
    go_ret
    refine ⟨?_, ?_⟩
    · rw [HR.out]
      by_cases e1 : xa = (v : Int) <;> by_cases e2 : ya = (u : Int) <;> simp_all
    · repeat' first | exact Below.refl _ _ | refine Below.drew ?_ | refine Below.alloc ?_ (by simp) _ | refine Below.setCell ?_ (by simp) _
end
end Go.Proofs.Ytbfjacgfifecpaa
