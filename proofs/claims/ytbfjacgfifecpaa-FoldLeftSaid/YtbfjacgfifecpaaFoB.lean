/- fold: the walk of (*folder).flip. -/
import Derived.Test.YtbfjacgfifecpaaFoA
namespace Go.Proofs.Ytbfjacgfifecpaa
open Go.RowKit

abbrev zeroNd : Obj := .cells #[.int .i64 0, .int .i64 0, .int .i64 0, .int .i64 0] 38
abbrev ndBox (x : Node) : Obj := .cells #[.int .i64 x.kind, .int .i64 x.a, .int .i64 x.b, .int .i64 x.c] 38
theorem box2 (w : World) (x : Node) (Wb : World) (hWb : Wb = (w.alloc (ndBox x)).alloc zeroNd) : Wb.heap.size = w.heap.size + 2 ∧ ∀ W, Below Wb.heap.size Wb W →
    (W.cell? ⟨w.heap.size, 0, none⟩ = some (.int .i64 x.kind) ∧ W.cell? ⟨w.heap.size, 1, none⟩ = some (.int .i64 x.a) ∧ W.cell? ⟨w.heap.size, 2, none⟩ = some (.int .i64 x.b) ∧ W.cell? ⟨w.heap.size, 3, none⟩ = some (.int .i64 x.c)) ∧
    ((W.cell? ⟨w.heap.size + 1, 0, none⟩ = some (.int .i64 0) ∧ W.cell? ⟨w.heap.size + 1, 1, none⟩ = some (.int .i64 0) ∧ W.cell? ⟨w.heap.size + 1, 2, none⟩ = some (.int .i64 0) ∧ W.cell? ⟨w.heap.size + 1, 3, none⟩ = some (.int .i64 0)) ∧ (W.frozen? ⟨w.heap.size + 1, 0, none⟩ = false ∧ W.frozen? ⟨w.heap.size + 1, 1, none⟩ = false ∧ W.frozen? ⟨w.heap.size + 1, 2, none⟩ = false ∧ W.frozen? ⟨w.heap.size + 1, 3, none⟩ = false)) ∧ Below w.heap.size w W := by
  have hs : Wb.heap.size = w.heap.size + 2 := by rw [hWb]; simp
  refine ⟨hs, fun W hW => ?_⟩
  have hb := hW.block w.heap.size (by omega)
  rw [hs, hWb] at hW
  obtain ⟨h1, h2⟩ := zeroNode_cells w _ W hW
  have hc : ∀ i, W.cell? ⟨w.heap.size, i, none⟩ = (#[Value.int .i64 x.kind, .int .i64 x.a, .int .i64 x.b, .int .i64 x.c] : Array Value)[i]? := fun i => by
    rw [World.cell?_of_block hb, hWb]
    have h := (Below.refl (w.alloc (ndBox x)).heap.size (w.alloc (ndBox x))).alloc (Nat.le_refl _) zeroNd
    have h3 := h.block w.heap.size (by simp)
    rw [World.cell?_of_block h3]
    exact World.cell?_alloc_new _ _ _ i
  exact ⟨⟨hc 0, hc 1, hc 2, hc 3⟩, ⟨h1, h2 0, h2 1, h2 2, h2 3⟩, (((Below.refl _ _).alloc (Nat.le_refl _) _).alloc (by simp) _).trans (hW.mono (by omega))⟩

theorem cell_set4 {w : World} {g p j : Nat} {x y z u v : Value} (h : p ≠ g) (hc : w.cell? ⟨p, j, none⟩ = some v) : ((((w.setCell ⟨g, 0, none⟩ x).setCell ⟨g, 1, none⟩ y).setCell ⟨g, 2, none⟩ z).setCell ⟨g, 3, none⟩ u).cell? ⟨p, j, none⟩ = some v := by
  have ne : ∀ i, (⟨g, i, none⟩ : Addr) ≠ ⟨p, j, none⟩ := fun i h' => by injection h' with h' _; exact h h'.symm
  rw [World.cell?_setCell_other (h := ne 3), World.cell?_setCell_other (h := ne 2), World.cell?_setCell_other (h := ne 1), World.cell?_setCell_other (h := ne 0)]
  exact hc

section
variable (w : World) (S : Nat → Prop) (G c : Nat) (A : Option Addr) (m : List Node) (hc : w.cell? ⟨G, 0, none⟩ = some (.slice A m.length c)) (hr : Row kNode w S (.slice A m.length c) m)
include hc hr
set_option maxHeartbeats 4000000 in
set_option maxRecDepth 100000 in
theorem flip_net (x : Node) (u : Nat) (hu : u < m.length) (hxa : x.a = u) (hm : (nd m x.a).kind = 0 → (nd m x.a).a = 0 ∨ (nd m x.a).a = 1) :
    Calls Try.prog 104 #[.pointer (some ⟨G, 0, none⟩), nodeV x] w fun e w' => e = .returned (.tuple #[nodeV (flipN m x).1, .int .i64 (flipN m x).2]) ∧ Below w.heap.size w w' := by
  obtain ⟨b, off, rfl, y0, y1, y2, y3⟩ := hr.node_at hu
  have HR := Lib.hid (show flipN m x = if m[u].kind = 0 then (⟨0, 1 - m[u].a, 0, 0⟩, -1) else if m[u].kind = 2 then (x, m[u].a) else (x, -1) by rw [flipN, hxa, nd_at hu])
  rw [hxa, nd_at hu] at hm
  obtain ⟨y, hy⟩ : ∃ y, m[u] = y := ⟨_, rfl⟩
  rw [hy] at y0 y1 y2 y3 HR hm
  have HC1 := Lib.hid hm
  clear hr hy hm
  obtain ⟨yk, ya, yb, yc⟩ := y
  obtain ⟨xk, xa, xb, xc⟩ := x
  dsimp only at y0 y1 y2 y3 HR hxa HC1
  subst hxa
  obtain ⟨Wb, hWb⟩ : ∃ Wb, Wb = (w.alloc (ndBox ⟨xk, u, xb, xc⟩)).alloc zeroNd := ⟨_, rfl⟩
  obtain ⟨hsb, hbx⟩ := box2 w ⟨xk, u, xb, xc⟩ Wb hWb
  have HWB := Lib.hid hWb
  have HSB := Lib.hid hsb
  have HBX := Lib.hid hbx
  have HAL := Lib.hid (fun (W : World) (hW : Below Wb.heap.size Wb W) => show (fun W : World => W.cell? ⟨G, 0, none⟩ = some (.slice (some ⟨b, off, none⟩) m.length c) ∧ (W.cell? ⟨b, off + u * 4, none⟩ = some (.int .i64 yk) ∧ W.cell? ⟨b, off + u * 4 + 1, none⟩ = some (.int .i64 ya) ∧ W.cell? ⟨b, off + u * 4 + 2, none⟩ = some (.int .i64 yb) ∧ W.cell? ⟨b, off + u * 4 + 3, none⟩ = some (.int .i64 yc)) ∧ W.cell? ⟨w.heap.size, 1, none⟩ = some (.int .i64 u)) W from
    ⟨cellBelow (hbx W hW).2.2 hc, ⟨cellBelow (hbx W hW).2.2 y0, cellBelow (hbx W hW).2.2 y1, cellBelow (hbx W hW).2.2 y2, cellBelow (hbx W hW).2.2 y3⟩, (hbx W hW).1.2.1⟩)
  clear hc y0 y1 y2 y3 hWb hsb hbx
  go_enter Try.func104, Try.ntmps104
  go_wp2_with fail
  rw [← HWB.out]
  go_region_held3 (fun W : World => W.cell? ⟨G, 0, none⟩ = some (.slice (some ⟨b, off, none⟩) m.length c) ∧ (W.cell? ⟨b, off + u * 4, none⟩ = some (.int .i64 yk) ∧ W.cell? ⟨b, off + u * 4 + 1, none⟩ = some (.int .i64 ya) ∧ W.cell? ⟨b, off + u * 4 + 2, none⟩ = some (.int .i64 yb) ∧ W.cell? ⟨b, off + u * 4 + 3, none⟩ = some (.int .i64 yc)) ∧ W.cell? ⟨w.heap.size, 1, none⟩ = some (.int .i64 u))
    (focus (refine HAL.out _ ?_; repeat' first | exact Below.refl _ _ | refine Below.drew ?_ | refine Below.alloc ?_ (by simp) _ | refine Below.setCell ?_ (by simp) _))
    (fail)
  obtain ⟨W1, hW1⟩ : ∃ W1, W1 = (Wb.alloc (ndBox ⟨yk, ya, yb, yc⟩)).drew := ⟨_, rfl⟩
  have hb1 : Below Wb.heap.size Wb W1 := by rw [hW1]; exact ((Below.refl _ _).alloc (Nat.le_refl _) _).drew
  obtain ⟨⟨q0, q1, q2, q3⟩, ⟨⟨t0, t1, t2, t3⟩, ⟨f0, f1, f2, f3⟩⟩, hbw⟩ := HBX.out W1 hb1
  have p0 : W1.cell? ⟨Wb.heap.size, 0, none⟩ = some (.int .i64 yk) := by rw [hW1]; exact World.cell?_alloc_new _ _ _ 0
  have p1 : W1.cell? ⟨Wb.heap.size, 1, none⟩ = some (.int .i64 ya) := by rw [hW1]; exact World.cell?_alloc_new _ _ _ 1
  have HBW := Lib.hid hbw
  rw [← hW1]
  clear hW1 hb1 hbw HAL HBX HWB
  by_cases h0 : yk = 0
  · subst h0
    rcases HC1.out rfl with rfl | rfl
    · skip
      obtain ⟨s0, s1, s2, s3⟩ := set4_cells (x0 := .int .i64 (0)) (x1 := .int .i64 (1)) (x2 := .int .i64 (0)) (x3 := .int .i64 (0)) t0 t1 t2 t3
      go_wp2_with fail
      refine bodyPost_ret (v := .tuple #[nodeV ⟨0, 1, 0, 0⟩, .int .i64 (-1)]) (by simp [results, Try.results104, go_sem, s0, s1, s2, s3]) rfl ⟨by simp [HR.out], ?_⟩
      repeat' first | exact HBW.out | refine Below.drew ?_ | refine Below.setCell ?_ (by simp) _
    · skip
      obtain ⟨s0, s1, s2, s3⟩ := set4_cells (x0 := .int .i64 (0)) (x1 := .int .i64 (0)) (x2 := .int .i64 (0)) (x3 := .int .i64 (0)) t0 t1 t2 t3
      go_wp2_with fail
      refine bodyPost_ret (v := .tuple #[nodeV ⟨0, 0, 0, 0⟩, .int .i64 (-1)]) (by simp [results, Try.results104, go_sem, s0, s1, s2, s3]) rfl ⟨by simp [HR.out], ?_⟩
      repeat' first | exact HBW.out | refine Below.drew ?_ | refine Below.setCell ?_ (by simp) _
  · by_cases h2 : yk = 2
    · subst h2
      have hS0 : (fun W : World => (W.cell? ⟨w.heap.size, 0, none⟩ = some (.int .i64 xk) ∧ W.cell? ⟨w.heap.size, 1, none⟩ = some (.int .i64 u) ∧ W.cell? ⟨w.heap.size, 2, none⟩ = some (.int .i64 xb) ∧ W.cell? ⟨w.heap.size, 3, none⟩ = some (.int .i64 xc)) ∧ W.cell? ⟨Wb.heap.size, 1, none⟩ = some (.int .i64 ya)) W1 := ⟨⟨q0, q1, q2, q3⟩, p1⟩
      have HX0 := Lib.hid hS0
      have HX1 := Lib.hid (show (fun W : World => (W.cell? ⟨w.heap.size, 0, none⟩ = some (.int .i64 xk) ∧ W.cell? ⟨w.heap.size, 1, none⟩ = some (.int .i64 u) ∧ W.cell? ⟨w.heap.size, 2, none⟩ = some (.int .i64 xb) ∧ W.cell? ⟨w.heap.size, 3, none⟩ = some (.int .i64 xc)) ∧ W.cell? ⟨Wb.heap.size, 1, none⟩ = some (.int .i64 ya)) W1.drew from hS0)
      have hnb : Wb.heap.size ≠ w.heap.size + 1 := by have := HSB.out; omega
      have hS2 : (fun W : World => (W.cell? ⟨w.heap.size, 0, none⟩ = some (.int .i64 xk) ∧ W.cell? ⟨w.heap.size, 1, none⟩ = some (.int .i64 u) ∧ W.cell? ⟨w.heap.size, 2, none⟩ = some (.int .i64 xb) ∧ W.cell? ⟨w.heap.size, 3, none⟩ = some (.int .i64 xc)) ∧ W.cell? ⟨Wb.heap.size, 1, none⟩ = some (.int .i64 ya)) ((((W1.setCell ⟨w.heap.size + 1, 0, none⟩ (.int .i64 xk)).setCell ⟨w.heap.size + 1, 1, none⟩ (.int .i64 u)).setCell ⟨w.heap.size + 1, 2, none⟩ (.int .i64 xb)).setCell ⟨w.heap.size + 1, 3, none⟩ (.int .i64 xc)) :=
        ⟨⟨cell_set4 (by omega) q0, cell_set4 (by omega) q1, cell_set4 (by omega) q2, cell_set4 (by omega) q3⟩, cell_set4 hnb p1⟩
      have HX2 := Lib.hid hS2
      have HX3 := Lib.hid (show (fun W : World => (W.cell? ⟨w.heap.size, 0, none⟩ = some (.int .i64 xk) ∧ W.cell? ⟨w.heap.size, 1, none⟩ = some (.int .i64 u) ∧ W.cell? ⟨w.heap.size, 2, none⟩ = some (.int .i64 xb) ∧ W.cell? ⟨w.heap.size, 3, none⟩ = some (.int .i64 xc)) ∧ W.cell? ⟨Wb.heap.size, 1, none⟩ = some (.int .i64 ya)) ((((W1.setCell ⟨w.heap.size + 1, 0, none⟩ (.int .i64 xk)).setCell ⟨w.heap.size + 1, 1, none⟩ (.int .i64 u)).setCell ⟨w.heap.size + 1, 2, none⟩ (.int .i64 xb)).setCell ⟨w.heap.size + 1, 3, none⟩ (.int .i64 xc)).drew from hS2)
      clear hS0 hS2 hnb
      go_wp2_with fail
      go_region_held3 (fun W : World => (W.cell? ⟨w.heap.size, 0, none⟩ = some (.int .i64 xk) ∧ W.cell? ⟨w.heap.size, 1, none⟩ = some (.int .i64 u) ∧ W.cell? ⟨w.heap.size, 2, none⟩ = some (.int .i64 xb) ∧ W.cell? ⟨w.heap.size, 3, none⟩ = some (.int .i64 xc)) ∧ W.cell? ⟨Wb.heap.size, 1, none⟩ = some (.int .i64 ya))
        (first | with_reducible exact HX0.out | with_reducible exact HX1.out | with_reducible exact HX2.out | with_reducible exact HX3.out)
        (fail)
      obtain ⟨s0, s1, s2, s3⟩ := set4_cells (x0 := .int .i64 (xk)) (x1 := .int .i64 (u)) (x2 := .int .i64 (xb)) (x3 := .int .i64 (xc)) t0 t1 t2 t3
      go_wp2_with fail
      refine bodyPost_ret (v := .tuple #[nodeV ⟨xk, u, xb, xc⟩, .int .i64 (ya)]) (by simp [results, Try.results104, go_sem, s0, s1, s2, s3]) rfl ⟨by simp [HR.out], ?_⟩
      repeat' first | exact HBW.out | refine Below.drew ?_ | refine Below.setCell ?_ (by simp) _
    · have hk0 : (yk == 0) = false := by simpa using h0
      have hk2 : (yk == 2) = false := by simpa using h2
      have HRE := Lib.hid (show flipN m ⟨xk, u, xb, xc⟩ = (⟨xk, u, xb, xc⟩, -1) by rw [HR.out, if_neg h0, if_neg h2])
      clear h0 h2
      obtain ⟨s0, s1, s2, s3⟩ := set4_cells (x0 := .int .i64 (xk)) (x1 := .int .i64 (u)) (x2 := .int .i64 (xb)) (x3 := .int .i64 (xc)) t0 t1 t2 t3
      go_wp2_with fail
      refine bodyPost_ret (v := .tuple #[nodeV ⟨xk, u, xb, xc⟩, .int .i64 (-1)]) (by simp [results, Try.results104, go_sem, s0, s1, s2, s3]) rfl ⟨by rw [HRE.out], ?_⟩
      repeat' first | exact HBW.out | refine Below.drew ?_ | refine Below.setCell ?_ (by simp) _
end
end Go.Proofs.Ytbfjacgfifecpaa
