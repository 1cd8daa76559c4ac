/- slipsticklaw06.awake. -/
import Derived.Test.YtbfjacgfifecpaaJNE
import Derived.Test.YtbfjacgfifecpaaEq8
namespace Go.Proofs.Ytbfjacgfifecpaa
open Go.RowKit

set_option maxHeartbeats 4000000 in
set_option maxRecDepth 100000 in
theorem awake06 (w : World) : Calls Try.prog 14 #[] w fun e w' => e = .returned (.bool true) ∧ Below w.heap.size w w' := by
  obtain ⟨W1, hW1⟩ : ∃ W1, W1 = w.alloc (.cells #[.int .i64 1, .int .i64 0, .int .i64 0, .int .i64 0, .int .i64 1, .int .i64 0, .int .i64 0, .int .i64 0, .int .i64 3, .int .i64 0, .int .i64 1, .int .i64 0, .int .i64 2, .int .i64 2, .int .i64 0, .int .i64 0, .int .i64 7, .int .i64 3, .int .i64 1, .int .i64 0] 38) := ⟨_, rfl⟩
  have hs1 : W1.heap.size = w.heap.size + 1 := by rw [hW1]; simp
  have hn1 : Row kNode W1 (fun _ => False) (.slice (some ⟨w.heap.size, 0, none⟩) 5 5) nodesA := by rw [hW1]; exact lit_any kNode 38 w _ (fun _ h => h.elim) nodesA (nodesA.map Node.cells) _ rfl (pairs_nodes _ _ _) (by decide)
  have hb1 : Below w.heap.size w W1 := by rw [hW1]; exact (Below.refl _ _).alloc (Nat.le_refl _) _
  obtain ⟨W2, hW2⟩ : ∃ W2, W2 = W1.alloc (.cells #[.int .i64 0, .int .i64 1] 3) := ⟨_, rfl⟩
  have hs2 : W2.heap.size = w.heap.size + 1 + 1 := by rw [hW2, World.size_alloc, hs1]
  have hn2 : Row kInt W2 (fun _ => False) (.slice (some ⟨W1.heap.size, 0, none⟩) 2 2) [0, 1] := by rw [hW2]; exact lit_any kInt 3 W1 _ (fun _ h => h.elim) [0, 1] [[.int .i64 0], [.int .i64 1]] _ rfl (ints_pairs _ _ [0, 1]) (by decide)
  have hb2 : Below W1.heap.size W1 W2 := by rw [hW2]; exact (Below.refl _ _).alloc (Nat.le_refl _) _
  obtain ⟨W3, hW3⟩ : ∃ W3, W3 = W2.alloc (.cells #[.string ⟨#[97]⟩, .slice (some ⟨W1.heap.size, 0, none⟩) 2 2] 53) := ⟨_, rfl⟩
  have hs3 : W3.heap.size = w.heap.size + 1 + 1 + 1 := by rw [hW3, World.size_alloc, hs2]
  have hn3 : Row kPort W3 (fun _ => False) (.slice (some ⟨W2.heap.size, 0, none⟩) 1 1) [⟨a6, [0, 1]⟩] := by rw [hW3]; exact lit_any kPort 53 W2 _ (fun _ h => h.elim) [⟨a6, [0, 1]⟩] [[.string ⟨#[97]⟩, .slice (some ⟨W1.heap.size, 0, none⟩) 2 2]] _ rfl (pairs_port _ _ _ hn2) (by decide)
  have hb3 : Below W2.heap.size W2 W3 := by rw [hW3]; exact (Below.refl _ _).alloc (Nat.le_refl _) _
  obtain ⟨W4, hW4⟩ : ∃ W4, W4 = W3.alloc (.cells #[.int .i64 4, .int .i64 2] 3) := ⟨_, rfl⟩
  have hs4 : W4.heap.size = w.heap.size + 1 + 1 + 1 + 1 := by rw [hW4, World.size_alloc, hs3]
  have hn4 : Row kInt W4 (fun _ => False) (.slice (some ⟨W3.heap.size, 0, none⟩) 2 2) [4, 2] := by rw [hW4]; exact lit_any kInt 3 W3 _ (fun _ h => h.elim) [4, 2] [[.int .i64 4], [.int .i64 2]] _ rfl (ints_pairs _ _ [4, 2]) (by decide)
  have hb4 : Below W3.heap.size W3 W4 := by rw [hW4]; exact (Below.refl _ _).alloc (Nat.le_refl _) _
  obtain ⟨W5, hW5⟩ : ∃ W5, W5 = W4.alloc (.cells #[.string ⟨#[122]⟩, .slice (some ⟨W3.heap.size, 0, none⟩) 2 2] 53) := ⟨_, rfl⟩
  have hs5 : W5.heap.size = w.heap.size + 1 + 1 + 1 + 1 + 1 := by rw [hW5, World.size_alloc, hs4]
  have hn5 : Row kPort W5 (fun _ => False) (.slice (some ⟨W4.heap.size, 0, none⟩) 1 1) [⟨z6, [4, 2]⟩] := by rw [hW5]; exact lit_any kPort 53 W4 _ (fun _ h => h.elim) [⟨z6, [4, 2]⟩] [[.string ⟨#[122]⟩, .slice (some ⟨W3.heap.size, 0, none⟩) 2 2]] _ rfl (pairs_port _ _ _ hn4) (by decide)
  have hb5 : Below W4.heap.size W4 W5 := by rw [hW5]; exact (Below.refl _ _).alloc (Nat.le_refl _) _
  have hbb : Below w.heap.size w W5 := (((hb1.trans (hb2.mono (by omega))).trans (hb3.mono (by omega))).trans (hb4.mono (by omega))).trans (hb5.mono (by omega))
  have NU := show NetV W5 (.agg #[.slice (some ⟨w.heap.size, 0, none⟩) 5 5, .slice (some ⟨W2.heap.size, 0, none⟩) 1 1, .slice (some ⟨W4.heap.size, 0, none⟩) 1 1]) nodesA insA outsA from
    ⟨_, _, _, rfl, (((hn1.later hb2).later hb3).later hb4).later hb5, (hn3.later hb4).later hb5, hn5⟩
  have HW5 := Lib.hid (show W5 = ((((w.alloc (.cells #[.int .i64 1, .int .i64 0, .int .i64 0, .int .i64 0, .int .i64 1, .int .i64 0, .int .i64 0, .int .i64 0, .int .i64 3, .int .i64 0, .int .i64 1, .int .i64 0, .int .i64 2, .int .i64 2, .int .i64 0, .int .i64 0, .int .i64 7, .int .i64 3, .int .i64 1, .int .i64 0] 38)).alloc (.cells #[.int .i64 0, .int .i64 1] 3)).alloc (.cells #[.string ⟨#[97]⟩, .slice (some ⟨w.heap.size + 1, 0, none⟩) 2 2] 53)).alloc (.cells #[.int .i64 4, .int .i64 2] 3)).alloc (.cells #[.string ⟨#[122]⟩, .slice (some ⟨w.heap.size + 1 + 1 + 1, 0, none⟩) 2 2] 53) by rw [hW5, hs3, hW4, hW3, hs1, hW2, hW1])
  rw [hs2, hs4] at NU
  have HNU := Lib.hid NU
  have HBB := Lib.hid hbb
  have HS5 := Lib.hid hs5
  clear NU hbb hs5 hb5 hn5 hW5 hb4 hn4 hs4 hW4 hb3 hn3 hs3 hW3 hb2 hn2 hs2 hW2 hb1 hn1 hs1 hW1
  clear W1 W2 W3 W4
  go_enter Try.func14, Try.ntmps14
  go_wp2_with fail
  rw [← HW5.out]
  clear HW5
  obtain ⟨N1, hN1⟩ : ∃ N1, N1 = W5.alloc (netBox (.slice (some ⟨w.heap.size, 0, none⟩) 5 5) (.slice (some ⟨w.heap.size + 1 + 1, 0, none⟩) 1 1) (.slice (some ⟨w.heap.size + 1 + 1 + 1 + 1, 0, none⟩) 1 1)) := ⟨_, rfl⟩
  have hsn : N1.heap.size = W5.heap.size + 1 := by rw [hN1]; simp
  have hc1 := HNU.out.boxV
  rw [← hN1, HS5.out] at hc1
  rw [← hN1]
  obtain ⟨S1, hS1⟩ : ∃ S1, S1 = w.heap.size + 1 + 1 + 1 + 1 + 1 := ⟨_, rfl⟩
  have hwS : w.heap.size ≤ S1 := by omega
  rw [← hS1] at hc1
  have hsn1 : N1.heap.size = S1 + 1 := by rw [hsn, HS5.out, hS1]
  have hb1 : Below (S1 + 1) N1 N1 := Below.refl _ _
  rw [← hS1]
  have HC1 := Lib.hid hc1
  have HSN := Lib.hid hsn1
  have HWS := Lib.hid hwS
  have HN1 := Lib.hid ((hc1 N1 hb1).2.1)
  have HLE := Lib.hid (show ∀ W, Below (S1 + 1) N1 W → S1 + 1 ≤ W.heap.size from fun W hW => by have := hW.size; omega)
  have HBN := Lib.hid (show ∀ W, Below (S1 + 1) N1 W → Below w.heap.size w W from fun W hW => HBB.out.trans (((hc1 W hW).2.2).mono (by omega)))
  clear hN1 hsn hsn1 hc1 hb1 hwS hS1 HNU HBB HS5
  refine (lev_net _ _ _ _ _ HN1.out fitsA).mono ?_
  rintro e w1 ⟨v1, l1, x1, rfl, hr1, hl1, hb1⟩
  obtain ⟨rfl, rfl⟩ := hl1.unique levA
  obtain ⟨A1, c1, rfl, -, -⟩ := hr1.shape
  have HR1 := Lib.hid hr1
  have HB1 : Hid (Below (S1 + 1) N1 w1) := Lib.hid (hb1.mono (by rw [HSN.out]; exact Nat.le_refl _))
  obtain ⟨⟨z0, z1, z2⟩, hn1, -⟩ := HC1.out _ HB1.out
  have HC := Lib.hid (depth_net _ _ _ _ _ hn1 fitsA)
  clear hr1 hl1 hb1 hn1
  go_wp2_with fail
  refine HC.out.mono ?_
  rintro e w2 ⟨d2, x2, rfl, hd2, hb2⟩
  obtain ⟨rfl, rfl⟩ := depA hd2
  have HB2 := Lib.hid (HB1.out.trans (hb2.mono (HLE.out _ HB1.out)))
  have HB12 := Lib.hid hb2
  clear z0 z1 z2 HC hd2 hb2
  obtain ⟨⟨z0, z1, z2⟩, hn1, -⟩ := HC1.out _ HB2.out
  have HC := Lib.hid (order_net _ _ _ _ _ hn1 fitsA)
  clear hn1
  go_wp2_with fail
  refine HC.out.mono ?_
  rintro e w3 ⟨v3, o3, x3, rfl, hr3, ho3, hb3⟩
  obtain ⟨rfl, rfl⟩ := ordA ho3
  obtain ⟨A3, c3, rfl, -, -⟩ := hr3.shape
  have HR3 := Lib.hid hr3
  have HB3 := Lib.hid (HB2.out.trans (hb3.mono (HLE.out _ HB2.out)))
  have HB13 := Lib.hid (HB12.out.trans (hb3.mono HB12.out.size))
  clear z0 z1 z2 HC hr3 ho3 hb3
  obtain ⟨⟨z0, z1, z2⟩, hn1, -⟩ := HC1.out _ HB3.out
  have HC := Lib.hid (clone_net _ _ _ _ _ hn1 fitsA.nl fitsA.il fitsA.ol fitsA.bits)
  clear hn1
  go_wp2_with fail
  refine HC.out.mono ?_
  rintro e w4 ⟨vn, vi, vo, rfl, hon, hri, hro, hb4⟩
  obtain ⟨g, cg, he, -, -⟩ := hon.form (by decide)
  rw [show nodesA.length = 5 from rfl] at he
  subst he
  obtain ⟨Ai, ci, rfl, -, -⟩ := hri.shape
  obtain ⟨Ao, co, rfl, -, -⟩ := hro.shape
  have hgb := hon.base (g := g) rfl
  have HGB := Lib.hid hgb
  have HB4 := Lib.hid (HB3.out.trans (hb4.mono (HLE.out _ HB3.out)))
  have HB34 := Lib.hid hb4
  have HON := Lib.hid hon
  have HRI := Lib.hid hri
  have HRO := Lib.hid hro
  have hnc : NetV w4 (.agg #[.slice (some ⟨g, 0, none⟩) 5 cg, .slice Ai 1 ci, .slice Ao 1 co]) nodesA insA outsA := ⟨_, _, _, rfl, (hon.row (by decide) (Nat.le_refl _)).mono (fun _ _ h => h.elim), hri.mono (fun _ _ h => h.elim), hro.mono (fun _ _ h => h.elim)⟩
  have HNC := Lib.hid hnc
  have HC2 := Lib.hid hnc.boxV
  obtain ⟨N2, hN2⟩ : ∃ N2, N2 = w4.alloc (.cells #[.slice (some ⟨g, 0, none⟩) 5 cg, .slice Ai 1 ci, .slice Ao 1 co] 25) := ⟨_, rfl⟩
  rw [← hN2] at HC2
  have hsn2 : N2.heap.size = w4.heap.size + 1 := by rw [hN2]; simp
  have HSN2 := Lib.hid hsn2
  have hb4n : Below w4.heap.size w4 N2 := by rw [hN2]; exact (Below.refl _ _).alloc (Nat.le_refl _) _
  have HB4N := Lib.hid hb4n
  have HBN2 := Lib.hid (HB4.out.trans (hb4n.mono (HLE.out _ HB4.out)))
  have HN2 := Lib.hid hN2
  clear z0 z1 z2 HC hon hri hro hb4 hnc hgb hN2 hsn2 hb4n
  obtain ⟨⟨z0, z1, z2⟩, hn1, -⟩ := HC1.out _ HBN2.out
  obtain ⟨⟨y0, y1, y2⟩, hn2, -⟩ := HC2.out N2 (Below.refl _ _)
  have HC := Lib.hid (same_net _ _ _ _ _ _ _ _ _ hn2 hn1 fitsA.nl fitsA.il fitsA.ol fitsA.bits)
  clear hn1 hn2
  rw [HN2.out] at z0 z1 z2 y0 y1 y2
  go_wp2_with fail
  rw [← HN2.out]
  refine HC.out.mono ?_
  rintro e w5 ⟨rfl, hb5⟩
  rw [show sameN nodesA nodesA insA insA outsA outsA = true by simp [sameN]]
  have hb45 : Below w4.heap.size w4 w5 := HB4N.out.trans (hb5.mono HB4N.out.size)
  have h3g := HGB.out
  have HB5 := Lib.hid (HBN2.out.trans (hb5.mono (HLE.out _ HBN2.out)))
  have hbx : Below (w4.heap.size + 1) N2 w5 := hb5.mono (by rw [HSN2.out]; exact Nat.le_refl _)
  have hon5 := HON.out.kept (Kept.of_below_all hb45 (FootIn.none _) (Nat.le_refl _))
  obtain ⟨q0, q1⟩ := cellA hon5
  obtain ⟨⟨y0, y1, y2⟩, -, -⟩ := HC2.out w5 hbx
  have HON5 := Lib.hid hon5
  have HB45 := Lib.hid hb45
  have H25 := Lib.hid hb5.size
  have HSET := Lib.hid (setC hon5)
  have HY := Lib.hid (And.intro y0 (And.intro y1 y2))
  clear hb5 HC hb45 hbx hon5 z0 z1 z2 h3g
  go_wp2_with fail
  obtain ⟨w6, hw6⟩ : ∃ w6, w6 = w5.setCell ⟨g, 9, none⟩ (.int .i64 3) := ⟨_, rfl⟩
  rw [← hw6]
  have hs6 : w6.heap.size = w5.heap.size := by rw [hw6]; simp
  have h3g := HGB.out
  have h45 := HB45.out.size
  have h1s := HLE.out _ HB3.out
  have hb36 : Below w3.heap.size w3 w6 := by
    rw [hw6]
    exact (HB34.out.trans (HB45.out.mono HB34.out.size)).setCell (show w3.heap.size ≤ g by omega) _
  have hb16 : Below w1.heap.size w1 w6 := HB13.out.trans (hb36.mono HB13.out.size)
  have hb6 : Below (S1 + 1) N1 w6 := by
    rw [hw6]
    exact HB5.out.setCell (show S1 + 1 ≤ g by omega) _
  have hset := HSET.out
  rw [← hw6] at hset
  have hkeep : ∀ i, i ≠ g → w6.heap[i]? = w5.heap[i]? := fun i hi => by
    by_cases h : i < w5.heap.size
    · exact hset.2.block i h (fun e => hi (by injection e))
    · rw [Array.getElem?_eq_none (by omega), Array.getElem?_eq_none (by omega)]
  have hy6 : ∀ j, w6.cell? ⟨w4.heap.size, j, none⟩ = w5.cell? ⟨w4.heap.size, j, none⟩ := fun j => World.cell?_of_block (hkeep w4.heap.size (by omega))
  have hri6 := (HRI.out.later HB45.out).keep (S' := fun _ => False) (w' := w6) ⟨by rw [hs6]; exact Nat.le_refl _, fun i hi hn => hkeep i (fun e => hn (by rw [e]; rfl))⟩ (fun _ _ h => h.elim)
  have hro6 := (HRO.out.later HB45.out).keep (S' := fun _ => False) (w' := w6) ⟨by rw [hs6]; exact Nat.le_refl _, fun i hi hn => hkeep i (fun e => hn (by rw [e]; rfl))⟩ (fun _ _ h => h.elim)
  have hnc6 : NetV w6 (.agg #[.slice (some ⟨g, 0, none⟩) 5 cg, .slice Ai 1 ci, .slice Ao 1 co]) nodesC insA outsA := ⟨_, _, _, rfl, (hset.1.row (by decide) (Nat.le_refl _)).mono (fun _ _ h => h.elim), hri6, hro6⟩
  have hall : ∀ W, Below w6.heap.size w6 W → (W.cell? ⟨S1, 0, none⟩ = some (.slice (some ⟨w.heap.size, 0, none⟩) 5 5) ∧ W.cell? ⟨S1, 1, none⟩ = some (.slice (some ⟨w.heap.size + 1 + 1, 0, none⟩) 1 1) ∧ W.cell? ⟨S1, 2, none⟩ = some (.slice (some ⟨w.heap.size + 1 + 1 + 1 + 1, 0, none⟩) 1 1)) ∧
      NetV W (.agg #[.slice (some ⟨w.heap.size, 0, none⟩) 5 5, .slice (some ⟨w.heap.size + 1 + 1, 0, none⟩) 1 1, .slice (some ⟨w.heap.size + 1 + 1 + 1 + 1, 0, none⟩) 1 1]) nodesA insA outsA ∧
      (W.cell? ⟨w4.heap.size, 0, none⟩ = some (.slice (some ⟨g, 0, none⟩) 5 cg) ∧ W.cell? ⟨w4.heap.size, 1, none⟩ = some (.slice Ai 1 ci) ∧ W.cell? ⟨w4.heap.size, 2, none⟩ = some (.slice Ao 1 co)) ∧
      NetV W (.agg #[.slice (some ⟨g, 0, none⟩) 5 cg, .slice Ai 1 ci, .slice Ao 1 co]) nodesC insA outsA ∧ Row kInt W (fun _ => False) (.slice A1 5 c1) [0, 0, 1, 2, 0] ∧ Row kInt W (fun _ => False) (.slice A3 5 c3) [0, 1, 4, 2, 3] ∧ Below w.heap.size w W := fun W hW => by
    have hbn : Below (S1 + 1) N1 W := hb6.trans (hW.mono (by have := hb6.size; have := HLE.out _ hb6; omega))
    obtain ⟨c1, c2, -⟩ := HC1.out W hbn
    have hyy : ∀ j, W.cell? ⟨w4.heap.size, j, none⟩ = w5.cell? ⟨w4.heap.size, j, none⟩ := fun j => (World.cell?_of_block (hW.block w4.heap.size (by have := HSN2.out; have := H25.out; omega))).trans (hy6 j)
    refine ⟨c1, c2, ⟨(hyy 0).trans HY.out.1, (hyy 1).trans HY.out.2.1, (hyy 2).trans HY.out.2.2⟩, hnc6.later hW, (HR1.out.later hb16).later hW, (HR3.out.later hb36).later hW, HBN.out W hbn⟩
  have hlit7 := lit_any kInt 3 w6 (fun _ => False) (fun _ h => h.elim) [0, 0, 1, 2, 0] [[.int .i64 0], [.int .i64 0], [.int .i64 1], [.int .i64 2], [.int .i64 0]] #[.int .i64 0, .int .i64 0, .int .i64 1, .int .i64 2, .int .i64 0] rfl (ints_pairs _ _ [0, 0, 1, 2, 0]) (by decide)
  rw [hs6] at hlit7
  obtain ⟨w7, hw7⟩ : ∃ w7, w7 = w6.alloc (.cells #[.int .i64 0, .int .i64 0, .int .i64 1, .int .i64 2, .int .i64 0] 3) := ⟨_, rfl⟩
  have hx7 : Below w6.heap.size w6 w7 := by rw [hw7]; exact (Below.refl _ _).alloc (Nat.le_refl _) _
  rw [← hw7] at hlit7
  obtain ⟨-, -, -, -, hr1, -, -⟩ := hall w7 hx7
  have HC := Lib.hid (ints_same w7 _ _ [0, 0, 1, 2, 0] hr1 hlit7 (by decide))
  have HALL := Lib.hid hall
  have HX7 := Lib.hid hx7
  clear hr1 hlit7 hx7 hall hnc6 hro6 hri6 hy6 hkeep hset hb6 hb16 hb36 h1s h45 h3g hs6 hw6 y0 y1 y2 q0 q1
  clear HR1 HR3 HB1 HB2 HB3 HB4 HB5 HB12 HB13 HB34 HB45 HB4N HBN2 HSET HY HON HON5 HRI HRO HNC HC2 HN1 HN2 HSN2 H25 HGB HC1 HBN HLE HSN HWS
  rw [← hw7]
  clear hw7
  refine HC.out.mono ?_
  rintro e w8 ⟨rfl, hb8⟩
  have HX8 := Lib.hid (HX7.out.trans (hb8.mono HX7.out.size))
  clear hb8 HC
  have hlit9 := lit_any kInt 3 w8 (fun _ => False) (fun _ h => h.elim) [0, 1, 4, 2, 3] [[.int .i64 0], [.int .i64 1], [.int .i64 4], [.int .i64 2], [.int .i64 3]] #[.int .i64 0, .int .i64 1, .int .i64 4, .int .i64 2, .int .i64 3] rfl (ints_pairs _ _ [0, 1, 4, 2, 3]) (by decide)
  obtain ⟨w9, hw9⟩ : ∃ w9, w9 = w8.alloc (.cells #[.int .i64 0, .int .i64 1, .int .i64 4, .int .i64 2, .int .i64 3] 3) := ⟨_, rfl⟩
  have hx9 : Below w6.heap.size w6 w9 := by rw [hw9]; exact HX8.out.alloc HX8.out.size _
  rw [← hw9] at hlit9
  obtain ⟨-, -, -, -, -, hr3, -⟩ := HALL.out w9 hx9
  have HC := Lib.hid (ints_same w9 _ _ [0, 1, 4, 2, 3] hr3 hlit9 (by decide))
  have HX9 := Lib.hid hx9
  have HW9 := Lib.hid hw9
  clear hr3 hlit9 hx9 hw9
  go_wp2_with fail
  rw [← HW9.out]
  refine HC.out.mono ?_
  rintro e w10 ⟨rfl, hb10⟩
  have HX10 := Lib.hid (HX9.out.trans (hb10.mono HX9.out.size))
  clear hb10 HC HW9
  obtain ⟨⟨z0, z1, z2⟩, hn, -, -, -, -, -⟩ := HALL.out w10 HX10.out
  have HC := Lib.hid (check_net w10 _ _ _ _ hn fitsA)
  clear hn
  go_wp2_with fail
  refine HC.out.mono ?_
  rintro e w11 ⟨l11, x11, rfl, hl11, hb11⟩
  obtain ⟨rfl, rfl⟩ := hl11.unique levA
  have HX11 := Lib.hid (HX10.out.trans (hb11.mono HX10.out.size))
  clear hb11 HC z0 z1 z2 hl11
  obtain ⟨-, -, ⟨z0, z1, z2⟩, hn, -, -, -⟩ := HALL.out w11 HX11.out
  have HC := Lib.hid (check_net w11 _ _ _ _ hn fitsC)
  clear hn
  go_wp2_with fail
  refine HC.out.mono ?_
  rintro e w12 ⟨l12, x12, rfl, hl12, hb12⟩
  obtain ⟨rfl, rfl⟩ := hl12.unique levC
  have HX12 := Lib.hid (HX11.out.trans (hb12.mono HX11.out.size))
  clear hb12 HC z0 z1 z2 hl12
  obtain ⟨w13, hw13⟩ : ∃ w13, w13 = w12.alloc (.cells #[.int .i64 8, .int .i64 0, .int .i64 0, .int .i64 0] 38) := ⟨_, rfl⟩
  have hlit13 := lit_any kNode 38 w12 (fun _ => False) (fun _ h => h.elim) nodesF (nodesF.map Node.cells) #[.int .i64 8, .int .i64 0, .int .i64 0, .int .i64 0] rfl (pairs_nodes _ _ _) (by decide)
  rw [← hw13] at hlit13
  have hx13 : Below w6.heap.size w6 w13 := by rw [hw13]; exact HX12.out.alloc HX12.out.size _
  have hnil : Row kPort w13 (fun _ => False) (.slice none 0 0) [] := ⟨none, 0, [], rfl, Nat.le_refl _, by simp [maxLen], fun _ => rfl, Pairs.nil _ _ _, fun h => by simp at h⟩
  have HC := Lib.hid (check_net w13 (.agg #[.slice (some ⟨w12.heap.size, 0, none⟩) 1 1, .slice none 0 0, .slice none 0 0]) nodesF [] [] ⟨_, _, _, rfl, hlit13, hnil, hnil⟩ fitsF)
  have HX13 := Lib.hid hx13
  have HW13 := Lib.hid hw13
  clear hlit13 hnil hx13 hw13
  go_wp2_with fail
  rw [← HW13.out]
  refine HC.out.mono ?_
  rintro e w14 ⟨l14, x14, rfl, hl14, hb14⟩
  obtain ⟨rfl, rfl⟩ := hl14.unique levF
  have HX14 := Lib.hid (HX13.out.trans (hb14.mono HX13.out.size))
  clear hb14 HC hl14 HW13
  have HC := Lib.hid (name_net w14 ⟨#[97, 95, 49]⟩ (by decide))
  go_wp2_with fail
  refine HC.out.mono ?_
  rintro e w15 ⟨rfl, hb15⟩
  rw [name_a1]
  have HX15 := Lib.hid (HX14.out.trans (hb15.mono HX14.out.size))
  clear hb15 HC
  have HC := Lib.hid (name_net w15 ⟨#[119, 105, 114, 101]⟩ (by decide))
  go_wp2_with fail
  refine HC.out.mono ?_
  rintro e w16 ⟨rfl, hb16⟩
  rw [name_wire]
  have HX16 := Lib.hid (HX15.out.trans (hb16.mono HX15.out.size))
  clear hb16 HC
  have HC := Lib.hid (name_net w16 ⟨#[95, 97]⟩ (by decide))
  go_wp2_with fail
  refine HC.out.mono ?_
  rintro e w17 ⟨rfl, hb17⟩
  rw [name_ua]
  have HX17 := Lib.hid (HX16.out.trans (hb17.mono HX16.out.size))
  clear hb17 HC
  obtain ⟨⟨z0, z1, z2⟩, hn, -, -, -, -, -⟩ := HALL.out w17 HX17.out
  obtain ⟨vn, vi, vo, he, hrn, -, -⟩ := hn
  have he1 : vn = .slice (some ⟨w.heap.size, 0, none⟩) 5 5 := by simp at he; exact he.1.symm
  subst he1
  obtain ⟨b, off, hA, x0, x1, x2, x3⟩ := hrn.node_at (i := 2) (by decide)
  simp only [Option.some.injEq, Addr.mk.injEq, and_true] at hA
  obtain ⟨rfl, rfl⟩ := hA
  simp only [nodesA, List.getElem_cons_succ, List.getElem_cons_zero, Nat.zero_add, Nat.reduceMul, Nat.reduceAdd] at x0 x1 x2 x3
  have HC := Lib.hid (uses_net w17 (fun _ => False) (fun _ h => h.elim) ⟨3, 0, 1, 0⟩)
  clear he hrn
  go_wp2_with fail
  refine HC.out.mono ?_
  rintro e w18 ⟨v18, rfl, hr18, hb18⟩
  rw [usesA] at hr18
  have HX18 := Lib.hid (HX17.out.trans (hb18.mono HX17.out.size))
  clear hb18 HC z0 z1 z2 x0 x1 x2 x3
  obtain ⟨w19, hw19⟩ : ∃ w19, w19 = w18.alloc (.cells #[.int .i64 0, .int .i64 1] 3) := ⟨_, rfl⟩
  have hlit19 := lit_any kInt 3 w18 (fun _ => False) (fun _ h => h.elim) [0, 1] [[.int .i64 0], [.int .i64 1]] #[.int .i64 0, .int .i64 1] rfl (ints_pairs _ _ [0, 1]) (by decide)
  rw [← hw19] at hlit19
  have hx19 : Below w6.heap.size w6 w19 := by rw [hw19]; exact HX18.out.alloc HX18.out.size _
  have hb189 : Below w18.heap.size w18 w19 := by rw [hw19]; exact (Below.refl _ _).alloc (Nat.le_refl _) _
  have HC := Lib.hid (ints_same w19 _ _ [0, 1] (hr18.later hb189) hlit19 (by decide))
  have HX19 := Lib.hid hx19
  have HW19 := Lib.hid hw19
  clear hlit19 hx19 hw19 hb189 hr18
  go_wp2_with fail
  rw [← HW19.out]
  refine HC.out.mono ?_
  rintro e w20 ⟨rfl, hb20⟩
  have HX20 := Lib.hid (HX19.out.trans (hb20.mono HX19.out.size))
  clear hb20 HC HW19
  obtain ⟨⟨z0, z1, z2⟩, hn, -, -, -, -, -⟩ := HALL.out w20 HX20.out
  have HC := Lib.hid (counts_net w20 _ _ _ _ hn fitsA.nl)
  clear hn
  go_wp2_with fail
  refine HC.out.mono ?_
  rintro e w21 ⟨rfl, hb21⟩
  rw [cntA]
  have HX21 := Lib.hid (HX20.out.trans (hb21.mono HX20.out.size))
  clear hb21 HC z0 z1 z2
  obtain ⟨-, -, -, -, -, -, hbw⟩ := HALL.out w21 HX21.out
  have HBW := Lib.hid hbw
  clear hbw
  have heq := eq8 0 2 1 1 0 0 0 1 w21
  go_wp2
  go_ret
  exact ⟨rfl, HBW.out⟩
end Go.Proofs.Ytbfjacgfifecpaa
