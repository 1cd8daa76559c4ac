/- slipsticklaw09.awake. -/
import Derived.Test.YtbfjacgfifecpaaM11
import Derived.Test.YtbfjacgfifecpaaFoF
namespace Go.Proofs.Ytbfjacgfifecpaa
open Go.RowKit

def nodes09 : List Node := [⟨1, 0, 0, 0⟩, ⟨0, 1, 0, 0⟩, ⟨3, 0, 1, 0⟩, ⟨2, 2, 0, 0⟩, ⟨2, 3, 0, 0⟩, ⟨5, 4, 0, 0⟩]
abbrev ins09 : List Port := [⟨a6, [0]⟩]
abbrev outs09 : List Port := [⟨z6, [2, 4, 5]⟩]
def nodes09b : List Node := [⟨1, 0, 0, 0⟩, ⟨0, 1, 0, 0⟩, ⟨3, 0, 1, 0⟩, ⟨2, 0, 0, 0⟩, ⟨2, 3, 0, 0⟩, ⟨0, 0, 0, 0⟩]
abbrev outs09b : List Port := [⟨z6, [0, 0, 5]⟩]
def stand09 : List Nat := [0, 1, 0, 3, 0, 5]
theorem err09 (b : Bool) : errP nodes09 ins09 outs09 b = if b = false then 9 else 0 := by
  have h1 : ¬ (262144 < nodes09.length ∨ 64 < ins09.length + outs09.length) := by decide
  have h2 : ¬ (formedB nodes09 ins09 outs09 = false) := by decide
  have h3 : ¬ ((ins09 ++ outs09).any badName = true) := by simp [badName, name_a6, name_z6]
  have h4 : ¬ (dupB ((ins09 ++ outs09).map (·.name)) = true) := by rw [show (ins09 ++ outs09).map (·.name) = (insA ++ outsA).map (·.name) from rfl, dupA]; decide
  have h5 : ¬ (homeB nodes09 ins09 = false) := by decide
  rw [errP, if_neg h1, if_neg h2, if_neg h3, if_neg h4, if_neg h5]
theorem isLev09 : IsLev nodes09 [0, 0, 1, 2, 3, 4] := by
  refine ⟨rfl, fun i x hx => ?_⟩
  match i, hx with
  | 0, hx => injection hx with hx; subst hx; decide
  | 1, hx => injection hx with hx; subst hx; decide
  | 2, hx => injection hx with hx; subst hx; decide
  | 3, hx => injection hx with hx; subst hx; decide
  | 4, hx => injection hx with hx; subst hx; decide
  | 5, hx => injection hx with hx; subst hx; decide
  | i + 6, hx => simp [nodes09] at hx
theorem lev09 : LevOut nodes09 ins09 outs09 0 [0, 0, 1, 2, 3, 4] := ⟨true, by rw [err09]; rfl, fun _ => ⟨_, isLev09⟩, fun h => by simp at h, fun _ => isLev09, fun h => absurd rfl h⟩
theorem fits09 : Fits nodes09 ins09 outs09 := ⟨by decide, by decide, by decide, by decide, by decide, by decide⟩
theorem ord09 : ordL [0, 0, 1, 2, 3, 4] = [0, 1, 2, 3, 4, 5] := by decide
theorem fo09 {n' : List Node} {o' : List Port} {st : List Nat} (h : FoOut nodes09 ins09 outs09 n' o' st) : n' = nodes09b ∧ o' = outs09b ∧ st = stand09 := by
  obtain ⟨l, hl, -, h3, h4, h5⟩ := h
  obtain ⟨-, rfl⟩ := hl.unique lev09
  rw [ord09] at h3 h4 h5
  have e : foRun nodes09 [0, 1, 2, 3, 4, 5] = ⟨nodes09b, stand09⟩ := by rfl
  rw [e] at h3 h4 h5
  exact ⟨h4.trans (by decide), h5.trans (by decide), h3⟩
theorem fld09 {e m : Int} {n' : List Node} {i' o' : List Port} (h : FldOut nodes09 ins09 outs09 e m n' i' o') : e = 0 ∧ m = 3 ∧ n' = nodes09b ∧ i' = ins09 ∧ o' = outs09b := by
  obtain ⟨⟨k, hk⟩, -, h2⟩ := h
  have h0 := (hk.unique lev09).1
  obtain ⟨st, h3, h4, h5⟩ := h2 h0
  obtain ⟨rfl, rfl, rfl⟩ := fo09 h3
  exact ⟨h0, h5.trans (by decide), rfl, h4, rfl⟩
theorem fld9 {e m : Int} {n' : List Node} {i' o' : List Port} (h : FldOut nodesS9 [] [] e m n' i' o') : e = 2 ∧ m = 0 ∧ n' = [] ∧ i' = [] ∧ o' = [] := by
  obtain ⟨⟨k, hk⟩, h1, -⟩ := h
  obtain ⟨rfl, -⟩ := hk.unique levS9
  obtain ⟨r1, r2, r3, r4⟩ := h1 (by decide)
  exact ⟨rfl, r1, r2, r3, r4⟩
set_option maxHeartbeats 4000000 in
set_option maxRecDepth 100000 in
theorem awake09 (w : World) : Calls Try.prog 44 #[] w fun e w' => e = .returned (.bool true) ∧ Below w.heap.size w w' := by
  obtain ⟨W5, hW5⟩ : ∃ W5, W5 = ((((w.alloc (.cells #[.int .i64 1, .int .i64 0, .int .i64 0, .int .i64 0, .int .i64 0, .int .i64 1, .int .i64 0, .int .i64 0, .int .i64 3, .int .i64 0, .int .i64 1, .int .i64 0, .int .i64 2, .int .i64 2, .int .i64 0, .int .i64 0, .int .i64 2, .int .i64 3, .int .i64 0, .int .i64 0, .int .i64 5, .int .i64 4, .int .i64 0, .int .i64 0] 38)).alloc (.cells #[.int .i64 0] 3)).alloc (.cells #[.string ⟨#[97]⟩, .slice (some ⟨w.heap.size + 1, 0, none⟩) 1 1] 53)).alloc (.cells #[.int .i64 2, .int .i64 4, .int .i64 5] 3)).alloc (.cells #[.string ⟨#[122]⟩, .slice (some ⟨w.heap.size + 1 + 1 + 1, 0, none⟩) 3 3] 53) := ⟨_, rfl⟩
  obtain ⟨hn5, hb5, hs5⟩ := netLit w nodes09 [0] [2, 4, 5] a6 z6 _ _ _ rfl rfl rfl (by decide) (by decide) (by decide) 6 1 3 rfl rfl rfl W5 hW5
  have HW5 := Lib.hid hW5
  have hc := hn5.boxV
  have HB5 := Lib.hid hb5
  obtain ⟨N1, hN1⟩ : ∃ N1, N1 = W5.alloc (netBox (.slice (some ⟨w.heap.size, 0, none⟩) 6 6) (.slice (some ⟨w.heap.size + 1 + 1, 0, none⟩) 1 1) (.slice (some ⟨w.heap.size + 1 + 1 + 1 + 1, 0, none⟩) 1 1)) := ⟨_, rfl⟩
  have hsn : N1.heap.size = W5.heap.size + 1 := by rw [hN1]; simp
  rw [← hN1, ← hsn, hs5] at hc
  have HC1 := Lib.hid hc
  have HN1 := Lib.hid hN1
  have HS5 := Lib.hid hs5
  obtain ⟨-, hn1, -⟩ := hc N1 (Below.refl _ _)
  have HC := Lib.hid (fold_net N1 _ nodes09 ins09 outs09 hn1 fits09)
  clear hW5 hn5 hb5 hc hs5 hn1 hN1 hsn
  go_enter Try.func44, Try.ntmps44
  go_wp2_with fail
  rw [← HW5.out]
  go_wp2_with fail
  rw [← HN1.out]
  refine HC.out.mono ?_
  rintro e w1 ⟨v1, m1, x1, n1, i1, o1, rfl, hv1, hs1, hb1⟩
  obtain ⟨rfl, rfl, rfl, rfl, rfl⟩ := fld09 hs1
  obtain ⟨A1, c1, A2, c2, A3, c3, hp1⟩ := hv1.parts
  replace hp1 : v1 = .agg #[.slice A1 6 c1, .slice A2 1 c2, .slice A3 1 c3] := hp1
  subst hp1
  have HB1 := Lib.hid hb1
  obtain ⟨N2, hN2⟩ : ∃ N2, N2 = w1.alloc (.cells #[.slice A1 6 c1, .slice A2 1 c2, .slice A3 1 c3] 25) := ⟨_, rfl⟩
  have hb2 : Below w1.heap.size w1 N2 := by rw [hN2]; exact (Below.refl _ _).alloc (Nat.le_refl _) _
  have HC2 := Lib.hid (show ∀ W, Below (w1.heap.size + 1) N2 W → _ from by rw [hN2]; exact hv1.boxV)
  have HB2 := Lib.hid (hb1.trans (hb2.mono hb1.size))
  have HS2 := Lib.hid (show N2.heap.size = w1.heap.size + 1 by rw [hN2]; simp)
  have HN2 := Lib.hid hN2
  obtain ⟨⟨z0, z1, z2⟩, hn2, -⟩ := HC1.out N2 HB2.out
  rw [HN2.out] at z0 z1 z2
  have HCS := Lib.hid (stands_net N2 _ nodes09 ins09 outs09 hn2 fits09)
  clear HC hs1 hb1 hb2 hv1 hN2 hn2
  go_wp2_with fail
  rw [← HN2.out]
  refine HCS.out.mono ?_
  rintro e w3 ⟨v3, x3, st3, rfl, hr3, ⟨k3, hk3⟩, hf3, hb3⟩
  obtain rfl : x3 = 0 := (hk3.unique lev09).1
  obtain ⟨n3, o3, hfo⟩ := hf3 rfl
  obtain ⟨-, -, rfl⟩ := fo09 hfo
  obtain ⟨A4, c4, hp3, -, -⟩ := hr3.shape
  replace hp3 : v3 = .slice A4 6 c4 := hp3
  subst hp3
  have HR3 := Lib.hid hr3
  have HB3 := Lib.hid hb3
  clear hr3 hk3 hf3 hfo hb3 HCS z0 z1 z2
  obtain ⟨w6, hw6⟩ : ∃ w6, w6 = w3.alloc (.cells #[.int .i64 9, .int .i64 0, .int .i64 0, .int .i64 0] 38) := ⟨_, rfl⟩
  have hlit := lit_any kNode 38 w3 (fun _ => False) (fun _ h => h.elim) nodesS9 (nodesS9.map Node.cells) #[.int .i64 9, .int .i64 0, .int .i64 0, .int .i64 0] rfl (pairs_nodes _ _ _) (by decide)
  rw [← hw6] at hlit
  have hb36 : Below w3.heap.size w3 w6 := by rw [hw6]; exact (Below.refl _ _).alloc (Nat.le_refl _) _
  have HC := Lib.hid (fold_net w6 (.agg #[.slice (some ⟨w3.heap.size, 0, none⟩) 1 1, .slice none 0 0, .slice none 0 0]) nodesS9 [] [] ⟨_, _, _, rfl, hlit, nilRow _ _ _, nilRow _ _ _⟩ fitsS9)
  have HW6 := Lib.hid hw6
  have HB36 := Lib.hid hb36
  clear hlit hw6 hb36
  go_wp2_with fail
  rw [← HW6.out]
  refine HC.out.mono ?_
  rintro e w7 ⟨v7, m7, x7, n7, i7, o7, rfl, hv7, hs7, hb7⟩
  obtain ⟨rfl, rfl, rfl, rfl, rfl⟩ := fld9 hs7
  obtain ⟨A7, c7, A8, c8, A9, c9, hp7⟩ := hv7.parts
  replace hp7 : v7 = .agg #[.slice A7 0 c7, .slice A8 0 c8, .slice A9 0 c9] := hp7
  subst hp7
  obtain ⟨w8, hw8⟩ : ∃ w8, w8 = w7.alloc (.cells #[.slice A7 0 c7, .slice A8 0 c8, .slice A9 0 c9] 25) := ⟨_, rfl⟩
  have hb78 : Below w7.heap.size w7 w8 := by rw [hw8]; exact (Below.refl _ _).alloc (Nat.le_refl _) _
  have hb38 : Below w3.heap.size w3 w8 := (HB36.out.trans (hb7.mono HB36.out.size)).trans (hb78.mono (Nat.le_trans HB36.out.size hb7.size))
  have hb28 : Below N2.heap.size N2 w8 := HB3.out.trans (hb38.mono HB3.out.size)
  have HB28 := Lib.hid hb28
  have HB38 := Lib.hid hb38
  have HW8 := Lib.hid hw8
  have HS8 := Lib.hid (show w8.heap.size = w7.heap.size + 1 by rw [hw8]; simp)
  obtain ⟨⟨y0, y1, y2⟩, hvs, -⟩ := HC2.out w8 (by rw [← HS2.out]; exact hb28)
  obtain ⟨vn, vi, vo, hve, hrn, hri, hro⟩ := hvs
  simp only [Value.agg.injEq, Array.mk.injEq, List.cons.injEq, and_true] at hve
  obtain ⟨rfl, rfl, rfl⟩ := hve
  obtain ⟨b1, f1, rfl, q0, q1, q2, q3⟩ := hrn.node_at (i := 5) (by decide)
  obtain ⟨b2, f2, A5, c5, rfl, p0, p1, hpb⟩ := hro.port_at (i := 0) (by decide)
  simp only [nodes09b, List.getElem_cons_succ, List.getElem_cons_zero] at q0 q1 q2 q3
  simp only [List.getElem_cons_zero, List.length_cons, List.length_nil] at p0 p1 hpb
  obtain ⟨w9, hw9⟩ : ∃ w9, w9 = w8.alloc (.cells #[.int .i64 0, .int .i64 0, .int .i64 5] 3) := ⟨_, rfl⟩
  have hlit9 := lit_any kInt 3 w8 (fun _ => False) (fun _ h => h.elim) [0, 0, 5] [[.int .i64 0], [.int .i64 0], [.int .i64 5]] #[.int .i64 0, .int .i64 0, .int .i64 5] rfl (ints_pairs _ _ [0, 0, 5]) (by decide)
  rw [← hw9] at hlit9
  have hb9 : Below w8.heap.size w8 w9 := by rw [hw9]; exact (Below.refl _ _).alloc (Nat.le_refl _) _
  have HC3 := Lib.hid (ints_same w9 _ _ [0, 0, 5] (hpb.later hb9) hlit9 (by decide))
  have HW9 := Lib.hid hw9
  have HB9 := Lib.hid hb9
  rw [HW8.out] at y0 y1 y2 q0 q1 q2 q3 p0 p1
  clear hs7 hv7 hb7 hb78 hb28 hb38 hw8 hw9 hb9 hlit9 hpb hrn hri hro HC
  go_wp2_with fail
  rw [← HW8.out, ← HS8.out, ← HW9.out]
  refine HC3.out.mono ?_
  rintro e w10 ⟨rfl, hb10⟩
  have HB10 := Lib.hid (HB9.out.trans (hb10.mono HB9.out.size))
  clear hb10 HC3
  rw [← HW8.out] at y0 y1 y2 q0 q1 q2 q3 p0 p1
  replace y0 := cellBelow HB10.out y0
  replace q0 := cellBelow HB10.out q0
  replace q1 := cellBelow HB10.out q1
  replace q2 := cellBelow HB10.out q2
  replace q3 := cellBelow HB10.out q3
  clear y1 y2 p0 p1
  obtain ⟨w11, hw11⟩ : ∃ w11, w11 = w10.alloc (.cells #[.int .i64 0, .int .i64 1, .int .i64 0, .int .i64 3, .int .i64 0, .int .i64 5] 3) := ⟨_, rfl⟩
  have hlit11 := lit_any kInt 3 w10 (fun _ => False) (fun _ h => h.elim) [0, 1, 0, 3, 0, 5] [[.int .i64 0], [.int .i64 1], [.int .i64 0], [.int .i64 3], [.int .i64 0], [.int .i64 5]] #[.int .i64 0, .int .i64 1, .int .i64 0, .int .i64 3, .int .i64 0, .int .i64 5] rfl (ints_pairs _ _ [0, 1, 0, 3, 0, 5]) (by decide)
  rw [← hw11] at hlit11
  have hb11 : Below w10.heap.size w10 w11 := by rw [hw11]; exact (Below.refl _ _).alloc (Nat.le_refl _) _
  have hb311 : Below w3.heap.size w3 w11 := (HB38.out.trans (HB10.out.mono HB38.out.size)).trans (hb11.mono (Nat.le_trans HB38.out.size HB10.out.size))
  have HC4 := Lib.hid (ints_same w11 _ _ [0, 1, 0, 3, 0, 5] (HR3.out.later hb311) hlit11 (by decide))
  have HW11 := Lib.hid hw11
  have HB11 := Lib.hid hb11
  clear hw11 hlit11 hb11 hb311
  go_wp2_with fail
  rw [← HW11.out]
  refine HC4.out.mono ?_
  rintro e w12 ⟨rfl, hb12⟩
  have HB12 := Lib.hid (HB10.out.trans ((HB11.out.trans (hb12.mono HB11.out.size)).mono HB10.out.size))
  have hb8 : Below w.heap.size w w8 := HB5.out.trans (((show Below W5.heap.size W5 N1 by rw [HN1.out]; exact (Below.refl _ _).alloc (Nat.le_refl _) _).trans ((HB2.out.trans (HB28.out.mono HB2.out.size)).mono (by rw [HN1.out]; simp))).mono HB5.out.size)
  have HBF := Lib.hid (hb8.trans (HB12.out.mono hb8.size))
  clear hb12 HC4 hb8 y0 q0 q1 q2 q3
  go_wp2
  go_ret
  exact ⟨rfl, HBF.out⟩
end Go.Proofs.Ytbfjacgfifecpaa
