/- slipsticklaw10.awake. -/
import Derived.Test.YtbfjacgfifecpaaM11
import Derived.Test.YtbfjacgfifecpaaShC
import Derived.Test.YtbfjacgfifecpaaJNC
namespace Go.Proofs.Ytbfjacgfifecpaa
open Go.RowKit

def nodesH : List Node := [⟨1, 0, 0, 0⟩, ⟨1, 0, 0, 0⟩, ⟨3, 0, 1, 0⟩, ⟨3, 1, 0, 0⟩, ⟨5, 3, 2, 0⟩]
abbrev insH : List Port := [⟨a6, [0, 1]⟩]
abbrev outsH : List Port := [⟨z6, [3, 4]⟩]
def nodesH2 : List Node := [⟨1, 0, 0, 0⟩, ⟨1, 0, 0, 0⟩, ⟨3, 0, 1, 0⟩, ⟨3, 0, 1, 0⟩, ⟨5, 2, 2, 0⟩]
abbrev outsH2 : List Port := [⟨z6, [2, 4]⟩]
theorem errH (b : Bool) : errP nodesH insH outsH b = if b = false then 9 else 0 := by
  have h1 : ¬ (262144 < nodesH.length ∨ 64 < insH.length + outsH.length) := by decide
  have h2 : ¬ (formedB nodesH insH outsH = false) := by decide
  have h3 : ¬ ((insH ++ outsH).any badName = true) := by simp [badName, name_a6, name_z6]
  have h4 : ¬ (dupB ((insH ++ outsH).map (·.name)) = true) := by rw [show (insH ++ outsH).map (·.name) = (insA ++ outsA).map (·.name) from rfl, dupA]; decide
  have h5 : ¬ (homeB nodesH insH = false) := by decide
  rw [errP, if_neg h1, if_neg h2, if_neg h3, if_neg h4, if_neg h5]
theorem isLevH : IsLev nodesH [0, 0, 1, 1, 2] := by
  refine ⟨rfl, fun i x hx => ?_⟩
  match i, hx with
  | 0, hx => injection hx with hx; subst hx; decide
  | 1, hx => injection hx with hx; subst hx; decide
  | 2, hx => injection hx with hx; subst hx; decide
  | 3, hx => injection hx with hx; subst hx; decide
  | 4, hx => injection hx with hx; subst hx; decide
  | i + 5, hx => simp [nodesH] at hx
theorem levH : LevOut nodesH insH outsH 0 [0, 0, 1, 1, 2] := ⟨true, by rw [errH]; rfl, fun _ => ⟨_, isLevH⟩, fun h => by simp at h, fun _ => isLevH, fun h => absurd rfl h⟩
theorem fitsH : Fits nodesH insH outsH := ⟨by decide, by decide, by decide, by decide, by decide, by decide⟩
set_option maxRecDepth 10000 in
theorem shH {e m : Int} {n' : List Node} {i' o' : List Port} (h : ShrOut nodesH insH outsH e m n' i' o') (he : e = 0 ∨ (∃ k, LevOut nodesH insH outsH e k)) : e = 0 ∧ m = 1 ∧ n' = nodesH2 ∧ i' = insH ∧ o' = outsH2 := by
  have h0 : e = 0 := by
    rcases he with he | ⟨k, hk⟩
    · exact he
    · exact (hk.unique levH).1
  obtain ⟨-, h2⟩ := h
  obtain ⟨l, hl, h3, h4, h5, h6⟩ := h2 h0
  obtain ⟨-, rfl⟩ := hl.unique levH
  exact ⟨h0, h3.trans (by decide), h4.trans (by decide), h5, h6.trans (by decide)⟩
theorem ShrOut.lev {nodes : List Node} {ins outs : List Port} {e m : Int} {n' : List Node} {i' o' : List Port} (h : ShrOut nodes ins outs e m n' i' o') : ∃ k, LevOut nodes ins outs e k := by
  by_cases h0 : e = 0
  · subst h0; obtain ⟨l, hl, -⟩ := h.2 rfl; exact ⟨l, hl⟩
  · exact (h.1 h0).1
theorem sh9 {e m : Int} {n' : List Node} {i' o' : List Port} (h : ShrOut nodesS9 [] [] e m n' i' o') : e = 2 ∧ m = 0 ∧ n' = [] ∧ i' = [] ∧ o' = [] := by
  obtain ⟨k, hk⟩ := h.lev
  obtain ⟨rfl, -⟩ := hk.unique levS9
  obtain ⟨-, r1, r2, r3, r4⟩ := h.1 (by decide)
  exact ⟨rfl, r1, r2, r3, r4⟩
theorem field_a (k a b c : Int) (W : World) : (Instr.field 38 (.agg #[.int .i64 k, .int .i64 a, .int .i64 b, .int .i64 c]) 1).run Try.prog W = .ok (.int .i64 a) W := by kernel_rfl
set_option maxHeartbeats 4000000 in
set_option maxRecDepth 100000 in
theorem awake10 (w : World) : Calls Try.prog 31 #[] w fun e w' => e = .returned (.bool true) ∧ Below w.heap.size w w' := by
  obtain ⟨W5, hW5⟩ : ∃ W5, W5 = ((((w.alloc (.cells #[.int .i64 1, .int .i64 0, .int .i64 0, .int .i64 0, .int .i64 1, .int .i64 0, .int .i64 0, .int .i64 0, .int .i64 3, .int .i64 0, .int .i64 1, .int .i64 0, .int .i64 3, .int .i64 1, .int .i64 0, .int .i64 0, .int .i64 5, .int .i64 3, .int .i64 2, .int .i64 0] 38)).alloc (.cells #[.int .i64 0, .int .i64 1] 3)).alloc (.cells #[.string ⟨#[97]⟩, .slice (some ⟨w.heap.size + 1, 0, none⟩) 2 2] 53)).alloc (.cells #[.int .i64 3, .int .i64 4] 3)).alloc (.cells #[.string ⟨#[122]⟩, .slice (some ⟨w.heap.size + 1 + 1 + 1, 0, none⟩) 2 2] 53) := ⟨_, rfl⟩
  obtain ⟨hn5, hb5, hs5⟩ := netLit w nodesH [0, 1] [3, 4] a6 z6 _ _ _ rfl rfl rfl (by decide) (by decide) (by decide) 5 2 2 rfl rfl rfl W5 hW5
  have HW5 := Lib.hid hW5
  have hc := hn5.boxV
  have HB5 := Lib.hid hb5
  obtain ⟨N1, hN1⟩ : ∃ N1, N1 = W5.alloc (netBox (.slice (some ⟨w.heap.size, 0, none⟩) 5 5) (.slice (some ⟨w.heap.size + 1 + 1, 0, none⟩) 1 1) (.slice (some ⟨w.heap.size + 1 + 1 + 1 + 1, 0, none⟩) 1 1)) := ⟨_, rfl⟩
  have hsn : N1.heap.size = W5.heap.size + 1 := by rw [hN1]; simp
  rw [← hN1, ← hsn, hs5] at hc
  have HC1 := Lib.hid hc
  have HN1 := Lib.hid hN1
  obtain ⟨-, hn1, -⟩ := hc N1 (Below.refl _ _)
  have HC := Lib.hid (share_net N1 _ nodesH insH outsH hn1 fitsH)
  clear hW5 hn5 hb5 hc hs5 hn1 hN1 hsn
  go_enter Try.func31, Try.ntmps31
  go_wp2_with fail
  rw [← HW5.out]
  go_wp2_with fail
  rw [← HN1.out]
  refine HC.out.mono ?_
  rintro e w1 ⟨v1, m1, x1, n1, i1, o1, rfl, hv1, hs1, hb1⟩
  obtain ⟨rfl, rfl, rfl, rfl, rfl⟩ := shH hs1 (.inr hs1.lev)
  obtain ⟨A1, c1, A2, c2, A3, c3, hp1⟩ := hv1.parts
  replace hp1 : v1 = .agg #[.slice A1 5 c1, .slice A2 1 c2, .slice A3 1 c3] := hp1
  subst hp1
  have HB1 := Lib.hid hb1
  obtain ⟨N2, hN2⟩ : ∃ N2, N2 = w1.alloc (.cells #[.slice A1 5 c1, .slice A2 1 c2, .slice A3 1 c3] 25) := ⟨_, rfl⟩
  have hb2 : Below w1.heap.size w1 N2 := by rw [hN2]; exact (Below.refl _ _).alloc (Nat.le_refl _) _
  have HC2 := Lib.hid (show ∀ W, Below (w1.heap.size + 1) N2 W → _ from by rw [hN2]; exact hv1.boxV)
  have HB2 := Lib.hid (hb1.trans (hb2.mono hb1.size))
  have HS2 := Lib.hid (show N2.heap.size = w1.heap.size + 1 by rw [hN2]; simp)
  have HN2 := Lib.hid hN2
  clear HC hs1 hb1 hb2 hv1 hN2
  obtain ⟨w6, hw6⟩ : ∃ w6, w6 = N2.alloc (.cells #[.int .i64 9, .int .i64 0, .int .i64 0, .int .i64 0] 38) := ⟨_, rfl⟩
  have hlit := lit_any kNode 38 N2 (fun _ => False) (fun _ h => h.elim) nodesS9 (nodesS9.map Node.cells) #[.int .i64 9, .int .i64 0, .int .i64 0, .int .i64 0] rfl (pairs_nodes _ _ _) (by decide)
  rw [← hw6, HS2.out] at hlit
  have hb56 : Below N2.heap.size N2 w6 := by rw [hw6]; exact (Below.refl _ _).alloc (Nat.le_refl _) _
  have HC := Lib.hid (share_net w6 (.agg #[.slice (some ⟨w1.heap.size + 1, 0, none⟩) 1 1, .slice none 0 0, .slice none 0 0]) nodesS9 [] [] ⟨_, _, _, rfl, hlit, nilRow _ _ _, nilRow _ _ _⟩ fitsS9)
  have HW6 := Lib.hid hw6
  have HB56 := Lib.hid hb56
  clear hlit hw6 hb56
  go_wp2_with fail
  rw [← HN2.out, ← HW6.out]
  refine HC.out.mono ?_
  rintro e w7 ⟨v7, m7, x7, n7, i7, o7, rfl, hv7, hs7, hb7⟩
  obtain ⟨rfl, rfl, rfl, rfl, rfl⟩ := sh9 hs7
  obtain ⟨A7, c7, A8, c8, A9, c9, hp7⟩ := hv7.parts
  replace hp7 : v7 = .agg #[.slice A7 0 c7, .slice A8 0 c8, .slice A9 0 c9] := hp7
  subst hp7
  obtain ⟨w8, hw8⟩ : ∃ w8, w8 = w7.alloc (.cells #[.slice A7 0 c7, .slice A8 0 c8, .slice A9 0 c9] 25) := ⟨_, rfl⟩
  have hb78 : Below w7.heap.size w7 w8 := by rw [hw8]; exact (Below.refl _ _).alloc (Nat.le_refl _) _
  have hb28 : Below N2.heap.size N2 w8 := (HB56.out.trans (hb7.mono HB56.out.size)).trans (hb78.mono (Nat.le_trans HB56.out.size hb7.size))
  have HB28 := Lib.hid hb28
  have HW8 := Lib.hid hw8
  have HS8 := Lib.hid (show w8.heap.size = w7.heap.size + 1 by rw [hw8]; simp)
  obtain ⟨⟨y0, y1, y2⟩, hvs, -⟩ := HC2.out w8 (by rw [← HS2.out]; exact hb28)
  obtain ⟨vn, vi, vo, hve, hrn, hri, hro⟩ := hvs
  simp only [Value.agg.injEq, Array.mk.injEq, List.cons.injEq, and_true] at hve
  obtain ⟨rfl, rfl, rfl⟩ := hve
  obtain ⟨b1, f1, rfl, q0, q1, q2, q3⟩ := hrn.node_at (i := 4) (by decide)
  obtain ⟨b2, f2, A4, c4, rfl, p0, p1, hpb⟩ := hro.port_at (i := 0) (by decide)
  simp only [nodesH2, List.getElem_cons_succ, List.getElem_cons_zero] at q0 q1 q2 q3
  simp only [List.getElem_cons_zero, List.length_cons, List.length_nil] at p0 p1 hpb
  obtain ⟨w9, hw9⟩ : ∃ w9, w9 = w8.alloc (.cells #[.int .i64 2, .int .i64 4] 3) := ⟨_, rfl⟩
  have hlit9 := lit_any kInt 3 w8 (fun _ => False) (fun _ h => h.elim) [2, 4] [[.int .i64 2], [.int .i64 4]] #[.int .i64 2, .int .i64 4] rfl (ints_pairs _ _ [2, 4]) (by decide)
  rw [← hw9] at hlit9
  have hb9 : Below w8.heap.size w8 w9 := by rw [hw9]; exact (Below.refl _ _).alloc (Nat.le_refl _) _
  have HC3 := Lib.hid (ints_same w9 _ _ [2, 4] (hpb.later hb9) hlit9 (by decide))
  have HW9 := Lib.hid hw9
  have HB9 := Lib.hid hb9
  rw [HW8.out] at y0 y1 y2 q0 q1 q2 q3 p0 p1
  clear hs7 hv7 hb7 hb78 hb28 hw8 hw9 hb9 hlit9 hpb hrn hri hro HC
  go_wp2_with fail
  rw [← HW8.out, ← HS8.out, ← HW9.out]
  refine HC3.out.mono ?_
  rintro e w10 ⟨rfl, hb10⟩
  have HB10 := Lib.hid (HB9.out.trans (hb10.mono HB9.out.size))
  clear hb10 HC3
  rw [← HW8.out] at y0 y1 y2 q0 q1 q2 q3 p0 p1
  replace y0 := cellBelow HB10.out y0
  replace q0 := cellBelow HB10.out q0
  replace q1 := cellBelow HB10.out q1
  replace q2 := cellBelow HB10.out q2
  replace q3 := cellBelow HB10.out q3
  have HC := Lib.hid (key_net w10 ⟨4, 4, 3, 0⟩)
  clear y1 y2 p0 p1
  go_wp2_with fail
  refine HC.out.mono ?_
  rintro e w11 ⟨rfl, hb11⟩
  rw [show keyN ⟨4, 4, 3, 0⟩ = ⟨4, 3, 4, 0⟩ by decide]
  have HB11 := Lib.hid (HB10.out.trans (hb11.mono HB10.out.size))
  have HC4 := Lib.hid (key_net w11 ⟨6, 4, 3, 0⟩)
  clear hb11 HC y0 q0 q1 q2 q3
  go_wp2_with fail
  refine HC4.out.mono ?_
  rintro e w12 ⟨rfl, hb12⟩
  rw [show keyN ⟨6, 4, 3, 0⟩ = ⟨6, 4, 3, 0⟩ by decide]
  have HB12 := Lib.hid (HB11.out.trans (hb12.mono HB11.out.size))
  have hb8 : Below w.heap.size w w8 := HB5.out.trans (((show Below W5.heap.size W5 N1 by rw [HN1.out]; exact (Below.refl _ _).alloc (Nat.le_refl _) _).trans ((HB2.out.trans (HB28.out.mono HB2.out.size)).mono (by rw [HN1.out]; simp))).mono HB5.out.size)
  have HBF := Lib.hid (hb8.trans (HB12.out.mono hb8.size))
  have hfl := field_a 6 4 3 0
  clear hb12 HC4 hb8
  go_wp2
  go_ret
  exact ⟨rfl, HBF.out⟩
end Go.Proofs.Ytbfjacgfifecpaa
