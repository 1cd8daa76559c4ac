/- slipsticklaw11.awake. -/
import Derived.Test.YtbfjacgfifecpaaJNE
import Derived.Test.YtbfjacgfifecpaaSwJ
import Derived.Test.YtbfjacgfifecpaaJND
namespace Go.Proofs.Ytbfjacgfifecpaa
open Go.RowKit

/-- a net of some nodes, one port that comes in, one that goes out, written out -/
theorem netLit (w : World) (ns : List Node) (bi bo : List Int) (na nb : ByteArray) (csN csI csO : Array Value) (hN : csN.toList = (ns.map Node.cells).flatten) (hI : csI.toList = (bi.map fun x => [Value.int .i64 x]).flatten) (hO : csO.toList = (bo.map fun x => [Value.int .i64 x]).flatten)
    (hn : ns.length ≤ 1099511627776) (hi : bi.length ≤ 1099511627776) (ho : bo.length ≤ 1099511627776) (n1 n2 n3 : Nat) (h1 : n1 = ns.length) (h2 : n2 = bi.length) (h3 : n3 = bo.length) (W5 : World) (hW : W5 = ((((w.alloc (.cells csN 38)).alloc (.cells csI 3)).alloc (.cells #[.string na, .slice (some ⟨w.heap.size + 1, 0, none⟩) n2 n2] 53)).alloc (.cells csO 3)).alloc (.cells #[.string nb, .slice (some ⟨w.heap.size + 1 + 1 + 1, 0, none⟩) n3 n3] 53)) :
    NetV W5 (.agg #[.slice (some ⟨w.heap.size, 0, none⟩) n1 n1, .slice (some ⟨w.heap.size + 1 + 1, 0, none⟩) 1 1, .slice (some ⟨w.heap.size + 1 + 1 + 1 + 1, 0, none⟩) 1 1]) ns [⟨na, bi⟩] [⟨nb, bo⟩] ∧ Below w.heap.size w W5 ∧ W5.heap.size = w.heap.size + 1 + 1 + 1 + 1 + 1 := by
  subst h1 h2 h3
  obtain ⟨W1, hW1⟩ : ∃ W1, W1 = w.alloc (.cells csN 38) := ⟨_, rfl⟩
  have hs1 : W1.heap.size = w.heap.size + 1 := by rw [hW1]; simp
  have hn1 : Row kNode W1 (fun _ => False) (.slice (some ⟨w.heap.size, 0, none⟩) ns.length ns.length) ns := by rw [hW1]; exact lit_any kNode 38 w _ (fun _ h => h.elim) ns (ns.map Node.cells) _ hN (pairs_nodes _ _ _) hn
  have hb1 : Below w.heap.size w W1 := by rw [hW1]; exact (Below.refl _ _).alloc (Nat.le_refl _) _
  rw [← hW1] at hW
  obtain ⟨W2, hW2⟩ : ∃ W2, W2 = W1.alloc (.cells csI 3) := ⟨_, rfl⟩
  have hs2 : W2.heap.size = w.heap.size + 1 + 1 := by rw [hW2, World.size_alloc, hs1]
  have hn2 : Row kInt W2 (fun _ => False) (.slice (some ⟨W1.heap.size, 0, none⟩) bi.length bi.length) bi := by rw [hW2]; exact lit_any kInt 3 W1 _ (fun _ h => h.elim) bi _ _ hI (ints_pairs _ _ bi) hi
  have hb2 : Below W1.heap.size W1 W2 := by rw [hW2]; exact (Below.refl _ _).alloc (Nat.le_refl _) _
  rw [← hW2] at hW
  rw [hs1] at hn2
  obtain ⟨W3, hW3⟩ : ∃ W3, W3 = W2.alloc (.cells #[.string na, .slice (some ⟨w.heap.size + 1, 0, none⟩) bi.length bi.length] 53) := ⟨_, rfl⟩
  have hs3 : W3.heap.size = w.heap.size + 1 + 1 + 1 := by rw [hW3, World.size_alloc, hs2]
  have hn3 : Row kPort W3 (fun _ => False) (.slice (some ⟨W2.heap.size, 0, none⟩) 1 1) [⟨na, bi⟩] := by rw [hW3]; exact lit_any kPort 53 W2 _ (fun _ h => h.elim) [⟨na, bi⟩] [[.string na, .slice (some ⟨w.heap.size + 1, 0, none⟩) bi.length bi.length]] _ rfl (pairs_port _ _ _ hn2) (by simp)
  have hb3 : Below W2.heap.size W2 W3 := by rw [hW3]; exact (Below.refl _ _).alloc (Nat.le_refl _) _
  rw [← hW3] at hW
  obtain ⟨W4, hW4⟩ : ∃ W4, W4 = W3.alloc (.cells csO 3) := ⟨_, rfl⟩
  have hs4 : W4.heap.size = w.heap.size + 1 + 1 + 1 + 1 := by rw [hW4, World.size_alloc, hs3]
  have hn4 : Row kInt W4 (fun _ => False) (.slice (some ⟨W3.heap.size, 0, none⟩) bo.length bo.length) bo := by rw [hW4]; exact lit_any kInt 3 W3 _ (fun _ h => h.elim) bo _ _ hO (ints_pairs _ _ bo) ho
  have hb4 : Below W3.heap.size W3 W4 := by rw [hW4]; exact (Below.refl _ _).alloc (Nat.le_refl _) _
  rw [← hW4] at hW
  rw [hs3] at hn4
  have hs5 : W5.heap.size = w.heap.size + 1 + 1 + 1 + 1 + 1 := by rw [hW, World.size_alloc, hs4]
  have hn5 : Row kPort W5 (fun _ => False) (.slice (some ⟨W4.heap.size, 0, none⟩) 1 1) [⟨nb, bo⟩] := by rw [hW]; exact lit_any kPort 53 W4 _ (fun _ h => h.elim) [⟨nb, bo⟩] [[.string nb, .slice (some ⟨w.heap.size + 1 + 1 + 1, 0, none⟩) bo.length bo.length]] _ rfl (pairs_port _ _ _ hn4) (by simp)
  have hb5 : Below W4.heap.size W4 W5 := by rw [hW]; exact (Below.refl _ _).alloc (Nat.le_refl _) _
  rw [hs2] at hn3
  rw [hs4] at hn5
  refine ⟨⟨_, _, _, rfl, (((hn1.later hb2).later hb3).later hb4).later hb5, (hn3.later hb4).later hb5, hn5⟩, (((hb1.trans (hb2.mono (by omega))).trans (hb3.mono (by omega))).trans (hb4.mono (by omega))).trans (hb5.mono (by omega)), hs5⟩

def nodesS : List Node := [⟨0, 0, 0, 0⟩, ⟨1, 0, 0, 0⟩, ⟨2, 1, 0, 0⟩, ⟨2, 1, 0, 0⟩]
abbrev insS : List Port := [⟨a6, [1]⟩]
abbrev outsS : List Port := [⟨z6, [3]⟩]
def nodesS2 : List Node := [⟨1, 0, 0, 0⟩, ⟨2, 0, 0, 0⟩]
abbrev insS2 : List Port := [⟨a6, [0]⟩]
abbrev outsS2 : List Port := [⟨z6, [1]⟩]
def nodesS9 : List Node := [⟨9, 0, 0, 0⟩]
theorem dupS : dupB ((insS ++ outsS).map (·.name)) = false := dupA
theorem errS (b : Bool) : errP nodesS insS outsS b = if b = false then 9 else 0 := by
  have h1 : ¬ (262144 < nodesS.length ∨ 64 < insS.length + outsS.length) := by decide
  have h2 : ¬ (formedB nodesS insS outsS = false) := by decide
  have h3 : ¬ ((insS ++ outsS).any badName = true) := by simp [badName, name_a6, name_z6]
  have h4 : ¬ (dupB ((insS ++ outsS).map (·.name)) = true) := by rw [dupS]; decide
  have h5 : ¬ (homeB nodesS insS = false) := by decide
  rw [errP, if_neg h1, if_neg h2, if_neg h3, if_neg h4, if_neg h5]
theorem isLevS : IsLev nodesS [0, 0, 1, 1] := by
  refine ⟨rfl, fun i x hx => ?_⟩
  match i, hx with
  | 0, hx => injection hx with hx; subst hx; decide
  | 1, hx => injection hx with hx; subst hx; decide
  | 2, hx => injection hx with hx; subst hx; decide
  | 3, hx => injection hx with hx; subst hx; decide
  | i + 4, hx => simp [nodesS] at hx
theorem levS : LevOut nodesS insS outsS 0 [0, 0, 1, 1] := ⟨true, by rw [errS]; rfl, fun _ => ⟨_, isLevS⟩, fun h => by simp at h, fun _ => isLevS, fun h => absurd rfl h⟩
theorem levS9 : LevOut nodesS9 [] [] 2 [] := LevOut.err (by decide) fun b => by
  have h1 : ¬ (262144 < nodesS9.length ∨ 64 < ([] : List Port).length + ([] : List Port).length) := by decide
  have h2 : formedB nodesS9 [] [] = false := by decide
  rw [errP, if_neg h1, if_pos h2]
theorem inUS : InU nodesS := inU_of (formed_in (show formedB nodesS insS outsS = true by decide)).1
theorem rchS : IsRch nodesS (frC insS outsS) [false, true, false, true] := by
  have h := grow_is inUS (fr := frC insS outsS) (l := [false, true, false, true]) rfl (fun i => by
    match i with
    | 0 => decide
    | 1 => decide
    | 2 => decide
    | 3 => decide
    | i + 4 => simp [frC])
  rw [show grow nodesS (nodesS.length + 1) [false, true, false, true] = [false, true, false, true] by decide] at h
  exact h
theorem rchS2 : IsRch nodesS [2] [false, true, true, false] := by
  have h := grow_is inUS (fr := [2]) (l := [false, false, true, false]) rfl (fun i => by
    match i with
    | 0 => decide
    | 1 => decide
    | 2 => decide
    | 3 => decide
    | i + 4 => simp)
  rw [show grow nodesS (nodesS.length + 1) [false, false, true, false] = [false, true, true, false] by decide] at h
  exact h
theorem cntS11 : CntOut nodesS insS outsS 0 [false, true, false, true] := ⟨⟨_, levS⟩, fun _ => rchS, fun h => absurd rfl h⟩
theorem swpS : SwpOut nodesS insS outsS 0 2 nodesS2 insS2 outsS2 := ⟨⟨_, levS⟩, fun h => absurd rfl h, fun _ => ⟨_, rchS, by decide, by decide, by decide, by decide⟩⟩
theorem swpS9 : SwpOut nodesS9 [] [] 2 0 [] [] [] := ⟨⟨_, levS9⟩, fun _ => ⟨rfl, rfl, rfl, rfl⟩, fun h => by simp at h⟩
theorem conS2 : ConOut nodesS insS outsS 2 0 [1, 2] := ⟨0, ⟨_, levS⟩, fun h => absurd rfl h, fun _ h => absurd (by decide) h, fun _ _ => ⟨rfl, _, rchS2, by decide⟩⟩
theorem conS4 : ConOut nodesS insS outsS 4 3 [] := ⟨0, ⟨_, levS⟩, fun h => absurd rfl h, fun _ _ => ⟨rfl, rfl⟩, fun _ h => absurd h (by decide)⟩
theorem fitsS : Fits nodesS insS outsS := ⟨by decide, by decide, by decide, by decide, by decide, by decide⟩
theorem fitsS9 : Fits nodesS9 [] [] := ⟨by decide, by decide, by decide, by decide, by decide, by decide⟩

theorem NetV.parts {w : World} {v : Value} {nodes : List Node} {ins outs : List Port} (h : NetV w v nodes ins outs) : ∃ An cn Ai ci Ao co, v = .agg #[.slice An nodes.length cn, .slice Ai ins.length ci, .slice Ao outs.length co] := by
  obtain ⟨vn, vi, vo, rfl, h1, h2, h3⟩ := h
  obtain ⟨An, cn, rfl, -, -⟩ := h1.shape
  obtain ⟨Ai, ci, rfl, -, -⟩ := h2.shape
  obtain ⟨Ao, co, rfl, -, -⟩ := h3.shape
  exact ⟨_, _, _, _, _, _, rfl⟩
theorem NetV.free {w w' : World} {v : Value} {nodes : List Node} {ins outs : List Port} (h : NetV w v nodes ins outs) (hb : Below w.heap.size w w') : NetV w' v nodes ins outs := h.later hb
set_option maxHeartbeats 4000000 in
set_option maxRecDepth 100000 in
theorem awake11 (w : World) : Calls Try.prog 37 #[] w fun e w' => e = .returned (.bool true) ∧ Below w.heap.size w w' := by
  obtain ⟨W5, hW5⟩ : ∃ W5, W5 = ((((w.alloc (.cells #[.int .i64 0, .int .i64 0, .int .i64 0, .int .i64 0, .int .i64 1, .int .i64 0, .int .i64 0, .int .i64 0, .int .i64 2, .int .i64 1, .int .i64 0, .int .i64 0, .int .i64 2, .int .i64 1, .int .i64 0, .int .i64 0] 38)).alloc (.cells #[.int .i64 1] 3)).alloc (.cells #[.string ⟨#[97]⟩, .slice (some ⟨w.heap.size + 1, 0, none⟩) 1 1] 53)).alloc (.cells #[.int .i64 3] 3)).alloc (.cells #[.string ⟨#[122]⟩, .slice (some ⟨w.heap.size + 1 + 1 + 1, 0, none⟩) 1 1] 53) := ⟨_, rfl⟩
  obtain ⟨hn5, hb5, hs5⟩ := netLit w nodesS [1] [3] a6 z6 _ _ _ rfl rfl rfl (by decide) (by decide) (by decide) 4 1 1 rfl rfl rfl W5 hW5
  have HW5 := Lib.hid hW5
  have hc := hn5.boxV
  have HB5 := Lib.hid hb5
  have HS5 := Lib.hid hs5
  obtain ⟨N1, hN1⟩ : ∃ N1, N1 = W5.alloc (netBox (.slice (some ⟨w.heap.size, 0, none⟩) 4 4) (.slice (some ⟨w.heap.size + 1 + 1, 0, none⟩) 1 1) (.slice (some ⟨w.heap.size + 1 + 1 + 1 + 1, 0, none⟩) 1 1)) := ⟨_, rfl⟩
  have hsn : N1.heap.size = W5.heap.size + 1 := by rw [hN1]; simp
  rw [← hN1, ← hsn, hs5] at hc
  have HC1 := Lib.hid hc
  have HN1 := Lib.hid hN1
  obtain ⟨-, hn1, -⟩ := hc N1 (Below.refl _ _)
  have HC := Lib.hid (sweep_net N1 _ nodesS insS outsS hn1 fitsS (by decide))
  clear hW5 hn5 hb5 hc hs5 hn1 hN1
  go_enter Try.func37, Try.ntmps37
  go_wp2_with fail
  rw [← HW5.out]
  go_wp2_with fail
  rw [← HN1.out]
  refine HC.out.mono ?_
  rintro e w1 ⟨v1, m1, x1, n1, i1, o1, rfl, hv1, hs1, hb1⟩
  obtain ⟨rfl, rfl, rfl, rfl, rfl⟩ := hs1.unique swpS
  obtain ⟨A1, c1, A2, c2, A3, c3, hp1⟩ := hv1.parts
  replace hp1 : v1 = .agg #[.slice A1 2 c1, .slice A2 1 c2, .slice A3 1 c3] := hp1
  subst hp1
  have HV1 := Lib.hid hv1
  have HB1 := Lib.hid hb1
  obtain ⟨N2, hN2⟩ : ∃ N2, N2 = w1.alloc (.cells #[.slice A1 2 c1, .slice A2 1 c2, .slice A3 1 c3] 25) := ⟨_, rfl⟩
  have hb2 : Below w1.heap.size w1 N2 := by rw [hN2]; exact (Below.refl _ _).alloc (Nat.le_refl _) _
  have HC2 := Lib.hid (show ∀ W, Below (w1.heap.size + 1) N2 W → _ from by rw [hN2]; exact hv1.boxV)
  have HB2 := Lib.hid (hb1.trans (hb2.mono hb1.size))
  have HS2 := Lib.hid (show N2.heap.size = w1.heap.size + 1 by rw [hN2]; simp)
  have HN2 := Lib.hid hN2
  clear HC hs1 hb1 hb2 hv1 hN2
  obtain ⟨⟨z0, z1, z2⟩, hn1, -⟩ := HC1.out N2 HB2.out
  have HC := Lib.hid (count_net N2 _ _ _ _ hn1 fitsS (by decide))
  clear hn1
  rw [HN2.out] at z0 z1 z2
  go_wp2_with fail
  rw [← HN2.out]
  refine HC.out.mono ?_
  rintro e w3 ⟨v3, l3, x3, rfl, hr3, hl3, hb3⟩
  obtain ⟨rfl, rfl⟩ := hl3.unique cntS11
  obtain ⟨A4, c4, rfl, -, -⟩ := hr3.shape
  have HR3 := Lib.hid hr3
  have HB23 := Lib.hid hb3
  have HB3 := Lib.hid (HB2.out.trans (hb3.mono HB2.out.size))
  clear HC hl3 hr3 hb3 z0 z1 z2
  obtain ⟨⟨z0, z1, z2⟩, hn1, -⟩ := HC1.out w3 HB3.out
  have HC := Lib.hid (cone_net w3 _ _ _ _ hn1 fitsS 2 (by decide))
  clear hn1
  go_wp2_with fail
  refine HC.out.mono ?_
  rintro e w4 ⟨v4, l4, x4, rfl, hr4, hl4, hb4⟩
  obtain ⟨rfl, rfl⟩ := hl4.unique conS2
  obtain ⟨A5, c5, rfl, -, -⟩ := hr4.shape
  have HR4 := Lib.hid hr4
  have HB34 := Lib.hid hb4
  have HB4 := Lib.hid (HB3.out.trans (hb4.mono HB3.out.size))
  clear HC hl4 hr4 hb4 z0 z1 z2
  obtain ⟨⟨z0, z1, z2⟩, hn1, -⟩ := HC1.out w4 HB4.out
  have HC := Lib.hid (cone_net w4 _ _ _ _ hn1 fitsS 4 (by decide))
  clear hn1
  go_wp2_with fail
  refine HC.out.mono ?_
  rintro e w5 ⟨v5, l5, x5, rfl, hr5, hl5, hb5⟩
  obtain ⟨rfl, rfl⟩ := hl5.unique conS4
  obtain ⟨A6, c6, rfl, -, -⟩ := hr5.shape
  have HB45 := Lib.hid hb5
  have HB5' := Lib.hid (HB4.out.trans (hb5.mono HB4.out.size))
  clear HC hl5 hr5 hb5 z0 z1 z2
  obtain ⟨w6, hw6⟩ : ∃ w6, w6 = w5.alloc (.cells #[.int .i64 9, .int .i64 0, .int .i64 0, .int .i64 0] 38) := ⟨_, rfl⟩
  have hlit := lit_any kNode 38 w5 (fun _ => False) (fun _ h => h.elim) nodesS9 (nodesS9.map Node.cells) #[.int .i64 9, .int .i64 0, .int .i64 0, .int .i64 0] rfl (pairs_nodes _ _ _) (by decide)
  rw [← hw6] at hlit
  have hb56 : Below w5.heap.size w5 w6 := by rw [hw6]; exact (Below.refl _ _).alloc (Nat.le_refl _) _
  have HC := Lib.hid (sweep_net w6 (.agg #[.slice (some ⟨w5.heap.size, 0, none⟩) 1 1, .slice none 0 0, .slice none 0 0]) nodesS9 [] [] ⟨_, _, _, rfl, hlit, nilRow _ _ _, nilRow _ _ _⟩ fitsS9 (by decide))
  have HW6 := Lib.hid hw6
  have HB56 := Lib.hid hb56
  have HB6 := Lib.hid (HB5'.out.trans (hb56.mono HB5'.out.size))
  clear hlit hw6 hb56
  go_wp2_with fail
  rw [← HW6.out]
  refine HC.out.mono ?_
  rintro e w7 ⟨v7, m7, x7, n7, i7, o7, rfl, hv7, hs7, hb7⟩
  obtain ⟨rfl, rfl, rfl, rfl, rfl⟩ := hs7.unique swpS9
  obtain ⟨A7, c7, A8, c8, A9, c9, hp7⟩ := hv7.parts
  replace hp7 : v7 = .agg #[.slice A7 0 c7, .slice A8 0 c8, .slice A9 0 c9] := hp7
  subst hp7
  obtain ⟨w8, hw8⟩ : ∃ w8, w8 = w7.alloc (.cells #[.slice A7 0 c7, .slice A8 0 c8, .slice A9 0 c9] 25) := ⟨_, rfl⟩
  have hb78 : Below w7.heap.size w7 w8 := by rw [hw8]; exact (Below.refl _ _).alloc (Nat.le_refl _) _
  have hb58 : Below w5.heap.size w5 w8 := (HB56.out.trans (hb7.mono HB56.out.size)).trans (hb78.mono (Nat.le_trans HB56.out.size hb7.size))
  have hb28 : Below N2.heap.size N2 w8 := (((HB23.out.trans (HB34.out.mono HB23.out.size)).trans (HB45.out.mono (Nat.le_trans HB23.out.size HB34.out.size))).trans (hb58.mono (Nat.le_trans HB23.out.size (Nat.le_trans HB34.out.size HB45.out.size))))
  have hb48 : Below w4.heap.size w4 w8 := HB45.out.trans (hb58.mono HB45.out.size)
  have hb38 : Below w3.heap.size w3 w8 := HB34.out.trans (hb48.mono HB34.out.size)
  have hb08 : Below N1.heap.size N1 w8 := HB2.out.trans (hb28.mono HB2.out.size)
  have HW8 := Lib.hid hw8
  have HS8 := Lib.hid (show w8.heap.size = w7.heap.size + 1 by rw [hw8]; simp)
  obtain ⟨w9, hw9⟩ : ∃ w9, w9 = ((((w8.alloc (.cells #[.int .i64 1, .int .i64 0, .int .i64 0, .int .i64 0, .int .i64 2, .int .i64 0, .int .i64 0, .int .i64 0] 38)).alloc (.cells #[.int .i64 0] 3)).alloc (.cells #[.string ⟨#[97]⟩, .slice (some ⟨w8.heap.size + 1, 0, none⟩) 1 1] 53)).alloc (.cells #[.int .i64 1] 3)).alloc (.cells #[.string ⟨#[122]⟩, .slice (some ⟨w8.heap.size + 1 + 1 + 1, 0, none⟩) 1 1] 53) := ⟨_, rfl⟩
  obtain ⟨hn9, hb9, hs9⟩ := netLit w8 nodesS2 [0] [1] a6 z6 _ _ _ rfl rfl rfl (by decide) (by decide) (by decide) 2 1 1 rfl rfl rfl w9 hw9
  have HW9 := Lib.hid hw9
  obtain ⟨⟨y0, y1, y2⟩, hvs, -⟩ := HC2.out w8 (by rw [← HS2.out]; exact hb28)
  have HC3 := Lib.hid (sameNet_ref w9 _ _ nodesS2 nodesS2 insS2 outsS2 insS2 outsS2 (hvs.later hb9) hn9 (by decide) (by decide) (by decide) (by decide))
  have HB9 := Lib.hid hb9
  have HR38 := Lib.hid (HR3.out.later hb38)
  have HR48 := Lib.hid (HR4.out.later hb48)
  have HB08 := Lib.hid hb08
  clear hs7 hv7 hb7 hb78 hb58 hb28 hb48 hb38 hb08 hw8 hw9 hn9 hb9 hs9 hvs HC
  clear HC1 HC2 HB1 HB2 HB3 HB4 HB5' HB6 HB23 HB34 HB45 HB56 HR3 HR4 HV1
  rw [HW8.out] at y0 y1 y2
  go_wp2_with fail
  rw [← HW8.out, ← HS8.out, ← HW9.out]
  refine HC3.out.mono ?_
  rintro e w10 ⟨rfl, hb10⟩
  rw [show sameN nodesS2 nodesS2 insS2 insS2 outsS2 outsS2 = true by simp [sameN]]
  have HB10 := Lib.hid (HB9.out.trans (hb10.mono HB9.out.size))
  clear hb10 HC3 y0 y1 y2
  have hr310 := HR38.out.later HB10.out
  obtain ⟨b, off, rfl, q0⟩ := hr310.bool_at (i := 0) (by decide)
  obtain ⟨b', off', hq1, q1⟩ := hr310.bool_at (i := 1) (by decide)
  obtain ⟨b'', off'', hq2, q2⟩ := hr310.bool_at (i := 2) (by decide)
  obtain ⟨b''', off''', hq3, q3⟩ := hr310.bool_at (i := 3) (by decide)
  simp only [Option.some.injEq, Addr.mk.injEq, and_true] at hq1 hq2 hq3
  obtain ⟨rfl, rfl⟩ := hq1
  obtain ⟨rfl, rfl⟩ := hq2
  obtain ⟨rfl, rfl⟩ := hq3
  simp only [List.getElem_cons_zero, List.getElem_cons_succ, Nat.add_zero] at q0 q1 q2 q3
  obtain ⟨w11, hw11⟩ : ∃ w11, w11 = w10.alloc (.cells #[.int .i64 1, .int .i64 2] 3) := ⟨_, rfl⟩
  have hlit11 := lit_any kInt 3 w10 (fun _ => False) (fun _ h => h.elim) [1, 2] [[.int .i64 1], [.int .i64 2]] #[.int .i64 1, .int .i64 2] rfl (ints_pairs _ _ [1, 2]) (by decide)
  rw [← hw11] at hlit11
  have hb11 : Below w10.heap.size w10 w11 := by rw [hw11]; exact (Below.refl _ _).alloc (Nat.le_refl _) _
  have HC := Lib.hid (ints_same w11 _ _ [1, 2] ((HR48.out.later HB10.out).later hb11) hlit11 (by decide))
  have HW11 := Lib.hid hw11
  have HB11 := Lib.hid (HB10.out.trans (hb11.mono HB10.out.size))
  clear hlit11 hb11 hw11 hr310
  go_wp2_with fail
  rw [← HW11.out]
  refine HC.out.mono ?_
  rintro e w12 ⟨rfl, hb12⟩
  have hb8 : Below w.heap.size w w8 := HB5.out.trans ((show Below W5.heap.size W5 w8 from (show Below W5.heap.size W5 N1 by rw [HN1.out]; exact (Below.refl _ _).alloc (Nat.le_refl _) _).trans (HB08.out.mono (by rw [HN1.out]; simp))).mono HB5.out.size)
  have HB12 := Lib.hid (hb8.trans ((HB11.out.trans (hb12.mono HB11.out.size)).mono hb8.size))
  clear hb8
  clear hb12 HC q0 q1 q2 q3
  go_wp2
  go_ret
  exact ⟨rfl, HB12.out⟩
end Go.Proofs.Ytbfjacgfifecpaa
