/- slipsticklaw06.NetNodes: the walk. -/
import Derived.Test.YtbfjacgfifecpaaNTells
namespace Go.Proofs.Ytbfjacgfifecpaa
open Go.RowKit

theorem uses_both (w : World) (x : Node) (v u : Value) (hv : Row kInt w (fun _ => False) v (usesR x)) (hu : Row kInt w (fun _ => False) u (usesR x)) : Calls Try.prog 21 #[v, u] w fun e w' => e = .returned (.bool true) ∧ Below w.heap.size w w' :=
  ints_same w v u _ hv hu (by have : (usesR x).length ≤ 3 := by simp [usesR]; omega
                              omega)

theorem clone_V {w : World} {B : Nat} {vn vi vo : Value} {nodes : List Node} {ins outs : List Port} (h1 : Own kNode 38 w none B vn nodes) (h2 : Row kPort w (fun i => vn.ownBlock = some i) vi ins) (h3 : Row kPort w (fun i => vn.ownBlock = some i) vo outs) : NetV w (.agg #[vn, vi, vo]) nodes ins outs :=
  ⟨_, _, _, rfl, (h1.row (by decide) (Nat.le_refl _)).mono (fun _ _ h => h.elim), h2.mono (fun _ _ h => h.elim), h3.mono (fun _ _ h => h.elim)⟩
theorem sameN_self (n : List Node) (i o : List Port) : sameN n n i i o o = true := by simp [sameN]

set_option maxHeartbeats 4000000 in
set_option maxRecDepth 100000 in
theorem netNodes_walk (w : World) (x : Node) (s : ByteArray) (v u : Value) (nodes nodes2 : List Node) (ins outs ins2 outs2 : List Port) (hs : s.size ≤ 140737488355328) (hN : NetV w v nodes ins outs) (hw : ∀ q ∈ ins ++ outs, q.bits.length + q.name.size ≤ 281474976710656)
    (hM : NetV w u nodes2 ins2 outs2) (hw2 : ∀ q ∈ ins2 ++ outs2, q.bits.length + q.name.size ≤ 281474976710656) :
    Calls Try.prog 4 #[nodeV x, .string s, v, u] w fun e w' => e = .returned (.bool true) ∧ Below w.heap.size w w' := by
  obtain ⟨xk, xa, xb, xc⟩ := x
  have hb0 : Below w.heap.size w (w.alloc (.cells #[.int .i64 xk, .int .i64 xa, .int .i64 xb, .int .i64 xc] 38)) := (Below.refl _ _).alloc (Nat.le_refl _) _
  have hs0 : (w.alloc (.cells #[.int .i64 xk, .int .i64 xa, .int .i64 xb, .int .i64 xc] 38)).heap.size = w.heap.size + 1 := by simp
  obtain ⟨An, cn, Ai, ci, Ao, co, Bn, dn, Bi, di, Bo, eo, rfl, rfl, hbox⟩ := (hN.later hb0).boxes (hM.later hb0)
  obtain ⟨w0, hw0⟩ : ∃ w0, w0 = ((w.alloc (.cells #[.int .i64 xk, .int .i64 xa, .int .i64 xb, .int .i64 xc] 38)).alloc (netBox (.slice An nodes.length cn) (.slice Ai ins.length ci) (.slice Ao outs.length co))).alloc (netBox (.slice Bn nodes2.length dn) (.slice Bi ins2.length di) (.slice Bo outs2.length eo)) := ⟨_, rfl⟩
  have hsz : w0.heap.size = w.heap.size + 3 := by rw [hw0]; simp
  rw [← hw0, hs0] at hbox
  have hall : ∀ W, Below w0.heap.size w0 W → (W.cell? ⟨w.heap.size, 0, none⟩ = some (.int .i64 xk) ∧ W.cell? ⟨w.heap.size, 1, none⟩ = some (.int .i64 xa) ∧ W.cell? ⟨w.heap.size, 2, none⟩ = some (.int .i64 xb) ∧ W.cell? ⟨w.heap.size, 3, none⟩ = some (.int .i64 xc)) ∧
      (W.cell? ⟨w.heap.size + 1, 0, none⟩ = some (.slice An nodes.length cn) ∧ W.cell? ⟨w.heap.size + 1, 1, none⟩ = some (.slice Ai ins.length ci) ∧ W.cell? ⟨w.heap.size + 1, 2, none⟩ = some (.slice Ao outs.length co)) ∧
      (W.cell? ⟨w.heap.size + 1 + 1, 0, none⟩ = some (.slice Bn nodes2.length dn) ∧ W.cell? ⟨w.heap.size + 1 + 1, 1, none⟩ = some (.slice Bi ins2.length di) ∧ W.cell? ⟨w.heap.size + 1 + 1, 2, none⟩ = some (.slice Bo outs2.length eo)) ∧
      NetV W (.agg #[.slice An nodes.length cn, .slice Ai ins.length ci, .slice Ao outs.length co]) nodes ins outs ∧ NetV W (.agg #[.slice Bn nodes2.length dn, .slice Bi ins2.length di, .slice Bo outs2.length eo]) nodes2 ins2 outs2 ∧ Row kNode W (fun _ => False) (.slice An nodes.length cn) nodes ∧ Below w.heap.size w W := fun W hW => by
    obtain ⟨h1, h2, ⟨r0, r1, r2⟩, ⟨s0, s1, s2⟩, hb⟩ := hbox W (hW.mono (by omega))
    have hcc : ∀ j, W.cell? ⟨w.heap.size, j, none⟩ = (#[Value.int .i64 xk, .int .i64 xa, .int .i64 xb, .int .i64 xc] : Array Value)[j]? := fun j => by
      rw [hb.cell (p := ⟨w.heap.size, j, none⟩) (by simp)]
      exact World.cell?_alloc_new _ _ _ j
    exact ⟨⟨hcc 0, hcc 1, hcc 2, hcc 3⟩, h1, h2, ⟨_, _, _, rfl, r0, r1, r2⟩, ⟨_, _, _, rfl, s0, s1, s2⟩, r0, hb0.trans (hb.mono (by omega))⟩
  have HALL := Lib.hid hall
  have HW0 := Lib.hid hw0
  have HWT := Lib.hid hw
  have HWT2 := Lib.hid hw2
  have HSS := Lib.hid hs
  clear hN hM hbox hs0 hall hw0 hw hw2 hsz hb0
  go_enter Try.func4, Try.ntmps4
  go_wp2_with fail
  rw [← HW0.out]
  refine (awake06 w0).mono ?_
  rintro e w1 ⟨rfl, hb1⟩
  have HB1 := Lib.hid hb1
  obtain ⟨-, ⟨z0, z1, z2⟩, -, hn, -, -, -⟩ := HALL.out _ hb1
  have hl : Calls Try.prog 15 #[.agg #[.slice An nodes.length cn, .slice Ai ins.length ci, .slice Ao outs.length co], .int .i64 60] w1 fun e w' => e = .returned (.bool (largeB nodes ins outs 60)) ∧ Below w1.heap.size w1 w' := large_ref w1 _ nodes ins outs 60 hn HWT.out
  have HC := Lib.hid hl
  clear hb1 hn hl HW0
  go_wp2_with fail
  refine HC.out.mono ?_
  rintro e w2 ⟨rfl, hb2⟩
  have HB2 := Lib.hid (HB1.out.trans (hb2.mono HB1.out.size))
  clear hb2 HC z0 z1 z2
  cases hL : largeB nodes ins outs 60 with
  | true =>
    have HBW := Lib.hid (HALL.out _ HB2.out).2.2.2.2.2.2
    clear hL
    go_wp2
    go_ret
    exact ⟨rfl, HBW.out⟩
  | false =>
    have HF := Lib.hid (fits_of hL)
    have hn60 := (small_of hL).1
    have HN60 := Lib.hid hn60
    clear hL hn60
    obtain ⟨-, -, ⟨z0, z1, z2⟩, -, hn, -, -⟩ := HALL.out _ HB2.out
    have hl : Calls Try.prog 15 #[.agg #[.slice Bn nodes2.length dn, .slice Bi ins2.length di, .slice Bo outs2.length eo], .int .i64 60] w2 fun e w' => e = .returned (.bool (largeB nodes2 ins2 outs2 60)) ∧ Below w2.heap.size w2 w' := large_ref w2 _ nodes2 ins2 outs2 60 hn HWT2.out
    have HC := Lib.hid hl
    clear hn hl
    go_wp2_with fail
    refine HC.out.mono ?_
    rintro e w3 ⟨rfl, hb3⟩
    have HB3 := Lib.hid (HB2.out.trans (hb3.mono HB2.out.size))
    have HBW := Lib.hid (HALL.out _ HB3.out).2.2.2.2.2.2
    clear hb3 HC z0 z1 z2
    cases hL : largeB nodes2 ins2 outs2 60 with
    | true =>
      clear hL
      go_wp2
      go_ret
      exact ⟨rfl, HBW.out⟩
    | false =>
      clear hL
      by_cases hbig : 200 < s.size
      · have hd : decide (200 < (s.size : Int)) = true := decide_eq_true (by omega)
        go_wp2
        go_ret
        exact ⟨rfl, HBW.out⟩
      · have hd : decide (200 < (s.size : Int)) = false := decide_eq_false (by omega)
        have hs200 : s.size ≤ 1099511627776 := by omega
        obtain ⟨w4, hw4⟩ : ∃ w4, w4 = w3.alloc zero8 := ⟨_, rfl⟩
        have hx4 : Below w3.heap.size w3 w4 := by rw [hw4]; exact (Below.refl _ _).alloc (Nat.le_refl _) _
        have hc0 : CntS w4 w3.heap.size [] := fun k hk => by rw [hw4]; exact zero8_cell w3 k hk
        have hs4 : w4.heap.size = w3.heap.size + 1 := by rw [hw4]; simp
        obtain ⟨-, ⟨z0, z1, z2⟩, -, -, -, -, -⟩ := HALL.out _ (HB3.out.trans (hx4.mono HB3.out.size))
        have HC0 := Lib.hid hc0
        have HX4 := Lib.hid hx4
        have HW4 := Lib.hid hw4
        have HS4 := Lib.hid hs4
        have HS200 := Lib.hid hs200
        rw [hw4] at z0 z1 z2
        have hn60 := HN60.out
        clear hbig hw4 hx4 hc0 hs4 hs200
        go_wp2_with fail
        rw [← HW4.out]
        clear z0 z1 z2
        go_loopw [11, 29] (fun xv iv wr => ∃ i : Nat, iv = .int .i64 i ∧ i ≤ nodes.length ∧ Hid (CntS wr w3.heap.size (nodes.take i)) ∧ Hid (Below w3.heap.size w3 wr) ∧ Hid (w3.heap.size < wr.heap.size)) (fun xv iv _ => nodes.length - (intOf iv).toNat)
        case atStart => exact ⟨0, rfl, Nat.zero_le _, HC0, HX4, Lib.hid (by have := HS4.out; omega)⟩
        case round =>
          obtain ⟨i, rfl, hi, HC, HB, HLT⟩ := hrel
          have hszr := HLT.out
          obtain ⟨-, ⟨z0, z1, z2⟩, -, -, -, hrn, -⟩ := HALL.out _ (HB3.out.trans (HB.out.mono HB3.out.size))
          by_cases hlt : i < nodes.length
          · obtain ⟨b, off, rfl, x0, x1, x2, x3⟩ := hrn.node_at hlt
            have HT := Lib.hid (List.take_succ_eq_append_getElem hlt)
            obtain ⟨y, hyy⟩ : ∃ y, nodes[i] = y := ⟨_, rfl⟩
            rw [hyy] at x0 x1 x2 x3 HT
            clear hyy hrn
            obtain ⟨yk, ya, yb, yc⟩ := y
            dsimp only at x0 x1 x2 x3
            obtain ⟨o, ho⟩ : ∃ o : Obj, o = .cells #[.int .i64 yk, .int .i64 ya, .int .i64 yb, .int .i64 yc] 38 := ⟨_, rfl⟩
            have hbx : Below wr.heap.size wr (wr.alloc o) := (Below.refl _ _).alloc (Nat.le_refl _) _
            have hcx := HC.out.below hbx hszr
            have HBN := Lib.hid (HB.out.trans (hbx.mono HB.out.size))
            have HLN := Lib.hid (show w3.heap.size < (wr.alloc o).heap.size by simp; omega)
            have hle : (nodes.take i).length ≤ nodes.length := by rw [List.length_take]; omega
            subst ho
            by_cases hk : 0 ≤ yk ∧ yk < 8
            · obtain ⟨k, rfl⟩ := Int.eq_ofNat_of_zero_le hk.1
              have hk8 : k < 8 := by omega
              obtain ⟨c0, c1⟩ := hcx k hk8
              have hcl := cntAt_le (nodes.take i) k
              have w1 : IntKind.i64.wrap (cntAt (nodes.take i) k + 1) = cntAt (nodes.take i) k + 1 := IntWalk.i64_in _ (by omega)
              have hst := HC.out.step (x := ⟨k, ya, yb, yc⟩) hk8 rfl
              have hbs := HB.out.setCell (p := ⟨w3.heap.size, k, none⟩) (by simp) (.int .i64 (cntAt (nodes.take i) k + 1))
              have hsz2 : (wr.setCell ⟨w3.heap.size, k, none⟩ (.int .i64 (cntAt (nodes.take i) k + 1))).heap.size = wr.heap.size := by simp
              have HCN := Lib.hid (hst.below ((Below.refl _ _).alloc (Nat.le_refl _) (.cells #[.int .i64 k, .int .i64 ya, .int .i64 yb, .int .i64 yc] 38)) (by rw [hsz2]; exact hszr))
              have HBS := Lib.hid (hbs.alloc (by rw [hsz2]; omega) (.cells #[.int .i64 k, .int .i64 ya, .int .i64 yb, .int .i64 yc] 38))
              clear hst hbs hsz2
              clear hcx hk hbx hcl hle
              go_wp2
              refine ⟨⟨i + 1, by go_num, by omega, by rw [HT.out]; exact HCN, HBS, Lib.hid (by simp; omega)⟩, ?_⟩
              simp [intOf]; omega
            · have HCN := Lib.hid (hcx.skip (x := ⟨yk, ya, yb, yc⟩) (show yk < 0 ∨ 8 ≤ yk by omega))
              clear hcx hbx hle
              rcases (show yk < 0 ∨ 8 ≤ yk by omega) with h | h
              · have hd : decide (0 ≤ yk) = false := decide_eq_false (by omega)
                clear hk
                go_wp2
                refine ⟨⟨i + 1, by go_num, by omega, by rw [HT.out]; exact HCN, HBN, HLN⟩, ?_⟩
                simp [intOf]; omega
              · have hd : decide (yk < 8) = false := decide_eq_false (by omega)
                have hd2 : decide (0 ≤ yk) = true := decide_eq_true (by omega)
                clear hk
                go_wp2
                refine ⟨⟨i + 1, by go_num, by omega, by rw [HT.out]; exact HCN, HBN, HLN⟩, ?_⟩
                simp [intOf]; omega
          · obtain rfl : i = nodes.length := by omega
            rw [List.take_length] at HC
            have HBR := Lib.hid (HB3.out.trans (HB.out.mono HB3.out.size))
            have hszw := hszr
            have hcs : ∀ W, Below wr.heap.size wr W → (W.cell? ⟨w3.heap.size, 0, none⟩ = some (.int .i64 (cntAt nodes 0)) ∧ W.cell? ⟨w3.heap.size, 1, none⟩ = some (.int .i64 (cntAt nodes 1)) ∧ W.cell? ⟨w3.heap.size, 2, none⟩ = some (.int .i64 (cntAt nodes 2)) ∧ W.cell? ⟨w3.heap.size, 3, none⟩ = some (.int .i64 (cntAt nodes 3)) ∧
                W.cell? ⟨w3.heap.size, 4, none⟩ = some (.int .i64 (cntAt nodes 4)) ∧ W.cell? ⟨w3.heap.size, 5, none⟩ = some (.int .i64 (cntAt nodes 5)) ∧ W.cell? ⟨w3.heap.size, 6, none⟩ = some (.int .i64 (cntAt nodes 6)) ∧ W.cell? ⟨w3.heap.size, 7, none⟩ = some (.int .i64 (cntAt nodes 7))) ∧
                (W.cell? ⟨w.heap.size, 0, none⟩ = some (.int .i64 xk) ∧ W.cell? ⟨w.heap.size, 1, none⟩ = some (.int .i64 xa) ∧ W.cell? ⟨w.heap.size, 2, none⟩ = some (.int .i64 xb) ∧ W.cell? ⟨w.heap.size, 3, none⟩ = some (.int .i64 xc)) ∧
                (W.cell? ⟨w.heap.size + 1, 0, none⟩ = some (.slice An nodes.length cn) ∧ W.cell? ⟨w.heap.size + 1, 1, none⟩ = some (.slice Ai ins.length ci) ∧ W.cell? ⟨w.heap.size + 1, 2, none⟩ = some (.slice Ao outs.length co)) ∧
                (W.cell? ⟨w.heap.size + 1 + 1, 0, none⟩ = some (.slice Bn nodes2.length dn) ∧ W.cell? ⟨w.heap.size + 1 + 1, 1, none⟩ = some (.slice Bi ins2.length di) ∧ W.cell? ⟨w.heap.size + 1 + 1, 2, none⟩ = some (.slice Bo outs2.length eo)) := fun W hW => by
              have hc := HC.out.below hW hszw
              obtain ⟨k1, k2, k3, -⟩ := HALL.out _ (HBR.out.trans (hW.mono HBR.out.size))
              exact ⟨⟨(hc 0 (by omega)).1, (hc 1 (by omega)).1, (hc 2 (by omega)).1, (hc 3 (by omega)).1, (hc 4 (by omega)).1, (hc 5 (by omega)).1, (hc 6 (by omega)).1, (hc 7 (by omega)).1⟩, k1, k2, k3⟩
            have HCS := Lib.hid hcs
            have HY0 := Lib.hid (hcs wr (Below.refl _ _))
            have HY1 := Lib.hid (hcs wr.drew (Below.refl _ _).drew)
            have HNA := Lib.hid (fun W (hW : Below wr.heap.size wr W) => (HALL.out _ (HBR.out.trans (hW.mono HBR.out.size))).2.2.2.1)
            have HNB := Lib.hid (fun W (hW : Below wr.heap.size wr W) => (HALL.out _ (HBR.out.trans (hW.mono HBR.out.size))).2.2.2.2.1)
            have HU1 := Lib.hid (uses_net wr.drew (fun _ => False) (fun _ h => h.elim) ⟨xk, xa, xb, xc⟩)
            have HU2 := Lib.hid (fun W => uses_ref W (fun _ => False) (fun _ h => h.elim) ⟨xk, xa, xb, xc⟩)
            have HCNT := Lib.hid (show ∀ W, Below wr.heap.size wr W → Calls Try.prog 27 #[.agg #[.slice An nodes.length cn, .slice Ai ins.length ci, .slice Ao outs.length co]] W fun e w' => e = .returned (.agg #[.int .i64 (cntAt nodes 0), .int .i64 (cntAt nodes 1), .int .i64 (cntAt nodes 2), .int .i64 (cntAt nodes 3), .int .i64 (cntAt nodes 4), .int .i64 (cntAt nodes 5), .int .i64 (cntAt nodes 6), .int .i64 (cntAt nodes 7)]) ∧ Below W.heap.size W w' from fun W hW => counts_net W _ nodes ins outs (HNA.out W hW) HF.out.nl)
            have HSA := Lib.hid (fun W hW => same_net W _ _ nodes nodes2 ins outs ins2 outs2 (HNA.out W hW) (HNB.out W hW) HF.out.nl HF.out.il HF.out.ol HF.out.bits)
            have HSB := Lib.hid (fun W hW => sameNet_ref W _ _ nodes nodes2 ins outs ins2 outs2 (HNA.out W hW) (HNB.out W hW) HF.out.nl HF.out.il HF.out.ol HF.out.bits)
            have HCL := Lib.hid (fun W hW => clone_net W _ nodes ins outs (HNA.out W hW) HF.out.nl HF.out.il HF.out.ol HF.out.bits)
            have HSC := Lib.hid (fun W u hW (hu : NetV W u nodes ins outs) => sameNet_ref W u _ nodes nodes ins outs ins outs hu (HNA.out W hW) HF.out.nl HF.out.il HF.out.ol HF.out.bits)
            have heq := eq8 (cntAt nodes 0) (cntAt nodes 1) (cntAt nodes 2) (cntAt nodes 3) (cntAt nodes 4) (cntAt nodes 5) (cntAt nodes 6) (cntAt nodes 7)
            obtain ⟨nb, hnb⟩ : ∃ nb, nameB s = nb := ⟨_, rfl⟩
            have HNM := Lib.hid (show ∀ W, Calls Try.prog 25 #[.string s] W fun e W' => e = .returned (.bool nb) ∧ Below W.heap.size W W' from fun W => by rw [← hnb]; exact name_net W s HS200.out)
            have HNR := Lib.hid (show ∀ W, Calls Try.prog 26 #[.string s] W fun e W' => e = .returned (.bool nb) ∧ W = W' from fun W => by rw [← hnb]; exact name_ref W s HS200.out)
            obtain ⟨sb, hsb⟩ : ∃ sb, sameN nodes nodes2 ins ins2 outs outs2 = sb := ⟨_, rfl⟩
            simp only [hsb] at HSA HSB
            simp only [sameN_self] at HSC
            clear hrn hlt hi hcs hszw z0 z1 z2 hnb hsb
            go_wp2_with fail
            go_region_held3 (fun W => (W.cell? ⟨w3.heap.size, 0, none⟩ = some (.int .i64 (cntAt nodes 0)) ∧ W.cell? ⟨w3.heap.size, 1, none⟩ = some (.int .i64 (cntAt nodes 1)) ∧ W.cell? ⟨w3.heap.size, 2, none⟩ = some (.int .i64 (cntAt nodes 2)) ∧ W.cell? ⟨w3.heap.size, 3, none⟩ = some (.int .i64 (cntAt nodes 3)) ∧
                W.cell? ⟨w3.heap.size, 4, none⟩ = some (.int .i64 (cntAt nodes 4)) ∧ W.cell? ⟨w3.heap.size, 5, none⟩ = some (.int .i64 (cntAt nodes 5)) ∧ W.cell? ⟨w3.heap.size, 6, none⟩ = some (.int .i64 (cntAt nodes 6)) ∧ W.cell? ⟨w3.heap.size, 7, none⟩ = some (.int .i64 (cntAt nodes 7))) ∧
                (W.cell? ⟨w.heap.size, 0, none⟩ = some (.int .i64 xk) ∧ W.cell? ⟨w.heap.size, 1, none⟩ = some (.int .i64 xa) ∧ W.cell? ⟨w.heap.size, 2, none⟩ = some (.int .i64 xb) ∧ W.cell? ⟨w.heap.size, 3, none⟩ = some (.int .i64 xc)) ∧
                (W.cell? ⟨w.heap.size + 1, 0, none⟩ = some (.slice An nodes.length cn) ∧ W.cell? ⟨w.heap.size + 1, 1, none⟩ = some (.slice Ai ins.length ci) ∧ W.cell? ⟨w.heap.size + 1, 2, none⟩ = some (.slice Ao outs.length co)) ∧
                (W.cell? ⟨w.heap.size + 1 + 1, 0, none⟩ = some (.slice Bn nodes2.length dn) ∧ W.cell? ⟨w.heap.size + 1 + 1, 1, none⟩ = some (.slice Bi ins2.length di) ∧ W.cell? ⟨w.heap.size + 1 + 1, 2, none⟩ = some (.slice Bo outs2.length eo)))
              (first | with_reducible exact HY1.out | with_reducible exact HY0.out | with_reducible exact HCS.out _ HB5.out | with_reducible exact HCS.out _ HB6.out | with_reducible exact HCS.out _ HB7.out | with_reducible exact HCS.out _ HB8.out | with_reducible exact HCS.out _ HB10.out | with_reducible exact HCS.out _ HB11.out | with_reducible exact HCS.out _ HB12.out | with_reducible exact HCS.out _ HB13.out | with_reducible exact HCS.out _ HB14.out)
              (first
                | (go_at_call 23; refine HU1.out.mono ?_; rintro e w5 ⟨v5, rfl, hr5, hb5⟩; obtain ⟨A5, c5, rfl, -, -⟩ := hr5.shape; have HR5 := Lib.hid hr5; have HB5 := Lib.hid ((Below.refl wr.heap.size wr).drew.trans (hb5.mono (Nat.le_refl _))); clear hr5 hb5)
                | (go_at_call 24; refine (HU2.out _).mono ?_; rintro e w6 ⟨v6, rfl, hr6, hb6⟩; obtain ⟨A6, c6, rfl, -, -⟩ := hr6.shape; have HR6 := Lib.hid hr6; have HR56 := Lib.hid (HR5.out.later hb6); have HB6 := Lib.hid (HB5.out.trans (hb6.mono HB5.out.size)); clear hr6 hb6)
                | (go_at_call 21; refine (uses_both _ ⟨xk, xa, xb, xc⟩ _ _ HR56.out HR6.out).mono ?_; rintro e w7 ⟨rfl, hb7⟩; have HB7 := Lib.hid (HB6.out.trans (hb7.mono HB6.out.size)); clear hb7)
                | (go_at_call 25; refine (HNM.out _).mono ?_; rintro e w8 ⟨rfl, hb8⟩; have HB8 := Lib.hid (HB7.out.trans (hb8.mono HB7.out.size)); clear hb8)
                | (go_at_call 26; refine (HNR.out _).mono ?_; rintro e w9 ⟨rfl, rfl⟩)
                | (go_at_call 27; refine (HCNT.out _ HB8.out).mono ?_; rintro e w10 ⟨rfl, hb10⟩; have HB10 := Lib.hid (HB8.out.trans (hb10.mono HB8.out.size)); clear hb10)
                | (go_at_call 28; refine (HSA.out _ HB10.out).mono ?_; rintro e w11 ⟨rfl, hb11⟩; have HB11 := Lib.hid (HB10.out.trans (hb11.mono HB10.out.size)); clear hb11)
                | (go_at_call 29; refine (HSC.out _ _ HB13.out HV13.out).mono ?_; rintro e w14 ⟨rfl, hb14⟩; have HB14 := Lib.hid (HB13.out.trans (hb14.mono HB13.out.size)); clear hb14)
                | (go_at_call 29; refine (HSB.out _ HB11.out).mono ?_; rintro e w12 ⟨rfl, hb12⟩; have HB12 := Lib.hid (HB11.out.trans (hb12.mono HB11.out.size)); clear hb12)
                | (go_at_call 30; refine (HCL.out _ HB12.out).mono ?_; rintro e w13 ⟨vn, vi, vo, rfl, hon, hri, hro, hb13⟩; have HV13 := Lib.hid (clone_V hon hri hro); have HB13 := Lib.hid (HB12.out.trans (hb13.mono HB12.out.size)); clear hon hri hro hb13))
            have HBW := Lib.hid (HALL.out _ (HBR.out.trans (HB14.out.mono HBR.out.size))).2.2.2.2.2.2
            go_wp2
            go_ret
            exact ⟨rfl, HBW.out⟩
end Go.Proofs.Ytbfjacgfifecpaa
