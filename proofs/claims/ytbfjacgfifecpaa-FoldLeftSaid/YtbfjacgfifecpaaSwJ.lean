/- sweep.Sweep: the walk. -/
import Derived.Test.YtbfjacgfifecpaaJSwP
namespace Go.Proofs.Ytbfjacgfifecpaa
open Go.RowKit

theorem nilRow {α : Type} (k : Kd α) (w : World) (S : Nat → Prop) : Row k w S (.slice none 0 0) [] := ⟨none, 0, [], rfl, Nat.le_refl _, by simp [maxLen], fun _ => rfl, Pairs.nil _ _ _, fun h => by simp at h⟩
abbrev zeroNet : Obj := netBox (.slice none 0 0) (.slice none 0 0) (.slice none 0 0)
theorem set3_cells {w : World} {g : Nat} {x y z u0 u1 u2 : Value} (h0 : w.cell? ⟨g, 0, none⟩ = some u0) (h1 : w.cell? ⟨g, 1, none⟩ = some u1) (h2 : w.cell? ⟨g, 2, none⟩ = some u2) :
    (((w.setCell ⟨g, 0, none⟩ x).setCell ⟨g, 1, none⟩ y).setCell ⟨g, 2, none⟩ z).cell? ⟨g, 0, none⟩ = some x ∧ (((w.setCell ⟨g, 0, none⟩ x).setCell ⟨g, 1, none⟩ y).setCell ⟨g, 2, none⟩ z).cell? ⟨g, 1, none⟩ = some y ∧ (((w.setCell ⟨g, 0, none⟩ x).setCell ⟨g, 1, none⟩ y).setCell ⟨g, 2, none⟩ z).cell? ⟨g, 2, none⟩ = some z := by
  have n01 : (⟨g, 0, none⟩ : Addr) ≠ ⟨g, 1, none⟩ := by intro h; injection h with _ h; omega
  have n02 : (⟨g, 0, none⟩ : Addr) ≠ ⟨g, 2, none⟩ := by intro h; injection h with _ h; omega
  have n12 : (⟨g, 1, none⟩ : Addr) ≠ ⟨g, 2, none⟩ := by intro h; injection h with _ h; omega
  refine ⟨?_, ?_, ?_⟩
  · rw [World.cell?_setCell_other (h := n02.symm), World.cell?_setCell_other (h := n01.symm), World.cell?_setCell_same (h := h0)]
  · rw [World.cell?_setCell_other (h := n12.symm), World.cell?_setCell_same (h := by rw [World.cell?_setCell_other (h := n01)]; exact h1)]
  · rw [World.cell?_setCell_same (h := by rw [World.cell?_setCell_other (h := n12), World.cell?_setCell_other (h := n02)]; exact h2)]
set_option maxHeartbeats 4000000 in
set_option maxRecDepth 100000 in
theorem sweep_net (w : World) (v : Value) (nodes : List Node) (ins outs : List Port) (hN : NetV w v nodes ins outs) (hF : Fits nodes ins outs) (hS : ((outs ++ ins).flatMap (·.bits)).length ≤ 1099511627776) :
    Calls Try.prog 38 #[v] w fun e w' => ∃ v' m x n' i' o', e = .returned (.tuple #[v', .int .i64 m, .int .i64 x]) ∧ NetV w' v' n' i' o' ∧ SwpOut nodes ins outs x m n' i' o' ∧ Below w.heap.size w w' := by
  obtain ⟨An, cn, Ai, ci, Ao, co, rfl, hbox⟩ := hN.box
  let ob := netBox (.slice An nodes.length cn) (.slice Ai ins.length ci) (.slice Ao outs.length co)
  have hsz : (w.alloc ob).heap.size = w.heap.size + 1 := by simp
  obtain ⟨w1, hw1⟩ : ∃ w1, w1 = (w.alloc ob).alloc zeroNet := ⟨_, rfl⟩
  have hs1 : w1.heap.size = w.heap.size + 1 + 1 := by rw [hw1]; simp
  have h01 : Below (w.heap.size + 1) (w.alloc ob) w1 := by rw [hw1]; exact (Below.refl _ _).alloc (by rw [hsz]; exact Nat.le_refl _) _
  have hnew : ∀ i, w1.cell? ⟨w.heap.size + 1, i, none⟩ = (#[Value.slice none 0 0, .slice none 0 0, .slice none 0 0] : Array Value)[i]? := fun i => by
    rw [hw1, ← hsz]
    exact World.cell?_alloc_new _ _ _ i
  have hfr : ∀ i, w1.frozen? ⟨w.heap.size + 1, i, none⟩ = false := fun i => by
    rw [hw1, ← hsz]
    exact World.frozen?_alloc_new _ _ _ i
  have hall : ∀ W, Below w1.heap.size w1 W → (W.cell? ⟨w.heap.size, 0, none⟩ = some (.slice An nodes.length cn) ∧ W.cell? ⟨w.heap.size, 1, none⟩ = some (.slice Ai ins.length ci) ∧ W.cell? ⟨w.heap.size, 2, none⟩ = some (.slice Ao outs.length co)) ∧ (W.cell? ⟨w.heap.size + 1, 0, none⟩ = some (.slice none 0 0) ∧ W.cell? ⟨w.heap.size + 1, 1, none⟩ = some (.slice none 0 0) ∧ W.cell? ⟨w.heap.size + 1, 2, none⟩ = some (.slice none 0 0)) ∧ (W.frozen? ⟨w.heap.size + 1, 0, none⟩ = false ∧ W.frozen? ⟨w.heap.size + 1, 1, none⟩ = false ∧ W.frozen? ⟨w.heap.size + 1, 2, none⟩ = false) ∧ Row kNode W (fun _ => False) (.slice An nodes.length cn) nodes ∧ NetV W (.agg #[.slice An nodes.length cn, .slice Ai ins.length ci, .slice Ao outs.length co]) nodes ins outs ∧ Below w.heap.size w W := fun W hW => by
    have hb := hW.block (w.heap.size + 1) (by omega)
    obtain ⟨c0, c1, c2, r1, r2, r3, hb3⟩ := hbox W (h01.trans (hW.mono (by omega)))
    exact ⟨⟨c0, c1, c2⟩, ⟨(World.cell?_of_block hb).trans (hnew 0), (World.cell?_of_block hb).trans (hnew 1), (World.cell?_of_block hb).trans (hnew 2)⟩, ⟨(World.frozen?_of_block hb).trans (hfr 0), (World.frozen?_of_block hb).trans (hfr 1), (World.frozen?_of_block hb).trans (hfr 2)⟩, r1, ⟨_, _, _, rfl, r1, r2, r3⟩, hb3⟩
  obtain ⟨⟨z0, z1, z2⟩, -, -, -, hn1, -⟩ := hall w1 (Below.refl _ _)
  have HC := Lib.hid (count_net w1 _ nodes ins outs hn1 hF hS)
  have HALL := Lib.hid hall
  have HW1 := Lib.hid hw1
  have HS1 := Lib.hid hs1
  have HF := Lib.hid hF
  have hnl := hF.nl
  have hil := hF.il
  have hol := hF.ol
  clear hN hbox hsz hw1 hs1 h01 hnew hfr hall hn1 hF hS
  go_enter Try.func38, Try.ntmps38
  go_wp2_with fail
  rw [← HW1.out]
  go_wp2_with fail
  refine HC.out.mono ?_
  rintro e w2 ⟨v2, l, x, rfl, hr2, hl2, hb2⟩
  have HL := Lib.hid hl2
  have HB2 := Lib.hid hb2
  have HR2 := Lib.hid hr2
  clear z0 z1 z2 HC hl2 hb2 hr2
  obtain ⟨⟨z0, z1, z2⟩, ⟨t0, t1, t2⟩, ⟨f0, f1, f2⟩, -, -, hbw⟩ := HALL.out _ HB2.out
  have HBW := Lib.hid hbw
  clear hbw
  by_cases hx : x = 0
  · subst hx
    have hez := errP_zero (HL.out.1.choose_spec.choose_spec.1.symm)
    have HFB := Lib.hid (formed_in hez.2.1)
    have hn62 : nodes.length ≤ 262144 := hez.1.1
    have hRC := HL.out.2.1 rfl
    have hll : l.length = nodes.length := hRC.1
    have HRC := Lib.hid hRC
    have hmk := make_ints nodes.length hnl
    have hO3 := made_ints nodes.length hnl w2
    rw [← plcT_zero l] at hO3
    have hb23 : Below w2.heap.size w2 (w2.alloc (.cells (madeCells #[.int .i64 0] nodes.length) 3)) := (Below.refl _ _).alloc (Nat.le_refl _) _
    have HO3 := Lib.hid hO3
    have HB23 := Lib.hid hb23
    obtain ⟨A2, c2, he2, -, -⟩ := HR2.out.shape
    subst he2
    clear hez hO3 hb23 hRC
    go_wp2_with fail
    clear z0 z1 z2 t0 t1 t2 f0 f1 f2
    go_loopw [8, 35] (fun mv iv wr => ∃ i : Nat, iv = .int .i64 i ∧ mv = .int .i64 (plcN l i : Nat) ∧ i ≤ nodes.length ∧ Hid (Own kInt 3 wr none w2.heap.size (.slice (some ⟨w2.heap.size, 0, none⟩) nodes.length nodes.length) (plcT l nodes.length i)) ∧ Hid (Below w2.heap.size w2 wr)) (fun mv iv _ => nodes.length - (intOf iv).toNat)
    case atStart => exact ⟨0, rfl, rfl, Nat.zero_le _, HO3, HB23⟩
    case round =>
      clear HO3 HB23
      obtain ⟨i, rfl, rfl, hi, HO, HB⟩ := hrel
      have HBX := Lib.hid (HB2.out.trans (HB.out.mono HB2.out.size))
      by_cases hlt : i < nodes.length
      · obtain ⟨b, off, rfl, x0⟩ := (HR2.out.later HB.out).bool_at (i := i) (by omega)
        have hget : l.getD i false = l[i] := by rw [List.getD_eq_getElem?_getD, List.getElem?_eq_getElem (by omega)]; rfl
        rw [← hget] at x0
        have hsu := plcN_succ (l := l) (i := i) (by omega)
        have hple := plcN_le l i
        have hcell : (plcT l nodes.length i)[i]? = some 0 := by rw [plcT, List.getElem?_map, List.getElem?_range hlt]; simp
        obtain ⟨c0, c1⟩ := HO.out.cellAt? hcell
        have hst := HO.out.store (FootIn.none _) HB.out.size i (plcN l i : Int)
        rw [plcT_set] at hst
        have HO' := Lib.hid hst.1
        have HB' := Lib.hid (HB.out.setCell (p := ⟨w2.heap.size, i, none⟩) (Nat.le_refl _) (.int .i64 (plcN l i : Int)))
        obtain ⟨pm, hpm⟩ : ∃ pm, plcN l i = pm := ⟨_, rfl⟩
        rw [hpm] at HO' HB' hsu hple ⊢
        clear hst hcell hget hpm
        cases hg : l.getD i false with
        | true =>
          rw [hg] at x0 hsu
          have HSU := Lib.hid hsu
          clear hg hsu
          go_wp2_with fail
          refine ⟨⟨i + 1, by go_num, by rw [HSU.out]; go_num, by omega, HO', HB'⟩, ?_⟩
          simp [intOf]; omega
        | false =>
          rw [hg] at x0 hsu
          have HSU := Lib.hid hsu
          clear hg hsu
          go_wp2_with fail
          refine ⟨⟨i + 1, by go_num, by rw [HSU.out]; rfl, by omega, HO', HB'⟩, ?_⟩
          simp [intOf]; omega
      · obtain rfl : i = nodes.length := by omega
        obtain ⟨⟨z0, z1, z2⟩, -, -, -, hn, -⟩ := HALL.out _ HBX.out
        have HC := Lib.hid (clone_own wr _ nodes ins outs hn hnl hil hol HF.out.bits)
        clear hn hlt hi
        go_wp2_with fail
        refine HC.out.mono ?_
        rintro e w4 ⟨vn, vi, vo, vsi, vso, rfl, hvi, hvo, hk4, hb4⟩
        have hk4' := hk4
        obtain ⟨A5, c5, he5, -, -⟩ := (rwNodes_at.1 (hk4.own 0 _ rfl)).shape
        obtain ⟨A6, c6, he6, -, -⟩ := (ptT_hdr hk4.tail.left).shape
        obtain ⟨A7, c7, he7, -, -⟩ := (ptT_hdr hk4.tail.right).shape
        rw [hdrs_length hvi] at he6
        rw [hdrs_length hvo] at he7
        subst he5 he6 he7
        have HV := Lib.hid (swV_start HO.out HB.out hk4 hb4)
        have HVI := Lib.hid hvi
        have HVO := Lib.hid hvo
        have hb25 : Below w2.heap.size w2 (w4.alloc (.cells #[.slice A5 0 c5, .slice A6 ins.length c6, .slice A7 outs.length c7] 25)) := (HB.out.trans (hb4.mono HB.out.size)).alloc (Nat.le_trans HB.out.size hb4.size) _
        have HB25 := Lib.hid hb25
        obtain ⟨⟨z0, z1, z2⟩, -⟩ := HALL.out _ (HB2.out.trans (hb25.mono HB2.out.size))
        have HPG := Lib.hid (show w2.heap.size < w4.heap.size from by have := (HO.out.base (g := w2.heap.size) rfl).2; have := hb4.size; omega)
        obtain ⟨G, hG⟩ : ∃ G, w4.heap.size = G := ⟨_, rfl⟩
        rw [hG] at HV HPG
        clear HC hk4' hk4 hb4 hvi hvo hb25 HO HB HBX
        go_wp2_with fail
        clear hG z0 z1 z2
        go_loopw [57] (fun iv wr => ∃ i : Nat, iv = .int .i64 i ∧ i ≤ nodes.length ∧ Hid (∃ vn, Keep wr w2.heap.size (swV w2.heap.size nodes.length G (plcT l nodes.length nodes.length) vn (swT l nodes i) (.slice A6 ins.length c6) ins vsi (.slice A7 outs.length c7) outs vso)) ∧ Hid (Below w2.heap.size w2 wr)) (fun iv _ => nodes.length - (intOf iv).toNat)
        case atStart => exact ⟨0, rfl, Nat.zero_le _, Lib.hid ⟨_, HV.out⟩, HB25⟩
        case round =>
          clear HV HB25
          obtain ⟨i, rfl, hi, HE, HB⟩ := hrel
          obtain ⟨vn, hk⟩ := HE.out
          have HK := Lib.hid hk
          clear hk HE
          by_cases hlt : i < nodes.length
          · obtain ⟨b, off, rfl, x0⟩ := (HR2.out.later HB.out).bool_at (i := i) (by omega)
            have hget : l.getD i false = l[i] := by rw [List.getD_eq_getElem?_getD, List.getElem?_eq_getElem (by omega)]; rfl
            rw [← hget] at x0
            have HSN := Lib.hid (swT_succ (l := l) (List.getElem?_eq_getElem hlt))
            obtain ⟨-, -, -, hrn, -, -⟩ := HALL.out _ (HB2.out.trans (HB.out.mono HB2.out.size))
            obtain ⟨b3, off3, rfl, y0, y1, y2, y3⟩ := hrn.node_at hlt
            have hiu := HFB.out.1 _ (List.getElem_mem hlt)
            obtain ⟨x, hxx⟩ : ∃ x, nodes[i] = x := ⟨_, rfl⟩
            rw [hxx] at y0 y1 y2 y3 hiu HSN
            clear hxx hrn hget
            obtain ⟨xk, xa, xb, xc⟩ := x
            dsimp only at y0 y1 y2 y3
            have HIU := Lib.hid hiu
            obtain ⟨wx, hwx⟩ : ∃ wx, wx = wr.alloc (.cells #[.int .i64 xk, .int .i64 xa, .int .i64 xb, .int .i64 xc] 38) := ⟨_, rfl⟩
            have hbx : Below wr.heap.size wr wx := by rw [hwx]; exact (Below.refl _ _).alloc (Nat.le_refl _) _
            replace x0 := cellBelow hbx x0
            rw [hwx] at x0
            have hsx : wx.heap.size = wr.heap.size + 1 := by rw [hwx]; simp
            have hcx : ∀ W, Below wx.heap.size wx W → (W.cell? ⟨wr.heap.size, 0, none⟩ = some (.int .i64 xk) ∧ W.cell? ⟨wr.heap.size, 1, none⟩ = some (.int .i64 xa) ∧ W.cell? ⟨wr.heap.size, 2, none⟩ = some (.int .i64 xb) ∧ W.cell? ⟨wr.heap.size, 3, none⟩ = some (.int .i64 xc)) ∧ ∀ j, W.frozen? ⟨wr.heap.size, j, none⟩ = false := fun W hW => by
              have hb := hW.block wr.heap.size (by omega)
              have hc : ∀ i, W.cell? ⟨wr.heap.size, i, none⟩ = wx.cell? ⟨wr.heap.size, i, none⟩ := fun i => World.cell?_of_block hb
              refine ⟨?_, fun j => ?_⟩
              · rw [hc, hc, hc, hc, hwx]
                exact ⟨World.cell?_alloc_new _ _ _ 0, World.cell?_alloc_new _ _ _ 1, World.cell?_alloc_new _ _ _ 2, World.cell?_alloc_new _ _ _ 3⟩
              · rw [World.frozen?_of_block hb, hwx]
                exact World.frozen?_alloc_new _ _ _ _
            have HCX := Lib.hid hcx
            have HBX := Lib.hid (HB.out.trans (hbx.mono HB.out.size))
            have HKX := Lib.hid (HK.out.below hbx)
            have HWX := Lib.hid hwx
            have HNX := Lib.hid (show ∀ (j : Nat) (r : Rw), (swV w2.heap.size nodes.length G (plcT l nodes.length nodes.length) vn (swT l nodes i) (.slice A6 ins.length c6) ins vsi (.slice A7 outs.length c7) outs vso)[j]? = some r → r.v.ownBlock ≠ some wr.heap.size from fun j r hr e => by have := (HK.out.lt hr e).2; omega)
            have hXP : ¬ (wr.heap.size = w2.heap.size) := by have := (HK.out.lt (i := 0) rfl (b := w2.heap.size) rfl).2; omega
            have hPX : ¬ (w2.heap.size = wr.heap.size) := fun e => hXP e.symm
            have hXG : ¬ (wr.heap.size = G) := by have := (HK.out.lt (i := 1) rfl (b := G) rfl).2; omega
            have hGX : ¬ (G = wr.heap.size) := fun e => hXG e.symm
            have HC := Lib.hid (uses_net wx (fun _ => False) (fun _ h => h.elim) ⟨xk, xa, xb, xc⟩)
            have hsl : ((swT l nodes i).length + 1) * 32 ≤ 140737488355328 := by have := swT_len l nodes i; omega
            have hbw6 : w2.heap.size ≤ wr.heap.size := HB.out.size
            clear hwx hbx hsx hcx hiu
            cases hg : l.getD i false with
            | false =>
              rw [hg] at x0 HSN
              have HSW : Hid (swT l nodes (i + 1) = swT l nodes i) := Lib.hid (by rw [HSN.out]; simp)
              clear hg
              go_wp2_with fail
              rw [← HWX.out]
              refine ⟨⟨i + 1, by go_num, by omega, Lib.hid ⟨_, by rw [HSW.out]; exact HKX.out⟩, HBX⟩, ?_⟩
              simp [intOf]; omega
            | true =>
            rw [hg] at x0 HSN
            simp only [if_true] at HSN
            clear hg
            go_wp2_with fail
            rw [← HWX.out]
            refine HC.out.mono ?_
            rintro e w6 ⟨v6, rfl, hr6, hb6⟩
            obtain ⟨A9, c9, rfl, -, -⟩ := hr6.shape
            have HK6 := Lib.hid (HKX.out.below hb6)
            have HBB6 := Lib.hid (HBX.out.trans (hb6.mono HBX.out.size))
            obtain ⟨⟨g0, g1, g2, g3⟩, hfz⟩ := HCX.out w6 hb6
            have hz1 := hfz 1
            have hz2 := hfz 2
            have hz3 := hfz 3
            obtain ⟨m0, -⟩ := HK6.out.cell (i := 1) (r := rwNet G vn (.slice A6 ins.length c6) (.slice A7 outs.length c7)) rfl rfl (j := 0) (u := vn) rfl
            have hm3 : (usesR ⟨xk, xa, xb, xc⟩).length ≤ 3 := by simp [usesR]; omega
            clear hr6 hb6 HC x0 y0 y1 y2 y3 hfz
            rcases (show (usesR ⟨xk, xa, xb, xc⟩).length = 0 ∨ (usesR ⟨xk, xa, xb, xc⟩).length = 1 ∨ (usesR ⟨xk, xa, xb, xc⟩).length = 2 ∨ (usesR ⟨xk, xa, xb, xc⟩).length = 3 by omega) with hm | hm | hm | hm
            · -- 0
              have HREN := Lib.hid (renN_0 (f := plcN l) (x := ⟨xk, xa, xb, xc⟩) hm)
              have hmem := usesR_mem hm
              have HSW : Hid (swT l nodes (i + 1) = swT l nodes i ++ [⟨xk, xa, xb, xc⟩]) := by
                have h := HREN.out
                rw [HSN.out, h]
                exact Lib.hid rfl
              have HKN := Lib.hid HK6.out
              clear hmem
              have hBk := HKN.out.base
              have HON := Lib.hid (rwNodes_at.1 (HKN.out.own 2 _ rfl))
              have HL8 := Lib.hid (fun y : Node => (show (swT l nodes i ++ [y]).length = (swT l nodes i).length + 1 by simp))
              have hb6 : Below w2.heap.size w2 w6 := HBB6.out
              have HB6 := Lib.hid hb6
              clear hb6
              go_wp2_with (at_builtin; go_loud (refine appN rfl (.tmp 95) (.tmp 97) rfl HON.out hBk rfl ⟨xk, xa, xb, xc⟩ _ rfl rfl hsl ?_; intro v' w7 q1 q5 q6; obtain ⟨⟨t0, t1⟩, h7⟩ := swV_push HKN.out q1 q5 q6; have HK7 := Lib.hid h7; obtain ⟨A8, c8, he8, -, -⟩ := q1.shape; rw [HL8.out] at he8; have HB7 := Lib.hid (HB6.out.grown q5 hBk (fun g hg => (HON.out.base hg).1)); subst he8; clear q1 q5 q6 h7))
              refine ⟨⟨i + 1, by go_num, by omega, Lib.hid ⟨_, by rw [HSW.out]; exact HK7.out⟩, Lib.hid (HB7.out.setCell (p := ⟨G, 0, none⟩) (Nat.le_of_lt HPG.out) _)⟩, ?_⟩
              simp [intOf]; omega
            · -- 1
              have HREN := Lib.hid (renN_1 (f := plcN l) (x := ⟨xk, xa, xb, xc⟩) hm)
              have hmem := usesR_mem hm
              have hua := HIU.out _ (hmem.1 (by omega))
              dsimp only at hua
              obtain ⟨na, rfl⟩ := Int.eq_ofNat_of_zero_le hua.1
              have pa := (HK6.out.cell (i := 0) (r := rwInts 3 (.slice (some ⟨w2.heap.size, 0, none⟩) nodes.length nodes.length) (plcT l nodes.length nodes.length)) rfl (by show Value.slice _ nodes.length _ = Value.slice _ (plcT l nodes.length nodes.length).length _; rw [plcT_length]) (j := na) (u := .int .i64 (plcN l na : Nat)) (by rw [List.getElem?_map, plcT_at (by omega)]; rfl)).1
              have HSW : Hid (swT l nodes (i + 1) = swT l nodes i ++ [⟨xk, (plcN l na : Nat), xb, xc⟩]) := by
                have h := HREN.out
                simp only [Int.toNat_natCast] at h
                rw [HSN.out, h]
                exact Lib.hid rfl
              have HKN := Lib.hid (HK6.out.skip HNX.out 1 (.int .i64 (plcN l na : Nat)))
              clear hmem
              have hBk := HKN.out.base
              have HSX := Lib.hid (show (w6.setCell ⟨wr.heap.size, 1, none⟩ (.int .i64 (plcN l na : Nat))).heap.size = w6.heap.size by simp)
              have HON := Lib.hid (rwNodes_at.1 (HKN.out.own 2 _ rfl))
              have HL8 := Lib.hid (fun y : Node => (show (swT l nodes i ++ [y]).length = (swT l nodes i).length + 1 by simp))
              have hb6 : Below w2.heap.size w2 (w6.setCell ⟨wr.heap.size, 1, none⟩ (.int .i64 (plcN l na : Nat))) := (HBB6.out.setCell (p := ⟨wr.heap.size, 1, none⟩) hbw6 (.int .i64 (plcN l na : Nat)))
              have HB6 := Lib.hid hb6
              clear hb6
              go_wp2_with (at_builtin; go_loud (refine appN rfl (.tmp 95) (.tmp 97) rfl HON.out hBk rfl ⟨xk, (plcN l na : Nat), xb, xc⟩ _ HSX.out rfl hsl ?_; intro v' w7 q1 q5 q6; obtain ⟨⟨t0, t1⟩, h7⟩ := swV_push HKN.out q1 q5 q6; have HK7 := Lib.hid h7; obtain ⟨A8, c8, he8, -, -⟩ := q1.shape; rw [HL8.out] at he8; have HB7 := Lib.hid (HB6.out.grown q5 hBk (fun g hg => (HON.out.base hg).1)); subst he8; clear q1 q5 q6 h7))
              refine ⟨⟨i + 1, by go_num, by omega, Lib.hid ⟨_, by rw [HSW.out]; exact HK7.out⟩, Lib.hid (HB7.out.setCell (p := ⟨G, 0, none⟩) (Nat.le_of_lt HPG.out) _)⟩, ?_⟩
              simp [intOf]; omega
            · -- 2
              have HREN := Lib.hid (renN_2 (f := plcN l) (x := ⟨xk, xa, xb, xc⟩) hm)
              have hmem := usesR_mem hm
              have hua := HIU.out _ (hmem.1 (by omega))
              dsimp only at hua
              obtain ⟨na, rfl⟩ := Int.eq_ofNat_of_zero_le hua.1
              have pa := (HK6.out.cell (i := 0) (r := rwInts 3 (.slice (some ⟨w2.heap.size, 0, none⟩) nodes.length nodes.length) (plcT l nodes.length nodes.length)) rfl (by show Value.slice _ nodes.length _ = Value.slice _ (plcT l nodes.length nodes.length).length _; rw [plcT_length]) (j := na) (u := .int .i64 (plcN l na : Nat)) (by rw [List.getElem?_map, plcT_at (by omega)]; rfl)).1
              have hub := HIU.out _ (hmem.2.1 (by omega))
              dsimp only at hub
              obtain ⟨nb, rfl⟩ := Int.eq_ofNat_of_zero_le hub.1
              have pb := (HK6.out.cell (i := 0) (r := rwInts 3 (.slice (some ⟨w2.heap.size, 0, none⟩) nodes.length nodes.length) (plcT l nodes.length nodes.length)) rfl (by show Value.slice _ nodes.length _ = Value.slice _ (plcT l nodes.length nodes.length).length _; rw [plcT_length]) (j := nb) (u := .int .i64 (plcN l nb : Nat)) (by rw [List.getElem?_map, plcT_at (by omega)]; rfl)).1
              have HSW : Hid (swT l nodes (i + 1) = swT l nodes i ++ [⟨xk, (plcN l na : Nat), (plcN l nb : Nat), xc⟩]) := by
                have h := HREN.out
                simp only [Int.toNat_natCast] at h
                rw [HSN.out, h]
                exact Lib.hid rfl
              have HKN := Lib.hid ((HK6.out.skip HNX.out 2 (.int .i64 (plcN l nb : Nat))).skip HNX.out 1 (.int .i64 (plcN l na : Nat)))
              clear hmem
              have hBk := HKN.out.base
              have HSX := Lib.hid (show ((w6.setCell ⟨wr.heap.size, 2, none⟩ (.int .i64 (plcN l nb : Nat))).setCell ⟨wr.heap.size, 1, none⟩ (.int .i64 (plcN l na : Nat))).heap.size = w6.heap.size by simp)
              have HON := Lib.hid (rwNodes_at.1 (HKN.out.own 2 _ rfl))
              have HL8 := Lib.hid (fun y : Node => (show (swT l nodes i ++ [y]).length = (swT l nodes i).length + 1 by simp))
              have hb6 : Below w2.heap.size w2 ((w6.setCell ⟨wr.heap.size, 2, none⟩ (.int .i64 (plcN l nb : Nat))).setCell ⟨wr.heap.size, 1, none⟩ (.int .i64 (plcN l na : Nat))) := ((HBB6.out.setCell (p := ⟨wr.heap.size, 2, none⟩) hbw6 (.int .i64 (plcN l nb : Nat))).setCell (p := ⟨wr.heap.size, 1, none⟩) hbw6 (.int .i64 (plcN l na : Nat)))
              have HB6 := Lib.hid hb6
              clear hb6
              go_wp2_with (at_builtin; go_loud (refine appN rfl (.tmp 95) (.tmp 97) rfl HON.out hBk rfl ⟨xk, (plcN l na : Nat), (plcN l nb : Nat), xc⟩ _ HSX.out rfl hsl ?_; intro v' w7 q1 q5 q6; obtain ⟨⟨t0, t1⟩, h7⟩ := swV_push HKN.out q1 q5 q6; have HK7 := Lib.hid h7; obtain ⟨A8, c8, he8, -, -⟩ := q1.shape; rw [HL8.out] at he8; have HB7 := Lib.hid (HB6.out.grown q5 hBk (fun g hg => (HON.out.base hg).1)); subst he8; clear q1 q5 q6 h7))
              refine ⟨⟨i + 1, by go_num, by omega, Lib.hid ⟨_, by rw [HSW.out]; exact HK7.out⟩, Lib.hid (HB7.out.setCell (p := ⟨G, 0, none⟩) (Nat.le_of_lt HPG.out) _)⟩, ?_⟩
              simp [intOf]; omega
            · -- 3
              have HREN := Lib.hid (renN_3 (f := plcN l) (x := ⟨xk, xa, xb, xc⟩) hm)
              have hmem := usesR_mem hm
              have hua := HIU.out _ (hmem.1 (by omega))
              dsimp only at hua
              obtain ⟨na, rfl⟩ := Int.eq_ofNat_of_zero_le hua.1
              have pa := (HK6.out.cell (i := 0) (r := rwInts 3 (.slice (some ⟨w2.heap.size, 0, none⟩) nodes.length nodes.length) (plcT l nodes.length nodes.length)) rfl (by show Value.slice _ nodes.length _ = Value.slice _ (plcT l nodes.length nodes.length).length _; rw [plcT_length]) (j := na) (u := .int .i64 (plcN l na : Nat)) (by rw [List.getElem?_map, plcT_at (by omega)]; rfl)).1
              have hub := HIU.out _ (hmem.2.1 (by omega))
              dsimp only at hub
              obtain ⟨nb, rfl⟩ := Int.eq_ofNat_of_zero_le hub.1
              have pb := (HK6.out.cell (i := 0) (r := rwInts 3 (.slice (some ⟨w2.heap.size, 0, none⟩) nodes.length nodes.length) (plcT l nodes.length nodes.length)) rfl (by show Value.slice _ nodes.length _ = Value.slice _ (plcT l nodes.length nodes.length).length _; rw [plcT_length]) (j := nb) (u := .int .i64 (plcN l nb : Nat)) (by rw [List.getElem?_map, plcT_at (by omega)]; rfl)).1
              have huc := HIU.out _ (hmem.2.2 (by omega))
              dsimp only at huc
              obtain ⟨nc, rfl⟩ := Int.eq_ofNat_of_zero_le huc.1
              have pc := (HK6.out.cell (i := 0) (r := rwInts 3 (.slice (some ⟨w2.heap.size, 0, none⟩) nodes.length nodes.length) (plcT l nodes.length nodes.length)) rfl (by show Value.slice _ nodes.length _ = Value.slice _ (plcT l nodes.length nodes.length).length _; rw [plcT_length]) (j := nc) (u := .int .i64 (plcN l nc : Nat)) (by rw [List.getElem?_map, plcT_at (by omega)]; rfl)).1
              have HSW : Hid (swT l nodes (i + 1) = swT l nodes i ++ [⟨xk, (plcN l na : Nat), (plcN l nb : Nat), (plcN l nc : Nat)⟩]) := by
                have h := HREN.out
                simp only [Int.toNat_natCast] at h
                rw [HSN.out, h]
                exact Lib.hid rfl
              have HKN := Lib.hid (((HK6.out.skip HNX.out 3 (.int .i64 (plcN l nc : Nat))).skip HNX.out 2 (.int .i64 (plcN l nb : Nat))).skip HNX.out 1 (.int .i64 (plcN l na : Nat)))
              clear hmem
              have hBk := HKN.out.base
              have HSX := Lib.hid (show (((w6.setCell ⟨wr.heap.size, 3, none⟩ (.int .i64 (plcN l nc : Nat))).setCell ⟨wr.heap.size, 2, none⟩ (.int .i64 (plcN l nb : Nat))).setCell ⟨wr.heap.size, 1, none⟩ (.int .i64 (plcN l na : Nat))).heap.size = w6.heap.size by simp)
              have HON := Lib.hid (rwNodes_at.1 (HKN.out.own 2 _ rfl))
              have HL8 := Lib.hid (fun y : Node => (show (swT l nodes i ++ [y]).length = (swT l nodes i).length + 1 by simp))
              have hb6 : Below w2.heap.size w2 (((w6.setCell ⟨wr.heap.size, 3, none⟩ (.int .i64 (plcN l nc : Nat))).setCell ⟨wr.heap.size, 2, none⟩ (.int .i64 (plcN l nb : Nat))).setCell ⟨wr.heap.size, 1, none⟩ (.int .i64 (plcN l na : Nat))) := (((HBB6.out.setCell (p := ⟨wr.heap.size, 3, none⟩) hbw6 (.int .i64 (plcN l nc : Nat))).setCell (p := ⟨wr.heap.size, 2, none⟩) hbw6 (.int .i64 (plcN l nb : Nat))).setCell (p := ⟨wr.heap.size, 1, none⟩) hbw6 (.int .i64 (plcN l na : Nat)))
              have HB6 := Lib.hid hb6
              clear hb6
              go_wp2_with (at_builtin; go_loud (refine appN rfl (.tmp 95) (.tmp 97) rfl HON.out hBk rfl ⟨xk, (plcN l na : Nat), (plcN l nb : Nat), (plcN l nc : Nat)⟩ _ HSX.out rfl hsl ?_; intro v' w7 q1 q5 q6; obtain ⟨⟨t0, t1⟩, h7⟩ := swV_push HKN.out q1 q5 q6; have HK7 := Lib.hid h7; obtain ⟨A8, c8, he8, -, -⟩ := q1.shape; rw [HL8.out] at he8; have HB7 := Lib.hid (HB6.out.grown q5 hBk (fun g hg => (HON.out.base hg).1)); subst he8; clear q1 q5 q6 h7))
              refine ⟨⟨i + 1, by go_num, by omega, Lib.hid ⟨_, by rw [HSW.out]; exact HK7.out⟩, Lib.hid (HB7.out.setCell (p := ⟨G, 0, none⟩) (Nat.le_of_lt HPG.out) _)⟩, ?_⟩
              simp [intOf]; omega
          · obtain rfl : i = nodes.length := by omega
            obtain ⟨m0, m1, m2⟩ := swV_cells HK.out
            clear hlt hi
            go_wp2_with fail
            clear m0 m1 m2
            go_loopw [106] (fun jv wr => ∃ j : Nat, jv = .int .i64 j ∧ j ≤ 2 ∧ Hid (Keep wr w2.heap.size (swV w2.heap.size nodes.length G (plcT l nodes.length nodes.length) vn (swT l nodes nodes.length) (.slice A6 ins.length c6) (if 1 ≤ j then ins.map (rpP (plcN l)) else ins) vsi (.slice A7 outs.length c7) (if 2 ≤ j then outs.map (rpP (plcN l)) else outs) vso)) ∧ Hid (Below w2.heap.size w2 wr)) (fun jv _ => 2 - (intOf jv).toNat)
            case atStart => exact ⟨0, rfl, by omega, by simpa using HK, HB⟩
            case round =>
              clear HK HB
              obtain ⟨j, rfl, hj, HK, HB⟩ := hrel
              obtain ⟨m0, m1, m2⟩ := swV_cells HK.out
              rcases (show j = 0 ∨ j = 1 ∨ j = 2 by omega) with rfl | rfl | rfl
              · simp only [show ¬ (1 ≤ 0) by omega, show ¬ (2 ≤ 0) by omega, if_false] at HK
                have hix := index_0 (.slice A6 ins.length c6) (.slice A7 outs.length c7)
                go_wp2_with fail
                obtain ⟨wo0, hwo0⟩ : ∃ wo, wo = wr := ⟨_, rfl⟩
                subst hwo0
                go_loopw [111] (fun iv wr => ∃ i : Nat, iv = .int .i64 i ∧ i ≤ ins.length ∧ Hid (Keep wr w2.heap.size (swV w2.heap.size nodes.length G (plcT l nodes.length nodes.length) vn (swT l nodes nodes.length) (.slice A6 ins.length c6) (stP (plcN l) ins i) vsi (.slice A7 outs.length c7) (outs) vso)) ∧ Hid (Below w2.heap.size w2 wr)) (fun iv _ => ins.length - (intOf iv).toNat)
                case atStart => exact ⟨0, rfl, Nat.zero_le _, by rw [stP_zero]; exact HK, HB⟩
                case round =>
                  clear HK HB m0 m1 m2
                  obtain ⟨i, rfl, hi, HK, HB⟩ := hrel
                  by_cases hlt : i < ins.length
                  · obtain ⟨g, c, u, he, hu, y0, y1⟩ := ptT_at (swV_in HK.out) (by rw [stP_length hi]; exact HVI.out) (stP_at hlt)
                    rw [stP_length hi] at he
                    injection he with he1 _ he3
                    subst he1 he3
                    have ho := (swV_in HK.out).ints (ptT_bits (swV_in HK.out) (stP_at hlt) hu)
                    have hq := HFB.out.2 _ (List.mem_append_left _ (List.getElem_mem hlt))
                    have hbl := HF.out.bits _ (List.mem_append_left _ (List.getElem_mem hlt))
                    have HST := Lib.hid (stP_same (f := plcN l) hlt)
                    have HSN := Lib.hid (stP_next (f := plcN l) hlt)
                    have HSA := Lib.hid (stP_at (f := plcN l) hlt)
                    have hsi : (stP (plcN l) ins i).length = ins.length := stP_length hi
                    obtain ⟨p, hp⟩ : ∃ p, ins[i] = p := ⟨_, rfl⟩
                    rw [hp] at y0 ho hq hbl HST HSN HSA
                    obtain ⟨s, bs⟩ := p
                    dsimp only at y0 ho hq hbl
                    obtain ⟨b, d, rfl, -, -⟩ := ho.form (List.length_pos_iff.2 hq.1)
                    have HQ := Lib.hid hq.2
                    have HU := Lib.hid hu
                    have hbX := (ho.base (g := b) rfl).2
                    have hbP := (ho.base (g := b) rfl).1
                    obtain ⟨X, hX⟩ : ∃ X, wr.heap.size = X := ⟨_, rfl⟩
                    have hbx : Below wr.heap.size wr (wr.alloc (.cells #[.string s, .slice (some ⟨b, 0, none⟩) bs.length d] 53)) := (Below.refl _ _).alloc (Nat.le_refl _) _
                    have HKX := Lib.hid (HK.out.below hbx)
                    have HBX := Lib.hid (HB.out.trans (hbx.mono HB.out.size))
                    have HCX := Lib.hid (show (wr.alloc (.cells #[.string s, .slice (some ⟨b, 0, none⟩) bs.length d] 53)).cell? ⟨X, 1, none⟩ = some (.slice (some ⟨b, 0, none⟩) bs.length d) by rw [← hX]; exact World.cell?_alloc_new _ _ _ 1)
                    rw [hX] at hbX
                    clear ho hq hu hp hbx HK HB
                    go_wp2_with fail
                    clear hX
                    obtain ⟨wo2, hwo2⟩ : ∃ wo, wo = wr := ⟨_, rfl⟩
                    subst hwo2
                    go_loopw [118] (fun kv wr => ∃ k : Nat, kv = .int .i64 k ∧ k ≤ bs.length ∧ Hid (Keep wr w2.heap.size (swV w2.heap.size nodes.length G (plcT l nodes.length nodes.length) vn (swT l nodes nodes.length) (.slice (some ⟨g, 0, none⟩) ins.length c6) ((stP (plcN l) ins i).set i ⟨s, mixB (plcN l) bs k⟩) vsi (.slice A7 outs.length c7) (outs) vso)) ∧ Hid (Below w2.heap.size w2 wr) ∧ Hid (wr.cell? ⟨X, 1, none⟩ = some (.slice (some ⟨b, 0, none⟩) bs.length d))) (fun kv _ => bs.length - (intOf kv).toNat)
                    case atStart => exact ⟨0, rfl, Nat.zero_le _, by rw [mixB_zero, HST.out]; exact HKX, HBX, HCX⟩
                    case round =>
                      clear y0 y1 HKX HBX HCX
                      obtain ⟨k, rfl, hk, HK, HB, HCX⟩ := hrel
                      by_cases hkt : k < bs.length
                      · have hat : ((stP (plcN l) ins i).set i ⟨s, mixB (plcN l) bs k⟩)[i]? = some ⟨s, mixB (plcN l) bs k⟩ := by
                          rw [List.getElem?_set]; simp [hsi, hlt]
                        have hoK := (swV_in HK.out).ints (ptT_bits (swV_in HK.out) hat HU.out)
                        have hm := HQ.out _ (List.getElem_mem hkt)
                        have HMN := Lib.hid (mixB_next (f := plcN l) hkt)
                        have hma := mixB_at (f := plcN l) hkt
                        obtain ⟨a, ha⟩ := Int.eq_ofNat_of_zero_le hm.1
                        rw [ha] at hm HMN hma
                        obtain ⟨x0, x1⟩ := hoK.cellAt? hma
                        have p0 := swV_place HK.out (a := a) (by omega)
                        have HKN := Lib.hid (swV_setIn HK.out hat HU.out k (plcN l a : Int))
                        have hc1 := HCX.out
                        have HCN := Lib.hid (show ((wr.drew).setCell ⟨b, k, none⟩ (.int .i64 (plcN l a : Int))).cell? ⟨X, 1, none⟩ = some (.slice (some ⟨b, 0, none⟩) bs.length d) by rw [World.cell?_setCell_other (h := by intro h; injection h with h _; omega)]; exact HCX.out)
                        have HBN := Lib.hid (HB.out.drew.setCell (p := ⟨b, k, none⟩) hbP (.int .i64 (plcN l a : Int)))
                        have HKN2 := Lib.hid (swV_setIn HK.out.drew hat HU.out k (plcN l a : Int))
                        have e0 : wr.drew.cell? _ = _ := x0
                        have e1 : wr.drew.frozen? _ = _ := x1
                        clear hoK hma ha HKN
                        go_wp2_with fail
                        go_still_tail 8, (by kernel_rfl)
                        change wpList _ _ _ _ _ wr.drew
                        generalize wr.drew = w9 at e0 e1 HCN HBN HKN2
                        go_wp2_with fail
                        refine ⟨⟨k + 1, by go_num, by omega, ?_, HBN, HCN⟩, ?_⟩
                        · have h := HKN2.out
                          rw [List.set_set] at h
                          rw [show (plcN l a : Int) = rpB (plcN l) (a : Int) from rfl, HMN.out] at h
                          exact Lib.hid h
                        · simp [intOf]; omega
                      · obtain rfl : k = bs.length := by omega
                        rw [mixB_full] at HK
                        have HKN : Hid (Keep wr w2.heap.size (swV w2.heap.size nodes.length G (plcT l nodes.length nodes.length) vn (swT l nodes nodes.length) (.slice (some ⟨g, 0, none⟩) ins.length c6) (stP (plcN l) ins (i + 1)) vsi (.slice A7 outs.length c7) (outs) vso)) := by
                          rw [← HSN.out]; exact HK
                        clear HK HCX
                        go_wp2
                        refine ⟨⟨_, _, _, _, _, _, _, _, _, _, _, _, _, _, _, _, _, _, _, _, _, _, _, _, _, ?_, rfl⟩, ?_⟩
                        · exact ⟨i + 1, by go_num, by omega, HKN, HB⟩
                        · show ins.length - (intOf (.int .i64 ((i : Int) + 1))).toNat < ins.length - (intOf (.int .i64 (i : Int))).toNat
                          simp [intOf]; omega
                  · obtain rfl : i = ins.length := by omega
                    rw [stP_full] at HK
                    go_wp2
                    refine ⟨⟨0 + 1, by go_num, by omega, by simpa using HK, HB⟩, ?_⟩
                    simp [intOf]

              · simp only [show (1 ≤ 1) by omega, show ¬ (2 ≤ 1) by omega, if_false, if_true] at HK
                have hix := index_1 (.slice A6 ins.length c6) (.slice A7 outs.length c7)
                go_wp2_with fail
                obtain ⟨wo1, hwo1⟩ : ∃ wo, wo = wr := ⟨_, rfl⟩
                subst hwo1
                go_loopw [111] (fun iv wr => ∃ i : Nat, iv = .int .i64 i ∧ i ≤ outs.length ∧ Hid (Keep wr w2.heap.size (swV w2.heap.size nodes.length G (plcT l nodes.length nodes.length) vn (swT l nodes nodes.length) (.slice A6 ins.length c6) (ins.map (rpP (plcN l))) vsi (.slice A7 outs.length c7) (stP (plcN l) outs i) vso)) ∧ Hid (Below w2.heap.size w2 wr)) (fun iv _ => outs.length - (intOf iv).toNat)
                case atStart => exact ⟨0, rfl, Nat.zero_le _, by rw [stP_zero]; exact HK, HB⟩
                case round =>
                  clear HK HB m0 m1 m2
                  obtain ⟨i, rfl, hi, HK, HB⟩ := hrel
                  by_cases hlt : i < outs.length
                  · obtain ⟨g, c, u, he, hu, y0, y1⟩ := ptT_at (swV_out HK.out) (by rw [stP_length hi]; exact HVO.out) (stP_at hlt)
                    rw [stP_length hi] at he
                    injection he with he1 _ he3
                    subst he1 he3
                    have ho := (swV_out HK.out).ints (ptT_bits (swV_out HK.out) (stP_at hlt) hu)
                    have hq := HFB.out.2 _ (List.mem_append_right _ (List.getElem_mem hlt))
                    have hbl := HF.out.bits _ (List.mem_append_right _ (List.getElem_mem hlt))
                    have HST := Lib.hid (stP_same (f := plcN l) hlt)
                    have HSN := Lib.hid (stP_next (f := plcN l) hlt)
                    have HSA := Lib.hid (stP_at (f := plcN l) hlt)
                    have hsi : (stP (plcN l) outs i).length = outs.length := stP_length hi
                    obtain ⟨p, hp⟩ : ∃ p, outs[i] = p := ⟨_, rfl⟩
                    rw [hp] at y0 ho hq hbl HST HSN HSA
                    obtain ⟨s, bs⟩ := p
                    dsimp only at y0 ho hq hbl
                    obtain ⟨b, d, rfl, -, -⟩ := ho.form (List.length_pos_iff.2 hq.1)
                    have HQ := Lib.hid hq.2
                    have HU := Lib.hid hu
                    have hbX := (ho.base (g := b) rfl).2
                    have hbP := (ho.base (g := b) rfl).1
                    obtain ⟨X, hX⟩ : ∃ X, wr.heap.size = X := ⟨_, rfl⟩
                    have hbx : Below wr.heap.size wr (wr.alloc (.cells #[.string s, .slice (some ⟨b, 0, none⟩) bs.length d] 53)) := (Below.refl _ _).alloc (Nat.le_refl _) _
                    have HKX := Lib.hid (HK.out.below hbx)
                    have HBX := Lib.hid (HB.out.trans (hbx.mono HB.out.size))
                    have HCX := Lib.hid (show (wr.alloc (.cells #[.string s, .slice (some ⟨b, 0, none⟩) bs.length d] 53)).cell? ⟨X, 1, none⟩ = some (.slice (some ⟨b, 0, none⟩) bs.length d) by rw [← hX]; exact World.cell?_alloc_new _ _ _ 1)
                    rw [hX] at hbX
                    clear ho hq hu hp hbx HK HB
                    go_wp2_with fail
                    clear hX
                    obtain ⟨wo2, hwo2⟩ : ∃ wo, wo = wr := ⟨_, rfl⟩
                    subst hwo2
                    go_loopw [118] (fun kv wr => ∃ k : Nat, kv = .int .i64 k ∧ k ≤ bs.length ∧ Hid (Keep wr w2.heap.size (swV w2.heap.size nodes.length G (plcT l nodes.length nodes.length) vn (swT l nodes nodes.length) (.slice A6 ins.length c6) (ins.map (rpP (plcN l))) vsi (.slice (some ⟨g, 0, none⟩) outs.length c7) ((stP (plcN l) outs i).set i ⟨s, mixB (plcN l) bs k⟩) vso)) ∧ Hid (Below w2.heap.size w2 wr) ∧ Hid (wr.cell? ⟨X, 1, none⟩ = some (.slice (some ⟨b, 0, none⟩) bs.length d))) (fun kv _ => bs.length - (intOf kv).toNat)
                    case atStart => exact ⟨0, rfl, Nat.zero_le _, by rw [mixB_zero, HST.out]; exact HKX, HBX, HCX⟩
                    case round =>
                      clear y0 y1 HKX HBX HCX
                      obtain ⟨k, rfl, hk, HK, HB, HCX⟩ := hrel
                      by_cases hkt : k < bs.length
                      · have hat : ((stP (plcN l) outs i).set i ⟨s, mixB (plcN l) bs k⟩)[i]? = some ⟨s, mixB (plcN l) bs k⟩ := by
                          rw [List.getElem?_set]; simp [hsi, hlt]
                        have hoK := (swV_out HK.out).ints (ptT_bits (swV_out HK.out) hat HU.out)
                        have hm := HQ.out _ (List.getElem_mem hkt)
                        have HMN := Lib.hid (mixB_next (f := plcN l) hkt)
                        have hma := mixB_at (f := plcN l) hkt
                        obtain ⟨a, ha⟩ := Int.eq_ofNat_of_zero_le hm.1
                        rw [ha] at hm HMN hma
                        obtain ⟨x0, x1⟩ := hoK.cellAt? hma
                        have p0 := swV_place HK.out (a := a) (by omega)
                        have HKN := Lib.hid (swV_setOut HK.out hat HU.out k (plcN l a : Int))
                        have hc1 := HCX.out
                        have HCN := Lib.hid (show ((wr.drew).setCell ⟨b, k, none⟩ (.int .i64 (plcN l a : Int))).cell? ⟨X, 1, none⟩ = some (.slice (some ⟨b, 0, none⟩) bs.length d) by rw [World.cell?_setCell_other (h := by intro h; injection h with h _; omega)]; exact HCX.out)
                        have HBN := Lib.hid (HB.out.drew.setCell (p := ⟨b, k, none⟩) hbP (.int .i64 (plcN l a : Int)))
                        have HKN2 := Lib.hid (swV_setOut HK.out.drew hat HU.out k (plcN l a : Int))
                        have e0 : wr.drew.cell? _ = _ := x0
                        have e1 : wr.drew.frozen? _ = _ := x1
                        clear hoK hma ha HKN
                        go_wp2_with fail
                        go_still_tail 8, (by kernel_rfl)
                        change wpList _ _ _ _ _ wr.drew
                        generalize wr.drew = w9 at e0 e1 HCN HBN HKN2
                        go_wp2_with fail
                        refine ⟨⟨k + 1, by go_num, by omega, ?_, HBN, HCN⟩, ?_⟩
                        · have h := HKN2.out
                          rw [List.set_set] at h
                          rw [show (plcN l a : Int) = rpB (plcN l) (a : Int) from rfl, HMN.out] at h
                          exact Lib.hid h
                        · simp [intOf]; omega
                      · obtain rfl : k = bs.length := by omega
                        rw [mixB_full] at HK
                        have HKN : Hid (Keep wr w2.heap.size (swV w2.heap.size nodes.length G (plcT l nodes.length nodes.length) vn (swT l nodes nodes.length) (.slice A6 ins.length c6) (ins.map (rpP (plcN l))) vsi (.slice (some ⟨g, 0, none⟩) outs.length c7) (stP (plcN l) outs (i + 1)) vso)) := by
                          rw [← HSN.out]; exact HK
                        clear HK HCX
                        go_wp2
                        refine ⟨⟨_, _, _, _, _, _, _, _, _, _, _, _, _, _, _, _, _, _, _, _, _, _, _, _, _, ?_, rfl⟩, ?_⟩
                        · exact ⟨i + 1, by go_num, by omega, HKN, HB⟩
                        · show outs.length - (intOf (.int .i64 ((i : Int) + 1))).toNat < outs.length - (intOf (.int .i64 (i : Int))).toNat
                          simp [intOf]; omega
                  · obtain rfl : i = outs.length := by omega
                    rw [stP_full] at HK
                    go_wp2
                    refine ⟨⟨1 + 1, by go_num, by omega, by simpa using HK, HB⟩, ?_⟩
                    simp [intOf]

              · simp only [show (1 ≤ 2) by omega, show (2 ≤ 2) by omega, if_true] at HK
                obtain ⟨A9, c9, he9, -, -⟩ := (rwNodes_at.1 (HK.out.own 2 _ rfl)).shape
                subst he9
                have HBD := Lib.hid (HB2.out.trans (HB.out.drew.mono HB2.out.size))
                have HKD := Lib.hid HK.out.drew
                have HKW := HK
                have HBWR := Lib.hid (HALL.out _ (HB2.out.trans (HB.out.mono HB2.out.size))).2.2.2.2.2
                obtain ⟨⟨z0, z1, z2⟩, ⟨t0, t1, t2⟩, ⟨f0, f1, f2⟩, -, -, hbw⟩ := HALL.out _ HBD.out
                obtain ⟨e0, e1, e2⟩ := swV_cells HKD.out
                have hpl := plcN_le l nodes.length
                have HOUT := Lib.hid (show SwpOut nodes ins outs 0 ((nodes.length : Int) - (plcN l nodes.length : Int)) (swT l nodes nodes.length) (ins.map (rpP (plcN l))) (outs.map (rpP (plcN l))) from ⟨HL.out.1, fun h => absurd rfl h, fun _ => ⟨l, HRC.out, rfl, rfl, rfl, rfl⟩⟩)
                obtain ⟨pm, hpm⟩ : ∃ pm, plcN l nodes.length = pm := ⟨_, rfl⟩
                rw [hpm] at hpl HOUT
                have w1' : IntKind.i64.wrap ((nodes.length : Int) - (pm : Int)) = (nodes.length : Int) - (pm : Int) := IntWalk.i64_in _ (by omega)
                have hbX : w.heap.size + 1 < w2.heap.size := by have := HB2.out.size; have := HS1.out; omega
                have HNX := Lib.hid (show ∀ (j : Nat) (r : Rw), (swV w2.heap.size nodes.length G (plcT l nodes.length nodes.length) (.slice A9 (swT l nodes nodes.length).length c9) (swT l nodes nodes.length) (.slice A6 ins.length c6) (ins.map (rpP (plcN l))) vsi (.slice A7 outs.length c7) (outs.map (rpP (plcN l))) vso)[j]? = some r → r.v.ownBlock ≠ some (w.heap.size + 1) from fun j r hr e => by have := (HK.out.lt hr e).1; omega)
                have HBW2 := Lib.hid hbw
                obtain ⟨sn, hsn⟩ : ∃ sn, (swT l nodes nodes.length).length = sn := ⟨_, rfl⟩
                rw [hsn] at e0 HKD HNX HKW
                clear HK HB m0 m1 m2 hbw
                have hx0 : (fun W => W.cell? ⟨w.heap.size, 0, none⟩ = some (.slice An nodes.length cn) ∧ W.cell? ⟨G, 0, none⟩ = some (.slice A9 sn c9) ∧ W.cell? ⟨G, 1, none⟩ = some (.slice A6 ins.length c6) ∧ W.cell? ⟨G, 2, none⟩ = some (.slice A7 outs.length c7)) wr := ⟨z0, e0, e1, e2⟩
                have hGX : G ≠ w.heap.size + 1 := by have := HPG.out; omega
                have HX0 := Lib.hid hx0
                have HX1 := Lib.hid (show (fun W => W.cell? ⟨w.heap.size, 0, none⟩ = some (.slice An nodes.length cn) ∧ W.cell? ⟨G, 0, none⟩ = some (.slice A9 sn c9) ∧ W.cell? ⟨G, 1, none⟩ = some (.slice A6 ins.length c6) ∧ W.cell? ⟨G, 2, none⟩ = some (.slice A7 outs.length c7)) wr.drew from hx0)
                have HSC := Lib.hid (show (fun W => W.cell? ⟨w.heap.size, 0, none⟩ = some (.slice An nodes.length cn) ∧ W.cell? ⟨G, 0, none⟩ = some (.slice A9 sn c9) ∧ W.cell? ⟨G, 1, none⟩ = some (.slice A6 ins.length c6) ∧ W.cell? ⟨G, 2, none⟩ = some (.slice A7 outs.length c7)) (((wr.setCell ⟨w.heap.size + 1, 0, none⟩ (.slice A9 sn c9)).setCell ⟨w.heap.size + 1, 1, none⟩ (.slice A6 ins.length c6)).setCell ⟨w.heap.size + 1, 2, none⟩ (.slice A7 outs.length c7)) from ⟨cell_set3 (by omega) z0, cell_set3 hGX e0, cell_set3 hGX e1, cell_set3 hGX e2⟩)
                have HSC1 := Lib.hid (show (fun W => W.cell? ⟨w.heap.size, 0, none⟩ = some (.slice An nodes.length cn) ∧ W.cell? ⟨G, 0, none⟩ = some (.slice A9 sn c9) ∧ W.cell? ⟨G, 1, none⟩ = some (.slice A6 ins.length c6) ∧ W.cell? ⟨G, 2, none⟩ = some (.slice A7 outs.length c7)) (((wr.setCell ⟨w.heap.size + 1, 0, none⟩ (.slice A9 sn c9)).setCell ⟨w.heap.size + 1, 1, none⟩ (.slice A6 ins.length c6)).setCell ⟨w.heap.size + 1, 2, none⟩ (.slice A7 outs.length c7)).drew from ⟨cell_set3 (by omega) z0, cell_set3 hGX e0, cell_set3 hGX e1, cell_set3 hGX e2⟩)
                have t0' : wr.cell? ⟨w.heap.size + 1, 0, none⟩ = _ := t0
                have t1' : wr.cell? ⟨w.heap.size + 1, 1, none⟩ = _ := t1
                have t2' : wr.cell? ⟨w.heap.size + 1, 2, none⟩ = _ := t2
                have f0' : wr.frozen? ⟨w.heap.size + 1, 0, none⟩ = _ := f0
                have f1' : wr.frozen? ⟨w.heap.size + 1, 1, none⟩ = _ := f1
                have f2' : wr.frozen? ⟨w.heap.size + 1, 2, none⟩ = _ := f2
                clear hx0 hGX
                go_wp2_with fail
                clear hpm hsn
                go_region_held3 (fun W => W.cell? ⟨w.heap.size, 0, none⟩ = some (.slice An nodes.length cn) ∧ W.cell? ⟨G, 0, none⟩ = some (.slice A9 sn c9) ∧ W.cell? ⟨G, 1, none⟩ = some (.slice A6 ins.length c6) ∧ W.cell? ⟨G, 2, none⟩ = some (.slice A7 outs.length c7))
                  (first | with_reducible exact HX1.out | with_reducible exact HX0.out | with_reducible exact HSC.out | with_reducible exact HSC1.out)
                  (fail)
                have sa0 : (wr.setCell ⟨w.heap.size + 1, 0, none⟩ (.slice A9 sn c9)).cell? ⟨w.heap.size + 1, 0, none⟩ = some (.slice A9 sn c9) := World.cell?_setCell_same _ _ _ t0'
                have sa1 : ((wr.setCell ⟨w.heap.size + 1, 0, none⟩ (.slice A9 sn c9)).setCell ⟨w.heap.size + 1, 1, none⟩ (.slice A6 ins.length c6)).cell? ⟨w.heap.size + 1, 1, none⟩ = some (.slice A6 ins.length c6) := World.cell?_setCell_same _ _ _ (by rw [World.cell?_setCell_other (h := by intro h; injection h with _ h; omega)]; exact t1')
                obtain ⟨s0, s1, s2⟩ := set3_cells (x := .slice A9 sn c9) (y := .slice A6 ins.length c6) (z := .slice A7 outs.length c7) t0' t1' t2'
                have HNF := Lib.hid (swV_net ((((HKW.out.skip HNX.out 0 (.slice A9 sn c9)).skip HNX.out 1 (.slice A6 ins.length c6)).skip HNX.out 2 (.slice A7 outs.length c7))).drew (by rw [List.length_map]; exact HVI.out) (by rw [List.length_map]; exact HVO.out))
                have HBF := Lib.hid (((HBWR.out.setCell (p := ⟨w.heap.size + 1, 0, none⟩) (by simp) (.slice A9 sn c9)).setCell (p := ⟨w.heap.size + 1, 1, none⟩) (by simp) (.slice A6 ins.length c6)).setCell (p := ⟨w.heap.size + 1, 2, none⟩) (by simp) (.slice A7 outs.length c7)).drew
                go_wp2_with fail
                refine bodyPost_ret (v := .tuple #[.agg #[.slice A9 sn c9, .slice A6 ins.length c6, .slice A7 outs.length c7], .int .i64 ((nodes.length : Int) - (pm : Int)), .int .i64 0]) (by simp [results, Try.results38, go_sem, s0, s1, s2]) rfl ?_
                exact ⟨_, _, 0, _, _, _, rfl, HNF.out, HOUT.out, HBF.out⟩
  · have HBF := Lib.hid (((HBW.out.setCell (p := ⟨w.heap.size + 1, 0, none⟩) (by simp) (.slice none 0 0)).setCell (p := ⟨w.heap.size + 1, 1, none⟩) (by simp) (.slice none 0 0)).setCell (p := ⟨w.heap.size + 1, 2, none⟩) (by simp) (.slice none 0 0))
    obtain ⟨s0, s1, s2⟩ := set3_cells (x := .slice none 0 0) (y := .slice none 0 0) (z := .slice none 0 0) t0 t1 t2
    have HNF := Lib.hid (show NetV (((w2.setCell ⟨w.heap.size + 1, 0, none⟩ (.slice none 0 0)).setCell ⟨w.heap.size + 1, 1, none⟩ (.slice none 0 0)).setCell ⟨w.heap.size + 1, 2, none⟩ (.slice none 0 0)) (.agg #[.slice none 0 0, .slice none 0 0, .slice none 0 0]) [] [] [] from ⟨_, _, _, rfl, nilRow _ _ _, nilRow _ _ _, nilRow _ _ _⟩)
    have hout : SwpOut nodes ins outs x 0 [] [] [] := ⟨HL.out.1, fun _ => ⟨rfl, rfl, rfl, rfl⟩, fun h => absurd h hx⟩
    have HOUT := Lib.hid hout
    clear hout
    go_wp2
    refine bodyPost_ret (v := .tuple #[.agg #[.slice none 0 0, .slice none 0 0, .slice none 0 0], .int .i64 0, .int .i64 x]) (by simp [results, Try.results38, go_sem, s0, s1, s2]) rfl ?_
    exact ⟨_, 0, x, [], [], [], rfl, HNF.out, HOUT.out, HBF.out⟩
end Go.Proofs.Ytbfjacgfifecpaa
