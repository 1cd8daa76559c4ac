/- slipstickref11.Sweep: the walk. -/
import Derived.Test.YtbfjacgfifecpaaSwJ
import Derived.Test.YtbfjacgfifecpaaJSwP
namespace Go.Proofs.Ytbfjacgfifecpaa
open Go.RowKit

def plcL (l : List Bool) (i : Nat) : List Int := (List.range i).map fun j => (plcN l j : Int)
theorem plcL_length (l : List Bool) (i : Nat) : (plcL l i).length = i := by simp [plcL]
theorem plcL_succ (l : List Bool) (i : Nat) : plcL l (i + 1) = plcL l i ++ [(plcN l i : Int)] := by simp [plcL, List.range_succ]
theorem plcL_at {l : List Bool} {n a : Nat} (h : a < n) : (plcL l n)[a]? = some (plcN l a : Int) := by simp [plcL, h]
theorem by2_place {w : World} {B n c : Nat} {A : Option Addr} {l : List Bool} {r : Rw} (h : Keep w B [rwInts 3 (.slice A n c) (plcL l n), r]) {a : Nat} (ha : a < n) : ∃ g, A = some ⟨g, 0, none⟩ ∧ w.cell? ⟨g, a, none⟩ = some (.int .i64 (plcN l a : Nat)) := by
  have ho := h.ints (i := 0) rfl
  obtain ⟨g, c', he, -, -⟩ := ho.form (by rw [plcL_length]; omega)
  injection he with e1 e2 e3
  subst e1
  exact ⟨g, rfl, (ho.cellAt? (plcL_at ha)).1⟩

set_option maxHeartbeats 4000000 in
set_option maxRecDepth 100000 in
theorem sweepR_ref (w : World) (v : Value) (nodes : List Node) (ins outs : List Port) (hN : NetV w v nodes ins outs) (hF : Fits nodes ins outs) :
    Calls Try.prog 39 #[v] w fun e w' => ∃ v' m x n' i' o', e = .returned (.tuple #[v', .int .i64 m, .int .i64 x]) ∧ NetV w' v' n' i' o' ∧ SwpOut nodes ins outs x m n' i' o' ∧ Below w.heap.size w w' := by
  obtain ⟨An, cn, Ai, ci, Ao, co, rfl, hbox⟩ := hN.box
  let ob := netBox (.slice An nodes.length cn) (.slice Ai ins.length ci) (.slice Ao outs.length co)
  have hsz : (w.alloc ob).heap.size = w.heap.size + 1 := by simp
  obtain ⟨w1, hw1⟩ : ∃ w1, w1 = (w.alloc ob).alloc zeroNet := ⟨_, rfl⟩
  have hs1 : w1.heap.size = w.heap.size + 1 + 1 := by rw [hw1]; simp
  have h01 : Below (w.heap.size + 1) (w.alloc ob) w1 := by rw [hw1]; exact (Below.refl _ _).alloc (by rw [hsz]; exact Nat.le_refl _) _
  have hnew : ∀ i, w1.cell? ⟨w.heap.size + 1, i, none⟩ = (#[Value.slice none 0 0, .slice none 0 0, .slice none 0 0] : Array Value)[i]? := fun i => by
    rw [hw1, ← hsz]
    exact World.cell?_alloc_new _ _ _ i
  have hfr : ∀ i, w1.frozen? ⟨w.heap.size + 1, i, none⟩ = false := fun i => by
    rw [hw1, ← hsz]
    exact World.frozen?_alloc_new _ _ _ i
  have hall : ∀ W, Below w1.heap.size w1 W → (W.cell? ⟨w.heap.size, 0, none⟩ = some (.slice An nodes.length cn) ∧ W.cell? ⟨w.heap.size, 1, none⟩ = some (.slice Ai ins.length ci) ∧ W.cell? ⟨w.heap.size, 2, none⟩ = some (.slice Ao outs.length co)) ∧ (W.cell? ⟨w.heap.size + 1, 0, none⟩ = some (.slice none 0 0) ∧ W.cell? ⟨w.heap.size + 1, 1, none⟩ = some (.slice none 0 0) ∧ W.cell? ⟨w.heap.size + 1, 2, none⟩ = some (.slice none 0 0)) ∧ (W.frozen? ⟨w.heap.size + 1, 0, none⟩ = false ∧ W.frozen? ⟨w.heap.size + 1, 1, none⟩ = false ∧ W.frozen? ⟨w.heap.size + 1, 2, none⟩ = false) ∧ Row kNode W (fun _ => False) (.slice An nodes.length cn) nodes ∧ NetV W (.agg #[.slice An nodes.length cn, .slice Ai ins.length ci, .slice Ao outs.length co]) nodes ins outs ∧ Below w.heap.size w W := fun W hW => by
    have hb := hW.block (w.heap.size + 1) (by omega)
    obtain ⟨c0, c1, c2, r1, r2, r3, hb3⟩ := hbox W (h01.trans (hW.mono (by omega)))
    exact ⟨⟨c0, c1, c2⟩, ⟨(World.cell?_of_block hb).trans (hnew 0), (World.cell?_of_block hb).trans (hnew 1), (World.cell?_of_block hb).trans (hnew 2)⟩, ⟨(World.frozen?_of_block hb).trans (hfr 0), (World.frozen?_of_block hb).trans (hfr 1), (World.frozen?_of_block hb).trans (hfr 2)⟩, r1, ⟨_, _, _, rfl, r1, r2, r3⟩, hb3⟩
  obtain ⟨⟨z0, z1, z2⟩, -, -, -, hn1, -⟩ := hall w1 (Below.refl _ _)
  have HC := Lib.hid (countR_ref w1 _ nodes ins outs hn1 hF)
  have HALL := Lib.hid hall
  have HW1 := Lib.hid hw1
  have HS1 := Lib.hid hs1
  have HF := Lib.hid hF
  have hnl := hF.nl
  have hil := hF.il
  have hol := hF.ol
  clear hN hbox hsz hw1 hs1 h01 hnew hfr hall hn1 hF
  go_enter Try.func39, Try.ntmps39
  go_wp2_with fail
  rw [← HW1.out]
  go_wp2_with fail
  refine HC.out.mono ?_
  rintro e w2 ⟨v2, l, x, rfl, hr2, hl2, hb2⟩
  have HL := Lib.hid hl2
  have HB2 := Lib.hid hb2
  have HR2 := Lib.hid hr2
  clear z0 z1 z2 HC hl2 hb2 hr2
  obtain ⟨⟨z0, z1, z2⟩, ⟨t0, t1, t2⟩, ⟨f0, f1, f2⟩, -, -, hbw⟩ := HALL.out _ HB2.out
  have HBW := Lib.hid hbw
  clear hbw
  by_cases hx : x = 0
  · subst hx
    have hez := errP_zero (HL.out.1.choose_spec.choose_spec.1.symm)
    have HFB := Lib.hid (formed_in hez.2.1)
    have hn62 : nodes.length ≤ 262144 := hez.1.1
    have hRC := HL.out.2.1 rfl
    have hll : l.length = nodes.length := hRC.1
    have HRC := Lib.hid hRC
    have HO3 := Lib.hid (show Own kInt 3 (w2.alloc (.cells #[] 3)) none w2.heap.size (.slice (some ⟨w2.heap.size, 0, none⟩) 0 0) (plcL l 0) from lit_ints w2 [] (by simp))
    have HB23 := Lib.hid (show Below w2.heap.size w2 (w2.alloc (.cells #[] 3)) from (Below.refl _ _).alloc (Nat.le_refl _) _)
    obtain ⟨A2, c2, he2, -, -⟩ := HR2.out.shape
    rw [hll] at he2
    subst he2
    clear hez hRC
    go_wp2_with fail
    clear z0 z1 z2 t0 t1 t2 f0 f1 f2
    go_loopw [7, 8, 9] (fun bv mv iv wr => ∃ i : Nat, iv = .int .i64 i ∧ mv = .int .i64 (plcN l i : Nat) ∧ i ≤ nodes.length ∧ Hid (Own kInt 3 wr none w2.heap.size bv (plcL l i)) ∧ Hid (Below w2.heap.size w2 wr)) (fun bv mv iv _ => nodes.length - (intOf iv).toNat)
    case atStart => exact ⟨0, rfl, rfl, Nat.zero_le _, HO3, HB23⟩
    case round =>
      clear HO3 HB23
      obtain ⟨i, rfl, rfl, hi, HO, HB⟩ := hrel
      have HBX := Lib.hid (HB2.out.trans (HB.out.mono HB2.out.size))
      by_cases hlt : i < nodes.length
      · have hsu := plcN_succ (l := l) (i := i) (by omega)
        have hple := plcN_le l i
        have HPL := Lib.hid (plcL_succ l i)
        have hlen : ((plcL l i).length + 1) * 8 ≤ 140737488355328 := by rw [plcL_length]; omega
        have HLEN := Lib.hid hlen
        have hbs := HB.out.size
        obtain ⟨pm, hpm⟩ : ∃ pm, plcN l i = pm := ⟨_, rfl⟩
        rw [hpm] at hsu hple HPL ⊢
        have hxr := HR2.out
        clear hpm hlen
        obtain ⟨b, off, rfl, x0⟩ := hxr.bool_at (i := i) (by omega)
        have hget : l.getD i false = l[i] := by rw [List.getD_eq_getElem?_getD, List.getElem?_eq_getElem (by omega)]; rfl
        rw [← hget] at x0
        have HCE := Lib.hid (fun W (hW : Below w2.heap.size w2 W) => cellBelow hW x0)
        clear hget hxr x0
        cases hg : l.getD i false with
        | true =>
          rw [hg] at hsu
          simp only [hg] at HCE
          have HSU := Lib.hid hsu
          clear hg hsu
          go_wp2_with (at_builtin; go_loud (refine appI rfl (.tmp 30) (.tmp 32) rfl HO.out hbs rfl (pm : Int) _ rfl rfl HLEN.out ?_; intro v' w5 q1 q5 q6; have HB5 := Lib.hid (HB.out.grown q5 hbs (fun g hg => (HO.out.base hg).1)); have HQ1 := Lib.hid q1; have x0 := HCE.out w5 HB5.out; clear q1 q5 q6))
          refine ⟨⟨i + 1, by go_num, by rw [HSU.out]; go_num, by omega, by rw [HPL.out]; exact HQ1, HB5⟩, ?_⟩
          simp [intOf]; omega
        | false =>
          rw [hg] at hsu
          simp only [hg] at HCE
          have HSU := Lib.hid hsu
          clear hg hsu
          go_wp2_with (at_builtin; go_loud (refine appI rfl (.tmp 30) (.tmp 32) rfl HO.out hbs rfl (pm : Int) _ rfl rfl HLEN.out ?_; intro v' w5 q1 q5 q6; have HB5 := Lib.hid (HB.out.grown q5 hbs (fun g hg => (HO.out.base hg).1)); have HQ1 := Lib.hid q1; have x0 := HCE.out w5 HB5.out; clear q1 q5 q6))
          refine ⟨⟨i + 1, by go_num, by rw [HSU.out]; rfl, by omega, by rw [HPL.out]; exact HQ1, HB5⟩, ?_⟩
          simp [intOf]; omega
      · obtain rfl : i = nodes.length := by omega
        obtain ⟨A5, c5, he5, -, -⟩ := HO.out.shape
        rw [plcL_length] at he5
        subst he5
        have hba : Below wr.heap.size wr (wr.alloc (.cells #[] 38)) := (Below.refl _ _).alloc (Nat.le_refl _) _
        have hk0 := (Keep.nil (w := w2) (Nat.le_refl w2.heap.size)).push HB.out (r := rwInts 3 (.slice A5 nodes.length c5) (plcL l nodes.length)) (rwInts_at.2 HO.out)
        have hk1 := hk0.push hba (r := rwNodes (.slice (some ⟨wr.heap.size, 0, none⟩) 0 0) []) (World.ownsRow_lit wr #[] 0 (Nat.le_refl _) (by simp [maxLen]) rfl)
        have HK1 := Lib.hid hk1
        have HBA := Lib.hid (HB.out.trans (hba.mono HB.out.size))
        clear hba hk0 hk1 HO HB HBX hlt hi
        go_wp2_with fail
        go_loopw [10, 11] (fun nv iv wr => ∃ i : Nat, iv = .int .i64 i ∧ i ≤ nodes.length ∧ Hid (Keep wr w2.heap.size [rwInts 3 (.slice A5 nodes.length c5) (plcL l nodes.length), rwNodes nv (swT l nodes i)]) ∧ Hid (Below w2.heap.size w2 wr)) (fun nv iv _ => nodes.length - (intOf iv).toNat)
        case atStart => exact ⟨0, rfl, Nat.zero_le _, HK1, HBA⟩
        case round =>
          clear HK1 HBA
          obtain ⟨i, rfl, hi, HK, HB⟩ := hrel
          by_cases hlt : i < nodes.length
          · obtain ⟨b, off, he2, x0⟩ := (HR2.out.later HB.out).bool_at (i := i) (by omega)
            subst he2
            have hget : l.getD i false = l[i] := by rw [List.getD_eq_getElem?_getD, List.getElem?_eq_getElem (by omega)]; rfl
            rw [← hget] at x0
            have HSN := Lib.hid (swT_succ (l := l) (List.getElem?_eq_getElem hlt))
            obtain ⟨⟨z0, z1, z2⟩, -, -, hrn, -, -⟩ := HALL.out _ (HB2.out.trans (HB.out.mono HB2.out.size))
            obtain ⟨b3, off3, rfl, y0, y1, y2, y3⟩ := hrn.node_at hlt
            have hiu := HFB.out.1 _ (List.getElem_mem hlt)
            obtain ⟨x, hxx⟩ : ∃ x, nodes[i] = x := ⟨_, rfl⟩
            rw [hxx] at y0 y1 y2 y3 hiu HSN
            clear hxx hrn hget
            obtain ⟨xk, xa, xb, xc⟩ := x
            dsimp only at y0 y1 y2 y3
            have HIU := Lib.hid hiu
            obtain ⟨wx, hwx⟩ : ∃ wx, wx = wr.alloc (.cells #[.int .i64 xk, .int .i64 xa, .int .i64 xb, .int .i64 xc] 38) := ⟨_, rfl⟩
            have hbx : Below wr.heap.size wr wx := by rw [hwx]; exact (Below.refl _ _).alloc (Nat.le_refl _) _
            have hsx : wx.heap.size = wr.heap.size + 1 := by rw [hwx]; simp
            have hcx : ∀ W, Below wx.heap.size wx W → (W.cell? ⟨wr.heap.size, 0, none⟩ = some (.int .i64 xk) ∧ W.cell? ⟨wr.heap.size, 1, none⟩ = some (.int .i64 xa) ∧ W.cell? ⟨wr.heap.size, 2, none⟩ = some (.int .i64 xb) ∧ W.cell? ⟨wr.heap.size, 3, none⟩ = some (.int .i64 xc)) ∧ ∀ j, W.frozen? ⟨wr.heap.size, j, none⟩ = false := fun W hW => by
              have hb := hW.block wr.heap.size (by omega)
              have hc : ∀ i, W.cell? ⟨wr.heap.size, i, none⟩ = wx.cell? ⟨wr.heap.size, i, none⟩ := fun i => World.cell?_of_block hb
              refine ⟨?_, fun j => ?_⟩
              · rw [hc, hc, hc, hc, hwx]
                exact ⟨World.cell?_alloc_new _ _ _ 0, World.cell?_alloc_new _ _ _ 1, World.cell?_alloc_new _ _ _ 2, World.cell?_alloc_new _ _ _ 3⟩
              · rw [World.frozen?_of_block hb, hwx]
                exact World.frozen?_alloc_new _ _ _ _
            have HCX := Lib.hid hcx
            have HBX := Lib.hid (HB.out.trans (hbx.mono HB.out.size))
            have HKX := Lib.hid (HK.out.below hbx)
            have HWX := Lib.hid hwx
            have HNX := Lib.hid (show ∀ (j : Nat) (r : Rw), [rwInts 3 (.slice A5 nodes.length c5) (plcL l nodes.length), rwNodes u10 (swT l nodes i)][j]? = some r → r.v.ownBlock ≠ some wr.heap.size from fun j r hr e => by have := (HK.out.lt hr e).2; omega)
            have HC := Lib.hid (uses_ref wx (fun _ => False) (fun _ h => h.elim) ⟨xk, xa, xb, xc⟩)
            have hsl : ((swT l nodes i).length + 1) * 32 ≤ 140737488355328 := by have := swT_len l nodes i; omega
            have hbw6 : w2.heap.size ≤ wr.heap.size := HB.out.size
            obtain ⟨A9, c9, he9, -, -⟩ := (rwNodes_at.1 (HK.out.own 1 _ rfl)).shape
            have HLT := Lib.hid (show ∀ g, (Value.slice A5 nodes.length c5).ownBlock = some g → g < wr.heap.size from fun g hg => (HK.out.lt (i := 0) rfl hg).2)
            subst he9
            clear hwx hbx hsx hcx hiu
            cases hg : l.getD i false with
            | false =>
              rw [hg] at x0 HSN
              have HSW : Hid (swT l nodes (i + 1) = swT l nodes i) := Lib.hid (by rw [HSN.out]; simp)
              clear hg
              go_wp2_with fail
              refine ⟨⟨i + 1, by go_num, by omega, by rw [HSW.out]; exact HK, HB⟩, ?_⟩
              simp [intOf]; omega
            | true =>
            rw [hg] at x0 HSN
            simp only [if_true] at HSN
            clear hg
            go_wp2_with fail
            rw [← HWX.out]
            refine HC.out.mono ?_
            rintro e w6 ⟨v6, rfl, hr6, hb6⟩
            obtain ⟨A10, c10, rfl, -, -⟩ := hr6.shape
            have HK6 := Lib.hid (HKX.out.below hb6)
            have HBB6 := Lib.hid (HBX.out.trans (hb6.mono HBX.out.size))
            obtain ⟨⟨g0, g1, g2, g3⟩, hfz⟩ := HCX.out w6 hb6
            have hz1 := hfz 1
            have hz2 := hfz 2
            have hz3 := hfz 3
            have hm3 : (usesR ⟨xk, xa, xb, xc⟩).length ≤ 3 := by simp [usesR]; omega
            have hgW : ∀ g, A5 = some ⟨g, 0, none⟩ → ¬ (wr.heap.size = g) ∧ ¬ (g = wr.heap.size) := fun g hg => by
              have := HLT.out g (by rw [hg]; rfl)
              omega
            clear hr6 hb6 HC x0 y0 y1 y2 y3 hfz z0 z1 z2
            rcases (show (usesR ⟨xk, xa, xb, xc⟩).length = 0 ∨ (usesR ⟨xk, xa, xb, xc⟩).length = 1 ∨ (usesR ⟨xk, xa, xb, xc⟩).length = 2 ∨ (usesR ⟨xk, xa, xb, xc⟩).length = 3 by omega) with hm | hm | hm | hm
            · -- 0
              have HREN := Lib.hid (renN_0 (f := plcN l) (x := ⟨xk, xa, xb, xc⟩) hm)
              have hmem := usesR_mem hm
              have HSW : Hid (swT l nodes (i + 1) = swT l nodes i ++ [⟨xk, xa, xb, xc⟩]) := by
                have h := HREN.out
                rw [HSN.out, h]
                exact Lib.hid rfl
              have HKN := Lib.hid HK6.out
              clear hmem
              have hBk := HKN.out.base
              have HON := Lib.hid (rwNodes_at.1 (HKN.out.own 1 _ rfl))
              have HL8 := Lib.hid (fun y : Node => (show (swT l nodes i ++ [y]).length = (swT l nodes i).length + 1 by simp))
              have hb6 : Below w2.heap.size w2 w6 := HBB6.out
              have HB6 := Lib.hid hb6
              clear hb6
              go_wp2_with (at_builtin; go_loud (refine appN rfl (.tmp 84) (.tmp 86) rfl HON.out hBk rfl ⟨xk, xa, xb, xc⟩ _ rfl rfl hsl ?_; intro v' w7 q1 q5 q6; have HK7 := Lib.hid (HKN.out.set (i := 1) (r' := rwNodes v' (swT l nodes i ++ [⟨xk, xa, xb, xc⟩])) rfl (rwNodes_at.2 q1) q5 q6); obtain ⟨A8, c8, he8, -, -⟩ := q1.shape; rw [HL8.out] at he8; have HB7 := Lib.hid (HB6.out.grown q5 hBk (fun g hg => (HON.out.base hg).1)); subst he8; clear q1 q5 q6))
              refine ⟨⟨i + 1, by go_num, by omega, Lib.hid (by rw [HSW.out]; exact HK7.out), HB7⟩, ?_⟩
              simp [intOf]; omega
            · -- 1
              have HREN := Lib.hid (renN_1 (f := plcN l) (x := ⟨xk, xa, xb, xc⟩) hm)
              have hmem := usesR_mem hm
              have hua := HIU.out _ (hmem.1 (by omega))
              dsimp only at hua
              obtain ⟨na, rfl⟩ := Int.eq_ofNat_of_zero_le hua.1
              obtain ⟨gA, hgb, pa⟩ := by2_place HK6.out (a := na) (by omega)
              subst hgb
              have ia : (na : Int) < (nodes.length : Int) := by omega
              have HSW : Hid (swT l nodes (i + 1) = swT l nodes i ++ [⟨xk, (plcN l na : Nat), xb, xc⟩]) := by
                have h := HREN.out
                simp only [Int.toNat_natCast] at h
                rw [HSN.out, h]
                exact Lib.hid rfl
              have HKN := Lib.hid (HK6.out.skip HNX.out 1 (.int .i64 (plcN l na : Nat)))
              clear hmem
              have hBk := HKN.out.base
              have HSX := Lib.hid (show ((w6.setCell ⟨wr.heap.size, 1, none⟩ (.int .i64 (plcN l na : Nat)))).heap.size = w6.heap.size by simp)
              have HON := Lib.hid (rwNodes_at.1 (HKN.out.own 1 _ rfl))
              have HL8 := Lib.hid (fun y : Node => (show (swT l nodes i ++ [y]).length = (swT l nodes i).length + 1 by simp))
              have hb6 : Below w2.heap.size w2 (w6.setCell ⟨wr.heap.size, 1, none⟩ (.int .i64 (plcN l na : Nat))) := (HBB6.out.setCell (p := ⟨wr.heap.size, 1, none⟩) hbw6 (.int .i64 (plcN l na : Nat)))
              have HB6 := Lib.hid hb6
              clear hb6
              go_wp2_with (at_builtin; go_loud (refine appN rfl (.tmp 84) (.tmp 86) rfl HON.out hBk rfl ⟨xk, (plcN l na : Nat), xb, xc⟩ _ HSX.out rfl hsl ?_; intro v' w7 q1 q5 q6; have HK7 := Lib.hid (HKN.out.set (i := 1) (r' := rwNodes v' (swT l nodes i ++ [⟨xk, (plcN l na : Nat), xb, xc⟩])) rfl (rwNodes_at.2 q1) q5 q6); obtain ⟨A8, c8, he8, -, -⟩ := q1.shape; rw [HL8.out] at he8; have HB7 := Lib.hid (HB6.out.grown q5 hBk (fun g hg => (HON.out.base hg).1)); subst he8; clear q1 q5 q6))
              refine ⟨⟨i + 1, by go_num, by omega, Lib.hid (by rw [HSW.out]; exact HK7.out), HB7⟩, ?_⟩
              simp [intOf]; omega
            · -- 2
              have HREN := Lib.hid (renN_2 (f := plcN l) (x := ⟨xk, xa, xb, xc⟩) hm)
              have hmem := usesR_mem hm
              have hua := HIU.out _ (hmem.1 (by omega))
              dsimp only at hua
              obtain ⟨na, rfl⟩ := Int.eq_ofNat_of_zero_le hua.1
              obtain ⟨gA, hgb, pa⟩ := by2_place HK6.out (a := na) (by omega)
              subst hgb
              have ia : (na : Int) < (nodes.length : Int) := by omega
              have hub := HIU.out _ (hmem.2.1 (by omega))
              dsimp only at hub
              obtain ⟨nb, rfl⟩ := Int.eq_ofNat_of_zero_le hub.1
              obtain ⟨gb, hgb, pb⟩ := by2_place HK6.out (a := nb) (by omega)
              obtain rfl : gA = gb := by simpa using hgb
              have ib : (nb : Int) < (nodes.length : Int) := by omega
              have HSW : Hid (swT l nodes (i + 1) = swT l nodes i ++ [⟨xk, (plcN l na : Nat), (plcN l nb : Nat), xc⟩]) := by
                have h := HREN.out
                simp only [Int.toNat_natCast] at h
                rw [HSN.out, h]
                exact Lib.hid rfl
              have HKN := Lib.hid ((HK6.out.skip HNX.out 1 (.int .i64 (plcN l na : Nat))).skip HNX.out 2 (.int .i64 (plcN l nb : Nat)))
              clear hmem
              have hBk := HKN.out.base
              have HSX := Lib.hid (show (((w6.setCell ⟨wr.heap.size, 1, none⟩ (.int .i64 (plcN l na : Nat))).setCell ⟨wr.heap.size, 2, none⟩ (.int .i64 (plcN l nb : Nat)))).heap.size = w6.heap.size by simp)
              have HON := Lib.hid (rwNodes_at.1 (HKN.out.own 1 _ rfl))
              have HL8 := Lib.hid (fun y : Node => (show (swT l nodes i ++ [y]).length = (swT l nodes i).length + 1 by simp))
              have hb6 : Below w2.heap.size w2 ((w6.setCell ⟨wr.heap.size, 1, none⟩ (.int .i64 (plcN l na : Nat))).setCell ⟨wr.heap.size, 2, none⟩ (.int .i64 (plcN l nb : Nat))) := ((HBB6.out.setCell (p := ⟨wr.heap.size, 1, none⟩) hbw6 (.int .i64 (plcN l na : Nat))).setCell (p := ⟨wr.heap.size, 2, none⟩) hbw6 (.int .i64 (plcN l nb : Nat)))
              have HB6 := Lib.hid hb6
              clear hb6
              go_wp2_with (at_builtin; go_loud (refine appN rfl (.tmp 84) (.tmp 86) rfl HON.out hBk rfl ⟨xk, (plcN l na : Nat), (plcN l nb : Nat), xc⟩ _ HSX.out rfl hsl ?_; intro v' w7 q1 q5 q6; have HK7 := Lib.hid (HKN.out.set (i := 1) (r' := rwNodes v' (swT l nodes i ++ [⟨xk, (plcN l na : Nat), (plcN l nb : Nat), xc⟩])) rfl (rwNodes_at.2 q1) q5 q6); obtain ⟨A8, c8, he8, -, -⟩ := q1.shape; rw [HL8.out] at he8; have HB7 := Lib.hid (HB6.out.grown q5 hBk (fun g hg => (HON.out.base hg).1)); subst he8; clear q1 q5 q6))
              refine ⟨⟨i + 1, by go_num, by omega, Lib.hid (by rw [HSW.out]; exact HK7.out), HB7⟩, ?_⟩
              simp [intOf]; omega
            · -- 3
              have HREN := Lib.hid (renN_3 (f := plcN l) (x := ⟨xk, xa, xb, xc⟩) hm)
              have hmem := usesR_mem hm
              have hua := HIU.out _ (hmem.1 (by omega))
              dsimp only at hua
              obtain ⟨na, rfl⟩ := Int.eq_ofNat_of_zero_le hua.1
              obtain ⟨gA, hgb, pa⟩ := by2_place HK6.out (a := na) (by omega)
              subst hgb
              have ia : (na : Int) < (nodes.length : Int) := by omega
              have hub := HIU.out _ (hmem.2.1 (by omega))
              dsimp only at hub
              obtain ⟨nb, rfl⟩ := Int.eq_ofNat_of_zero_le hub.1
              obtain ⟨gb, hgb, pb⟩ := by2_place HK6.out (a := nb) (by omega)
              obtain rfl : gA = gb := by simpa using hgb
              have ib : (nb : Int) < (nodes.length : Int) := by omega
              have huc := HIU.out _ (hmem.2.2 (by omega))
              dsimp only at huc
              obtain ⟨nc, rfl⟩ := Int.eq_ofNat_of_zero_le huc.1
              obtain ⟨gb, hgb, pc⟩ := by2_place HK6.out (a := nc) (by omega)
              obtain rfl : gA = gb := by simpa using hgb
              have ic : (nc : Int) < (nodes.length : Int) := by omega
              have HSW : Hid (swT l nodes (i + 1) = swT l nodes i ++ [⟨xk, (plcN l na : Nat), (plcN l nb : Nat), (plcN l nc : Nat)⟩]) := by
                have h := HREN.out
                simp only [Int.toNat_natCast] at h
                rw [HSN.out, h]
                exact Lib.hid rfl
              have HKN := Lib.hid (((HK6.out.skip HNX.out 1 (.int .i64 (plcN l na : Nat))).skip HNX.out 2 (.int .i64 (plcN l nb : Nat))).skip HNX.out 3 (.int .i64 (plcN l nc : Nat)))
              clear hmem
              have hBk := HKN.out.base
              have HSX := Lib.hid (show ((((w6.setCell ⟨wr.heap.size, 1, none⟩ (.int .i64 (plcN l na : Nat))).setCell ⟨wr.heap.size, 2, none⟩ (.int .i64 (plcN l nb : Nat))).setCell ⟨wr.heap.size, 3, none⟩ (.int .i64 (plcN l nc : Nat)))).heap.size = w6.heap.size by simp)
              have HON := Lib.hid (rwNodes_at.1 (HKN.out.own 1 _ rfl))
              have HL8 := Lib.hid (fun y : Node => (show (swT l nodes i ++ [y]).length = (swT l nodes i).length + 1 by simp))
              have hb6 : Below w2.heap.size w2 (((w6.setCell ⟨wr.heap.size, 1, none⟩ (.int .i64 (plcN l na : Nat))).setCell ⟨wr.heap.size, 2, none⟩ (.int .i64 (plcN l nb : Nat))).setCell ⟨wr.heap.size, 3, none⟩ (.int .i64 (plcN l nc : Nat))) := (((HBB6.out.setCell (p := ⟨wr.heap.size, 1, none⟩) hbw6 (.int .i64 (plcN l na : Nat))).setCell (p := ⟨wr.heap.size, 2, none⟩) hbw6 (.int .i64 (plcN l nb : Nat))).setCell (p := ⟨wr.heap.size, 3, none⟩) hbw6 (.int .i64 (plcN l nc : Nat)))
              have HB6 := Lib.hid hb6
              clear hb6
              go_wp2_with (at_builtin; go_loud (refine appN rfl (.tmp 84) (.tmp 86) rfl HON.out hBk rfl ⟨xk, (plcN l na : Nat), (plcN l nb : Nat), (plcN l nc : Nat)⟩ _ HSX.out rfl hsl ?_; intro v' w7 q1 q5 q6; have HK7 := Lib.hid (HKN.out.set (i := 1) (r' := rwNodes v' (swT l nodes i ++ [⟨xk, (plcN l na : Nat), (plcN l nb : Nat), (plcN l nc : Nat)⟩])) rfl (rwNodes_at.2 q1) q5 q6); obtain ⟨A8, c8, he8, -, -⟩ := q1.shape; rw [HL8.out] at he8; have HB7 := Lib.hid (HB6.out.grown q5 hBk (fun g hg => (HON.out.base hg).1)); subst he8; clear q1 q5 q6))
              refine ⟨⟨i + 1, by go_num, by omega, Lib.hid (by rw [HSW.out]; exact HK7.out), HB7⟩, ?_⟩
              simp [intOf]; omega
          · obtain rfl : i = nodes.length := by omega
            obtain ⟨A9, c9, he9, -, -⟩ := (rwNodes_at.1 (HK.out.own 1 _ rfl)).shape
            subst he9
            have hby := (HK.out.ints (i := 0) rfl).rowS (fun _ => False) (fun _ _ h => h)
            have hnn : ∀ q ∈ ins ++ outs, ∀ b ∈ q.bits, ∃ a : Nat, b = (a : Int) ∧ (plcL l nodes.length)[a]? = some (plcN l a : Int) := fun q hq b hb => by
              have h := (HFB.out.2 q hq).2 b hb
              obtain ⟨a, rfl⟩ := Int.eq_ofNat_of_zero_le h.1
              exact ⟨a, rfl, plcL_at (by omega)⟩
            have hrr : ∀ W, Below wr.heap.size wr W → Below w1.heap.size w1 W := fun W hW => (HB2.out.trans (HB.out.mono HB2.out.size)).trans (hW.mono (Nat.le_trans HB2.out.size HB.out.size))
            have HRR := Lib.hid hrr
            have hcell : ∀ W, Below wr.heap.size wr W → (fun W => W.cell? ⟨w.heap.size, 1, none⟩ = some (.slice Ai ins.length ci) ∧ W.cell? ⟨w.heap.size, 2, none⟩ = some (.slice Ao outs.length co)) W := fun W hW => by
              obtain ⟨⟨c0, c1, c2⟩, -⟩ := HALL.out W (hrr W hW)
              exact ⟨c1, c2⟩
            have HCI := Lib.hid (fun W (hW : Below wr.heap.size wr W) => by
              obtain ⟨-, -, -, -, ⟨vn, vi, vo, he, -, hri, -⟩, -⟩ := HALL.out W (hrr W hW)
              simp only [Value.agg.injEq, Array.mk.injEq, List.cons.injEq, and_true] at he
              obtain ⟨-, rfl, -⟩ := he
              exact portsR_ref W _ (.slice A5 nodes.length c5) ins (plcL l nodes.length) (plcN l) hri (hby.later hW) hil (fun q hq => HF.out.bits q (List.mem_append_left _ hq)) (fun q hq => hnn q (List.mem_append_left _ hq)))
            have HCO := Lib.hid (fun W (hW : Below wr.heap.size wr W) => by
              obtain ⟨-, -, -, -, ⟨vn, vi, vo, he, -, -, hro⟩, -⟩ := HALL.out W (hrr W hW)
              simp only [Value.agg.injEq, Array.mk.injEq, List.cons.injEq, and_true] at he
              obtain ⟨-, -, rfl⟩ := he
              exact portsR_ref W _ (.slice A5 nodes.length c5) outs (plcL l nodes.length) (plcN l) hro (hby.later hW) hol (fun q hq => HF.out.bits q (List.mem_append_right _ hq)) (fun q hq => hnn q (List.mem_append_right _ hq)))
            have hpl := plcN_le l nodes.length
            have HOUT := Lib.hid (show SwpOut nodes ins outs 0 ((nodes.length : Int) - (plcN l nodes.length : Int)) (swT l nodes nodes.length) (ins.map (rpP (plcN l))) (outs.map (rpP (plcN l))) from ⟨HL.out.1, fun h => absurd rfl h, fun _ => ⟨l, HRC.out, rfl, rfl, rfl, rfl⟩⟩)
            obtain ⟨pm, hpm⟩ : ∃ pm, plcN l nodes.length = pm := ⟨_, rfl⟩
            rw [hpm] at hpl HOUT
            have w1' : IntKind.i64.wrap ((nodes.length : Int) - (pm : Int)) = (nodes.length : Int) - (pm : Int) := IntWalk.i64_in _ (by omega)
            have hbX : w.heap.size + 1 < w2.heap.size := by have := HB2.out.size; have := HS1.out; omega
            have HBX := Lib.hid hbX
            obtain ⟨sn, hsn⟩ : ∃ sn, (swT l nodes nodes.length).length = sn := ⟨_, rfl⟩
            rw [hsn] at HK
            have HX0 := Lib.hid (hcell wr (Below.refl _ _))
            have HXD := Lib.hid (hcell wr.drew (Below.refl _ _).drew)
            have HBD := Lib.hid (show Below wr.heap.size wr wr.drew from (Below.refl _ _).drew)
            have HCELL := Lib.hid hcell
            have HLI := Lib.hid (show (ins.map (rpP (plcN l))).length = ins.length by simp)
            have HLO := Lib.hid (show (outs.map (rpP (plcN l))).length = outs.length by simp)
            have HSC := Lib.hid (show ∀ (W : World) (x y z : Value), Below wr.heap.size wr W → (fun W => W.cell? ⟨w.heap.size, 1, none⟩ = some (.slice Ai ins.length ci) ∧ W.cell? ⟨w.heap.size, 2, none⟩ = some (.slice Ao outs.length co)) (((W.setCell ⟨w.heap.size + 1, 0, none⟩ x).setCell ⟨w.heap.size + 1, 1, none⟩ y).setCell ⟨w.heap.size + 1, 2, none⟩ z) from fun W x y z hW => ⟨cell_set3 (by omega) (hcell W hW).1, cell_set3 (by omega) (hcell W hW).2⟩)
            have HBS := Lib.hid HB.out.size
            clear hby hnn hrr hcell hlt hi
            go_wp2_with fail
            clear hpm hsn
            go_region_held3 (fun W => W.cell? ⟨w.heap.size, 1, none⟩ = some (.slice Ai ins.length ci) ∧ W.cell? ⟨w.heap.size, 2, none⟩ = some (.slice Ao outs.length co))
              (first | with_reducible exact HX0.out | with_reducible exact HXD.out | with_reducible exact HX4.out | with_reducible exact HX5.out | with_reducible exact HX6.out)
              (first
                | (go_at_call 76; refine (HCO.out _ HB4.out).mono ?_; rintro e w5 ⟨v5, rfl, hr5, hb5⟩; obtain ⟨A7, c7, he7, -, -⟩ := hr5.shape; have HE7 := Lib.hid (he7.trans (congrArg (fun n => Value.slice A7 n c7) HLO.out)); obtain rfl := HE7.out; have HR5 := Lib.hid hr5; have HBB5 := Lib.hid hb5; have HB5 := Lib.hid (HB4.out.trans (hb5.mono HB4.out.size)); have HX5 := Lib.hid (HCELL.out w5 HB5.out); have HX6 := Lib.hid (HSC.out w5 (.slice A9 sn c9) (.slice A6 ins.length c6) (.slice A7 outs.length c7) HB5.out); obtain ⟨-, ⟨t0, t1, t2⟩, ⟨f0, f1, f2⟩, -⟩ := HALL.out w5 (HRR.out w5 HB5.out); clear hr5 hb5 he7)
                | (go_at_call 76; refine (HCI.out _ HBD.out).mono ?_; rintro e w4 ⟨v4, rfl, hr4, hb4⟩; obtain ⟨A6, c6, he6, -, -⟩ := hr4.shape; have HE6 := Lib.hid (he6.trans (congrArg (fun n => Value.slice A6 n c6) HLI.out)); obtain rfl := HE6.out; have HR4 := Lib.hid hr4; have HBB4 := Lib.hid hb4; have HB4 := Lib.hid (HBD.out.trans (hb4.mono (Nat.le_refl _))); have HX4 := Lib.hid (HCELL.out w4 HB4.out); clear hr4 hb4 he6))
            have sa0 : (w5.setCell ⟨w.heap.size + 1, 0, none⟩ (.slice A9 sn c9)).cell? ⟨w.heap.size + 1, 0, none⟩ = some (.slice A9 sn c9) := World.cell?_setCell_same _ _ _ t0
            have sa1 : ((w5.setCell ⟨w.heap.size + 1, 0, none⟩ (.slice A9 sn c9)).setCell ⟨w.heap.size + 1, 1, none⟩ (.slice A6 ins.length c6)).cell? ⟨w.heap.size + 1, 1, none⟩ = some (.slice A6 ins.length c6) := World.cell?_setCell_same _ _ _ (by rw [World.cell?_setCell_other (h := by intro h; injection h with _ h; omega)]; exact t1)
            obtain ⟨s0, s1, s2⟩ := set3_cells (x := .slice A9 sn c9) (y := .slice A6 ins.length c6) (z := .slice A7 outs.length c7) t0 t1 t2
            have HNR := Lib.hid (((rwNodes_at.1 (HK.out.own 1 _ rfl)).rowNodes (S := under w2.heap.size) (fun _ h => h)).later HB5.out)
            have HBF := Lib.hid ((((HALL.out w5 (HRR.out w5 HB5.out)).2.2.2.2.2.setCell (p := ⟨w.heap.size + 1, 0, none⟩) (by simp) (.slice A9 sn c9)).setCell (p := ⟨w.heap.size + 1, 1, none⟩) (by simp) (.slice A6 ins.length c6)).setCell (p := ⟨w.heap.size + 1, 2, none⟩) (by simp) (.slice A7 outs.length c7))
            have HSM := Lib.hid (fun (n : Nat) (hn : w.heap.size + 1 < n) => (⟨by simp, fun i _ hi => heap_set3 (fun e => hi (by rw [e]; exact hn))⟩ : Same (under n) w5 (((w5.setCell ⟨w.heap.size + 1, 0, none⟩ (.slice A9 sn c9)).setCell ⟨w.heap.size + 1, 1, none⟩ (.slice A6 ins.length c6)).setCell ⟨w.heap.size + 1, 2, none⟩ (.slice A7 outs.length c7))))
            go_wp2_with fail
            refine bodyPost_ret (v := .tuple #[.agg #[.slice A9 sn c9, .slice A6 ins.length c6, .slice A7 outs.length c7], .int .i64 ((nodes.length : Int) - (pm : Int)), .int .i64 0]) (by simp [results, Try.results39, go_sem, s0, s1, s2]) rfl ?_
            have hX := HBX.out
            have hs0 := HBS.out
            have hs4 := HB4.out.size
            refine ⟨_, _, 0, _, _, _, rfl, ⟨_, _, _, rfl, HNR.out.keep (HSM.out _ hX) (fun _ _ h => h.elim), (HR4.out.later HBB5.out).keep (HSM.out _ (show w.heap.size + 1 < wr.heap.size by omega)) (fun _ _ h => h.elim), HR5.out.keep (HSM.out _ (by omega)) (fun _ _ h => h.elim)⟩, HOUT.out, HBF.out⟩
  · have HBF := Lib.hid (((HBW.out.setCell (p := ⟨w.heap.size + 1, 0, none⟩) (by simp) (.slice none 0 0)).setCell (p := ⟨w.heap.size + 1, 1, none⟩) (by simp) (.slice none 0 0)).setCell (p := ⟨w.heap.size + 1, 2, none⟩) (by simp) (.slice none 0 0))
    obtain ⟨s0, s1, s2⟩ := set3_cells (x := .slice none 0 0) (y := .slice none 0 0) (z := .slice none 0 0) t0 t1 t2
    have HNF := Lib.hid (show NetV (((w2.setCell ⟨w.heap.size + 1, 0, none⟩ (.slice none 0 0)).setCell ⟨w.heap.size + 1, 1, none⟩ (.slice none 0 0)).setCell ⟨w.heap.size + 1, 2, none⟩ (.slice none 0 0)) (.agg #[.slice none 0 0, .slice none 0 0, .slice none 0 0]) [] [] [] from ⟨_, _, _, rfl, nilRow _ _ _, nilRow _ _ _, nilRow _ _ _⟩)
    have hout : SwpOut nodes ins outs x 0 [] [] [] := ⟨HL.out.1, fun _ => ⟨rfl, rfl, rfl, rfl⟩, fun h => absurd h hx⟩
    have HOUT := Lib.hid hout
    clear hout
    go_wp2
    refine bodyPost_ret (v := .tuple #[.agg #[.slice none 0 0, .slice none 0 0, .slice none 0 0], .int .i64 0, .int .i64 x]) (by simp [results, Try.results39, go_sem, s0, s1, s2]) rfl ?_
    exact ⟨_, 0, x, [], [], [], rfl, HNF.out, HOUT.out, HBF.out⟩
end Go.Proofs.Ytbfjacgfifecpaa
