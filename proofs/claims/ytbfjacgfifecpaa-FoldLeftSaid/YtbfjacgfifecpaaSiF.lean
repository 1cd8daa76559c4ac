/- Any net, cycle by cycle: slipstickref07.Through, the walk. -/
import Derived.Test.YtbfjacgfifecpaaSiC
namespace Go.Proofs.Ytbfjacgfifecpaa
open Go.RowKit

/-- the state ahead of cycle i -/
noncomputable def stC (nodes : List Node) (ins : List Port) (script : List (List Nat)) : Nat → List Bool
  | 0 => startR nodes
  | i + 1 => nextR nodes (valsC nodes (stC nodes ins script i) (inputsR nodes.length ins (script.getD i [])))
/-- the values in cycle i -/
noncomputable def cyC (nodes : List Node) (ins : List Port) (script : List (List Nat)) (i : Nat) : List Bool := valsC nodes (stC nodes ins script i) (inputsR nodes.length ins (script.getD i []))
theorem stC_succ (nodes : List Node) (ins : List Port) (script : List (List Nat)) (i : Nat) : stC nodes ins script (i + 1) = nextR nodes (cyC nodes ins script i) := rfl
theorem stC_length (nodes : List Node) (ins : List Port) (script : List (List Nat)) (i : Nat) : (stC nodes ins script i).length = nodes.length := by
  cases i with
  | zero => rw [stC]; simp [startR]
  | succ i => rw [stC_succ]; simp [nextR]
noncomputable def outsC (nodes : List Node) (ins outs : List Port) (script : List (List Nat)) : List (List (List Int)) := (List.range script.length).map fun i => outsR outs (cyC nodes ins script i)
def fitsAll (ins : List Port) (script : List (List Nat)) : Bool := script.all (fitsB ins)
noncomputable def throughC (nodes : List Node) (ins outs : List Port) (script : List (List Nat)) : List (List (List Int)) := if fitsAll ins script then outsC nodes ins outs script else []
def throughE (ins : List Port) (script : List (List Nat)) : Nat := if fitsAll ins script then 0 else 5

theorem rowNil {α : Type} (k : Kd α) (w : World) (S : Nat → Prop) : Row k w S (.slice none 0 0) [] := ⟨none, 0, [], rfl, Nat.le_refl _, by simp [maxLen], fun _ => rfl, Pairs.nil _ _ _, fun h => by simp at h⟩
/-- rows of numbers that may come in -/
def okScript (script : List (List (List Int))) : Prop := script.length ≤ 1073741824 ∧ ∀ row ∈ script, row.length ≤ 1099511627776 ∧ ∀ xs ∈ row, okParts xs ∧ xs.length ≤ 4294967296

set_option maxHeartbeats 8000000 in
set_option maxRecDepth 100000 in
theorem through_any (w : World) (S S1 S2 : Nat → Prop) (hS : There S w) (v vord vs : Value) (nodes : List Node) (ins outs : List Port) (o : List Nat) (l : List Int) (script : List (List (List Int))) (hN : NetV w v nodes ins outs) (hord : Row kInt w S1 vord (nats o)) (hx : Row (kRow (kRow (kNum .u32))) w S2 vs script)
    (hnl : nodes.length ≤ 1099511627776) (hf : Frm nodes) (hbh : Beh nodes o) (hall : ∀ u, u < nodes.length → u ∈ o) (hlev : IsLev nodes l) (hi : okPorts nodes ins) (ho : okPorts nodes outs) (hsc : okScript script) :
    Calls Try.prog 74 #[v, vord, vs] w fun e w' => ∃ v' n, e = .returned (.tuple #[v', .int .i64 n]) ∧ n = ((throughE ins (script.map fun r => r.map partsVal) : Nat) : Int) ∧ Row (kRow (kRow (kNum .u32))) w' S v' (throughC nodes ins outs (script.map fun r => r.map partsVal)) ∧ Below w.heap.size w w' := by
  obtain ⟨An, cn, Ai, ci, Ao, co, rfl, hbox⟩ := hN.box
  let ob := netBox (.slice An nodes.length cn) (.slice Ai ins.length ci) (.slice Ao outs.length co)
  have hsz : (w.alloc ob).heap.size = w.heap.size + 1 := by simp
  obtain ⟨z0, z1, z2, -, -, -, -⟩ := hbox (w.alloc ob) (Below.refl _ _)
  obtain ⟨A1, c1, rfl, -, -⟩ := hord.shape
  obtain ⟨A2, c2, rfl, -, -⟩ := hx.shape
  have h1 : (nats o).length = o.length := List.length_map ..
  rw [h1] at hord ⊢
  have hol0 : o.length ≤ nodes.length := hbh.length
  have hscl := hsc.1
  have HNET := Lib.hid (fun (W : World) (hW : Below (w.heap.size + 1) (w.alloc ob) W) => show NetV W (.agg #[.slice An nodes.length cn, .slice Ai ins.length ci, .slice Ao outs.length co]) nodes ins outs from ⟨_, _, _, rfl, (hbox W hW).2.2.2.1, (hbox W hW).2.2.2.2.1, (hbox W hW).2.2.2.2.2.1⟩)
  have HZ := Lib.hid (fun (W : World) (hW : Below (w.heap.size + 1) (w.alloc ob) W) => And.intro (hbox W hW).1 (And.intro (hbox W hW).2.1 (hbox W hW).2.2.1))
  have HW := Lib.hid (fun (W : World) (hW : Below (w.heap.size + 1) (w.alloc ob) W) => (hbox W hW).2.2.2.2.2.2)
  have HK := Lib.hid hf
  have HBH := Lib.hid hbh
  have HV := Lib.hid (fun (st inn : List Bool) => (valsC_eq hf hlev (valsO_is hf hbh hall st inn)).symm)
  have HORD := Lib.hid hord
  have HX := Lib.hid hx
  have HI := Lib.hid hi
  have HOO := Lib.hid ho
  have HSZ := Lib.hid hsz
  have HROW := Lib.hid hsc.2
  clear hbox hf hbh hall hlev hord hx hi ho hsz hN h1 hsc
  go_enter Try.func74, Try.ntmps74
  go_wp2_with fail
  refine (start_ref _ (fun _ => False) (fun _ h => h.elim) _ nodes ins outs (HNET.out _ (Below.refl _ _)) hnl (fun x hx h7 => (rightB_reg (HK.out x hx) h7).1)).mono ?_
  rintro e w1 ⟨v1, rfl, hr1, hb1⟩
  rw [HSZ.out] at hb1
  obtain ⟨A3, c3, rfl, -, -⟩ := hr1.shape
  have hml : ((startR nodes).map b2i).length = nodes.length := by simp [startR]
  rw [hml] at hr1 ⊢
  have HR1 := Lib.hid hr1
  have HB1 := Lib.hid hb1
  have HO1 := Lib.hid (Own.lit0 (kOff S (kRow (kNum .u32))) 91 w1)
  have hsz1 := hb1.size
  rw [HSZ.out] at hsz1
  clear hr1 hb1 hml z0 z1 z2
  go_wp2_with fail
  go_loopw [8, 9, 10] (fun vst vo i wr => ∃ j : Nat, j ≤ script.length ∧ i = .int .i64 j ∧ Row kInt wr (fun _ => False) vst ((stC nodes ins (script.map fun r => r.map partsVal) j).map b2i) ∧ Hid (∀ row ∈ script.take j, fitsB ins (row.map partsVal) = true) ∧
      Own (kOff S (kRow (kNum .u32))) 91 wr none (w.heap.size + 1) vo ((List.range j).map fun i => outsR outs (cyC nodes ins (script.map fun r => r.map partsVal) i)) ∧ Below (w.heap.size + 1) (w.alloc ob) wr) (fun _ _ i _ => script.length - (intOf i).toNat)
  case atStart => exact ⟨0, Nat.zero_le _, rfl, by rw [stC]; exact HR1.out.later ((Below.refl _ _).alloc (Nat.le_refl _) _), Lib.hid (fun row h => by simp at h), HO1.out.lower (by omega), HB1.out.alloc (by omega) _⟩
  case round =>
    obtain ⟨j, hj, rfl, hst, HFIT, ho, hb⟩ := hrel
    obtain ⟨A5, c5, rfl, -, -⟩ := hst.shape
    obtain ⟨A6, c6, rfl, -, -⟩ := ho.shape
    have hsl : ((stC nodes ins (script.map fun r => r.map partsVal) j).map b2i).length = nodes.length := by rw [List.length_map, stC_length]
    have hol : ((List.range j).map fun i => outsR outs (cyC nodes ins (script.map fun r => r.map partsVal) i)).length = j := by simp
    rw [hsl] at hst ⊢
    rw [hol] at ho ⊢
    have HST := Lib.hid hst
    have HO := Lib.hid ho
    have HB := Lib.hid hb
    have hszr : w.heap.size + 1 ≤ wr.heap.size := by have := hb.size; rw [HSZ.out] at this; exact this
    clear hst ho hsl hol
    by_cases hlt : j < script.length
    · obtain ⟨b, off, A4, c4, rfl, x0, hrow⟩ := (HX.out.later (HW.out _ hb)).row_at hlt
      obtain ⟨hr1, hr2⟩ := HROW.out _ (List.getElem_mem hlt)
      have HR2 := Lib.hid hr2
      have HR3 := Lib.hid hr1
      have HG := Lib.hid (show (script.map fun r => r.map partsVal).getD j [] = script[j].map partsVal by simp [List.getD_eq_getElem?_getD, hlt])
      have HTK := Lib.hid (List.take_succ_eq_append_getElem hlt)
      have HMEM := Lib.hid (List.getElem_mem hlt)
      have HRW := Lib.hid hrow
      obtain ⟨z0, z1, z2⟩ := HZ.out _ hb
      clear hrow hr2 hb hr1
      have HSS := Lib.hid (stC_succ nodes ins (script.map fun r => r.map partsVal) j)
      have HCC := Lib.hid (show cyC nodes ins (script.map fun r => r.map partsVal) j = valsC nodes (stC nodes ins (script.map fun r => r.map partsVal) j) (inputsR nodes.length ins ((script.map fun r => r.map partsVal).getD j [])) from rfl)
      rw [HG.out] at HCC
      have HSL := Lib.hid (stC_length nodes ins (script.map fun r => r.map partsVal) j)
      generalize stC nodes ins (script.map fun r => r.map partsVal) j = st at *
      generalize script[j] = row at *
      have HB0 := Lib.hid (HB.out.drew)
      have HRW0 := Lib.hid (HRW.out.later (Below.refl _ _).drew)
      go_wp2_with fail
      go_region_law (go_simp; go_at_call 91; refine (inputs_any _ (fun _ => False) _ (fun _ h => h.elim) _ _ nodes ins outs row (HNET.out _ HB0.out) HRW0.out hnl HI.out.1 HR3.out HR2.out HI.out.2).mono ?_; rintro e w2 ⟨v2, l2, rfl, hr2, he2, hb2⟩; obtain ⟨A7, c7, hv7, -, -⟩ := hr2.shape; subst hv7; have HR7 := Lib.hid hr2; have HE7 := Lib.hid he2; have HBR := Lib.hid (((Below.refl wr.heap.size wr).drew).trans hb2); have HB2 := Lib.hid (HB0.out.trans (hb2.mono hszr)); have hs2 := hb2.size; clear hr2 hb2 he2)
      all_goals
        obtain ⟨z0, z1, z2⟩ := HZ.out _ HB2.out
        have hszr2 : w.heap.size + 1 ≤ w2.heap.size := Nat.le_trans hszr hs2
        cases hfit : fitsB ins (row.map partsVal) with
        | false =>
          have HFA := Lib.hid (show fitsAll ins (script.map fun r => r.map partsVal) = false by
            unfold fitsAll
            rw [List.all_eq_false]
            exact ⟨row.map partsVal, List.mem_map.2 ⟨row, HMEM.out, rfl⟩, by rw [hfit]; simp⟩)
          have HBW := Lib.hid (HW.out _ HB2.out)
          clear hfit
          go_wp2
          go_ret2
          refine ⟨_, _, rfl, ?_, ?_, HBW.out⟩
          · rw [throughE, HFA.out]; rfl
          · rw [throughC, HFA.out]; exact rowNil _ _ _
        | true =>
          have HFB := Lib.hid hfit
          have hl2 : l2.length = nodes.length := by rw [HE7.out hfit, List.length_map, inputsR_length]
          have hle := HE7.out hfit
          rw [hl2] at HR7 ⊢
          rw [hle] at HR7
          clear HE7 hl2 hfit hle
          have HIR := Lib.hid (inputsR_length nodes.length ins (row.map partsVal))
          generalize inputsR nodes.length ins (row.map partsVal) = inn at *
          have HO2 := Lib.hid (HO.out.kept (Kept.of_below_all HBR.out (FootIn.none _) (Nat.le_refl _)))
          go_wp2_with fail
          refine (values_any _ (fun i => Value.ownBlock (.slice A6 j c6) = some i) _ _ _ (fun i hi => (HO2.out.base hi).2) _ _ _ _ nodes ins outs o st inn (HNET.out _ HB2.out) (HORD.out.later (HW.out _ HB2.out)) (HST.out.later HBR.out) HR7.out HSL.out HIR.out hnl HK.out HBH.out).mono ?_
          rintro e w3 ⟨v3, rfl, hr3, hb3⟩
          have HVL := Lib.hid (valsO_length nodes st inn o)
          rw [HV.out, ← HCC.out] at hr3 HVL
          obtain ⟨A8, c8, hv8, -, -⟩ := hr3.shape
          rw [List.length_map, HVL.out] at hv8
          subst hv8
          have HR8 := Lib.hid hr3
          have HB3 := Lib.hid (HB2.out.trans (hb3.mono hszr2))
          have HO3 := Lib.hid (HO2.out.kept (Kept.of_below_all hb3 (FootIn.none _) (Nat.le_refl _)))
          have hs3 := hb3.size
          obtain ⟨z0, z1, z2⟩ := HZ.out _ HB3.out
          clear hr3 hb3
          have hdone : (List.range (j + 1)).map (fun i => outsR outs (cyC nodes ins (script.map fun r => r.map partsVal) i)) = (List.range j).map (fun i => outsR outs (cyC nodes ins (script.map fun r => r.map partsVal) i)) ++ [outsR outs (cyC nodes ins (script.map fun r => r.map partsVal) j)] := by
            rw [List.range_succ, List.map_append]; rfl
          have HD := Lib.hid hdone
          have hdl : ((List.range j).map (fun i => outsR outs (cyC nodes ins (script.map fun r => r.map partsVal) i))).length = j := by simp
          have HDL := Lib.hid hdl
          have hj2 : j ≤ 1073741824 := by omega
          generalize (List.range j).map (fun i => outsR outs (cyC nodes ins (script.map fun r => r.map partsVal) i)) = done at *
          generalize cyC nodes ins (script.map fun r => r.map partsVal) j = vs at *
          clear hdone hdl
          go_wp2_with fail
          refine (outs_ref _ (fun i => Value.ownBlock (.slice A6 j c6) = some i ∨ S i) _ (fun i hi => hi.elim (fun hi => (HO3.out.base hi).2) (fun hi => by have := hS i hi; omega)) _ _ nodes ins outs vs (HNET.out _ HB3.out) HR8.out (by rw [HVL.out]; exact hnl) HOO.out.1 (by rw [HVL.out]; exact HOO.out.2)).mono ?_
          rintro e w4 ⟨v4, rfl, hr4, hb4⟩
          obtain ⟨A9, c9, rfl, -, -⟩ := hr4.shape
          have HR9 := Lib.hid hr4
          have HB4 := Lib.hid (HB3.out.trans (hb4.mono (Nat.le_trans hszr2 hs3)))
          have HR8b := Lib.hid (HR8.out.later hb4)
          have HO4 := Lib.hid (HO3.out.kept (Kept.of_below_all hb4 (FootIn.none _) (Nat.le_refl _)))
          have hs4 := hb4.size
          clear hr4 hb4
          generalize outsR outs vs = res at *
          go_wp2_with (at_builtin; refine app1 (kOff S (kRow (kNum .u32))) 91 57 (.slice none 0 0) 24 rfl (.tmp 39) (.tmp 43) rfl Try.underlying57 infoU32ss rfl Nat.zero_lt_one (by decide) none (w.heap.size + 1) HO4.out (FootIn.none _) (by omega) rfl res [.slice A9 res.length c9] rfl ⟨_, rfl, HR9.out.mono (fun i _ h => h.elim (fun h => h.elim (fun h => (foot_none _ _ h).elim) .inl) .inr)⟩ (by rw [HDL.out]; omega) ?_; intro v' w5 q1 q2 _ _ hg5 _; have HB5 := Lib.hid (HB4.out.trans q2.below); obtain ⟨z0, z1, z2⟩ := HZ.out _ HB5.out; have HR5 := Lib.hid (HR8b.out.keep (S' := fun i => Value.ownBlock (.slice A6 j c6) = some i) ⟨hg5.size, fun i hi hn => hg5.block i hi fun he => hn he.symm⟩ (fun _ _ h => h)); have HQ1 := Lib.hid q1; have hs5 := q2.size; clear q1 q2 hg5)
          refine (next_ref _ (fun _ => False) _ (fun _ h => h.elim) _ _ nodes ins outs vs (HNET.out _ HB5.out) HR5.out HVL.out hnl (fun x hx h7 => (rightB_reg (HK.out x hx) h7).2)).mono ?_
          rintro e w6 ⟨v6, rfl, hr6, hb6⟩
          rw [← HSS.out] at hr6
          have HR6 := Lib.hid hr6
          have HB6 := Lib.hid (HB5.out.trans (hb6.mono (by omega)))
          have HO6 := Lib.hid (HQ1.out.kept (Kept.of_below_all hb6 (FootIn.none _) (Nat.le_refl _)))
          clear hr6 hb6
          go_wp2_with fail
          go_roundw
          case rel => exact ⟨j + 1, by omega, by go_num, HR6.out, Lib.hid (by
            rw [HTK.out]
            intro r hr
            rcases List.mem_append.1 hr with hr | hr
            · exact HFIT.out r hr
            · rw [List.mem_singleton.1 hr]; exact HFB.out), by rw [HD.out]; exact HO6.out, HB6.out⟩
          case measure => simp [intOf]; omega
    · obtain rfl : j = script.length := by omega
      have HBW := Lib.hid (HW.out _ hb)
      have HFA := Lib.hid (show fitsAll ins (script.map fun r => r.map partsVal) = true by
        unfold fitsAll
        rw [List.all_eq_true]
        intro r hr
        obtain ⟨row, h, rfl⟩ := List.mem_map.1 hr
        exact HFIT.out row (by rw [List.take_length]; exact h))
      clear hb
      go_wp2
      go_ret2
      refine ⟨_, _, rfl, by rw [throughE, HFA.out]; rfl, ?_, HBW.out⟩
      have h := HO.out.rowOff (fun g hg hs => by have h1 := (HO.out.base hg).1; have := hS g hs; omega)
      rw [throughC, HFA.out, if_pos rfl]
      unfold outsC
      rw [List.length_map]
      exact h
end Go.Proofs.Ytbfjacgfifecpaa
