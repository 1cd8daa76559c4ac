/- Cycle by cycle: slipstickref07. -/
import Derived.Test.YtdljgifoboiaeaaR07e
namespace Go.Proofs.Ytdljgifoboiaeaa
open Go.RowKit

mutual
def stateR (nodes : List Node) (ins : List Port) (script : List (List Nat)) : Nat → List Bool
  | 0 => startR nodes
  | i + 1 => nextR nodes (cycleR nodes ins script i)
def cycleR (nodes : List Node) (ins : List Port) (script : List (List Nat)) (i : Nat) : List Bool := valsK nodes (stateR nodes ins script i) (inputsR nodes.length ins (script.getD i [])) nodes.length
end
theorem stateR_succ (nodes : List Node) (ins : List Port) (script : List (List Nat)) (i : Nat) : stateR nodes ins script (i + 1) = nextR nodes (cycleR nodes ins script i) := by rw [stateR]
theorem cycleR_eq (nodes : List Node) (ins : List Port) (script : List (List Nat)) (i : Nat) : cycleR nodes ins script i = valsK nodes (stateR nodes ins script i) (inputsR nodes.length ins (script.getD i [])) nodes.length := by rw [cycleR]
theorem stateR_length (nodes : List Node) (ins : List Port) (script : List (List Nat)) (i : Nat) : (stateR nodes ins script i).length = nodes.length := by
  cases i with
  | zero => rw [stateR]; simp [startR]
  | succ i => rw [stateR_succ]; simp [nextR]
def throughR (nodes : List Node) (ins outs : List Port) (script : List (List Nat)) : List (List (List Int)) := (List.range script.length).map fun i => outsR outs (cycleR nodes ins script i)

def okRow (nodes : List Node) (ins : List Port) (nums : List (List Int)) : Prop :=
  nums.length = ins.length ∧ ∀ i (h : i < ins.length) (h' : i < nums.length), okParts nums[i] ∧ nums[i].length ≤ 4294967296 ∧ nbits (partsVal nums[i]) ≤ ins[i].bits.length

theorem infoU32ss : (Try.prog.info? 45).map (fun i => (i.zero, i.size, i.bytes)) = some (some (.slice none 0 0), 1, 24) := by kernel_rfl

/-- ports whose places are there -/
def okPorts (nodes : List Node) (ps : List Port) : Prop := ps.length ≤ 1073741824 ∧ ∀ q ∈ ps, q.bits.length ≤ 549755813888 ∧ ∀ b ∈ q.bits, 0 ≤ b ∧ b < nodes.length

set_option maxHeartbeats 4000000 in
set_option maxRecDepth 100000 in
theorem through_ref (w : World) (S S1 S2 : Nat → Prop) (hS : There S w) (v vord vs : Value) (nodes : List Node) (ins outs : List Port) (script : List (List (List Int))) (hN : NetV w v nodes ins outs) (hord : Row kInt w S1 vord (placesOf nodes.length)) (hx : Row (kRow (kRow (kNum .u32))) w S2 vs script)
    (hnl : nodes.length ≤ 1099511627776) (hk : Ordered nodes) (hi : okPorts nodes ins) (ho : okPorts nodes outs) (hsc : script.length ≤ 1073741824) (hrow : ∀ row ∈ script, okRow nodes ins row) :
    Calls Try.prog 24 #[v, vord, vs] w fun e w' => ∃ v', e = .returned (.tuple #[v', .int .i64 0]) ∧ Row (kRow (kRow (kNum .u32))) w' S v' (throughR nodes ins outs (script.map fun r => r.map partsVal)) ∧ Below w.heap.size w w' := by
  obtain ⟨An, cn, Ai, ci, Ao, co, rfl, hbox⟩ := hN.box
  let ob := netBox (.slice An nodes.length cn) (.slice Ai ins.length ci) (.slice Ao outs.length co)
  have hsz : (w.alloc ob).heap.size = w.heap.size + 1 := by simp
  obtain ⟨z0, z1, z2, -, -, -, -⟩ := hbox (w.alloc ob) (Below.refl _ _)
  obtain ⟨A1, c1, rfl, -, -⟩ := hord.shape
  obtain ⟨A2, c2, rfl, -, -⟩ := hx.shape
  have h1 : (placesOf nodes.length).length = nodes.length := places_length _
  rw [h1] at hord ⊢
  have HNET := Lib.hid (fun (W : World) (hW : Below (w.heap.size + 1) (w.alloc ob) W) => show NetV W (.agg #[.slice An nodes.length cn, .slice Ai ins.length ci, .slice Ao outs.length co]) nodes ins outs from ⟨_, _, _, rfl, (hbox W hW).2.2.2.1, (hbox W hW).2.2.2.2.1, (hbox W hW).2.2.2.2.2.1⟩)
  have HZ := Lib.hid (fun (W : World) (hW : Below (w.heap.size + 1) (w.alloc ob) W) => And.intro (hbox W hW).1 (And.intro (hbox W hW).2.1 (hbox W hW).2.2.1))
  have HW := Lib.hid (fun (W : World) (hW : Below (w.heap.size + 1) (w.alloc ob) W) => (hbox W hW).2.2.2.2.2.2)
  have HK := Lib.hid hk
  have HORD := Lib.hid hord
  have HX := Lib.hid hx
  have HI := Lib.hid hi
  have HOO := Lib.hid ho
  have HSZ := Lib.hid hsz
  have HROW := Lib.hid hrow
  clear hbox hk hord hx hi ho hsz hN h1 hrow
  go_enter Try.func24, Try.ntmps24
  go_wp2_with fail
  refine (start_ref _ (fun _ => False) (fun _ h => h.elim) _ nodes ins outs (HNET.out _ (Below.refl _ _)) hnl (fun x hx h7 => by obtain ⟨i, _, hr⟩ := HK.out.mem hx; exact (rightB_reg hr h7).1)).mono ?_
  rintro e w1 ⟨v1, rfl, hr1, hb1⟩
  rw [HSZ.out] at hb1
  obtain ⟨A3, c3, rfl, -, -⟩ := hr1.shape
  have hml : ((startR nodes).map b2i).length = nodes.length := by simp [startR]
  rw [hml] at hr1 ⊢
  have HR1 := Lib.hid hr1
  have HB1 := Lib.hid hb1
  have HO1 := Lib.hid (Own.lit0 (kOff S (kRow (kNum .u32))) 45 w1)
  have hsz1 := hb1.size
  rw [HSZ.out] at hsz1
  clear hr1 hb1 hml z0 z1 z2
  go_wp2_with fail
  go_loopw [8, 9, 10] (fun vst vo i wr => ∃ j : Nat, j ≤ script.length ∧ i = .int .i64 j ∧ Row kInt wr (fun _ => False) vst ((stateR nodes ins (script.map fun r => r.map partsVal) j).map b2i) ∧
      Own (kOff S (kRow (kNum .u32))) 45 wr none (w.heap.size + 1) vo ((List.range j).map fun i => outsR outs (cycleR nodes ins (script.map fun r => r.map partsVal) i)) ∧ Below (w.heap.size + 1) (w.alloc ob) wr) (fun _ _ i _ => script.length - (intOf i).toNat)
  case atStart => exact ⟨0, Nat.zero_le _, rfl, by rw [stateR]; exact HR1.out.later ((Below.refl _ _).alloc (Nat.le_refl _) _), HO1.out.lower (by omega), HB1.out.alloc (by omega) _⟩
  case round =>
    obtain ⟨j, hj, rfl, hst, ho, hb⟩ := hrel
    obtain ⟨A5, c5, rfl, -, -⟩ := hst.shape
    obtain ⟨A6, c6, rfl, -, -⟩ := ho.shape
    have hsl : ((stateR nodes ins (script.map fun r => r.map partsVal) j).map b2i).length = nodes.length := by rw [List.length_map, stateR_length]
    have hol : ((List.range j).map fun i => outsR outs (cycleR nodes ins (script.map fun r => r.map partsVal) i)).length = j := by simp
    rw [hsl] at hst ⊢
    rw [hol] at ho ⊢
    have HST := Lib.hid hst
    have HO := Lib.hid ho
    have HB := Lib.hid hb
    have hszr : w.heap.size + 1 ≤ wr.heap.size := by have := hb.size; rw [HSZ.out] at this; exact this
    clear hst ho hsl hol
    by_cases hlt : j < script.length
    · obtain ⟨b, off, A4, c4, rfl, x0, hrow⟩ := (HX.out.later (HW.out _ hb)).row_at hlt
      obtain ⟨hr1, hr2⟩ := HROW.out _ (List.getElem_mem hlt)
      have HR2 := Lib.hid hr2
      have HR3 := Lib.hid hr1
      have HG := Lib.hid (show (script.map fun r => r.map partsVal).getD j [] = script[j].map partsVal by simp [List.getD_eq_getElem?_getD, hlt])
      have HRW := Lib.hid hrow
      obtain ⟨z0, z1, z2⟩ := HZ.out _ hb
      clear hrow hr2 hb hr1
      have HSS := Lib.hid (stateR_succ nodes ins (script.map fun r => r.map partsVal) j)
      have HCC := Lib.hid (cycleR_eq nodes ins (script.map fun r => r.map partsVal) j)
      rw [HG.out] at HCC
      have HSL := Lib.hid (stateR_length nodes ins (script.map fun r => r.map partsVal) j)
      generalize stateR nodes ins (script.map fun r => r.map partsVal) j = st at *
      generalize script[j] = row at *
      have HB0 := Lib.hid (HB.out.drew)
      have HRW0 := Lib.hid (HRW.out.later (Below.refl _ _).drew)
      go_wp2_with fail
      go_region_law (go_simp; go_at_call 97; refine (inputs_ref _ (fun _ => False) _ (fun _ h => h.elim) _ _ nodes ins outs row (HNET.out _ HB0.out) HRW0.out hnl HR3.out HI.out.1 (fun i h h' => ⟨(HR2.out i h h').1, (HR2.out i h h').2.1, (HR2.out i h h').2.2, HI.out.2 _ (List.getElem_mem h)⟩)).mono ?_; rintro e w2 ⟨v2, rfl, hr2, hb2⟩; obtain ⟨A7, c7, hv7, -, -⟩ := hr2.shape; rw [List.length_map, inputsR_length] at hv7; subst hv7; have HR7 := Lib.hid hr2; have HBR := Lib.hid (((Below.refl wr.heap.size wr).drew).trans hb2); have HB2 := Lib.hid (HB0.out.trans (hb2.mono hszr)); have hs2 := hb2.size; clear hr2 hb2)
      all_goals
        obtain ⟨z0, z1, z2⟩ := HZ.out _ HB2.out
        have hszr2 : w.heap.size + 1 ≤ w2.heap.size := Nat.le_trans hszr hs2
        have HIR := Lib.hid (inputsR_length nodes.length ins (row.map partsVal))
        generalize inputsR nodes.length ins (row.map partsVal) = inn at *
        have HO2 := Lib.hid (HO.out.kept (Kept.of_below_all HBR.out (FootIn.none _) (Nat.le_refl _)))
        go_wp2_with fail
        refine (values_ref _ (fun i => Value.ownBlock (.slice A6 j c6) = some i) _ _ _ (fun i hi => (HO2.out.base hi).2) _ _ _ _ nodes ins outs st inn (HNET.out _ HB2.out) (HORD.out.later (HW.out _ HB2.out)) (HST.out.later HBR.out) HR7.out HSL.out HIR.out hnl HK.out).mono ?_
        rintro e w3 ⟨v3, rfl, hr3, hb3⟩
        have HVL := Lib.hid (valsK_length nodes st inn nodes.length)
        rw [← HCC.out] at hr3 HVL
        obtain ⟨A8, c8, hv8, -, -⟩ := hr3.shape
        rw [List.length_map, HVL.out] at hv8
        subst hv8
        have HR8 := Lib.hid hr3
        have HB3 := Lib.hid (HB2.out.trans (hb3.mono hszr2))
        have HO3 := Lib.hid (HO2.out.kept (Kept.of_below_all hb3 (FootIn.none _) (Nat.le_refl _)))
        have hs3 := hb3.size
        obtain ⟨z0, z1, z2⟩ := HZ.out _ HB3.out
        clear hr3 hb3
        have hdone : (List.range (j + 1)).map (fun i => outsR outs (cycleR nodes ins (script.map fun r => r.map partsVal) i)) = (List.range j).map (fun i => outsR outs (cycleR nodes ins (script.map fun r => r.map partsVal) i)) ++ [outsR outs (cycleR nodes ins (script.map fun r => r.map partsVal) j)] := by
          rw [List.range_succ, List.map_append]; rfl
        have HD := Lib.hid hdone
        have hdl : ((List.range j).map (fun i => outsR outs (cycleR nodes ins (script.map fun r => r.map partsVal) i))).length = j := by simp
        have HDL := Lib.hid hdl
        have hj2 : j ≤ 1073741824 := by omega
        generalize (List.range j).map (fun i => outsR outs (cycleR nodes ins (script.map fun r => r.map partsVal) i)) = done at *
        generalize cycleR nodes ins (script.map fun r => r.map partsVal) j = vs at *
        clear hdone hdl
        go_wp2_with fail
        refine (outs_ref _ (fun i => Value.ownBlock (.slice A6 j c6) = some i ∨ S i) _ (fun i hi => hi.elim (fun hi => (HO3.out.base hi).2) (fun hi => by have := hS i hi; omega)) _ _ nodes ins outs vs (HNET.out _ HB3.out) HR8.out (by rw [HVL.out]; exact hnl) HOO.out.1 (by rw [HVL.out]; exact HOO.out.2)).mono ?_
        rintro e w4 ⟨v4, rfl, hr4, hb4⟩
        obtain ⟨A9, c9, rfl, -, -⟩ := hr4.shape
        have HR9 := Lib.hid hr4
        have HB4 := Lib.hid (HB3.out.trans (hb4.mono (Nat.le_trans hszr2 hs3)))
        have HR8b := Lib.hid (HR8.out.later hb4)
        have HO4 := Lib.hid (HO3.out.kept (Kept.of_below_all hb4 (FootIn.none _) (Nat.le_refl _)))
        have hs4 := hb4.size
        clear hr4 hb4
        generalize outsR outs vs = res at *
        go_wp2_with (at_builtin; refine app1 (kOff S (kRow (kNum .u32))) 45 37 (.slice none 0 0) 24 rfl (.tmp 39) (.tmp 43) rfl Try.underlying37 infoU32ss rfl Nat.zero_lt_one (by decide) none (w.heap.size + 1) HO4.out (FootIn.none _) (by omega) rfl res [.slice A9 res.length c9] rfl ⟨_, rfl, HR9.out.mono (fun i _ h => h.elim (fun h => h.elim (fun h => (foot_none _ _ h).elim) .inl) .inr)⟩ (by rw [HDL.out]; omega) ?_; intro v' w5 q1 q2 _ _ hg5 _; have HB5 := Lib.hid (HB4.out.trans q2.below); obtain ⟨z0, z1, z2⟩ := HZ.out _ HB5.out; have HR5 := Lib.hid (HR8b.out.keep (S' := fun i => Value.ownBlock (.slice A6 j c6) = some i) ⟨hg5.size, fun i hi hn => hg5.block i hi fun he => hn he.symm⟩ (fun _ _ h => h)); have HQ1 := Lib.hid q1; have hs5 := q2.size; clear q1 q2 hg5)
        refine (next_ref _ (fun _ => False) _ (fun _ h => h.elim) _ _ nodes ins outs vs (HNET.out _ HB5.out) HR5.out HVL.out hnl (fun x hx h7 => by obtain ⟨i, hi, hr⟩ := HK.out.mem hx; have := (rightB_reg hr h7).2; omega)).mono ?_
        rintro e w6 ⟨v6, rfl, hr6, hb6⟩
        rw [← HSS.out] at hr6
        have HR6 := Lib.hid hr6
        have HB6 := Lib.hid (HB5.out.trans (hb6.mono (by omega)))
        have HO6 := Lib.hid (HQ1.out.kept (Kept.of_below_all hb6 (FootIn.none _) (Nat.le_refl _)))
        clear hr6 hb6
        go_wp2_with fail
        go_roundw
        case rel => exact ⟨j + 1, by omega, by go_num, HR6.out, by rw [HD.out]; exact HO6.out, HB6.out⟩
        case measure => simp [intOf]; omega
    · obtain rfl : j = script.length := by omega
      have HBW := Lib.hid (HW.out _ hb)
      clear hb
      go_wp2
      go_ret2
      refine ⟨_, rfl, ?_, HBW.out⟩
      have h := HO.out.rowOff (fun g hg hs => by have h1 := (HO.out.base hg).1; have := hS g hs; omega)
      unfold throughR
      rw [List.length_map]
      exact h
end Go.Proofs.Ytdljgifoboiaeaa
