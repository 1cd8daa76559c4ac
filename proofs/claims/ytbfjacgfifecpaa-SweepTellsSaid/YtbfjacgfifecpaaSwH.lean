/- slipstickref11.Cone. -/
import Derived.Test.YtbfjacgfifecpaaSwG
namespace Go.Proofs.Ytbfjacgfifecpaa
open Go.RowKit

set_option maxHeartbeats 2000000 in
set_option maxRecDepth 4096 in
theorem coneR_ref (w : World) (v : Value) (nodes : List Node) (ins outs : List Port) (hN : NetV w v nodes ins outs) (hF : Fits nodes ins outs) (a : Int) (ha : -9223372036854775808 ≤ a ∧ a < 9223372036854775808) :
    Calls Try.prog 43 #[v, .int .i64 a] w fun e w' => ∃ v' l x, e = .returned (.tuple #[v', .int .i64 x]) ∧ Row kInt w' (fun _ => False) v' l ∧ ConOut nodes ins outs a x l ∧ Below w.heap.size w w' := by
  obtain ⟨An, cn, Ai, ci, Ao, co, rfl, hbox⟩ := hN.box
  let ob := netBox (.slice An nodes.length cn) (.slice Ai ins.length ci) (.slice Ao outs.length co)
  obtain ⟨w1, hw1⟩ : ∃ w1, w1 = w.alloc ob := ⟨_, rfl⟩
  have hs1 : w1.heap.size = w.heap.size + 1 := by rw [hw1]; simp
  have hb01 : Below w.heap.size w w1 := by rw [hw1]; exact (Below.refl _ _).alloc (Nat.le_refl _) _
  rw [← hw1, ← hs1] at hbox
  obtain ⟨z0, z1, z2, -, -, -, -⟩ := hbox w1 (Below.refl _ _)
  have HC := Lib.hid (lev_ref w1 _ nodes ins outs (hN.later hb01) hF)
  have HBOX := Lib.hid hbox
  have HS1 := Lib.hid hs1
  have HW1 := Lib.hid hw1
  have HN := Lib.hid (fun W (hW : Below w.heap.size w W) => hN.later hW)
  have hnl := hF.nl
  clear hN hbox hs1 hb01 hw1 hF
  go_enter Try.func43, Try.ntmps43
  go_wp2_with fail
  rw [← HW1.out]
  go_wp2_with fail
  refine HC.out.mono ?_
  rintro e w2 ⟨v2, k, x, rfl, -, hl, hb2⟩
  have HL := Lib.hid hl
  have HB2 := Lib.hid hb2
  obtain ⟨y0, y1, y2, -, -, -, hbw⟩ := HBOX.out _ hb2
  have HBW2 := Lib.hid hbw
  clear hl hb2 HC z0 z1 z2 hbw
  by_cases hx : x = 0
  · subst hx
    have hez := errP_zero (HL.out.choose_spec.1.symm)
    have HFB := Lib.hid (formed_in hez.2.1)
    have hn62 : nodes.length ≤ 1073741824 := by omega
    have hmk := make_bools2 nodes.length hnl
    clear hez
    by_cases hneg : a < 0
    · have hd1 : decide (a < 0) = true := decide_eq_true hneg
      have HNG := Lib.hid hneg
      clear hneg hmk
      go_wp2
      go_ret2
      exact ⟨_, [], 3, rfl, nilRowInt _ _, ⟨0, ⟨_, HL.out⟩, fun h => absurd rfl h, fun _ _ => ⟨rfl, rfl⟩, fun _ h => by have := HNG.out; omega⟩, HBW2.out⟩
    · obtain ⟨k, rfl⟩ := Int.eq_ofNat_of_zero_le (Int.not_lt.1 hneg)
      have hd1 : decide ((k : Int) < 0) = false := decide_eq_false (by omega)
      by_cases hk : k < nodes.length
      · have hd2 : decide ((nodes.length : Int) ≤ (k : Int)) = false := decide_eq_false (by omega)
        have hO3 := made_bools nodes.length hnl w2
        have hb23 : Below w2.heap.size w2 (w2.alloc (.cells (madeCells #[.bool false] nodes.length) 4)) := (Below.refl _ _).alloc (Nat.le_refl _) _
        obtain ⟨y0', -⟩ := HBOX.out _ (HB2.out.trans (hb23.mono HB2.out.size))
        have e3 : (w2.alloc (.cells (madeCells #[.bool false] nodes.length) 4)).setCell ⟨w2.heap.size, k, none⟩ (.bool true) = w2.alloc (.cells ((madeCells #[.bool false] nodes.length).setIfInBounds k (.bool true)) 4) := by go_simp
        have hmc : (madeCells #[Value.bool false] nodes.length)[k]? = some (.bool false) := by simp [madeCells, hk, Nat.mod_one]
        have ho4 := hO3.storeBool k true
        have hb24 := hb23.setCell (p := ⟨w2.heap.size, k, none⟩) (Nat.le_refl _) (.bool true)
        rw [e3] at ho4 hb24
        have HO4 := Lib.hid ho4
        have HI4 := Lib.hid ((Ind.zero nodes.length).set hk)
        have HB24 := Lib.hid hb24
        obtain ⟨y0'', y1'', y2'', -⟩ := HBOX.out _ (HB2.out.trans (HB24.out.mono HB2.out.size))
        have HC := Lib.hid (grow_ref w2 _ (.agg #[.slice An nodes.length cn, .slice Ai ins.length ci, .slice Ao outs.length co]) nodes ins outs (HN.out _ HBW2.out) HB24.out _ _ _ HO4.out HI4.out.1 hn62 HFB.out.1)
        have HG := Lib.hid (grow_is (inU_of HFB.out.1) (fr := [k]) HI4.out.1 fun j => (HI4.out.2 j).trans (by simp))
        clear hneg hO3 hb23 ho4 hb24 e3
        go_wp2_with fail
        refine HC.out.mono ?_
        rintro e w4 ⟨rfl, ho4, hb4, -⟩
        obtain ⟨b4, hb4'⟩ : ∃ b4, grow nodes (nodes.length + 1) ((List.replicate nodes.length false).set k true) = b4 := ⟨_, rfl⟩
        rw [hb4'] at ho4 HG
        have HR4 := Lib.hid ho4.boolsFree
        have HB4 := Lib.hid (HBW2.out.trans (hb4.mono HBW2.out.size))
        have hbl : b4.length = nodes.length := HG.out.1
        have hb5 : Below w4.heap.size w4 (w4.alloc (.cells #[] 3)) := (Below.refl _ _).alloc (Nat.le_refl _) _
        have HO5 := Lib.hid (show Own kInt 3 (w4.alloc (.cells #[] 3)) none w4.heap.size (.slice (some ⟨w4.heap.size, 0, none⟩) 0 0) (nats (idxT b4 0)) from lit_ints w4 [] (by simp))
        have HB5 := Lib.hid hb5
        clear ho4 hb4 hb4' HC y0 y1 y2 y0' y0'' y1'' y2'' hmc hmk hb5
        go_wp2_with fail
        go_loopw [9, 10] (fun fv iv wr => ∃ i : Nat, iv = .int .i64 i ∧ i ≤ nodes.length ∧ Hid (Own kInt 3 wr none w4.heap.size fv (nats (idxT b4 i))) ∧ Hid (Below w4.heap.size w4 wr)) (fun fv iv _ => nodes.length - (intOf iv).toNat)
        case atStart => exact ⟨0, rfl, Nat.zero_le _, HO5, HB5⟩
        case round =>
          clear HO5 HB5
          obtain ⟨i, rfl, hi, HO, HBB⟩ := hrel
          have HB := Lib.hid (HB4.out.trans (HBB.out.mono HB4.out.size))
          by_cases hlt : i < nodes.length
          · have hlt' : i < b4.length := by omega
            obtain ⟨b, off, he, x0⟩ := (HR4.out.later HBB.out).bool_at hlt'
            simp only [Option.some.injEq, Addr.mk.injEq, and_true] at he
            obtain ⟨rfl, rfl⟩ := he
            rw [Nat.zero_add] at x0
            have HT := Lib.hid (idxT_succ b4 i)
            have hget : b4.getD i false = b4[i] := by rw [List.getD_eq_getElem?_getD, List.getElem?_eq_getElem hlt']; rfl
            rw [← hget] at x0
            have hle := idxT_len b4 i
            clear hget
            cases hg : b4.getD i false with
            | true =>
              rw [hg] at x0
              have HN2 : Hid (nats (idxT b4 (i + 1)) = nats (idxT b4 i) ++ [(i : Int)]) := Lib.hid (by rw [HT.out, hg]; simp)
              have hlen : ((nats (idxT b4 i)).length + 1) * 8 ≤ 140737488355328 := by rw [List.length_map]; omega
              have hbs := HBB.out.size
              clear hg
              go_wp2_with (at_builtin; go_loud (refine appI rfl (.tmp 49) (.tmp 51) rfl HO.out hbs rfl (i : Int) _ rfl rfl hlen ?_; intro v' w5 q1 q5 q6))
              refine ⟨⟨i + 1, by go_num, by omega, by rw [HN2.out]; exact Lib.hid q1, Lib.hid (HBB.out.grown q5 hbs (fun g hg => (HO.out.base hg).1))⟩, ?_⟩
              simp [intOf]; omega
            | false =>
              rw [hg] at x0
              have HN2 : Hid (nats (idxT b4 (i + 1)) = nats (idxT b4 i)) := Lib.hid (by rw [HT.out, hg]; simp)
              clear hg
              go_wp2_with fail
              refine ⟨⟨i + 1, by go_num, by omega, by rw [HN2.out]; exact HO, HBB⟩, ?_⟩
              simp [intOf]; omega
          · obtain rfl : i = nodes.length := by omega
            have HR := Lib.hid (HO.out.rowS (fun _ => False) (fun _ _ h => h))
            go_wp2
            go_ret2
            refine ⟨_, _, 0, rfl, HR.out, ⟨0, ⟨_, HL.out⟩, fun h => absurd rfl h, fun _ h => absurd ⟨Int.natCast_nonneg _, by omega⟩ h, fun _ _ => ⟨rfl, b4, HG.out, by rw [idxs, hbl]; rfl⟩⟩, HB.out⟩
      · have hd2 : decide ((nodes.length : Int) ≤ (k : Int)) = true := decide_eq_true (by omega)
        clear hneg hmk
        go_wp2
        go_ret2
        exact ⟨_, [], 3, rfl, nilRowInt _ _, ⟨0, ⟨_, HL.out⟩, fun h => absurd rfl h, fun _ _ => ⟨rfl, rfl⟩, fun _ h => by omega⟩, HBW2.out⟩
  · go_wp2
    go_ret2
    exact ⟨_, [], x, rfl, nilRowInt _ _, ⟨x, ⟨_, HL.out⟩, fun _ => ⟨rfl, rfl⟩, fun h => absurd h hx, fun h => absurd h hx⟩, HBW2.out⟩
end Go.Proofs.Ytbfjacgfifecpaa
