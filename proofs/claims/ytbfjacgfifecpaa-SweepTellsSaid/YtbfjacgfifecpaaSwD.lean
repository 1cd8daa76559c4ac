/- sweep.Cone. -/
import Derived.Test.YtbfjacgfifecpaaSwC
namespace Go.Proofs.Ytbfjacgfifecpaa
open Go.RowKit

def idxT (b : List Bool) (i : Nat) : List Nat := (List.range i).filter fun i => b.getD i false
theorem idxT_succ (b : List Bool) (i : Nat) : idxT b (i + 1) = idxT b i ++ if b.getD i false = true then [i] else [] := by
  unfold idxT
  rw [List.range_succ, List.filter_append, List.filter_cons, List.filter_nil]
theorem idxT_len (b : List Bool) (i : Nat) : (idxT b i).length ≤ i := by
  have := List.length_filter_le (fun i => b.getD i false) (List.range i)
  rw [List.length_range] at this
  exact this

set_option maxHeartbeats 2000000 in
set_option maxRecDepth 4096 in
theorem cone_net (w : World) (v : Value) (nodes : List Node) (ins outs : List Port) (hN : NetV w v nodes ins outs) (hF : Fits nodes ins outs) (a : Int) (ha : -9223372036854775808 ≤ a ∧ a < 9223372036854775808) :
    Calls Try.prog 42 #[v, .int .i64 a] w fun e w' => ∃ v' l x, e = .returned (.tuple #[v', .int .i64 x]) ∧ Row kInt w' (fun _ => False) v' l ∧ ConOut nodes ins outs a x l ∧ Below w.heap.size w w' := by
  obtain ⟨An, cn, Ai, ci, Ao, co, rfl, hbox⟩ := hN.box
  let ob := netBox (.slice An nodes.length cn) (.slice Ai ins.length ci) (.slice Ao outs.length co)
  obtain ⟨w1, hw1⟩ : ∃ w1, w1 = w.alloc ob := ⟨_, rfl⟩
  have hs1 : w1.heap.size = w.heap.size + 1 := by rw [hw1]; simp
  have hb01 : Below w.heap.size w w1 := by rw [hw1]; exact (Below.refl _ _).alloc (Nat.le_refl _) _
  rw [← hw1, ← hs1] at hbox
  obtain ⟨z0, z1, z2, -, -, -, -⟩ := hbox w1 (Below.refl _ _)
  have HC := Lib.hid (check_net w1 _ nodes ins outs (hN.later hb01) hF)
  have HBOX := Lib.hid hbox
  have HS1 := Lib.hid hs1
  have HW1 := Lib.hid hw1
  have HN := Lib.hid (fun W (hW : Below w.heap.size w W) => hN.later hW)
  have hnl := hF.nl
  clear hN hbox hs1 hb01 hw1 hF
  go_enter Try.func42, Try.ntmps42
  go_wp2_with fail
  rw [← HW1.out]
  go_wp2_with fail
  refine HC.out.mono ?_
  rintro e w2 ⟨k, x, rfl, hl, hb2⟩
  have HL := Lib.hid hl
  have HB2 := Lib.hid hb2
  obtain ⟨y0, y1, y2, -, -, -, hbw⟩ := HBOX.out _ hb2
  have HBW2 := Lib.hid hbw
  clear hl hb2 HC z0 z1 z2 hbw
  by_cases hx : x = 0
  · subst hx
    have HFB := Lib.hid (formed_in (HL.out.formed rfl))
    have hn62 : nodes.length ≤ 1073741824 := by have := (errP_zero (HL.out.choose_spec.1.symm)).1; omega
    have HO0 := Lib.hid (fun W => Own.nil kInt 3 W none w1.heap.size)
    by_cases hneg : a < 0
    · have hd1 : decide (a < 0) = true := decide_eq_true hneg
      have HNG := Lib.hid hneg
      clear hneg
      go_wp2
      go_ret2
      exact ⟨_, [], 3, rfl, nilRowInt _ _, ⟨0, ⟨_, HL.out⟩, fun h => absurd rfl h, fun _ _ => ⟨rfl, rfl⟩, fun _ h => by have := HNG.out; omega⟩, HBW2.out⟩
    · obtain ⟨k, rfl⟩ := Int.eq_ofNat_of_zero_le (Int.not_lt.1 hneg)
      have hd1 : decide ((k : Int) < 0) = false := decide_eq_false (by omega)
      by_cases hk : k < nodes.length
      · have hd2 : decide ((nodes.length : Int) ≤ (k : Int)) = false := decide_eq_false (by omega)
        have hlit : Row kInt (w2.alloc (.cells #[.int .i64 (k : Int)] 3)) (fun _ => False) (.slice (some ⟨w2.heap.size, 0, none⟩) 1 1) (nats [k]) := (lit_ints w2 [(k : Int)] (by simp)).rowS _ (fun _ _ h => h)
        have hb3 : Below w.heap.size w (w2.alloc (.cells #[.int .i64 (k : Int)] 3)) := HBW2.out.alloc HBW2.out.size _
        have HB3 := Lib.hid hb3
        have HC := Lib.hid (reached_net _ _ nodes ins outs (HN.out _ hb3) _ [k] hlit HFB.out.1 (by simpa using hk) hn62 (by simp))
        clear hneg hlit hb3
        go_wp2_with fail
        refine HC.out.mono ?_
        rintro e w4 ⟨v4, b4, rfl, hr4, hl4, hb4⟩
        have HR4 := Lib.hid hr4
        have HL4 := Lib.hid hl4
        have HB4 := Lib.hid (HB3.out.trans (hb4.mono HB3.out.size))
        have HBL := Lib.hid hl4.1
        obtain ⟨A4, c4, rfl, -, -⟩ := hr4.shape
        have hbl : b4.length ≤ 1073741824 := by rw [hl4.1]; exact hn62
        have HO4 := Lib.hid (Own.nil kInt 3 w4 none w4.heap.size)
        clear hr4 hl4 hb4 HC y0 y1 y2
        go_wp2_with fail
        go_loopw [7, 29] (fun fv iv wr => ∃ i : Nat, iv = .int .i64 i ∧ i ≤ b4.length ∧ Hid (Own kInt 3 wr none w4.heap.size fv (nats (idxT b4 i))) ∧ Hid (Below w4.heap.size w4 wr)) (fun fv iv _ => b4.length - (intOf iv).toNat)
        case atStart => exact ⟨0, rfl, Nat.zero_le _, HO4, Lib.hid (Below.refl _ _)⟩
        case round =>
          clear HO4
          obtain ⟨i, rfl, hi, HO, HBB⟩ := hrel
          have HB := Lib.hid (HB4.out.trans (HBB.out.mono HB4.out.size))
          by_cases hlt : i < b4.length
          · obtain ⟨b, off, rfl, x0⟩ := (HR4.out.later HBB.out).bool_at hlt
            have HT := Lib.hid (idxT_succ b4 i)
            have hget : b4.getD i false = b4[i] := by rw [List.getD_eq_getElem?_getD, List.getElem?_eq_getElem hlt]; rfl
            rw [← hget] at x0
            have hle := idxT_len b4 i
            clear hget
            cases hg : b4.getD i false with
            | true =>
              rw [hg] at x0
              have HN2 : Hid (nats (idxT b4 (i + 1)) = nats (idxT b4 i) ++ [(i : Int)]) := Lib.hid (by rw [HT.out, hg]; simp)
              have hlen : ((nats (idxT b4 i)).length + 1) * 8 ≤ 140737488355328 := by rw [List.length_map]; omega
              have hbs := HBB.out.size
              clear hg
              go_wp2_with (at_builtin; go_loud (refine appI rfl (.tmp 35) (.tmp 37) rfl HO.out hbs rfl (i : Int) _ rfl rfl hlen ?_; intro v' w5 q1 q5 q6))
              refine ⟨⟨i + 1, by go_num, by omega, by rw [HN2.out]; exact Lib.hid q1, Lib.hid (HBB.out.grown q5 hbs (fun g hg => (HO.out.base hg).1))⟩, ?_⟩
              simp [intOf]; omega
            | false =>
              rw [hg] at x0
              have HN2 : Hid (nats (idxT b4 (i + 1)) = nats (idxT b4 i)) := Lib.hid (by rw [HT.out, hg]; simp)
              clear hg
              go_wp2_with fail
              refine ⟨⟨i + 1, by go_num, by omega, by rw [HN2.out]; exact HO, HBB⟩, ?_⟩
              simp [intOf]; omega
          · obtain rfl : i = b4.length := by omega
            have HR := Lib.hid (HO.out.rowS (fun _ => False) (fun _ _ h => h))
            go_wp2
            go_ret2
            refine ⟨_, _, 0, rfl, HR.out, ⟨0, ⟨_, HL.out⟩, fun h => absurd rfl h, fun _ h => absurd ⟨Int.natCast_nonneg _, by omega⟩ h, fun _ _ => ⟨rfl, b4, HL4.out, rfl⟩⟩, HB.out⟩
      · have hd2 : decide ((nodes.length : Int) ≤ (k : Int)) = true := decide_eq_true (by omega)
        clear hneg
        go_wp2
        go_ret2
        exact ⟨_, [], 3, rfl, nilRowInt _ _, ⟨0, ⟨_, HL.out⟩, fun h => absurd rfl h, fun _ _ => ⟨rfl, rfl⟩, fun _ h => by omega⟩, HBW2.out⟩
  · go_wp2
    go_ret2
    exact ⟨_, [], x, rfl, nilRowInt _ _, ⟨x, ⟨_, HL.out⟩, fun _ => ⟨rfl, rfl⟩, fun h => absurd h hx, fun h => absurd h hx⟩, HBW2.out⟩
end Go.Proofs.Ytbfjacgfifecpaa
