/- slipsticklaw06.NetTells: the walk. -/
import Derived.Test.YtbfjacgfifecpaaM06
namespace Go.Proofs.Ytbfjacgfifecpaa
open Go.RowKit

theorem OrdOut.unique {nodes : List Node} {ins outs : List Port} {e e' : Int} {o o' : List Int} (h : OrdOut nodes ins outs e o) (h' : OrdOut nodes ins outs e' o') : e = e' ∧ o = o' := by
  obtain ⟨l, h1, rfl⟩ := h
  obtain ⟨l', h1', rfl⟩ := h'
  obtain ⟨rfl, rfl⟩ := h1.unique h1'
  exact ⟨rfl, rfl⟩
theorem wt_mem {ps : List Port} {q : Port} (h : q ∈ ps) : wtP q ≤ wt ps := by
  induction ps with
  | nil => simp at h
  | cons p ps ih =>
    have h3 : wt (p :: ps) = wtP p + wt ps := rfl
    rcases List.mem_cons.1 h with rfl | h
    · omega
    · have := ih h; omega
theorem wt_flat (ps : List Port) : (ps.flatMap (·.bits)).length ≤ wt ps := by
  induction ps with
  | nil => simp
  | cons p ps ih =>
    have h3 : wt (p :: ps) = wtP p + wt ps := rfl
    have h4 : wtP p = p.bits.length + p.name.size := rfl
    rw [List.flatMap_cons, List.length_append]
    omega
theorem small_of {nodes : List Node} {ins outs : List Port} (h : largeB nodes ins outs 60 = false) : nodes.length ≤ 60 ∧ ins.length ≤ 66 ∧ outs.length ≤ 66 ∧ wt ins + wt outs ≤ 4000 := by
  unfold largeB at h
  simp only [Bool.or_eq_false_iff, decide_eq_false_iff_not] at h
  obtain ⟨⟨⟨h1, h2⟩, h3⟩, h4⟩ := h
  rw [List.take_of_length_le (by omega), List.take_of_length_le (by omega)] at h4
  omega
theorem fits_of {nodes : List Node} {ins outs : List Port} (h : largeB nodes ins outs 60 = false) : Fits nodes ins outs := by
  obtain ⟨h1, h2, h3, h4⟩ := small_of h
  have hq : ∀ q ∈ ins ++ outs, wtP q ≤ 4000 := fun q hq => by
    rcases List.mem_append.1 hq with hq | hq
    · have := wt_mem hq; omega
    · have := wt_mem hq; omega
  refine ⟨by omega, by omega, by omega, fun q hq' => ?_, fun q hq' => ?_, ?_⟩
  · have := hq q hq'
    have e : wtP q = q.bits.length + q.name.size := rfl
    omega
  · have := hq q hq'
    have e : wtP q = q.bits.length + q.name.size := rfl
    omega
  · have := wt_flat ins; omega

attribute [local go_sem] max2_int max_two in
set_option maxHeartbeats 4000000 in
set_option maxRecDepth 100000 in
theorem netTells_walk (w : World) (v : Value) (nodes : List Node) (ins outs : List Port) (hN : NetV w v nodes ins outs) (hw : ∀ q ∈ ins ++ outs, q.bits.length + q.name.size ≤ 281474976710656) :
    Calls Try.prog 3 #[v] w fun e w' => e = .returned (.bool true) ∧ Below w.heap.size w w' := by
  obtain ⟨An, cn, Ai, ci, Ao, co, rfl, hbox⟩ := hN.box
  obtain ⟨w0, hw0⟩ : ∃ w0, w0 = w.alloc (netBox (.slice An nodes.length cn) (.slice Ai ins.length ci) (.slice Ao outs.length co)) := ⟨_, rfl⟩
  have hs0 : w0.heap.size = w.heap.size + 1 := by rw [hw0]; simp
  rw [← hw0, ← hs0] at hbox
  have hall : ∀ W, Below w0.heap.size w0 W → (W.cell? ⟨w.heap.size, 0, none⟩ = some (.slice An nodes.length cn) ∧ W.cell? ⟨w.heap.size, 1, none⟩ = some (.slice Ai ins.length ci) ∧ W.cell? ⟨w.heap.size, 2, none⟩ = some (.slice Ao outs.length co)) ∧ NetV W (.agg #[.slice An nodes.length cn, .slice Ai ins.length ci, .slice Ao outs.length co]) nodes ins outs ∧ Below w.heap.size w W := fun W hW => by
    obtain ⟨c0, c1, c2, r1, r2, r3, hb⟩ := hbox W hW
    exact ⟨⟨c0, c1, c2⟩, ⟨_, _, _, rfl, r1, r2, r3⟩, hb⟩
  have HALL := Lib.hid hall
  have HW0 := Lib.hid hw0
  have HWT := Lib.hid hw
  clear hN hbox hs0 hall hw0 hw
  go_enter Try.func3, Try.ntmps3
  go_wp2_with fail
  rw [← HW0.out]
  refine (awake06 w0).mono ?_
  rintro e w1 ⟨rfl, hb1⟩
  have HB1 := Lib.hid hb1
  obtain ⟨⟨z0, z1, z2⟩, hn, -⟩ := HALL.out _ hb1
  have hl : Calls Try.prog 15 #[.agg #[.slice An nodes.length cn, .slice Ai ins.length ci, .slice Ao outs.length co], .int .i64 60] w1 fun e w' => e = .returned (.bool (largeB nodes ins outs 60)) ∧ Below w1.heap.size w1 w' := large_ref w1 _ nodes ins outs 60 hn HWT.out
  have HC := Lib.hid hl
  clear hb1 hn hl HW0
  go_wp2_with fail
  refine HC.out.mono ?_
  rintro e w2 ⟨rfl, hb2⟩
  have HB2 := Lib.hid (HB1.out.trans (hb2.mono HB1.out.size))
  clear hb2 HC z0 z1 z2
  cases hL : largeB nodes ins outs 60 with
  | true =>
    have HBW := Lib.hid (HALL.out _ HB2.out).2.2
    clear hL
    go_wp2
    go_ret
    exact ⟨rfl, HBW.out⟩
  | false =>
    have HF := Lib.hid (fits_of hL)
    clear hL
    obtain ⟨⟨z0, z1, z2⟩, hn, -⟩ := HALL.out _ HB2.out
    have HC := Lib.hid (lev_ref w2 _ nodes ins outs hn HF.out)
    clear hn
    go_wp2_with fail
    refine HC.out.mono ?_
    rintro e w3 ⟨v3, l, x, rfl, hr3, hl3, hb3⟩
    obtain ⟨A3, c3, rfl, -, -⟩ := hr3.shape
    have HR3 := Lib.hid hr3
    have HL := Lib.hid hl3
    have HB3 := Lib.hid (HB2.out.trans (hb3.mono HB2.out.size))
    clear hb3 HC hr3 hl3 z0 z1 z2
    obtain ⟨⟨z0, z1, z2⟩, hn, -⟩ := HALL.out _ HB3.out
    have HC := Lib.hid (lev_net w3 _ nodes ins outs hn HF.out)
    clear hn
    go_wp2_with fail
    refine HC.out.mono ?_
    rintro e w4 ⟨v4, l4, x4, rfl, hr4, hl4, hb4⟩
    obtain ⟨rfl, rfl⟩ := HL.out.unique hl4
    obtain ⟨A4, c4, rfl, -, -⟩ := hr4.shape
    have HR4 := Lib.hid hr4
    have HX4 := Lib.hid hb4
    have HB4 := Lib.hid (HB3.out.trans (hb4.mono HB3.out.size))
    clear hb4 HC hr4 hl4 z0 z1 z2
    obtain ⟨⟨z0, z1, z2⟩, hn, -⟩ := HALL.out _ HB4.out
    have HC := Lib.hid (order_net w4 _ nodes ins outs hn HF.out)
    clear hn
    go_wp2_with fail
    refine HC.out.mono ?_
    rintro e w5 ⟨v5, o, x5, rfl, hr5, ho5, hb5⟩
    obtain ⟨A5, c5, rfl, -, -⟩ := hr5.shape
    have HR5 := Lib.hid hr5
    have HO := Lib.hid ho5
    have HX5 := Lib.hid hb5
    have HB5 := Lib.hid (HB4.out.trans (hb5.mono HB4.out.size))
    clear hb5 HC hr5 ho5 z0 z1 z2
    obtain ⟨⟨z0, z1, z2⟩, hn, -⟩ := HALL.out _ HB5.out
    have HC := Lib.hid (order_ref w5 _ nodes ins outs hn HF.out)
    clear hn
    go_wp2_with fail
    refine HC.out.mono ?_
    rintro e w6 ⟨v6, o6, x6, rfl, hr6, ho6, hb6⟩
    obtain ⟨rfl, rfl⟩ := HO.out.unique ho6
    obtain ⟨A6, c6, rfl, -, -⟩ := hr6.shape
    have HR6 := Lib.hid hr6
    have HX6 := Lib.hid hb6
    have HB6 := Lib.hid (HB5.out.trans (hb6.mono HB5.out.size))
    clear hb6 HC hr6 ho6 z0 z1 z2
    obtain ⟨⟨z0, z1, z2⟩, hn, -⟩ := HALL.out _ HB6.out
    have HC := Lib.hid (depth_net w6 _ nodes ins outs hn HF.out)
    clear hn
    go_wp2_with fail
    refine HC.out.mono ?_
    rintro e w7 ⟨d, x7, rfl, hd, hb7⟩
    obtain ⟨l7, hl7, rfl⟩ := hd
    obtain ⟨rfl, rfl⟩ := HL.out.unique hl7
    have HX7 := Lib.hid hb7
    have HB7 := Lib.hid (HB6.out.trans (hb7.mono HB6.out.size))
    have HX37 := Lib.hid (((HX4.out.trans (HX5.out.mono HX4.out.size)).trans (HX6.out.mono (Nat.le_trans HX4.out.size HX5.out.size))).trans (hb7.mono (Nat.le_trans HX4.out.size (Nat.le_trans HX5.out.size HX6.out.size))))
    have HR37 := Lib.hid (HR3.out.later HX37.out)
    have HR47 := Lib.hid (((HR4.out.later HX5.out).later HX6.out).later hb7)
    have HR57 := Lib.hid ((HR5.out.later HX6.out).later hb7)
    have HR67 := Lib.hid (HR6.out.later hb7)
    have hll : l.length ≤ 1099511627776 := Nat.le_trans HL.out.length HF.out.nl
    clear hb7 HC hl7 z0 z1 z2
    go_wp2_with fail
    obtain ⟨wo, hwo⟩ : ∃ wo, wo = w7 := ⟨_, rfl⟩
    go_loopw [13, 15, 47] (fun mv lv iv wr => ∃ i : Nat, iv = .int .i64 i ∧ i ≤ l.length ∧ mv = .int .i64 (maxF (l.take i)) ∧ Hid (wr = w7)) (fun mv lv iv _ => l.length - (intOf iv).toNat)
    case atStart => exact ⟨0, rfl, Nat.zero_le _, rfl, Lib.hid rfl⟩
    case round =>
      clear hwo
      obtain ⟨i, rfl, hi, rfl, HE⟩ := hrel
      obtain rfl := HE.out
      by_cases hlt : i < l.length
      · obtain ⟨b, off, rfl, x0⟩ := HR37.out.int_at hlt
        have HT := Lib.hid (show maxF (l.take (i + 1)) = max (maxF (l.take i)) l[i] by rw [List.take_succ_eq_append_getElem hlt, maxF_snoc])
        obtain ⟨y, hy⟩ : ∃ y, l[i] = y := ⟨_, rfl⟩
        rw [hy] at x0 HT
        clear hy
        go_wp2
        refine ⟨⟨i + 1, by go_num, by omega, by rw [HT.out], Lib.hid trivial⟩, ?_⟩
        simp [intOf]; omega
      · obtain rfl : i = l.length := by omega
        rw [List.take_length]
        have HC := Lib.hid (ints_same wr _ _ l HR37.out HR47.out hll)
        clear hlt hi
        go_wp2_with fail
        refine HC.out.mono ?_
        rintro e w8 ⟨rfl, hb8⟩
        have HB8 := Lib.hid (HB7.out.trans (hb8.mono HB7.out.size))
        have hol : o.length ≤ 1099511627776 := by
          obtain ⟨l', hl', rfl⟩ := HO.out
          rw [List.length_map, ordL, bins_enough hl'.nonneg (Nat.le_refl _)]
          exact Nat.le_trans hl'.length HF.out.nl
        have HC2 := Lib.hid (ints_same w8 _ _ o (HR57.out.later hb8) (HR67.out.later hb8) hol)
        clear hb8 HC hol
        go_wp2_with fail
        refine HC2.out.mono ?_
        rintro e w9 ⟨rfl, hb9⟩
        have HB9 := Lib.hid (HB8.out.trans (hb9.mono HB8.out.size))
        clear hb9 HC2
        obtain ⟨⟨z0, z1, z2⟩, hn, -⟩ := HALL.out _ HB9.out
        have HC := Lib.hid (check_net w9 _ nodes ins outs hn HF.out)
        clear hn
        go_wp2_with fail
        refine HC.out.mono ?_
        rintro e w10 ⟨l8, x8, rfl, hl8, hb10⟩
        obtain ⟨rfl, rfl⟩ := HL.out.unique hl8
        have HBW := Lib.hid (HALL.out _ (HB9.out.trans (hb10.mono HB9.out.size))).2.2
        clear hb10 HC hl8 z0 z1 z2
        go_wp2
        go_ret
        exact ⟨rfl, HBW.out⟩
end Go.Proofs.Ytbfjacgfifecpaa
