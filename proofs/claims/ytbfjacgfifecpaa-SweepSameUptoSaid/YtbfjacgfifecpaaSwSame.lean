/- slipsticklaw11.SweepSame: the walk. -/
import Derived.Test.YtbfjacgfifecpaaSwV
import Derived.Test.YtbfjacgfifecpaaSiJ
import Derived.Test.YtbfjacgfifecpaaSwJ
import Derived.Test.YtbfjacgfifecpaaM11
namespace Go.Proofs.Ytbfjacgfifecpaa
open Go.RowKit

theorem sum_bd {ins outs : List Port} (hl : ins.length + outs.length ≤ 140) (hq : ∀ q ∈ ins ++ outs, q.bits.length ≤ 4000 ∧ q.name.size ≤ 4000) : ((outs ++ ins).flatMap (·.bits)).length ≤ 1099511627776 := by
  have h := flat_bd (B := 4000) (outs ++ ins) fun q hq' => (hq q (by rcases List.mem_append.1 hq' with h | h <;> simp [h])).1
  have : (outs ++ ins).length * 4000 ≤ 140 * 4000 := Nat.mul_le_mul_right _ (by rw [List.length_append]; omega)
  omega
theorem swp_again {nodes : List Node} {ins outs : List Port} {k : List Int} (he : errP nodes ins outs true = 0) (hk : IsLev nodes k) (hl : IsRch nodes (frC ins outs) (List.replicate nodes.length true)) : SwpOut nodes ins outs 0 0 nodes ins outs := by
  have hfo := formed_in (errP_zero he).2.1
  refine ⟨⟨k, lev_out he hk⟩, fun h => absurd rfl h, fun _ => ⟨_, hl, ?_, (swT_all hfo.1).symm, (rpP_all fun q hq => (hfo.2 q (List.mem_append_left _ hq)).2).symm, (rpP_all fun q hq => (hfo.2 q (List.mem_append_right _ hq)).2).symm⟩⟩
  rw [plcN_all _ _ (Nat.le_refl _)]
  omega

set_option maxHeartbeats 8000000 in
set_option maxRecDepth 100000 in
theorem sweepSame_walk (w : World) (v vs : Value) (nodes : List Node) (ins outs : List Port) (s : List (List (List Int))) (hN : NetV w v nodes ins outs) (hw : ∀ q ∈ ins ++ outs, q.bits.length + q.name.size ≤ 281474976710656) (hx : Row (kRow (kRow (kNum .u32))) w (fun _ => False) vs s) (hsc : ScrN s) :
    Calls Try.prog 10 #[v, vs] w fun e w' => e = .returned (.bool true) ∧ Below w.heap.size w w' := by
  obtain ⟨An, cn, Ai, ci, Ao, co, rfl, hbox⟩ := hN.box
  obtain ⟨w0, hw0⟩ : ∃ w0, w0 = w.alloc (netBox (.slice An nodes.length cn) (.slice Ai ins.length ci) (.slice Ao outs.length co)) := ⟨_, rfl⟩
  have hs0 : w0.heap.size = w.heap.size + 1 := by rw [hw0]; simp
  rw [← hw0, ← hs0] at hbox
  obtain ⟨A9, c9, rfl, -, -⟩ := hx.shape
  have hall : ∀ W, Below w0.heap.size w0 W → (W.cell? ⟨w.heap.size, 0, none⟩ = some (.slice An nodes.length cn) ∧ W.cell? ⟨w.heap.size, 1, none⟩ = some (.slice Ai ins.length ci) ∧ W.cell? ⟨w.heap.size, 2, none⟩ = some (.slice Ao outs.length co)) ∧ NetV W (.agg #[.slice An nodes.length cn, .slice Ai ins.length ci, .slice Ao outs.length co]) nodes ins outs ∧ Below w.heap.size w W := fun W hW => by
    obtain ⟨c0, c1, c2, r1, r2, r3, hb⟩ := hbox W hW
    exact ⟨⟨c0, c1, c2⟩, ⟨_, _, _, rfl, r1, r2, r3⟩, hb⟩
  have HALL := Lib.hid hall
  have HCS := Lib.hid (fun W hW => (hall W hW).1)
  have HW0 := Lib.hid hw0
  have HWT := Lib.hid hw
  have HX := Lib.hid (fun W hW => hx.later (hall W hW).2.2)
  have HSC := Lib.hid hsc
  have hsl := hsc.len
  clear hN hbox hs0 hall hw0 hw hx hsc
  go_enter Try.func10, Try.ntmps10
  go_wp2_with fail
  rw [← HW0.out]
  refine (awake11 w0).mono ?_
  rintro e w1 ⟨rfl, hb1⟩
  have HB1 := Lib.hid hb1
  have HB1d := Lib.hid hb1.drew
  clear hb1 HW0
  go_wp2_with fail
  go_region_held3 (fun W => W.cell? ⟨w.heap.size, 0, none⟩ = some (.slice An nodes.length cn) ∧ W.cell? ⟨w.heap.size, 1, none⟩ = some (.slice Ai ins.length ci) ∧ W.cell? ⟨w.heap.size, 2, none⟩ = some (.slice Ao outs.length co))
    (first | with_reducible exact HCS.out _ HB1.out | with_reducible exact HCS.out _ HB1d.out | with_reducible exact HCS.out _ HB2.out | with_reducible exact HCS.out _ HB3.out)
    (first
      | (go_at_call 35; refine (script_any _ (fun _ => False) (fun _ h => h.elim) _ s (HX.out _ HB1d.out) (Nat.le_trans HSC.out.len (by decide)) (fun x hx => Nat.le_trans (HSC.out.row x hx) (by decide))).mono ?_; rintro e w2 ⟨v2, rfl, hr2, hb2⟩; obtain ⟨A2, c2, rfl, -, -⟩ := hr2.shape; have HR2 := Lib.hid hr2; have HB2 := Lib.hid (HB1d.out.trans (hb2.mono HB1d.out.size)); clear hr2 hb2)
      | (go_at_call 34; refine (large07_ref _ _ _ _ nodes ins outs s (HALL.out _ HB2.out).2.1 HWT.out HR2.out (Nat.le_trans HSC.out.len (by decide)) (fun x hx => Nat.le_trans (HSC.out.row x hx) (by decide)) HSC.out.sum).mono ?_; rintro e w3 ⟨rfl, hb3⟩; have HB3 := Lib.hid (HB2.out.trans (hb3.mono HB2.out.size)); clear hb3))
  cases hL : largeS nodes ins outs s with
  | true =>
    have HBW := Lib.hid (HALL.out _ HB3.out).2.2
    clear hL
    go_wp2
    go_ret
    exact ⟨rfl, HBW.out⟩
  | false =>
    have hL1 : largeB nodes ins outs 60 = false := by
      unfold largeS at hL
      rw [Bool.or_eq_false_iff, Bool.or_eq_false_iff] at hL
      exact hL.1.1
    have HQ := Lib.hid (wtP_of hL1)
    have HF := Lib.hid (fits_of hL1)
    have hsm := small_of hL1
    have HS := Lib.hid (sum_bd (ins := ins) (outs := outs) (by omega) HQ.out)
    clear hL hL1 hsm
    obtain ⟨⟨z0, z1, z2⟩, hn, -⟩ := HALL.out _ HB3.out
    have HC := Lib.hid (sweep_net w3 _ nodes ins outs hn HF.out HS.out)
    clear hn
    go_wp2_with fail
    refine HC.out.mono ?_
    rintro e w4 ⟨v4, m4, x4, n4, i4, o4, rfl, hv4, hs4, hb4⟩
    obtain ⟨B1, d1, B2, d2, B3, d3, rfl⟩ := hv4.parts
    have hc4 := hv4.boxV
    obtain ⟨N4, hN4⟩ : ∃ N4, N4 = w4.alloc (netBox (.slice B1 n4.length d1) (.slice B2 i4.length d2) (.slice B3 o4.length d3)) := ⟨_, rfl⟩
    have hs4n : N4.heap.size = w4.heap.size + 1 := by rw [hN4]; simp
    have hb4n : Below w4.heap.size w4 N4 := by rw [hN4]; exact (Below.refl _ _).alloc (Nat.le_refl _) _
    rw [← hN4, ← hs4n] at hc4
    have HN4 := Lib.hid hN4
    have HB4 := Lib.hid ((HB3.out.trans (hb4.mono HB3.out.size)).trans (hb4n.mono (Nat.le_trans HB3.out.size hb4.size)))
    have HSO := Lib.hid hs4
    clear hb4 HC hv4 hs4 hN4 hs4n hb4n z0 z1 z2
    by_cases hx : x4 = 0
    · subst hx
      obtain ⟨⟨lv, hlev⟩, -, h0⟩ := HSO.out
      obtain ⟨l, hl, hm4, hn4, hi4, ho4⟩ := h0 rfl
      obtain ⟨g1, g2, ⟨k4, g3⟩, g4, g5⟩ := sweep_same hlev hl n4 hn4.symm
      rw [← hi4, ← ho4] at g2 g4 g5
      have hez := hlev.choose_spec.1.symm
      have hbt := (errP_zero hez).2.2.2.2.2
      rw [hbt] at hez
      have hisl : IsLev nodes lv := by obtain ⟨b, h1, h2, h3, h4, h5⟩ := hlev; exact h4 rfl
      have hwi : ins.map wideP = i4.map wideP := by
        rw [hi4, List.map_map]
        exact List.map_congr_left fun p _ => by simp [wideP, rpP]
      have hwo : outs.map wideP = o4.map wideP := by
        rw [ho4, List.map_map]
        exact List.map_congr_left fun p _ => by simp [wideP, rpP]
      have hq2 : ∀ q ∈ i4 ++ o4, q.bits.length ≤ 4000 ∧ q.name.size ≤ 4000 := fun q hq => by
        rw [hi4, ho4, ← List.map_append] at hq
        obtain ⟨p, hp, rfl⟩ := List.mem_map.1 hq
        have := HQ.out p hp
        simpa [rpP] using this
      have hpl := plcN_le l nodes.length
      have hsz := (errP_zero hez).1
      have hsz4 := (errP_zero g2).1
      have HF2 := Lib.hid (fits_err g2 hq2)
      have HS2s := Lib.hid (sum_bd (ins := i4) (outs := o4) (by omega) hq2)
      have HS1 := Lib.hid (sim_err hez hisl HQ.out)
      have HS2 := Lib.hid (sim_err g2 g3 hq2)
      have HLO := Lib.hid (lev_out g2 g3)
      have HAG := Lib.hid (swp_again g2 g3 g4)
      have HT := Lib.hid (g5 (s.map fun r => r.map partsVal))
      have HWI := Lib.hid hwi
      have HWO := Lib.hid hwo
      have HTL := Lib.hid (throughC_len (nodes := nodes) (ins := ins) (s := s.map fun r => r.map partsVal) (sim_err hez hisl HQ.out).op)
      have hnl4 : n4.length ≤ 262144 := by omega
      have hnl : nodes.length ≤ 262144 := by omega
      have hwr : IntKind.i64.wrap ((nodes.length : Int) - m4) = (n4.length : Int) := by
        rw [hm4, g1, show (nodes.length : Int) - ((nodes.length : Int) - (plcN l nodes.length : Int)) = (plcN l nodes.length : Int) by omega]
        exact IntWalk.i64_in _ (by omega)
      have HC4 := Lib.hid hc4
      have HCC := Lib.hid (fun W hW => (hc4 W hW).1)
      obtain ⟨⟨s0, s1, s2⟩, hvs, -⟩ := hc4 N4 (Below.refl _ _)
      rw [HN4.out] at s0 s1 s2
      have HC := Lib.hid (sweep_net N4 _ n4 i4 o4 hvs HF2.out HS2s.out)
      clear hlev h0 hl hm4 hn4 hi4 ho4 g1 g2 g3 g4 g5 hez hbt hisl hwi hwo hq2 HSO hc4 hvs hpl hsz hsz4
      go_wp2_with fail
      rw [← HN4.out]
      refine HC.out.mono ?_
      rintro e w5 ⟨v5, m5, x5, n5, i5, o5, rfl, hv5, hs5, hb5⟩
      obtain ⟨rfl, rfl, rfl, rfl, rfl⟩ := hs5.unique HAG.out
      obtain ⟨C1, e1, C2, e2, C3, e3, rfl⟩ := hv5.parts
      have hc5 := hv5.boxV
      obtain ⟨N5, hN5⟩ : ∃ N5, N5 = w5.alloc (netBox (.slice C1 n5.length e1) (.slice C2 i5.length e2) (.slice C3 o5.length e3)) := ⟨_, rfl⟩
      have hs5n : N5.heap.size = w5.heap.size + 1 := by rw [hN5]; simp
      have hb5n : Below w5.heap.size w5 N5 := by rw [hN5]; exact (Below.refl _ _).alloc (Nat.le_refl _) _
      rw [← hN5, ← hs5n] at hc5
      have HN5 := Lib.hid hN5
      have HB45 := Lib.hid (hb5.trans (hb5n.mono hb5.size))
      have HB5 := Lib.hid (HB4.out.trans (HB45.out.mono HB4.out.size))
      have HC5 := Lib.hid hc5
      have HCA := Lib.hid (fun W hW => (hc5 W hW).1)
      clear hb5 HC hv5 hs5 hc5 hN5 hs5n hb5n s0 s1 s2
      have hld : Below N5.heap.size N5 N5.drew := (Below.refl _ _).drew
      have HBd := Lib.hid (HB5.out.trans (hld.mono HB5.out.size))
      have HB4d := Lib.hid (HB45.out.trans (hld.mono HB45.out.size))
      have HNd := Lib.hid hld
      have HSa := Lib.hid (And.intro (HCS.out _ HB5.out) (And.intro (HCC.out _ HB45.out) (HCA.out _ (Below.refl _ _))))
      have HSb := Lib.hid (And.intro (HCS.out _ HBd.out) (And.intro (HCC.out _ HB4d.out) (HCA.out _ HNd.out)))
      have HSM := Lib.hid (fun (W : World) (h5 : Below N5.heap.size N5 W) (h4 : Below N4.heap.size N4 W) => show Calls Try.prog 29 #[.agg #[.slice C1 n5.length e1, .slice C2 i5.length e2, .slice C3 o5.length e3], .agg #[.slice B1 n5.length d1, .slice B2 i5.length d2, .slice B3 o5.length d3]] W fun e w' => e = .returned (.bool true) ∧ Below W.heap.size W w' from (sameNet_ref W _ _ n5 n5 i5 o5 i5 o5 (HC5.out _ h5).2.1 (HC4.out _ h4).2.1 HF2.out.nl HF2.out.il HF2.out.ol HF2.out.bits).mono fun e w' h => ⟨by rw [h.1, show sameN n5 n5 i5 i5 o5 o5 = true from by simp [sameN]], h.2⟩)
      clear hld
      go_wp2_with fail
      rw [← HN5.out]
      go_wp2_with fail
      go_region_held3 (fun W => (W.cell? ⟨w.heap.size, 0, none⟩ = some (.slice An nodes.length cn) ∧ W.cell? ⟨w.heap.size, 1, none⟩ = some (.slice Ai ins.length ci) ∧ W.cell? ⟨w.heap.size, 2, none⟩ = some (.slice Ao outs.length co)) ∧ (W.cell? ⟨w4.heap.size, 0, none⟩ = some (.slice B1 n5.length d1) ∧ W.cell? ⟨w4.heap.size, 1, none⟩ = some (.slice B2 i5.length d2) ∧ W.cell? ⟨w4.heap.size, 2, none⟩ = some (.slice B3 o5.length d3)) ∧ (W.cell? ⟨w5.heap.size, 0, none⟩ = some (.slice C1 n5.length e1) ∧ W.cell? ⟨w5.heap.size, 1, none⟩ = some (.slice C2 i5.length e2) ∧ W.cell? ⟨w5.heap.size, 2, none⟩ = some (.slice C3 o5.length e3)))
        (first | with_reducible exact HSa.out | with_reducible exact HSb.out | with_reducible exact ⟨HCS.out _ HB6.out, HCC.out _ HG6.out, HCA.out _ HN6.out⟩ | with_reducible exact ⟨HCS.out _ HB7.out, HCC.out _ HG7.out, HCA.out _ HN7.out⟩ | with_reducible exact ⟨HCS.out _ HB8.out, HCC.out _ HG8.out, HCA.out _ HN8.out⟩ | with_reducible exact ⟨HCS.out _ HB9.out, HCC.out _ HG9.out, HCA.out _ HN9.out⟩)
        (first
          | (go_at_call 22; refine (check_net _ _ n5 i5 o5 (HC4.out _ HB4d.out).2.1 HF2.out).mono ?_; rintro e w6 ⟨l6, x6, rfl, hl6, hb6⟩; obtain rfl : x6 = 0 := (hl6.unique HLO.out).1; have HN6 := Lib.hid (HNd.out.trans (hb6.mono HNd.out.size)); have HG6 := Lib.hid (HB4d.out.trans (hb6.mono HB4d.out.size)); have HB6 := Lib.hid (HBd.out.trans (hb6.mono HBd.out.size)); clear hl6 hb6)
          | (go_at_call 29; refine (HSM.out _ HN6.out HG6.out).mono ?_; rintro e w7 ⟨rfl, hb7⟩; have HN7 := Lib.hid (HN6.out.trans (hb7.mono HN6.out.size)); have HG7 := Lib.hid (HG6.out.trans (hb7.mono HG6.out.size)); have HB7 := Lib.hid (HB6.out.trans (hb7.mono HB6.out.size)); clear hb7)
          | (go_at_call 35; refine (script_any _ (fun _ => False) (fun _ h => h.elim) _ s (HX.out _ HB7.out) (Nat.le_trans HSC.out.len (by decide)) (fun x hx => Nat.le_trans (HSC.out.row x hx) (by decide))).mono ?_; rintro e w8 ⟨v8, rfl, hr8, hb8⟩; have HR8 := Lib.hid hr8; have HN8 := Lib.hid (HN7.out.trans (hb8.mono HN7.out.size)); have HG8 := Lib.hid (HG7.out.trans (hb8.mono HG7.out.size)); have HB8 := Lib.hid (HB7.out.trans (hb8.mono HB7.out.size)); clear hr8 hb8)
          | (go_at_call 36; refine (alike_any _ _ _ _ _ nodes n5 ins outs i5 o5 s (HALL.out _ HB8.out).2.1 (HC4.out _ HG8.out).2.1 HS1.out HS2.out HR8.out HSC.out.scr HWI.out HWO.out HT.out (Nat.le_trans HTL.out.1 (by rw [List.length_map]; omega)) HTL.out.2).mono ?_; rintro e w9 ⟨rfl, hb9⟩; have HN9 := Lib.hid (HN8.out.trans (hb9.mono HN8.out.size)); have HG9 := Lib.hid (HG8.out.trans (hb9.mono HG8.out.size)); have HB9 := Lib.hid (HB8.out.trans (hb9.mono HB8.out.size)); clear hb9))
      have HBW := Lib.hid (HALL.out _ HB9.out).2.2
      go_wp2
      go_ret
      exact ⟨rfl, HBW.out⟩
    · have hxb : (x4 != 0) = true := by simpa using hx
      obtain ⟨⟨k, hlev⟩, h1, -⟩ := HSO.out
      obtain ⟨-, rfl, -, -⟩ := h1 hx
      rw [List.length_nil] at HN4 hc4 ⊢
      have HLO := Lib.hid hlev
      have HC4 := Lib.hid hc4
      clear hx hlev hc4 h1 HSO
      obtain ⟨⟨z0, z1, z2⟩, hn, -⟩ := HALL.out _ HB4.out
      have HC := Lib.hid (check_net N4 _ nodes ins outs hn HF.out)
      rw [HN4.out] at z0 z1 z2
      clear hn
      go_wp2_with fail
      rw [← HN4.out]
      refine HC.out.mono ?_
      rintro e w5 ⟨l5, x5, rfl, hl5, hb5⟩
      obtain rfl : x5 = x4 := (hl5.unique HLO.out).1
      obtain ⟨⟨s0, s1, s2⟩, -, -⟩ := HC4.out _ hb5
      have HBW := Lib.hid (HALL.out _ (HB4.out.trans (hb5.mono HB4.out.size))).2.2
      clear hl5 hb5
      go_wp2
      go_ret
      exact ⟨rfl, HBW.out⟩
end Go.Proofs.Ytbfjacgfifecpaa
