/- slipsticklaw09.FoldSame: the walk. -/
import Derived.Test.YtbfjacgfifecpaaFoS
import Derived.Test.YtbfjacgfifecpaaSiJ
import Derived.Test.YtbfjacgfifecpaaM09
namespace Go.Proofs.Ytbfjacgfifecpaa
open Go.RowKit

set_option maxHeartbeats 4000000 in
set_option maxRecDepth 100000 in
theorem foldSame_walk (w : World) (v vs : Value) (nodes : List Node) (ins outs : List Port) (s : List (List (List Int))) (hN : NetV w v nodes ins outs) (hw : ∀ q ∈ ins ++ outs, q.bits.length + q.name.size ≤ 281474976710656) (hx : Row (kRow (kRow (kNum .u32))) w (fun _ => False) vs s) (hsc : ScrN s) :
    Calls Try.prog 13 #[v, vs] w fun e w' => e = .returned (.bool true) ∧ Below w.heap.size w w' := by
  obtain ⟨An, cn, Ai, ci, Ao, co, rfl, hbox⟩ := hN.box
  obtain ⟨w0, hw0⟩ : ∃ w0, w0 = w.alloc (netBox (.slice An nodes.length cn) (.slice Ai ins.length ci) (.slice Ao outs.length co)) := ⟨_, rfl⟩
  have hs0 : w0.heap.size = w.heap.size + 1 := by rw [hw0]; simp
  rw [← hw0, ← hs0] at hbox
  obtain ⟨A9, c9, rfl, -, -⟩ := hx.shape
  have hall : ∀ W, Below w0.heap.size w0 W → (W.cell? ⟨w.heap.size, 0, none⟩ = some (.slice An nodes.length cn) ∧ W.cell? ⟨w.heap.size, 1, none⟩ = some (.slice Ai ins.length ci) ∧ W.cell? ⟨w.heap.size, 2, none⟩ = some (.slice Ao outs.length co)) ∧ NetV W (.agg #[.slice An nodes.length cn, .slice Ai ins.length ci, .slice Ao outs.length co]) nodes ins outs ∧ Below w.heap.size w W := fun W hW => by
    obtain ⟨c0, c1, c2, r1, r2, r3, hb⟩ := hbox W hW
    exact ⟨⟨c0, c1, c2⟩, ⟨_, _, _, rfl, r1, r2, r3⟩, hb⟩
  have HALL := Lib.hid hall
  have HCS := Lib.hid (fun W hW => (hall W hW).1)
  have HW0 := Lib.hid hw0
  have HWT := Lib.hid hw
  have HX := Lib.hid (fun W hW => hx.later (hall W hW).2.2)
  have HSC := Lib.hid hsc
  have hsl := hsc.len
  clear hN hbox hs0 hall hw0 hw hx hsc
  go_enter Try.func13, Try.ntmps13
  go_wp2_with fail
  rw [← HW0.out]
  refine (awake09 w0).mono ?_
  rintro e w1 ⟨rfl, hb1⟩
  have HB1 := Lib.hid hb1
  have HB1d := Lib.hid hb1.drew
  clear hb1 HW0
  go_wp2_with fail
  go_region_held3 (fun W => W.cell? ⟨w.heap.size, 0, none⟩ = some (.slice An nodes.length cn) ∧ W.cell? ⟨w.heap.size, 1, none⟩ = some (.slice Ai ins.length ci) ∧ W.cell? ⟨w.heap.size, 2, none⟩ = some (.slice Ao outs.length co))
    (first | with_reducible exact HCS.out _ HB1.out | with_reducible exact HCS.out _ HB1d.out | with_reducible exact HCS.out _ HB2.out | with_reducible exact HCS.out _ HB3.out)
    (first
      | (go_at_call 35; refine (script_any _ (fun _ => False) (fun _ h => h.elim) _ s (HX.out _ HB1d.out) (Nat.le_trans HSC.out.len (by decide)) (fun x hx => Nat.le_trans (HSC.out.row x hx) (by decide))).mono ?_; rintro e w2 ⟨v2, rfl, hr2, hb2⟩; obtain ⟨A2, c2, rfl, -, -⟩ := hr2.shape; have HR2 := Lib.hid hr2; have HB2 := Lib.hid (HB1d.out.trans (hb2.mono HB1d.out.size)); clear hr2 hb2)
      | (go_at_call 34; refine (large07_ref _ _ _ _ nodes ins outs s (HALL.out _ HB2.out).2.1 HWT.out HR2.out (Nat.le_trans HSC.out.len (by decide)) (fun x hx => Nat.le_trans (HSC.out.row x hx) (by decide)) HSC.out.sum).mono ?_; rintro e w3 ⟨rfl, hb3⟩; have HB3 := Lib.hid (HB2.out.trans (hb3.mono HB2.out.size)); clear hb3))
  cases hL : largeS nodes ins outs s with
  | true =>
    have HBW := Lib.hid (HALL.out _ HB3.out).2.2
    clear hL
    go_wp2
    go_ret
    exact ⟨rfl, HBW.out⟩
  | false =>
    have hL1 : largeB nodes ins outs 60 = false := by
      unfold largeS at hL
      rw [Bool.or_eq_false_iff, Bool.or_eq_false_iff] at hL
      exact hL.1.1
    have HQ := Lib.hid (wtP_of hL1)
    have HF := Lib.hid (fits_of hL1)
    clear hL hL1
    obtain ⟨⟨z0, z1, z2⟩, hn, -⟩ := HALL.out _ HB3.out
    have HC := Lib.hid (fold_net w3 _ nodes ins outs hn HF.out)
    clear hn
    go_wp2_with fail
    refine HC.out.mono ?_
    rintro e w4 ⟨v4, m4, x4, n4, i4, o4, rfl, hv4, hs4, hb4⟩
    obtain ⟨B1, d1, B2, d2, B3, d3, rfl⟩ := hv4.parts
    have hc4 := hv4.boxV
    obtain ⟨N4, hN4⟩ : ∃ N4, N4 = w4.alloc (netBox (.slice B1 n4.length d1) (.slice B2 i4.length d2) (.slice B3 o4.length d3)) := ⟨_, rfl⟩
    have hs4n : N4.heap.size = w4.heap.size + 1 := by rw [hN4]; simp
    have hb4n : Below w4.heap.size w4 N4 := by rw [hN4]; exact (Below.refl _ _).alloc (Nat.le_refl _) _
    rw [← hN4, ← hs4n] at hc4
    have HN4 := Lib.hid hN4
    have HB4 := Lib.hid ((HB3.out.trans (hb4.mono HB3.out.size)).trans (hb4n.mono (Nat.le_trans HB3.out.size hb4.size)))
    have HSO := Lib.hid hs4
    clear hb4 HC hv4 hs4 hN4 hs4n hb4n z0 z1 z2
    by_cases hx : x4 = 0
    · subst hx
      obtain ⟨st, hfo, rfl, -⟩ := HSO.out.2.2 rfl
      obtain ⟨g1, g2, ⟨k4, g3⟩, g4, g5⟩ := fold_same hfo
      obtain ⟨l, hlev, -, -, -, ho4⟩ := hfo
      have hez := hlev.choose_spec.1.symm
      have hez2 := g2
      have hbt := (errP_zero hez).2.2.2.2.2
      rw [hbt] at hez
      have hisl : IsLev nodes l := by obtain ⟨b, h1, h2, h3, h4, h5⟩ := hlev; exact h4 rfl
      have hq2 : ∀ q ∈ i4 ++ o4, q.bits.length ≤ 4000 ∧ q.name.size ≤ 4000 := fun q hq => by
        rcases List.mem_append.1 hq with hq | hq
        · exact HQ.out q (List.mem_append_left _ hq)
        · rw [ho4] at hq
          obtain ⟨p, hp, rfl⟩ := List.mem_map.1 hq
          have := HQ.out p (List.mem_append_right _ hp)
          simpa [rpP] using this
      have HF2 := Lib.hid (fits_err hez2 hq2)
      have HS1 := Lib.hid (sim_err hez hisl HQ.out)
      have HS2 := Lib.hid (sim_err hez2 g3 hq2)
      have HLO := Lib.hid (lev_out hez2 g3)
      have HT := Lib.hid (g5 (s.map fun r => r.map partsVal))
      have HG4 := Lib.hid g4
      have HTL := Lib.hid (throughC_len (nodes := nodes) (ins := i4) (s := s.map fun r => r.map partsVal) (sim_err hez hisl HQ.out).op)
      rw [g1] at hc4 HN4 ⊢
      have HC4 := Lib.hid hc4
      have HCC := Lib.hid (fun W hW => (hc4 W hW).1)
      have HGN := Lib.hid g1
      clear hlev ho4 g1 g2 g3 g4 g5 hez hez2 hbt hisl hq2 HSO hc4
      have HB4d := Lib.hid HB4.out.drew
      have HNd := Lib.hid (Below.refl N4.heap.size N4).drew
      have HS4d := Lib.hid (And.intro (HCS.out _ HB4.out) (HCC.out _ (Below.refl _ _)))
      have HS4e := Lib.hid (And.intro (HCS.out _ HB4d.out) (HCC.out _ HNd.out))
      go_wp2_with fail
      rw [← HN4.out]
      go_wp2_with fail
      go_region_held3 (fun W => (W.cell? ⟨w.heap.size, 0, none⟩ = some (.slice An nodes.length cn) ∧ W.cell? ⟨w.heap.size, 1, none⟩ = some (.slice Ai i4.length ci) ∧ W.cell? ⟨w.heap.size, 2, none⟩ = some (.slice Ao outs.length co)) ∧ (W.cell? ⟨w4.heap.size, 0, none⟩ = some (.slice B1 nodes.length d1) ∧ W.cell? ⟨w4.heap.size, 1, none⟩ = some (.slice B2 i4.length d2) ∧ W.cell? ⟨w4.heap.size, 2, none⟩ = some (.slice B3 o4.length d3)))
        (first | with_reducible exact HS4d.out | with_reducible exact HS4e.out | with_reducible exact ⟨HCS.out _ HB5.out, HCC.out _ HN5.out⟩ | with_reducible exact ⟨HCS.out _ HB6.out, HCC.out _ HN6.out⟩ | with_reducible exact ⟨HCS.out _ HB7.out, HCC.out _ HN7.out⟩)
        (first
          | (go_at_call 22; refine (check_net _ _ n4 i4 o4 (HC4.out _ HNd.out).2.1 HF2.out).mono ?_; rintro e w5 ⟨l5, x5, rfl, hl5, hb5⟩; obtain rfl : x5 = 0 := (hl5.unique HLO.out).1; have HN5 := Lib.hid (HNd.out.trans (hb5.mono HNd.out.size)); have HB5 := Lib.hid (HB4d.out.trans (hb5.mono HB4d.out.size)); clear hl5 hb5)
          | (go_at_call 35; refine (script_any _ (fun _ => False) (fun _ h => h.elim) _ s (HX.out _ HB5.out) (Nat.le_trans HSC.out.len (by decide)) (fun x hx => Nat.le_trans (HSC.out.row x hx) (by decide))).mono ?_; rintro e w6 ⟨v6, rfl, hr6, hb6⟩; have HR6 := Lib.hid hr6; have HN6 := Lib.hid (HN5.out.trans (hb6.mono HN5.out.size)); have HB6 := Lib.hid (HB5.out.trans (hb6.mono HB5.out.size)); clear hr6 hb6)
          | (go_at_call 36; refine (alike_any _ _ _ _ _ nodes n4 i4 outs i4 o4 s (HALL.out _ HB6.out).2.1 (HC4.out _ HN6.out).2.1 HS1.out HS2.out HR6.out HSC.out.scr rfl HG4.out HT.out (Nat.le_trans HTL.out.1 (by rw [List.length_map]; omega)) HTL.out.2).mono ?_; rintro e w7 ⟨rfl, hb7⟩; have HN7 := Lib.hid (HN6.out.trans (hb7.mono HN6.out.size)); have HB7 := Lib.hid (HB6.out.trans (hb7.mono HB6.out.size)); clear hb7))
      have HBW := Lib.hid (HALL.out _ HB7.out).2.2
      go_wp2
      go_ret
      exact ⟨rfl, HBW.out⟩
    · have hxb : (x4 != 0) = true := by simpa using hx
      obtain ⟨k, hlev⟩ := HSO.out.1
      obtain ⟨-, rfl, -, -⟩ := HSO.out.2.1 hx
      rw [List.length_nil] at HN4 hc4 ⊢
      have HLO := Lib.hid hlev
      have HC4 := Lib.hid hc4
      clear hx hlev hc4 HSO
      obtain ⟨⟨z0, z1, z2⟩, hn, -⟩ := HALL.out _ HB4.out
      have HC := Lib.hid (check_net N4 _ nodes ins outs hn HF.out)
      rw [HN4.out] at z0 z1 z2
      clear hn
      go_wp2_with fail
      rw [← HN4.out]
      refine HC.out.mono ?_
      rintro e w5 ⟨l5, x5, rfl, hl5, hb5⟩
      obtain rfl : x5 = x4 := (hl5.unique HLO.out).1
      obtain ⟨⟨s0, s1, s2⟩, -, -⟩ := HC4.out _ hb5
      have HBW := Lib.hid (HALL.out _ (HB4.out.trans (hb5.mono HB4.out.size))).2.2
      clear hl5 hb5
      go_wp2
      go_ret
      exact ⟨rfl, HBW.out⟩
end Go.Proofs.Ytbfjacgfifecpaa
