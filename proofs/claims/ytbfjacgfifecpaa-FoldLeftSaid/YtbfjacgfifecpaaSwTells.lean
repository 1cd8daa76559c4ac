/- slipsticklaw11.SweepTells: the walk. -/
import Derived.Test.YtbfjacgfifecpaaM11
import Derived.Test.YtbfjacgfifecpaaSwK
import Derived.Test.YtbfjacgfifecpaaNTells
namespace Go.Proofs.Ytbfjacgfifecpaa
open Go.RowKit

theorem sum_of {nodes : List Node} {ins outs : List Port} (h : largeB nodes ins outs 60 = false) : ((outs ++ ins).flatMap (·.bits)).length ≤ 1099511627776 := by
  obtain ⟨h1, h2, h3, h4⟩ := small_of h
  have := wt_flat ins
  have := wt_flat outs
  rw [List.flatMap_append, List.length_append]
  omega
theorem plcN_len (l : List Bool) (n : Nat) : plcN l n ≤ n := plcN_le l n
theorem SwpOut.fits {nodes : List Node} {ins outs : List Port} {e m : Int} {n' : List Node} {i' o' : List Port} (h : SwpOut nodes ins outs e m n' i' o') (hF : Fits nodes ins outs) : n'.length ≤ 1099511627776 ∧ i'.length ≤ 1073741824 ∧ o'.length ≤ 1073741824 ∧ ∀ q ∈ i' ++ o', q.bits.length ≤ 1099511627776 := by
  obtain ⟨-, h2, h3⟩ := h
  by_cases h0 : e = 0
  · obtain ⟨l, -, -, rfl, rfl, rfl⟩ := h3 h0
    refine ⟨?_, by rw [List.length_map]; exact hF.il, by rw [List.length_map]; exact hF.ol, fun q hq => ?_⟩
    · have := swT_len l nodes nodes.length; have := hF.nl; omega
    · rw [← List.map_append] at hq
      obtain ⟨p, hp, rfl⟩ := List.mem_map.1 hq
      simp only [rpP, List.length_map]
      exact hF.bits p hp
  · obtain ⟨-, rfl, rfl, rfl⟩ := h2 h0
    exact ⟨by simp, by simp, by simp, by simp⟩
theorem CntOut.len {nodes : List Node} {ins outs : List Port} {e : Int} {l : List Bool} (h : CntOut nodes ins outs e l) : l.length ≤ nodes.length := by
  obtain ⟨-, h2, h3⟩ := h
  by_cases h0 : e = 0
  · rw [(h2 h0).1]; exact Nat.le_refl _
  · rw [h3 h0]; simp
theorem ConOut.len {nodes : List Node} {ins outs : List Port} {a e : Int} {l : List Int} (h : ConOut nodes ins outs a e l) : l.length ≤ nodes.length := by
  obtain ⟨e0, -, h2, h3, h4⟩ := h
  by_cases h0 : e0 = 0
  · by_cases ha : 0 ≤ a ∧ a < nodes.length
    · obtain ⟨-, b, r2, rfl⟩ := h4 h0 ha
      rw [idxs, List.length_map, ← r2.1]
      exact idxT_len b b.length
    · rw [(h3 h0 ha).2]; simp
  · rw [(h2 h0).2]; simp
theorem sameN_refl (n : List Node) (i o : List Port) : sameN n n i i o o = true := by simp [sameN]

set_option maxHeartbeats 4000000 in
set_option maxRecDepth 100000 in
theorem sweepTells_walk (w : World) (v : Value) (nodes : List Node) (ins outs : List Port) (hN : NetV w v nodes ins outs) (hw : ∀ q ∈ ins ++ outs, q.bits.length + q.name.size ≤ 281474976710656) (a : Int) (ha : -9223372036854775808 ≤ a ∧ a < 9223372036854775808) :
    Calls Try.prog 9 #[v, .int .i64 a] w fun e w' => e = .returned (.bool true) ∧ Below w.heap.size w w' := by
  obtain ⟨An, cn, Ai, ci, Ao, co, rfl, hbox⟩ := hN.box
  obtain ⟨w0, hw0⟩ : ∃ w0, w0 = w.alloc (netBox (.slice An nodes.length cn) (.slice Ai ins.length ci) (.slice Ao outs.length co)) := ⟨_, rfl⟩
  have hs0 : w0.heap.size = w.heap.size + 1 := by rw [hw0]; simp
  rw [← hw0, ← hs0] at hbox
  have hall : ∀ W, Below w0.heap.size w0 W → (W.cell? ⟨w.heap.size, 0, none⟩ = some (.slice An nodes.length cn) ∧ W.cell? ⟨w.heap.size, 1, none⟩ = some (.slice Ai ins.length ci) ∧ W.cell? ⟨w.heap.size, 2, none⟩ = some (.slice Ao outs.length co)) ∧ NetV W (.agg #[.slice An nodes.length cn, .slice Ai ins.length ci, .slice Ao outs.length co]) nodes ins outs ∧ Below w.heap.size w W := fun W hW => by
    obtain ⟨c0, c1, c2, r1, r2, r3, hb⟩ := hbox W hW
    exact ⟨⟨c0, c1, c2⟩, ⟨_, _, _, rfl, r1, r2, r3⟩, hb⟩
  have HALL := Lib.hid hall
  have HW0 := Lib.hid hw0
  have HWT := Lib.hid hw
  have HA := Lib.hid ha
  clear hN hbox hs0 hall hw0 hw ha
  go_enter Try.func9, Try.ntmps9
  go_wp2_with fail
  rw [← HW0.out]
  refine (awake11 w0).mono ?_
  rintro e w1 ⟨rfl, hb1⟩
  have HB1 := Lib.hid hb1
  obtain ⟨⟨z0, z1, z2⟩, hn, -⟩ := HALL.out _ hb1
  have hl : Calls Try.prog 15 #[.agg #[.slice An nodes.length cn, .slice Ai ins.length ci, .slice Ao outs.length co], .int .i64 60] w1 fun e w' => e = .returned (.bool (largeB nodes ins outs 60)) ∧ Below w1.heap.size w1 w' := large_ref w1 _ nodes ins outs 60 hn HWT.out
  have HC := Lib.hid hl
  clear hb1 hn hl HW0
  go_wp2_with fail
  refine HC.out.mono ?_
  rintro e w2 ⟨rfl, hb2⟩
  have HB2 := Lib.hid (HB1.out.trans (hb2.mono HB1.out.size))
  clear hb2 HC z0 z1 z2
  cases hL : largeB nodes ins outs 60 with
  | true =>
    have HBW := Lib.hid (HALL.out _ HB2.out).2.2
    clear hL
    go_wp2
    go_ret
    exact ⟨rfl, HBW.out⟩
  | false =>
    have HF := Lib.hid (fits_of hL)
    have HS := Lib.hid (sum_of hL)
    clear hL
    obtain ⟨⟨z0, z1, z2⟩, hn, -⟩ := HALL.out _ HB2.out
    have HC := Lib.hid (sweep_net w2 _ nodes ins outs hn HF.out HS.out)
    clear hn
    go_wp2_with fail
    refine HC.out.mono ?_
    rintro e w3 ⟨v3, m3, x3, n3, i3, o3, rfl, hv3, hs3, hb3⟩
    obtain ⟨A1, c1, A2, c2, A3, c3, rfl⟩ := hv3.parts
    have hc3 := hv3.boxV
    obtain ⟨N3, hN3⟩ : ∃ N3, N3 = w3.alloc (netBox (.slice A1 n3.length c1) (.slice A2 i3.length c2) (.slice A3 o3.length c3)) := ⟨_, rfl⟩
    have hs3n : N3.heap.size = w3.heap.size + 1 := by rw [hN3]; simp
    have hb3n : Below w3.heap.size w3 N3 := by rw [hN3]; exact (Below.refl _ _).alloc (Nat.le_refl _) _
    rw [← hN3, ← hs3n] at hc3
    have HC3 := Lib.hid hc3
    have HSO := Lib.hid hs3
    have HN3 := Lib.hid hN3
    have HB3 := Lib.hid ((HB2.out.trans (hb3.mono HB2.out.size)).trans (hb3n.mono (Nat.le_trans HB2.out.size hb3.size)))
    clear hb3 HC hv3 hs3 hc3 hN3 hs3n hb3n z0 z1 z2
    obtain ⟨⟨z0, z1, z2⟩, hn, -⟩ := HALL.out _ HB3.out
    have HC := Lib.hid (sweepR_ref N3 _ nodes ins outs hn HF.out)
    clear hn
    rw [HN3.out] at z0 z1 z2
    go_wp2_with fail
    rw [← HN3.out]
    refine HC.out.mono ?_
    rintro e w4 ⟨v4, m4, x4, n4, i4, o4, rfl, hv4, hs4, hb4⟩
    obtain ⟨rfl, rfl, rfl, rfl, rfl⟩ := HSO.out.unique hs4
    obtain ⟨A4, c4, A5, c5, A6, c6, rfl⟩ := hv4.parts
    have hc4 := hv4.boxV
    obtain ⟨N4, hN4⟩ : ∃ N4, N4 = w4.alloc (netBox (.slice A4 n3.length c4) (.slice A5 i3.length c5) (.slice A6 o3.length c6)) := ⟨_, rfl⟩
    have hs4n : N4.heap.size = w4.heap.size + 1 := by rw [hN4]; simp
    have hb4n : Below w4.heap.size w4 N4 := by rw [hN4]; exact (Below.refl _ _).alloc (Nat.le_refl _) _
    rw [← hN4, ← hs4n] at hc4
    have HC4 := Lib.hid hc4
    have HN4 := Lib.hid hN4
    have HB34 := Lib.hid (hb4.trans (hb4n.mono hb4.size))
    have HB4 := Lib.hid (HB3.out.trans (HB34.out.mono HB3.out.size))
    clear hb4 HC hv4 hs4 hc4 hN4 hs4n hb4n z0 z1 z2
    obtain ⟨⟨z0, z1, z2⟩, hn, -⟩ := HALL.out _ HB4.out
    have HC := Lib.hid (count_net N4 _ nodes ins outs hn HF.out HS.out)
    clear hn
    rw [HN4.out] at z0 z1 z2
    go_wp2_with fail
    rw [← HN4.out]
    refine HC.out.mono ?_
    rintro e w5 ⟨v5, l5, x5, rfl, hr5, hl5, hb5⟩
    obtain ⟨A7, c7, rfl, -, -⟩ := hr5.shape
    have HR5 := Lib.hid hr5
    have HL5 := Lib.hid hl5
    have HB45 := Lib.hid hb5
    have HB5 := Lib.hid (HB4.out.trans (hb5.mono HB4.out.size))
    clear hb5 HC hr5 hl5 z0 z1 z2
    obtain ⟨⟨z0, z1, z2⟩, hn, -⟩ := HALL.out _ HB5.out
    have HC := Lib.hid (countR_ref w5 _ nodes ins outs hn HF.out)
    clear hn
    go_wp2_with fail
    refine HC.out.mono ?_
    rintro e w6 ⟨v6, l6, x6, rfl, hr6, hl6, hb6⟩
    obtain ⟨rfl, rfl⟩ := HL5.out.unique hl6
    obtain ⟨A8, c8, rfl, -, -⟩ := hr6.shape
    have HR6 := Lib.hid hr6
    have HB56 := Lib.hid hb6
    have HB6 := Lib.hid (HB5.out.trans (hb6.mono HB5.out.size))
    clear hb6 HC hr6 hl6 z0 z1 z2
    obtain ⟨⟨z0, z1, z2⟩, hn, -⟩ := HALL.out _ HB6.out
    have HC := Lib.hid (cone_net w6 _ nodes ins outs hn HF.out a HA.out)
    clear hn
    go_wp2_with fail
    refine HC.out.mono ?_
    rintro e w7 ⟨v7, l7, x7, rfl, hr7, hl7, hb7⟩
    obtain ⟨A9, c9, rfl, -, -⟩ := hr7.shape
    have HR7 := Lib.hid hr7
    have HL7 := Lib.hid hl7
    have HB67 := Lib.hid hb7
    have HB7 := Lib.hid (HB6.out.trans (hb7.mono HB6.out.size))
    clear hb7 HC hr7 hl7 z0 z1 z2
    obtain ⟨⟨z0, z1, z2⟩, hn, -⟩ := HALL.out _ HB7.out
    have HC := Lib.hid (coneR_ref w7 _ nodes ins outs hn HF.out a HA.out)
    clear hn
    go_wp2_with fail
    refine HC.out.mono ?_
    rintro e w8 ⟨v8, l8, x8, rfl, hr8, hl8, hb8⟩
    obtain ⟨rfl, rfl⟩ := HL7.out.unique hl8
    obtain ⟨A10, c10, rfl, -, -⟩ := hr8.shape
    have HB78 := Lib.hid hb8
    have HB8 := Lib.hid (HB7.out.trans (hb8.mono HB7.out.size))
    have hb68 : Below w6.heap.size w6 w8 := HB67.out.trans (hb8.mono HB67.out.size)
    have hb58 : Below w5.heap.size w5 w8 := HB56.out.trans (hb68.mono HB56.out.size)
    have hb48 : Below N4.heap.size N4 w8 := HB45.out.trans (hb58.mono HB45.out.size)
    have hb38 : Below N3.heap.size N3 w8 := HB34.out.trans (hb48.mono HB34.out.size)
    have HR58 := Lib.hid (HR5.out.later hb58)
    have HR68 := Lib.hid (HR6.out.later hb68)
    have HR78 := Lib.hid (HR7.out.later hb8)
    have HR88 := Lib.hid hr8
    obtain ⟨⟨s0, s1, s2⟩, hvs, -⟩ := HC3.out w8 hb38
    obtain ⟨⟨r0, r1, r2⟩, hvr, -⟩ := HC4.out w8 hb48
    have hfit := HSO.out.fits HF.out
    have HVS := Lib.hid hvs
    have HVR := Lib.hid hvr
    have HFI := Lib.hid hfit
    have HSN := Lib.hid (sameN_refl n3 i3 o3)
    have hll : l5.length ≤ 1099511627776 := Nat.le_trans HL5.out.len HF.out.nl
    have HCL := Lib.hid (Nat.le_trans HL7.out.len HF.out.nl)
    clear hb8 HC hr8 hl8 hb68 hb58 hb48 hb38 hvs hvr hfit z0 z1 z2 HC3 HC4 HR5 HR6 HR7 HB34 HB45 HB56 HB67 HB78
    go_wp2_with fail
    go_loopw [80] (fun iv wr => ∃ i : Nat, iv = .int .i64 i ∧ i ≤ l5.length ∧ Hid (Below w8.heap.size w8 wr)) (fun iv _ => l5.length - (intOf iv).toNat)
    case atStart => exact ⟨0, rfl, Nat.zero_le _, Lib.hid (Below.refl _ _)⟩
    case round =>
      obtain ⟨i, rfl, hi, HB⟩ := hrel
      by_cases hlt : i < l5.length
      · obtain ⟨b, off, rfl, q0⟩ := (HR58.out.later HB.out).bool_at hlt
        obtain ⟨b', off', rfl, q1⟩ := (HR68.out.later HB.out).bool_at hlt
        obtain ⟨y, hy⟩ : ∃ y, l5[i] = y := ⟨_, rfl⟩
        rw [hy] at q0 q1
        have hq : (y != y) = false := by simp
        clear hy r0 r1 r2 s0 s1 s2
        go_wp2_with fail
        go_quiet (fail)
        go_wp2
        refine ⟨⟨i + 1, by go_num, by omega, Lib.hid (HB.out.trans ((pw_drewN _ _).mono HB.out.size))⟩, ?_⟩
        simp [intOf]; omega
      · obtain rfl : i = l5.length := by omega
        have HSM2 := Lib.hid (sameNet_ref wr (.agg #[.slice A1 n3.length c1, .slice A2 i3.length c2, .slice A3 o3.length c3]) (.agg #[.slice A4 n3.length c4, .slice A5 i3.length c5, .slice A6 o3.length c6]) n3 n3 i3 o3 i3 o3 (HVS.out.later HB.out) (HVR.out.later HB.out) HFI.out.1 HFI.out.2.1 HFI.out.2.2.1 HFI.out.2.2.2)
        replace s0 := cellBelow HB.out s0
        replace s1 := cellBelow HB.out s1
        replace s2 := cellBelow HB.out s2
        replace r0 := cellBelow HB.out r0
        replace r1 := cellBelow HB.out r1
        replace r2 := cellBelow HB.out r2
        have hm : (m3 == m3) = true := by simp
        clear hlt hi
        go_wp2_with fail
        refine HSM2.out.mono ?_
        rintro e w9 ⟨rfl, hb9⟩
        rw [HSN.out]
        have HB9 := Lib.hid (HB.out.trans (hb9.mono HB.out.size))
        have HC := Lib.hid (ints_same w9 _ _ l7 (HR78.out.later HB9.out) (HR88.out.later HB9.out) HCL.out)
        clear hb9 HSM2 s0 s1 s2 r0 r1 r2
        go_wp2_with fail
        refine HC.out.mono ?_
        rintro e w10 ⟨rfl, hb10⟩
        have HBW := Lib.hid (HALL.out _ (HB8.out.trans ((HB9.out.trans (hb10.mono HB9.out.size)).mono HB8.out.size))).2.2
        clear hb10 HC
        go_wp2
        go_ret
        exact ⟨rfl, HBW.out⟩
end Go.Proofs.Ytbfjacgfifecpaa
