/- slipsticklaw11.SweepCones: the walk. -/
import Derived.Test.YtbfjacgfifecpaaMSet
namespace Go.Proofs.Ytbfjacgfifecpaa
open Go.RowKit Go.Maps

set_option maxHeartbeats 4000000 in
set_option maxRecDepth 100000 in
theorem sweepCones_walk (w : World) (v : Value) (nodes : List Node) (ins outs : List Port) (hN : NetV w v nodes ins outs) (hw : ∀ q ∈ ins ++ outs, q.bits.length + q.name.size ≤ 281474976710656) (a : Nat) (ha : a < 256) :
    Calls Try.prog 11 #[v, .int .u8 (a : Int)] w fun e w' => e = .returned (.bool true) ∧ Below w.heap.size w w' := by
  obtain ⟨An, cn, Ai, ci, Ao, co, rfl, hbox⟩ := hN.box
  obtain ⟨w0, hw0⟩ : ∃ w0, w0 = w.alloc (netBox (.slice An nodes.length cn) (.slice Ai ins.length ci) (.slice Ao outs.length co)) := ⟨_, rfl⟩
  have hs0 : w0.heap.size = w.heap.size + 1 := by rw [hw0]; simp
  rw [← hw0, ← hs0] at hbox
  have hall : ∀ W, Below w0.heap.size w0 W → (W.cell? ⟨w.heap.size, 0, none⟩ = some (.slice An nodes.length cn) ∧ W.cell? ⟨w.heap.size, 1, none⟩ = some (.slice Ai ins.length ci) ∧ W.cell? ⟨w.heap.size, 2, none⟩ = some (.slice Ao outs.length co)) ∧ NetV W (.agg #[.slice An nodes.length cn, .slice Ai ins.length ci, .slice Ao outs.length co]) nodes ins outs ∧ Row kNode W (fun _ => False) (.slice An nodes.length cn) nodes ∧ Row kPort W (fun _ => False) (.slice Ao outs.length co) outs ∧ Below w.heap.size w W := fun W hW => by
    obtain ⟨c0, c1, c2, r1, r2, r3, hb⟩ := hbox W hW
    exact ⟨⟨c0, c1, c2⟩, ⟨_, _, _, rfl, r1, r2, r3⟩, r1, r3, hb⟩
  have HALL := Lib.hid hall
  have HW0 := Lib.hid hw0
  have HWT := Lib.hid hw
  clear hN hbox hs0 hall hw0 hw
  go_enter Try.func11, Try.ntmps11
  go_wp2_with fail
  rw [← HW0.out]
  refine (awake11 w0).mono ?_
  rintro e w1 ⟨rfl, hb1⟩
  have HB1 := Lib.hid hb1
  obtain ⟨⟨z0, z1, z2⟩, hn, -⟩ := HALL.out _ hb1
  have hl : Calls Try.prog 15 #[.agg #[.slice An nodes.length cn, .slice Ai ins.length ci, .slice Ao outs.length co], .int .i64 60] w1 fun e w' => e = .returned (.bool (largeB nodes ins outs 60)) ∧ Below w1.heap.size w1 w' := large_ref w1 _ nodes ins outs 60 hn HWT.out
  have HC := Lib.hid hl
  clear hb1 hn hl HW0
  go_wp2_with fail
  refine HC.out.mono ?_
  rintro e w2 ⟨rfl, hb2⟩
  have HB2 := Lib.hid (HB1.out.trans (hb2.mono HB1.out.size))
  clear hb2 HC z0 z1 z2
  cases hL : largeB nodes ins outs 60 with
  | true =>
    have HBW := Lib.hid (HALL.out _ HB2.out).2.2.2.2
    clear hL
    go_wp2
    go_ret
    exact ⟨rfl, HBW.out⟩
  | false =>
    have HF := Lib.hid (fits_of hL)
    have HS := Lib.hid (sum_of hL)
    have hsm := small_of hL
    have HSM := Lib.hid hsm
    clear hL
    obtain ⟨⟨z0, z1, z2⟩, hn, -⟩ := HALL.out _ HB2.out
    by_cases hn0 : nodes.length = 0
    · have hd : ((nodes.length : Int) == 0) = true := by rw [hn0]; rfl
      have HBW := Lib.hid (HALL.out _ HB2.out).2.2.2.2
      clear hn hn0 hsm
      go_wp2
      go_ret
      exact ⟨rfl, HBW.out⟩
    have hd : ((nodes.length : Int) == 0) = false := by simpa using hn0
    have HC := Lib.hid (count_net w2 _ nodes ins outs hn HF.out HS.out)
    have HN0 := Lib.hid hn0
    clear hn hn0 hsm
    go_wp2_with fail
    refine HC.out.mono ?_
    rintro e w3 ⟨v3, l, x, rfl, hr3, hl3, hb3⟩
    obtain ⟨A3, c3, rfl, -, -⟩ := hr3.shape
    have HR3 := Lib.hid hr3
    have HL := Lib.hid hl3
    have HB3 := Lib.hid (HB2.out.trans (hb3.mono HB2.out.size))
    clear hb3 HC hr3 hl3 z0 z1 z2 hd
    obtain ⟨⟨z0, z1, z2⟩, hn, -⟩ := HALL.out _ HB3.out
    by_cases hx : x = 0
    · subst hx
      obtain ⟨ll, hll⟩ := HL.out.1
      have hez := errP_zero hll.choose_spec.1.symm
      have HLL := Lib.hid hll
      have hrc := HL.out.2.1 rfl
      have hlen : l.length = nodes.length := hrc.1
      have HCB := Lib.hid (counts_by hez.2.1 hez.2.2.2.2.1 hrc)
      have HFB := Lib.hid (formed_in hez.2.1).2
      have HLEN := Lib.hid hlen
      have hq : ((l.length : Int) != (nodes.length : Int)) = false := by rw [hlen]; simp
      have hmm := @run_makeMap Try.prog
      have HM3 := Lib.hid (MSet.made w3)
      have HB33 := Lib.hid (show Below w3.heap.size w3 (w3.alloc (.map #[] 0)) from (Below.refl _ _).alloc (Nat.le_refl _) _)
      have hn60 := HSM.out.1
      obtain ⟨⟨z0', z1', z2'⟩, -⟩ := HALL.out _ (HB3.out.trans (HB33.out.mono HB3.out.size))
      clear hez hrc hn hll hlen
      go_wp2_with fail
      clear hmm hq z0 z1 z2 z0' z1' z2'
      go_loopw [68] (fun iv wr => ∃ i : Nat, iv = .int .i64 i ∧ i ≤ nodes.length ∧ Hid (∃ n, n ≤ i ∧ MSet wr w3.heap.size n (fun j => j < i ∧ kindAt nodes j = 1)) ∧ Hid (Below w3.heap.size w3 wr)) (fun iv _ => nodes.length - (intOf iv).toNat)
      case atStart => exact ⟨0, rfl, Nat.zero_le _, Lib.hid ⟨0, Nat.le_refl _, HM3.out.congr fun k => by simp⟩, HB33⟩
      case round =>
        clear HM3 HB33
        obtain ⟨i, rfl, hi, HE, HB⟩ := hrel
        obtain ⟨n, hni, hM⟩ := HE.out
        obtain ⟨⟨z0, z1, z2⟩, -, hrn, -, -⟩ := HALL.out _ (HB3.out.trans (HB.out.mono HB3.out.size))
        by_cases hlt : i < nodes.length
        · obtain ⟨b, off, rfl, y0, y1, y2, y3⟩ := hrn.node_at hlt
          have hka := kindAt_eq (List.getElem?_eq_getElem hlt)
          obtain ⟨x, hxx⟩ : ∃ x, nodes[i] = x := ⟨_, rfl⟩
          rw [hxx] at y0 y1 y2 y3 hka
          obtain ⟨xk, xa, xb, xc⟩ := x
          dsimp only at y0 y1 y2 y3 hka
          have hbx : Below wr.heap.size wr (wr.alloc (.cells #[.int .i64 xk, .int .i64 xa, .int .i64 xb, .int .i64 xc] 38)) := (Below.refl _ _).alloc (Nat.le_refl _) _
          have HMX := Lib.hid (hM.below hbx)
          have HBX := Lib.hid (HB.out.trans (hbx.mono HB.out.size))
          have HKA := Lib.hid hka
          clear hxx hrn hM HE hbx hka z1 z2
          by_cases hk : xk = 1
          · subst hk
            have hmx : n < maxLen := by unfold maxLen; omega
            go_wp2_with (at_mapUpdate; refine putM rfl _ _ _ rfl HMX.out rfl hmx i (by omega) rfl rfl ?_; intro w5 q1 q2; have HM5 := Lib.hid q1; have HB5 := Lib.hid (HBX.out.grown q2 HBX.out.size (fun g hg => by injection hg with hg; omega)); clear q1 q2)
            refine ⟨⟨i + 1, by go_num, by omega, Lib.hid ⟨n + 1, by omega, HM5.out.congr fun j => ?_⟩, HB5⟩, ?_⟩
            · constructor
              · rintro (⟨h1, h2⟩ | rfl)
                · exact ⟨by omega, h2⟩
                · exact ⟨by omega, HKA.out⟩
              · rintro ⟨h1, h2⟩
                rcases Nat.lt_or_ge j i with h | h
                · exact .inl ⟨h, h2⟩
                · exact .inr (by omega)
            · simp [intOf]; omega
          · have hkf : (xk == 1) = false := by simpa using hk
            have HNK := Lib.hid hk
            clear hk
            go_wp2_with fail
            refine ⟨⟨i + 1, by go_num, by omega, Lib.hid ⟨n, by omega, HMX.out.congr fun j => ?_⟩, HBX⟩, ?_⟩
            · constructor
              · rintro ⟨h1, h2⟩; exact ⟨by omega, h2⟩
              · rintro ⟨h1, h2⟩
                rcases Nat.lt_or_ge j i with h | h
                · exact ⟨h, h2⟩
                · obtain rfl : j = i := by omega
                  exact absurd (HKA.out.symm.trans h2) HNK.out
            · simp [intOf]; omega
        · obtain rfl : i = nodes.length := by omega
          have HE2 : Hid (∃ n, n ≤ 60 + ((outs.take 0).flatMap (·.bits)).length * 60 ∧ MSet wr w3.heap.size n (fun j => kindAt nodes j = 1 ∨ ∃ b ∈ (outs.take 0).flatMap (·.bits), ∃ a : Nat, b = (a : Int) ∧ Rch nodes [a] j)) := Lib.hid ⟨n, by omega, hM.congr fun j => by
            rcases Nat.lt_or_ge j nodes.length with h | h
            · simp [h]
            · rw [kindAt, List.getElem?_eq_none h]; simp⟩
          clear hrn hM HE hlt hi hni
          go_wp2_with fail
          clear z0 z1 z2
          go_loopw [82] (fun iv wr => ∃ i : Nat, iv = .int .i64 i ∧ i ≤ outs.length ∧ Hid (∃ n, n ≤ 60 + ((outs.take i).flatMap (·.bits)).length * 60 ∧ MSet wr w3.heap.size n (fun j => kindAt nodes j = 1 ∨ ∃ b ∈ (outs.take i).flatMap (·.bits), ∃ a : Nat, b = (a : Int) ∧ Rch nodes [a] j)) ∧ Hid (Below w3.heap.size w3 wr)) (fun iv _ => outs.length - (intOf iv).toNat)
          case atStart => exact ⟨0, rfl, Nat.zero_le _, HE2, HB⟩
          case round =>
            clear HE2 HB
            obtain ⟨i, rfl, hi, HE, HB⟩ := hrel
            have hol := HSM.out.2.2.1
            have HBR := Lib.hid (HB3.out.trans (HB.out.mono HB3.out.size))
            obtain ⟨⟨z0, z1, z2⟩, -, -, hro, -⟩ := HALL.out _ HBR.out
            by_cases hlt : i < outs.length
            · obtain ⟨b, off, A4, d4, rfl, y0, y1, hxb⟩ := hro.port_at hlt
              have HFT := Lib.hid (flatMap_take hlt)
              have HQ := Lib.hid (HFB.out _ (List.mem_append_right _ (List.getElem_mem hlt))).2
              have hbl := (fun q (hq : q ∈ outs) => (wt_mem hq)) _ (List.getElem_mem hlt)
              have hfl := Nat.le_trans (flat_le hlt) (wt_flat outs)
              obtain ⟨q, hq⟩ : ∃ q, outs[i] = q := ⟨_, rfl⟩
              rw [hq] at y0 y1 hxb HFT HQ hbl hfl
              obtain ⟨s, bs⟩ := q
              dsimp only at y0 y1 hxb HFT HQ hfl
              have hwo := HSM.out.2.2.2
              have HBL := Lib.hid (show bs.length ≤ 4000 ∧ ((outs.take i).flatMap (·.bits)).length + bs.length ≤ 4000 from ⟨by omega, by omega⟩)
              have hbx : Below wr.heap.size wr (wr.alloc (.cells #[.string s, .slice A4 bs.length d4] 53)) := (Below.refl _ _).alloc (Nat.le_refl _) _
              have HXB := Lib.hid (hxb.later hbx)
              have HBX := Lib.hid (HB.out.trans (hbx.mono HB.out.size))
              have HE3 : Hid (∃ n, n ≤ 60 + (((outs.take i).flatMap (·.bits)).length + 0) * 60 ∧ MSet (wr.alloc (.cells #[.string s, .slice A4 bs.length d4] 53)) w3.heap.size n (fun j => kindAt nodes j = 1 ∨ ∃ b ∈ (outs.take i).flatMap (·.bits) ++ bs.take 0, ∃ a : Nat, b = (a : Int) ∧ Rch nodes [a] j)) := by
                obtain ⟨n, h1, h2⟩ := HE.out
                exact Lib.hid ⟨n, by simpa using h1, (h2.below hbx).congr fun j => by simp⟩
              have hbl5 : bs.length ≤ 1099511627776 := by have := HBL.out; omega
              clear hbl hfl hq hxb hbx hro HE HB hwo
              go_wp2_with fail
              clear y0 y1 z0 z1 z2
              obtain ⟨wx, hwx⟩ : ∃ wx, wx = (wr.alloc (.cells #[.string s, .slice A4 bs.length d4] 53)) := ⟨_, rfl⟩
              rw [← hwx] at HE3 HBX HXB ⊢
              clear hwx
              have HNE := Lib.hid (fun (b0 j : Nat) (u : Value) (hc : wx.cell? ⟨b0, j, none⟩ = some u) => HE3.out.choose_spec.2.ne hc)
              go_loopw [89] (fun kv wr => ∃ k : Nat, kv = .int .i64 k ∧ k ≤ bs.length ∧ Hid (∃ n, n ≤ 60 + (((outs.take i).flatMap (·.bits)).length + k) * 60 ∧ MSet wr w3.heap.size n (fun j => kindAt nodes j = 1 ∨ ∃ b ∈ (outs.take i).flatMap (·.bits) ++ bs.take k, ∃ a : Nat, b = (a : Int) ∧ Rch nodes [a] j)) ∧ Hid (Below w3.heap.size w3 wr) ∧ Hid (Same (isg w3.heap.size) wx wr)) (fun kv _ => bs.length - (intOf kv).toNat)
              case atStart => exact ⟨0, rfl, Nat.zero_le _, HE3, HBX, Lib.hid (Same.refl' _ _)⟩
              case round =>
                clear HE3 HBX
                obtain ⟨k, rfl, hk, HE, HB, HSA⟩ := hrel
                by_cases hkt : k < bs.length
                · obtain ⟨b2, off2, rfl, x0⟩ := HXB.out.int_at hkt
                  replace x0 := HSA.out.cell' (World.block_lt_of_cell? _ _ x0) (HNE.out _ _ _ x0) x0
                  have hm := HQ.out _ (List.getElem_mem hkt)
                  have HT := Lib.hid (List.take_succ_eq_append_getElem hkt)
                  obtain ⟨p, hp⟩ := Int.eq_ofNat_of_zero_le hm.1
                  rw [hp] at hm x0 HT
                  have HPN := Lib.hid (show p < nodes.length by omega)
                  obtain ⟨⟨z0, z1, z2⟩, hn, -⟩ := HALL.out _ (HB3.out.trans (HB.out.mono HB3.out.size))
                  have HC := Lib.hid (cone_net wr _ nodes ins outs hn HF.out (p : Int) ⟨by omega, by omega⟩)
                  have hbl := HBL.out
                  clear hp hm hn
                  go_wp2_with fail
                  refine HC.out.mono ?_
                  rintro e w5 ⟨v5, l5, x5, rfl, hr5, hl5, hb5⟩
                  obtain ⟨rfl, hll5, hmem⟩ := hl5.good HLL.out HPN.out
                  obtain ⟨A5, c5, rfl, -, -⟩ := hr5.shape
                  obtain ⟨n5, hn5, hM5⟩ := HE.out
                  have HR5 := Lib.hid hr5
                  have HMEM := Lib.hid hmem
                  have HM5 := Lib.hid (hM5.below hb5)
                  have HB5 := Lib.hid (HB.out.trans (hb5.mono HB.out.size))
                  have HS5 := Lib.hid (HSA.out.trans' (Same.below' hb5))
                  have HN5 := Lib.hid hn5
                  have HNE5 := Lib.hid (fun (b0 j : Nat) (u : Value) (hc : w5.cell? ⟨b0, j, none⟩ = some u) => (hM5.below hb5).ne hc)
                  have HLL5 := Lib.hid (show l5.length ≤ 60 by omega)
                  have hl60 : l5.length ≤ 60 := by omega
                  clear hr5 hl5 hb5 hll5 hmem hn5 hM5 HC HE HB HSA x0 z0 z1 z2
                  go_wp2_with fail
                  go_loopw [101] (fun iv wr => ∃ q : Nat, iv = .int .i64 q ∧ q ≤ l5.length ∧ Hid (MSet wr w3.heap.size (n5 + q) (fun j => (kindAt nodes j = 1 ∨ ∃ b ∈ (outs.take i).flatMap (·.bits) ++ bs.take k, ∃ a : Nat, b = (a : Int) ∧ Rch nodes [a] j) ∨ ((j : Nat) : Int) ∈ l5.take q)) ∧ Hid (Below w3.heap.size w3 wr) ∧ Hid (Same (isg w3.heap.size) w5 wr)) (fun iv _ => l5.length - (intOf iv).toNat)
                  case atStart => exact ⟨0, rfl, Nat.zero_le _, Lib.hid (HM5.out.congr fun j => by simp), HB5, Lib.hid (Same.refl' _ _)⟩
                  case round =>
                    obtain ⟨q, rfl, hq, HM, HB, HSA⟩ := hrel
                    by_cases hqt : q < l5.length
                    · obtain ⟨b3, off3, rfl, x1⟩ := HR5.out.int_at hqt
                      replace x1 := HSA.out.cell' (World.block_lt_of_cell? _ _ x1) (HNE5.out _ _ _ x1) x1
                      have HTK := Lib.hid (fun x => mem_take_succ hqt (x := x))
                      obtain ⟨j, hj, hrj⟩ := (HMEM.out _).1 (List.getElem_mem hqt)
                      have hjn : j < nodes.length := by have := hrj.lt (inU_of (formed_in (HLL.out.formed rfl)).1) (fun a ha => by obtain rfl : a = p := by simpa using ha
                                                                                                                                   exact HPN.out); exact this
                      rw [hj] at x1
                      simp only [hj] at HTK
                      have hmx : n5 + q < maxLen := by have := HN5.out; unfold maxLen; omega
                      clear hrj hj
                      go_wp2_with (at_mapUpdate; refine putM rfl _ _ _ rfl HM.out rfl hmx j (by omega) rfl rfl ?_; intro w6 q1 q2; have HM6 := Lib.hid q1; have HB6 := Lib.hid (HB.out.grown q2 HB.out.size (fun g hg => by injection hg with hg; omega)); have HS6 := Lib.hid (HSA.out.trans' (Same.grown' q2)); clear q1 q2)
                      refine ⟨⟨q + 1, by go_num, by omega, Lib.hid (HM6.out.congr fun t => ?_), HB6, HS6⟩, ?_⟩
                      · rw [HTK.out, or_assoc]
                        have : ((t : Nat) : Int) = (j : Int) ↔ t = j := by omega
                        rw [this]
                      · simp [intOf]; omega
                    · obtain rfl : q = l5.length := by omega
                      have HEN : Hid (∃ n, n ≤ 60 + (((outs.take i).flatMap (·.bits)).length + (k + 1)) * 60 ∧ MSet wr w3.heap.size n (fun j => kindAt nodes j = 1 ∨ ∃ b ∈ (outs.take i).flatMap (·.bits) ++ bs.take (k + 1), ∃ a : Nat, b = (a : Int) ∧ Rch nodes [a] j)) := Lib.hid ⟨n5 + l5.length, by have := HN5.out; have := HLL5.out; omega, HM.out.congr fun j => by
                        rw [List.take_length, HMEM.out, HT.out, ← List.append_assoc]
                        simp only [List.mem_append, List.mem_singleton]
                        constructor
                        · rintro ((h | ⟨b, hb, a, rfl, hr⟩) | ⟨t, ht, hr⟩)
                          · exact .inl h
                          · exact .inr ⟨_, .inl hb, a, rfl, hr⟩
                          · obtain rfl : j = t := by omega
                            exact .inr ⟨_, .inr rfl, p, rfl, hr⟩
                        · rintro (h | ⟨b, hb | hb, a, e, hr⟩)
                          · exact .inl (.inl h)
                          · exact .inl (.inr ⟨b, hb, a, e, hr⟩)
                          · subst hb
                            obtain rfl : p = a := by omega
                            exact .inr ⟨j, rfl, hr⟩⟩
                      have HSN := Lib.hid (HS5.out.trans' HSA.out)
                      clear HM hqt hq
                      go_wp2
                      refine ⟨⟨k + 1, by go_num, by omega, HEN, HB, HSN⟩, ?_⟩
                      simp [intOf]; omega
                · obtain rfl : k = bs.length := by omega
                  have HEN : Hid (∃ n, n ≤ 60 + ((outs.take (i + 1)).flatMap (·.bits)).length * 60 ∧ MSet wr w3.heap.size n (fun j => kindAt nodes j = 1 ∨ ∃ b ∈ (outs.take (i + 1)).flatMap (·.bits), ∃ a : Nat, b = (a : Int) ∧ Rch nodes [a] j)) := by
                    have h := HE.out
                    rw [List.take_length, ← HFT.out] at h
                    obtain ⟨n, h1, h2⟩ := h
                    exact Lib.hid ⟨n, by rw [HFT.out, List.length_append]; exact h1, h2⟩
                  clear HE hkt hk
                  go_wp2
                  refine ⟨⟨i + 1, by go_num, by omega, HEN, HB⟩, ?_⟩
                  simp [intOf]; omega
            · obtain rfl : i = outs.length := by omega
              obtain ⟨nM, hnM, hM⟩ := HE.out
              rw [List.take_length] at hM
              have HM := Lib.hid hM
              have HNMX := Lib.hid hnM
              have HWB := HB
              have HR3W := Lib.hid (HR3.out.later HB.out)
              have hl60 : l.length ≤ 60 := by have := HLEN.out; omega
              clear hM hnM HE hro hlt hi
              go_wp2_with fail
              clear z0 z1 z2
              obtain ⟨wo, hwo⟩ : ∃ wo, wo = wr := ⟨_, rfl⟩
              subst hwo
              go_loopw [112] (fun iv wp => ∃ i : Nat, iv = .int .i64 i ∧ i ≤ l.length ∧ Hid (Below wo.heap.size wo wp)) (fun iv _ => l.length - (intOf iv).toNat)
              case atStart => exact ⟨0, rfl, Nat.zero_le _, Lib.hid (Below.refl _ _)⟩
              case round =>
                obtain ⟨i, rfl, hi, HX⟩ := hrel
                by_cases hlt : i < l.length
                · obtain ⟨b, off, rfl, x0⟩ := (HR3W.out.later HX.out).bool_at hlt
                  obtain ⟨c, hlk, hcs⟩ := (HM.out.below HX.out).look (k := i) (by omega)
                  have hlkd := ((HM.out.below HX.out).below (Below.refl _ _).drew).lookC (k := i) (by omega) c hcs
                  have x0d : wr.drew.cell? _ = _ := x0
                  have hget : l.getD i false = l[i] := by rw [List.getD_eq_getElem?_getD, List.getElem?_eq_getElem hlt]; rfl
                  have hyc : l[i] = c := by rw [← hget]; exact Bool.eq_iff_iff.2 ((HCB.out i).trans hcs.symm)
                  rw [hyc] at x0 x0d
                  have hq : (c != c) = false := by simp
                  have HXD := Lib.hid HX.out.drew
                  clear hcs hget hyc
                  go_wp2_with fail
                  go_region_with (fail)
                  all_goals
                    go_wp2
                    refine ⟨⟨i + 1, by go_num, by omega, HXD⟩, ?_⟩
                    simp [intOf]; omega
                · obtain rfl : i = l.length := by omega
                  have HB4 := Lib.hid ((HB3.out.trans (HWB.out.mono HB3.out.size)).trans (HX.out.mono (Nat.le_trans HB3.out.size HWB.out.size)))
                  obtain ⟨⟨z0, z1, z2⟩, hn, -⟩ := HALL.out _ HB4.out
                  have hnz : nodes.length ≠ 0 := HN0.out
                  have hkn : a % nodes.length < nodes.length := Nat.mod_lt _ (by omega)
                  have HC := Lib.hid (cone_net wr _ nodes ins outs hn HF.out ((a % nodes.length : Nat) : Int) ⟨by omega, by omega⟩)
                  have hnz2 : ¬ ((nodes.length : Int) = 0) := by omega
                  have htm : (a : Int).tmod (nodes.length : Int) = ((a % nodes.length : Nat) : Int) := by rfl
                  have ha256 : (a : Int) < 256 := by omega
                  clear hn hlt hi HM HX HNMX
                  go_wp2_with fail
                  rw [← Int.natCast_emod]
                  refine HC.out.mono ?_
                  have HKN := Lib.hid hkn
                  rintro e w5 ⟨v5, l5, x5, rfl, hr5, hl5, hb5⟩
                  obtain ⟨kk, hkk⟩ : ∃ kk, a % nodes.length = kk := ⟨_, rfl⟩
                  rw [hkk] at hl5 HKN ⊢
                  obtain ⟨rfl, hll5, hmem⟩ := hl5.good HLL.out HKN.out
                  obtain ⟨A5, c5, rfl, -, -⟩ := hr5.shape
                  have HR5 := Lib.hid hr5
                  have HMEM := Lib.hid hmem
                  have HB5 := Lib.hid (HB4.out.trans (hb5.mono HB4.out.size))
                  have HUL := Lib.hid (inU_of (formed_in (HLL.out.formed rfl)).1)
                  have hl60' : l5.length ≤ 60 := by have := HSM.out.1; omega
                  have hmm := @run_makeMap Try.prog
                  have HM5 := Lib.hid (MSet.made w5)
                  have HB55 := Lib.hid (show Below w5.heap.size w5 (w5.alloc (.map #[] 0)) from (Below.refl _ _).alloc (Nat.le_refl _) _)
                  clear hr5 hl5 hb5 hll5 hmem HC hkk htm hkn hnz hnz2 ha256 z0 z1 z2 ha
                  go_wp2_with fail
                  clear hmm
                  go_loopw [139] (fun iv wr => ∃ q : Nat, iv = .int .i64 q ∧ q ≤ l5.length ∧ Hid (MSet wr w5.heap.size q (fun j => ((j : Nat) : Int) ∈ l5.take q)) ∧ Hid (Below w5.heap.size w5 wr)) (fun iv _ => l5.length - (intOf iv).toNat)
                  case atStart => exact ⟨0, rfl, Nat.zero_le _, Lib.hid (HM5.out.congr fun j => by simp), HB55⟩
                  case round =>
                    clear HM5 HB55
                    obtain ⟨q, rfl, hq, HM, HB⟩ := hrel
                    by_cases hqt : q < l5.length
                    · obtain ⟨b3, off3, rfl, x1⟩ := (HR5.out.later HB.out).int_at hqt
                      have HTK := Lib.hid (fun x => mem_take_succ hqt (x := x))
                      obtain ⟨j, hj, hrj⟩ := (HMEM.out _).1 (List.getElem_mem hqt)
                      have hjn : j < nodes.length := hrj.lt HUL.out (fun a ha => by
                        obtain rfl : a = kk := by simpa using ha
                        exact HKN.out)
                      have hn60' := HSM.out.1
                      rw [hj] at x1
                      simp only [hj] at HTK
                      have hmx : q < maxLen := by unfold maxLen; omega
                      clear hrj hj
                      go_wp2_with (at_mapUpdate; refine putM rfl _ _ _ rfl HM.out rfl hmx j (by omega) rfl rfl ?_; intro w6 q1 q2; have HM6 := Lib.hid q1; have HB6 := Lib.hid (HB.out.grown q2 HB.out.size (fun g hg => by injection hg with hg; omega)); clear q1 q2)
                      refine ⟨⟨q + 1, by go_num, by omega, Lib.hid (HM6.out.congr fun t => ?_), HB6⟩, ?_⟩
                      · rw [HTK.out]
                        have : ((t : Nat) : Int) = (j : Int) ↔ t = j := by omega
                        rw [this]
                      · simp [intOf]; omega
                    · obtain rfl : q = l5.length := by omega
                      have HMS : Hid (MSet wr w5.heap.size l5.length (fun j => Rch nodes [kk] j)) := Lib.hid (HM.out.congr fun j => by
                        rw [List.take_length, HMEM.out]
                        constructor
                        · rintro ⟨t, ht, hr⟩
                          obtain rfl : j = t := by omega
                          exact hr
                        · exact fun h => ⟨j, rfl, h⟩)
                      have HB6 := Lib.hid (HB5.out.trans (HB.out.mono HB5.out.size))
                      have HR6 := Lib.hid (HR5.out.later HB.out)
                      clear HM hqt hq HB
                      go_wp2_with fail
                      obtain ⟨wM, hwM⟩ : ∃ wo, wo = wr := ⟨_, rfl⟩
                      subst hwM
                      go_loopw [148] (fun iv wp => ∃ q : Nat, iv = .int .i64 q ∧ q ≤ l5.length ∧ Hid (Below wM.heap.size wM wp)) (fun iv _ => l5.length - (intOf iv).toNat)
                      case atStart => exact ⟨0, rfl, Nat.zero_le _, Lib.hid (Below.refl _ _)⟩
                      case round =>
                        obtain ⟨q, rfl, hq, HX⟩ := hrel
                        by_cases hqt : q < l5.length
                        · obtain ⟨b3, off3, rfl, x1⟩ := (HR6.out.later HX.out).int_at hqt
                          obtain ⟨j, hj, hrj⟩ := (HMEM.out _).1 (List.getElem_mem hqt)
                          have hjn : j < nodes.length := hrj.lt HUL.out (fun a ha => by
                            obtain rfl : a = kk := by simpa using ha
                            exact HKN.out)
                          have hn60' := HSM.out.1
                          rw [hj] at x1
                          have HRJ := Lib.hid hrj
                          obtain ⟨⟨z0, z1, z2⟩, hn, -⟩ := HALL.out _ (HB6.out.trans (HX.out.mono HB6.out.size))
                          have HC := Lib.hid (cone_net wr _ nodes ins outs hn HF.out (j : Int) ⟨by omega, by omega⟩)
                          have HJN := Lib.hid hjn
                          clear hrj hj hn
                          go_wp2_with fail
                          refine HC.out.mono ?_
                          rintro e w7 ⟨v7, l7, x7, rfl, hr7, hl7, hb7⟩
                          obtain ⟨rfl, hll7, hmem7⟩ := hl7.good HLL.out HJN.out
                          obtain ⟨A7, c7, rfl, -, -⟩ := hr7.shape
                          have HR7 := Lib.hid hr7
                          have HMEM7 := Lib.hid hmem7
                          have HX7 := Lib.hid (HX.out.trans (hb7.mono HX.out.size))
                          have hl760 : l7.length ≤ 60 := by omega
                          clear hr7 hl7 hb7 hll7 hmem7 HC z0 z1 z2 x1
                          go_wp2_with fail
                          go_loopw [162] (fun iv wp => ∃ t : Nat, iv = .int .i64 t ∧ t ≤ l7.length ∧ Hid (Below w7.heap.size w7 wp)) (fun iv _ => l7.length - (intOf iv).toNat)
                          case atStart => exact ⟨0, rfl, Nat.zero_le _, Lib.hid (Below.refl _ _)⟩
                          case round =>
                            obtain ⟨t, rfl, ht, HY⟩ := hrel
                            by_cases htt : t < l7.length
                            · obtain ⟨b4, off4, rfl, x2⟩ := (HR7.out.later HY.out).int_at htt
                              obtain ⟨u, hu, hru⟩ := (HMEM7.out _).1 (List.getElem_mem htt)
                              have hru2 := hru.trans' HRJ.out
                              have hun : u < nodes.length := hru2.lt HUL.out (fun a ha => by
                                obtain rfl : a = kk := by simpa using ha
                                exact HKN.out)
                              rw [hu] at x2
                              have hlk := ((HMS.out.below HX7.out).below HY.out).lookC (k := u) (by omega) true (by simpa using hru2)
                              clear hru hru2 hu
                              go_wp2_with fail
                              refine ⟨⟨t + 1, by go_num, by omega, HY⟩, ?_⟩
                              simp [intOf]; omega
                            · obtain rfl : t = l7.length := by omega
                              have HXN := Lib.hid (HX7.out.trans (HY.out.mono HX7.out.size))
                              clear htt ht
                              go_wp2
                              refine ⟨⟨q + 1, by go_num, by omega, HXN⟩, ?_⟩
                              simp [intOf]; omega
                        · obtain rfl : q = l5.length := by omega
                          have hn60' := HSM.out.1
                          have hkn' := HKN.out
                          have hlk := (HMS.out.below HX.out).lookC (k := kk) (by omega) true (by simpa using Rch.self nodes kk)
                          have HBW := Lib.hid (HALL.out _ (HB6.out.trans (HX.out.mono HB6.out.size))).2.2.2.2
                          clear hqt hq
                          go_wp2
                          go_ret
                          exact ⟨rfl, HBW.out⟩
    · have HC := Lib.hid (check_net w3 _ nodes ins outs hn HF.out)
      have HNX := Lib.hid hx
      have hxb : (x != 0) = true := by simpa using hx
      clear hn hx
      go_wp2_with fail
      refine HC.out.mono ?_
      rintro e w4 ⟨k4, x4, rfl, hl4, hb4⟩
      obtain ⟨k, hk⟩ := HL.out.1
      obtain ⟨rfl, -⟩ := hk.unique hl4
      have hxx : (x == x) = true := by simp
      have HBW := Lib.hid (HALL.out _ (HB3.out.trans (hb4.mono HB3.out.size))).2.2.2.2
      clear hl4 hb4 HC hk z0 z1 z2
      go_wp2
      go_ret
      exact ⟨rfl, HBW.out⟩
end Go.Proofs.Ytbfjacgfifecpaa
