/- slipsticklaw06.NetOrders: the walk. -/
import Derived.Test.YtbfjacgfifecpaaNOrd
namespace Go.Proofs.Ytbfjacgfifecpaa
open Go.RowKit

theorem usesN_two {x : Node} (h : x.kind ≠ 7) : usesN x = (usesR x).map Int.toNat := by rw [usesN, if_neg h]
theorem usesN_none {x : Node} (h : x.kind = 7 ∨ x.kind ≤ 1) : usesN x = [] := by
  rcases h with h | h
  · rw [usesN, if_pos h]
  · rw [usesN_two (by omega), usesR]
    have : (many x.kind).toNat = 0 := by
      unfold many
      repeat' split
      all_goals omega
    rw [this]; rfl

attribute [local go_sem] max2_int max_two in
set_option maxHeartbeats 8000000 in
set_option maxRecDepth 100000 in
theorem netOrders_walk (w : World) (v : Value) (nodes : List Node) (ins outs : List Port) (hN : NetV w v nodes ins outs) (hw : ∀ q ∈ ins ++ outs, q.bits.length + q.name.size ≤ 281474976710656) :
    Calls Try.prog 5 #[v] w fun e w' => e = .returned (.bool true) ∧ Below w.heap.size w w' := by
  obtain ⟨An, cn, Ai, ci, Ao, co, rfl, hbox⟩ := hN.box
  obtain ⟨w0, hw0⟩ : ∃ w0, w0 = w.alloc (netBox (.slice An nodes.length cn) (.slice Ai ins.length ci) (.slice Ao outs.length co)) := ⟨_, rfl⟩
  have hs0 : w0.heap.size = w.heap.size + 1 := by rw [hw0]; simp
  rw [← hw0, ← hs0] at hbox
  have hall : ∀ W, Below w0.heap.size w0 W → (W.cell? ⟨w.heap.size, 0, none⟩ = some (.slice An nodes.length cn) ∧ W.cell? ⟨w.heap.size, 1, none⟩ = some (.slice Ai ins.length ci) ∧ W.cell? ⟨w.heap.size, 2, none⟩ = some (.slice Ao outs.length co)) ∧ NetV W (.agg #[.slice An nodes.length cn, .slice Ai ins.length ci, .slice Ao outs.length co]) nodes ins outs ∧ Row kNode W (fun _ => False) (.slice An nodes.length cn) nodes ∧ Below w.heap.size w W := fun W hW => by
    obtain ⟨c0, c1, c2, r1, r2, r3, hb⟩ := hbox W hW
    exact ⟨⟨c0, c1, c2⟩, ⟨_, _, _, rfl, r1, r2, r3⟩, r1, hb⟩
  have HALL := Lib.hid hall
  have HW0 := Lib.hid hw0
  have HWT := Lib.hid hw
  clear hN hbox hs0 hall hw0 hw
  go_enter Try.func5, Try.ntmps5
  go_wp2_with fail
  rw [← HW0.out]
  refine (awake06 w0).mono ?_
  rintro e w1 ⟨rfl, hb1⟩
  have HB1 := Lib.hid hb1
  obtain ⟨⟨z0, z1, z2⟩, hn, -, -⟩ := HALL.out _ hb1
  have hl : Calls Try.prog 15 #[.agg #[.slice An nodes.length cn, .slice Ai ins.length ci, .slice Ao outs.length co], .int .i64 60] w1 fun e w' => e = .returned (.bool (largeB nodes ins outs 60)) ∧ Below w1.heap.size w1 w' := large_ref w1 _ nodes ins outs 60 hn HWT.out
  have HC := Lib.hid hl
  clear hb1 hn hl HW0
  go_wp2_with fail
  refine HC.out.mono ?_
  rintro e w2 ⟨rfl, hb2⟩
  have HB2 := Lib.hid (HB1.out.trans (hb2.mono HB1.out.size))
  clear hb2 HC z0 z1 z2
  cases hL : largeB nodes ins outs 60 with
  | true =>
    have HBW := Lib.hid (HALL.out _ HB2.out).2.2.2
    clear hL
    go_wp2
    go_ret
    exact ⟨rfl, HBW.out⟩
  | false =>
    have HF := Lib.hid (fits_of hL)
    have hn60 := (small_of hL).1
    have HN60 := Lib.hid hn60
    clear hL hn60
    obtain ⟨⟨z0, z1, z2⟩, hn, -, -⟩ := HALL.out _ HB2.out
    have HC := Lib.hid (order_net w2 _ nodes ins outs hn HF.out)
    clear hn
    go_wp2_with fail
    refine HC.out.mono ?_
    rintro e w3 ⟨v3, o, x, rfl, hr3, ho3, hb3⟩
    obtain ⟨A3, c3, rfl, -, -⟩ := hr3.shape
    obtain ⟨l, hl3, rfl⟩ := ho3
    have HR3 := Lib.hid hr3
    have HL := Lib.hid hl3
    have HB3 := Lib.hid (HB2.out.trans (hb3.mono HB2.out.size))
    clear hb3 HC hr3 hl3 z0 z1 z2
    obtain ⟨⟨z0, z1, z2⟩, hn, -, -⟩ := HALL.out _ HB3.out
    have HC := Lib.hid (lev_net w3 _ nodes ins outs hn HF.out)
    clear hn
    go_wp2_with fail
    refine HC.out.mono ?_
    rintro e w4 ⟨v4, l4, x4, rfl, hr4, hl4, hb4⟩
    obtain ⟨rfl, rfl⟩ := HL.out.unique hl4
    obtain ⟨A4, c4, rfl, -, -⟩ := hr4.shape
    have HR4 := Lib.hid hr4
    have HB4 := Lib.hid (HB3.out.trans (hb4.mono HB3.out.size))
    have HR34 := Lib.hid (HR3.out.later hb4)
    have hon : (ordL l).length = l.length := ordL_length HL.out.nonneg
    rw [show (nats (ordL l)).length = l.length by rw [List.length_map, hon]] at HR34
    rw [hon]
    have HNN := Lib.hid HL.out.nonneg
    clear hb4 HC hr4 hl4 z0 z1 z2 hon HR3
    by_cases hx0 : x = 0
    · subst hx0
      have hlev : IsLev nodes l := by obtain ⟨b, h1, h2, h3, h4, h5⟩ := HL.out; exact h4 rfl
      have hform : formedB nodes ins outs = true := by obtain ⟨b, h1, h2, h3, h4, h5⟩ := HL.out; exact (errP_zero h1.symm).2.1
      have HLEV := Lib.hid hlev
      have HFORM := Lib.hid hform
      have hll : l.length = nodes.length := hlev.1
      have HLL := Lib.hid hll
      have hmm := @run_makeMap Try.prog
      have hl60 : l.length ≤ 60 := by rw [hll]; exact HN60.out
      have HP0 := Lib.hid (Plc.made w4)
      have HX0 := Lib.hid ((Below.refl w4.heap.size w4).alloc (Nat.le_refl _) (.map #[] 0))
      clear hlev hform hll
      go_wp2_with fail
      clear hmm
      go_loopw [8, 9, 47] (fun iv av jv wr => ∃ j : Nat, jv = .int .i64 j ∧ j ≤ l.length ∧ Hid (Plc wr w4.heap.size j ((ordL l).take j)) ∧ Hid (Below w4.heap.size w4 wr)) (fun iv av jv _ => l.length - (intOf jv).toNat)
      case atStart => exact ⟨0, rfl, Nat.zero_le _, HP0, HX0⟩
      case round =>
        clear HP0 HX0
        obtain ⟨j, rfl, hj, HP, HX⟩ := hrel
        by_cases hlt : j < l.length
        · have hlo : j < (ordL l).length := by rw [ordL_length HNN.out]; exact hlt
          obtain ⟨b, off, rfl, x0⟩ := HR34.out.int_at (i := j) (by rw [List.length_map]; exact hlo)
          replace x0 := cellBelow HX.out x0
          have hT := List.take_succ_eq_append_getElem hlo
          rw [List.getElem_map] at x0
          have hnd := ordL_nodup l
          rw [← List.take_append_drop (j + 1) (ordL l), hT, List.nodup_append] at hnd
          have hnin : (ordL l)[j] ∉ (ordL l).take j := fun h => (List.nodup_append.1 hnd.1).2.2 _ h (ordL l)[j] (List.mem_singleton.2 rfl) rfl
          have ham : (ordL l)[j] < l.length := (mem_ordL HNN.out).1 (List.getElem_mem hlo)
          have hlt' : ((ordL l).take j).length = j := by rw [List.length_take]; omega
          obtain ⟨a, ha⟩ : ∃ a, (ordL l)[j] = a := ⟨_, rfl⟩
          rw [ha] at x0 hT hnin ham
          have HT := Lib.hid hT
          have HNI := Lib.hid hnin
          have HTL := Lib.hid hlt'
          obtain ⟨D, ho, hs, hh, hk⟩ := HP.out
          have HO := Lib.hid ho
          have HS := Lib.hid hs
          have HH := Lib.hid hh
          have HK := Lib.hid hk
          clear ho hs hh hk hT hnd hnin ha hlo hlt'
          go_wp2_with (at_mapUpdate; refine wpList_mapUpdate_own _ rfl _ _ _ 46 rfl 3 3 law_int Try.underlying46 _ w4.heap.size j _ rfl HO.out (by unfold maxLen; omega) _ _ _ rfl rfl (key_small (k := a) (by omega)) _ [] (plainElem_int Try.underlying3 (wf_small (k := j) (by omega))) ?_; intro w5 hown5 hgrow5)
          refine ⟨⟨j + 1, by go_num, by omega, Lib.hid ?_, Lib.hid (HX.out.grown hgrow5 HX.out.size (fun k hk => by injection hk with hk; omega))⟩, ?_⟩
          · rw [HT.out]
            rw [← HTL.out] at hown5
            have := Plc.put (HO.out.tidy law_int) HS.out HH.out HK.out HNI.out hown5
            rw [HTL.out] at this
            exact this
          · simp [intOf]; omega
        · obtain rfl : j = l.length := by omega
          have htk : (ordL l).take l.length = ordL l := List.take_of_length_le (by rw [ordL_length HNN.out]; exact Nat.le_refl _)
          rw [htk] at HP
          obtain ⟨D, ho, hs, -, -⟩ := HP.out
          rw [ordL_length HNN.out] at hs
          have HO := Lib.hid ho
          have HS := Lib.hid hs
          have HB5 := Lib.hid (HB4.out.trans (HX.out.mono HB4.out.size))
          obtain ⟨⟨z0, z1, z2⟩, hn, -, -⟩ := HALL.out _ HB5.out
          have hle := HLL.out
          have HPX := Lib.hid HP.out
          have HXX := Lib.hid HX.out
          have hlen := HO.out.len Try.underlying46 3
          rw [HS.out] at hlen
          have hbl : ∀ y ∈ l, 0 ≤ y ∧ y < nodes.length := fun y hy => ⟨HNN.out y hy, HLEV.out.bound (formed_inN HFORM.out) y hy⟩
          have HOBL := Lib.hid (show OutB nodes.length l from fun k => by
            by_cases hk : k < l.length
            · have := hbl _ (getD_mem hk); omega
            · have : l.getD k 0 = 0 := by rw [List.getD_eq_getElem?_getD, List.getElem?_eq_none (by omega)]; rfl
              omega)
          have hneq : ((l.length : Int) != (nodes.length : Int)) = false := by rw [hle]; simp
          have HNE := Lib.hid hneq
          clear ho hs htk hn HP HX hlt hj hbl hl60
          have hn60 := HN60.out
          rw [hle] at hneq
          go_wp2_with fail
          clear hlen z0 z1 z2 hneq HNE
          obtain ⟨w5, hw5⟩ : ∃ w5, w5 = wr := ⟨_, rfl⟩
          subst hw5
          go_loopw [10, 11, 12, 14, 81] (fun iv xv mv av jv wr => ∃ i : Nat, jv = .int .i64 i ∧ i ≤ nodes.length ∧ Hid (Below w5.heap.size w5 wr)) (fun iv xv mv av jv _ => nodes.length - (intOf jv).toNat)
          case atStart => exact ⟨0, rfl, Nat.zero_le _, Lib.hid (Below.refl _ _)⟩
          case round =>
            obtain ⟨i, rfl, hi, HB⟩ := hrel
            have HBR := Lib.hid (HB5.out.trans (HB.out.mono HB5.out.size))
            obtain ⟨-, -, hrn, hbw⟩ := HALL.out _ HBR.out
            have HBW := Lib.hid hbw
            clear hbw
            by_cases hlt : i < nodes.length
            · have hil : i < l.length := by omega
              obtain ⟨b, off, rfl, x0, x1, x2, x3⟩ := hrn.node_at hlt
              have hlx := HLEV.out.2 i nodes[i] (List.getElem?_eq_getElem hlt)
              have hfx := (formed_in HFORM.out).1 nodes[i] (List.getElem_mem hlt)
              obtain ⟨x, hxx⟩ : ∃ x, nodes[i] = x := ⟨_, rfl⟩
              rw [hxx] at x0 x1 x2 x3 hlx hfx
              clear hxx hrn
              obtain ⟨xk, xa, xb, xc⟩ := x
              dsimp only at x0 x1 x2 x3
              obtain ⟨o, ho⟩ : ∃ o : Obj, o = .cells #[.int .i64 xk, .int .i64 xa, .int .i64 xb, .int .i64 xc] 38 := ⟨_, rfl⟩
              have hbx : Below wr.heap.size wr (wr.alloc o) := (Below.refl _ _).alloc (Nat.le_refl _) _
              have HBN := Lib.hid (HB.out.trans (hbx.mono HB.out.size))
              have HR4X := Lib.hid (((HR4.out.later HXX.out).later HB.out).later hbx)
              obtain ⟨bl, ol, hal, y0⟩ := HR4X.out.int_at hil
              have hgl : l.getD i 0 = l[i] := by rw [List.getD_eq_getElem?_getD, List.getElem?_eq_getElem hil]; rfl
              by_cases hsp : xk = 7 ∨ xk ≤ 1
              · have hz : l[i] = 0 := by rw [← hgl, hlx, usesN_none hsp]; rfl
                rw [hz] at y0
                subst hal
                subst ho
                clear hlx hfx hgl hz hbx
                rcases (show xk = 7 ∨ (xk ≠ 7 ∧ xk ≤ 1) by omega) with h | ⟨h, h1⟩
                · subst h
                  clear hsp
                  go_wp2
                  refine ⟨⟨i + 1, by go_num, by omega, HBN⟩, ?_⟩
                  simp [intOf]; omega
                · have hq : (xk == 7) = false := by simpa using h
                  have hd : decide (xk ≤ 1) = true := decide_eq_true h1
                  clear hsp h
                  go_wp2
                  refine ⟨⟨i + 1, by go_num, by omega, HBN⟩, ?_⟩
                  simp [intOf]; omega
              · have hq : (xk == 7) = false := by simp; omega
                have hd : decide (xk ≤ 1) = false := decide_eq_false (by omega)
                have hU := uses_net (wr.alloc o) (fun _ => False) (fun _ h => h.elim) ⟨xk, xa, xb, xc⟩
                have hul : (usesR ⟨xk, xa, xb, xc⟩).length ≤ 3 := by simp [usesR]; omega
                rw [usesN_two (show xk ≠ 7 by omega)] at hlx
                obtain ⟨uu, huu⟩ : ∃ uu, usesR ⟨xk, xa, xb, xc⟩ = uu := ⟨_, rfl⟩
                rw [huu] at hU hul hlx hfx
                rw [hgl] at hlx
                have HLX := Lib.hid hlx
                have HFX := Lib.hid hfx
                have HU := Lib.hid hU
                have HGL := Lib.hid hgl
                have HPW := Lib.hid ((HPX.out.below HB.out).below hbx)
                subst ho
                clear hlx hfx hU hgl hbx huu y0 hal hsp
                go_wp2_with fail
                refine HU.out.mono ?_
                rintro e w6 ⟨v6, rfl, hr6, hb6⟩
                obtain ⟨A6, c6, rfl, -, -⟩ := hr6.shape
                have HR6 := Lib.hid hr6
                have HBN6 := Lib.hid (HBN.out.trans (hb6.mono HBN.out.size))
                have HR46 := Lib.hid (HR4X.out.later hb6)
                have HPW6 := Lib.hid (HPW.out.below hb6)
                have hlook2 := HPW6.out.look (k := i) (by omega)
                clear hr6 hb6 HU hq hd HPW HR4X HBN
                go_wp2_with fail
                go_loopw [12, 14, 102] (fun mv av kv wp => ∃ k : Nat, kv = .int .i64 k ∧ k ≤ uu.length ∧ mv = .int .i64 (mostF ((uu.take k).map Int.toNat) l) ∧ Hid (wp = w6)) (fun mv av kv _ => uu.length - (intOf kv).toNat)
                case atStart => exact ⟨0, rfl, Nat.zero_le _, rfl, Lib.hid rfl⟩
                case round =>
                  obtain ⟨k, rfl, hk, rfl, HE⟩ := hrel
                  obtain rfl := HE.out
                  by_cases hkt : k < uu.length
                  · obtain ⟨b2, off2, rfl, q0⟩ := HR6.out.int_at hkt
                    have hub := HFX.out _ (List.getElem_mem hkt)
                    have htk := List.take_succ_eq_append_getElem hkt
                    obtain ⟨u, hu⟩ := Int.eq_ofNat_of_zero_le hub.1
                    have hum : u ∈ uu.map Int.toNat := List.mem_map.2 ⟨_, List.getElem_mem hkt, by rw [hu]; rfl⟩
                    rw [hu] at q0 hub htk
                    have hul2 : u < l.length := by omega
                    have hlt3 := lvl_ge (l := l) hum
                    rw [← HLX.out, ← HGL.out] at hlt3
                    have hpos := pos_lt HNN.out hul2 hil (by omega)
                    have hlook1 := HPW6.out.look (k := u) (by omega)
                    obtain ⟨b3, off3, he3, q1⟩ := HR46.out.int_at hul2
                    have hgu : l.getD u 0 = l[u] := by rw [List.getD_eq_getElem?_getD, List.getElem?_eq_getElem hul2]; rfl
                    have HM := Lib.hid (show mostF ((uu.take (k + 1)).map Int.toNat) l = max (mostF ((uu.take k).map Int.toNat) l) l[u] by
                      rw [htk, List.map_append, List.map_cons, List.map_nil, Int.toNat_natCast, mostF_snoc, hgu])
                    obtain ⟨y, hy⟩ : ∃ y, l[u] = y := ⟨_, rfl⟩
                    rw [hy] at q1 HM
                    obtain ⟨p1, hp1⟩ : ∃ p, posN (ordL l) u = p := ⟨_, rfl⟩
                    obtain ⟨p2, hp2⟩ : ∃ p, posN (ordL l) i = p := ⟨_, rfl⟩
                    rw [hp1, hp2] at hpos
                    rw [hp1] at hlook1
                    have hlook3 := hlook2
                    rw [hp2] at hlook3
                    subst he3
                    have hdd : decide ((p2 : Int) ≤ (p1 : Int)) = false := decide_eq_false (by omega)
                    clear hlook2 hu hum htk hgu hy hp1 hp2 hlt3
                    go_wp2
                    refine ⟨⟨k + 1, by go_num, by omega, by rw [HM.out]; simp only [List.map_take], Lib.hid trivial⟩, ?_⟩
                    simp [intOf]; omega
                  · obtain rfl : k = uu.length := by omega
                    rw [List.take_length]
                    obtain ⟨b3, off3, he3, q1⟩ := HR46.out.int_at hil
                    have hle2 : l[i] = mostF (uu.map Int.toNat) l + 1 := by rw [HLX.out, mostF_lvl]
                    rw [hle2] at q1
                    have hmb := mostF_bd HOBL.out (uu.map Int.toNat)
                    obtain ⟨m, hm⟩ : ∃ m, mostF (uu.map Int.toNat) l = m := ⟨_, rfl⟩
                    rw [hm] at q1 hmb ⊢
                    have w1 : IntKind.i64.wrap (m + 1) = m + 1 := IntWalk.i64_in _ (by omega)
                    subst he3
                    have hqq : (m + 1 != m + 1) = false := by simp
                    clear hle2 hm hlook2 hk hkt
                    go_wp2
                    refine ⟨⟨_, _, _, _, _, .int .i64 ((i : Int) + 1), ⟨i + 1, by go_num, by omega⟩, rfl, rfl, rfl, rfl, rfl, rfl⟩, ?_⟩
                    simp [intOf]; omega
            · obtain rfl : i = nodes.length := by omega
              clear hrn
              go_wp2
              go_ret
              exact ⟨rfl, HBW.out⟩
    · have hl0 : l = [] := by obtain ⟨b, h1, h2, h3, h4, h5⟩ := HL.out; exact h5 hx0
      subst hl0
      have hq : (x != 0) = true := by simpa using hx0
      have HBW := Lib.hid (HALL.out _ HB4.out).2.2.2
      clear hx0
      go_wp2
      go_ret
      exact ⟨rfl, HBW.out⟩
end Go.Proofs.Ytbfjacgfifecpaa
