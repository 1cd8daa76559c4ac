/- An order of any net whose levels are: slipstickref07.Fast, the walk. -/
import Derived.Test.YtbfjacgfifecpaaSiD
namespace Go.Proofs.Ytbfjacgfifecpaa
open Go.RowKit

theorem getD_some {st : List Int} {a : Nat} (h : a < st.length) : st[a]? = some (st.getD a 0) := by
  rw [List.getD_eq_getElem?_getD, List.getElem?_eq_getElem h]; rfl
attribute [local go_sem] max2_int min2_int max_two min_two in
set_option maxHeartbeats 8000000 in
set_option maxRecDepth 100000 in
theorem fast_any (w : World) (S : Nat → Prop) (hS : There S w) (v : Value) (nodes : List Node) (ins outs : List Port) (hN : NetV w v nodes ins outs) (hnl : nodes.length ≤ 1073741824) (hil : ins.length ≤ 1073741824) (hol : outs.length ≤ 1073741824)
    (hf : formedB nodes ins outs = true) (l : List Int) (hlev : IsLev nodes l) :
    Calls Try.prog 72 #[v] w fun e w' => ∃ v' o, e = .returned (.tuple #[v', .bool true]) ∧ Row kInt w' S v' (nats o) ∧ Beh nodes o ∧ (∀ u, u < nodes.length → u ∈ o) ∧ Below w.heap.size w w' := by
  obtain ⟨An, cn, Ai, ci, Ao, co, rfl, hbox⟩ := hN.box
  let ob := netBox (.slice An nodes.length cn) (.slice Ai ins.length ci) (.slice Ao outs.length co)
  have hsz : (w.alloc ob).heap.size = w.heap.size + 1 := by simp
  obtain ⟨z0, z1, z2, hr1, hr2, hr3, -⟩ := hbox (w.alloc ob) (Below.refl _ _)
  have hmk := make_ints nodes.length (by omega)
  have HR1 := Lib.hid hr1
  have HR2 := Lib.hid hr2
  have HR3 := Lib.hid hr3
  have HF := Lib.hid hf
  have HFM := Lib.hid (Frm.of hf)
  have HBOX := Lib.hid hbox
  have HL := Lib.hid hlev
  have HSZ := Lib.hid hsz
  clear hbox hr1 hr2 hr3 hf hN hlev hsz
  go_enter Try.func72, Try.ntmps72
  go_wp2_with fail
  refine (formed_ref _ _ _ _ nodes ins outs HR1.out.bare0 HR2.out.bare0 HR3.out.bare0 (by omega) hil hol).mono ?_
  rintro e w1 ⟨rfl, hb1⟩
  rw [HF.out]
  rw [HSZ.out] at hb1
  have hg0 : w.heap.size + 1 ≤ w1.heap.size := by have := hb1.size; rw [HSZ.out] at this; exact this
  obtain ⟨z0a, -, -, -⟩ := HBOX.out _ hb1
  have HB1 := Lib.hid hb1
  clear z0 z1 z2 hb1
  let m1 := w1.alloc (.cells (madeCells #[.int .i64 0] nodes.length) 3)
  have hm1 : m1.heap.size = w1.heap.size + 1 := by simp [m1]
  have HM1 := Lib.hid (made_ints nodes.length (by omega) w1)
  have hk2 : Below m1.heap.size m1 ((m1.alloc (.cells #[] 3)).alloc (.cells #[] 3)) := ((Below.refl _ _).alloc (Nat.le_refl _) _).alloc (by simp) _
  have HM2 := Lib.hid (HM1.out.kept (Kept.of_below_all hk2 (FootIn.none _) (Nat.le_refl _)))
  have HO0 := Lib.hid ((Own.lit0 kInt 3 m1).kept (Kept.of_below_all ((Below.refl _ _).alloc (Nat.le_refl _) (.cells #[] 3)) (FootIn.none _) (Nat.le_refl _)))
  have HT0 := Lib.hid (Own.lit0 kInt 3 (m1.alloc (.cells #[] 3)))
  have HB2 := Lib.hid (((HB1.out.alloc hg0 (.cells (madeCells #[.int .i64 0] nodes.length) 3)).alloc (by simp; omega) (.cells #[] 3)).alloc (by simp; omega) (.cells #[] 3))
  clear hk2
  have hm2 : (m1.alloc (.cells #[] 3)).heap.size = w1.heap.size + 1 + 1 := by simp [hm1]
  rw [hm2] at HT0
  rw [hm1] at HO0
  go_wp2_with fail
  go_loopw [5, 6, 7] (fun vo vs i wr => ∃ j : Nat, j ≤ nodes.length ∧ i = .int .i64 j ∧ Hid (∃ st o, FI nodes l j st o [] ∧ FR wr w1.heap.size nodes.length vo vs st o []) ∧ Hid (Below (w.heap.size + 1) (w.alloc ob) wr)) (fun _ _ i _ => nodes.length - (intOf i).toNat)
  case atStart => exact ⟨0, Nat.zero_le _, rfl, Lib.hid ⟨_, [], FI.init nodes l, HM2.out, HO0.out, HT0.out.lower (by omega), (fun g hg he => by
    have hg := Option.some.inj hg; have he := Option.some.inj he; simp at hg he; omega)⟩, HB2⟩
  case round =>
    clear HM1 HM2 HO0 HT0 HB2
    obtain ⟨j, hj, rfl, HE, HB⟩ := hrel
    obtain ⟨st, o, hI, hR⟩ := HE.out
    obtain ⟨A5, c5, hv5, -, -⟩ := hR.out.shape
    obtain ⟨A6, c6, hv6, -, -⟩ := hR.way.shape
    rw [List.length_map] at hv5 hv6
    subst hv5 hv6
    clear z0a
    obtain ⟨z0, -, -, -, -, -, hbw⟩ := HBOX.out _ HB.out
    have HBW := Lib.hid hbw
    have HI := Lib.hid hI
    have HR := Lib.hid hR
    have hol' : o.length ≤ nodes.length := hI.beh.length
    clear hbw hI hR HE
    by_cases hlt : j < nodes.length
    · have hjs : j < st.length := by rw [HI.out.len]; exact hlt
      obtain ⟨x0, x1⟩ := HR.out.st.cellAt? (getD_some hjs)
      have hlt0 := HR.out.lt
      obtain ⟨y, hy⟩ : ∃ y, st.getD j 0 = y := ⟨_, rfl⟩
      rw [hy] at x0
      have HYY := Lib.hid hy
      clear hy
      by_cases hy0 : y = 0
      · subst hy0
        have HLAY := Lib.hid (HI.out.lay hlt HYY.out)
        go_wp2_with (at_builtin; go_loud (refine app1 kInt 3 28 (.int .i64 0) 8 rfl (.tmp 33) (.tmp 35) rfl Try.underlying28 infoInt rfl (by decide) (by decide) none (w1.heap.size + 1) HR.out.way (FootIn.none _) hlt0 rfl (j : Int) [.int .i64 j] rfl rfl (by simp) ?_; intro v' w3 q1 q2 _ q4 q5 q6; have HR3 := Lib.hid (HR.out.appWay (a := j) q1 q5 q6); have HB3 := Lib.hid (HB.out.trans (q2.below.mono (by omega))); clear q1 q2 q4 q5 q6))
        obtain ⟨wo, hwo⟩ : ∃ wo : World, wo = wr := ⟨_, rfl⟩
        subst hwo
        clear x0 x1 z0
        go_loopw [5, 6] (fun vo vs wr => Hid (∃ st o s, FL nodes l j w1.heap.size vo vs wr st o s) ∧ Hid (Below (w.heap.size + 1) (w.alloc ob) wr)) (fun _ vs wr => undoneW wr w1.heap.size nodes.length * (nodes.length + 1) + (nodes.length - lenOf vs))
        case atStart => exact ⟨Lib.hid ⟨st, o, [j], HLAY.out, HR3.out, .inr (by simp)⟩, HB3⟩
        case round =>
          clear HLAY HR3 HB3 HR HB HI HBW HYY hjs hol'
          obtain ⟨HE, HB⟩ := hrel
          obtain ⟨st, o, s, hFL⟩ := HE.out
          have HM0 := Lib.hid hFL.measure
          obtain ⟨A7, c7, hv7, -, -⟩ := hFL.2.1.out.shape
          rw [List.length_map] at hv7
          subst hv7
          obtain ⟨z0, -, -, hrn, -, -, hbw⟩ := HBOX.out _ HB.out
          have HBW := Lib.hid hbw
          have hol' : o.length ≤ nodes.length := hFL.1.beh.length
          clear hbw
          rcases List.eq_nil_or_concat s with rfl | ⟨s, a, rfl⟩
          · obtain ⟨A8, c8, hv8, -, -⟩ := hFL.2.1.way.shape
            rw [List.length_map] at hv8
            subst hv8
            have hne : st.getD j 0 ≠ 0 := hFL.2.2.resolve_right (by simp)
            have HI := Lib.hid (hFL.1.succ hlt hne)
            have HR := Lib.hid hFL.2.1
            clear hFL hne hrn HM0 HE
            go_wp2
            go_roundw
            case rel => exact ⟨j + 1, by omega, by go_num, Lib.hid ⟨st, o, HI.out, HR.out⟩, HB⟩
            case measure => simp [intOf]; omega
          · rw [List.concat_eq_append] at *
            obtain ⟨gs, c8, hv8, hcap, hcm⟩ := hFL.2.1.way.form (by simp)
            have e1 : (nats (s ++ [a])).length = s.length + 1 := by simp
            rw [e1] at hv8 hcap
            subst hv8
            have ha := hFL.1.inn a (by simp)
            have han := ha.1
            have hal : a < st.length := by rw [hFL.1.len]; exact han
            have hsl : s.length + 1 ≤ nodes.length := by have := hFL.1.slen; simpa using this
            obtain ⟨s0, s1⟩ := hFL.2.1.way.cellAt? (i := s.length) (r := (a : Int)) (by simp)
            obtain ⟨tl, htl⟩ : ∃ tl, s.length = tl := ⟨_, rfl⟩
            rw [htl] at s0 s1 hsl hFL HM0 hcap ⊢
            obtain ⟨x0, x1⟩ := hFL.2.1.st.cellAt? (getD_some hal)
            have hmx := max_one hFL.1
            obtain ⟨b, off, rfl, y0, y1, y2, y3⟩ := hrn.node_at han
            have hxn := List.getElem?_eq_getElem han
            have HUB := Lib.hid (fun u (hu : u ∈ useAt nodes a) => HFM.out.uses hu)
            obtain ⟨x, hx⟩ : ∃ x, nodes[a] = x := ⟨_, rfl⟩
            rw [hx] at y0 y1 y2 y3 hxn
            have HUA := Lib.hid (useAt_at hxn)
            have HR0 := Lib.hid (rightB_uses (HFM.out x (List.mem_of_getElem? hxn)))
            obtain ⟨xk, xa, xb, xc⟩ := x
            dsimp only at y0 y1 y2 y3
            obtain ⟨y, hy⟩ : ∃ y, st.getD a 0 = y := ⟨_, rfl⟩
            rw [hy] at x0 hmx
            have HYA := Lib.hid hy
            have HFL := Lib.hid hFL
            have hlt0 := hFL.2.1.lt
            have hst1 : (st.set a 1)[a]? = some 1 := by rw [List.getElem?_set]; simp [hal]
            have hpl : (nats o).length ≤ 1099511627776 := by rw [List.length_map]; omega
            have hsp : (nats (s ++ [a])).length ≤ 1099511627776 := by rw [e1, htl]; omega
            clear hFL e1 ha hx hxn hrn hy HE htl
            by_cases h7 : xk = 7
            · subst h7
              have HWN := Lib.hid (show ∀ u ∈ useAt nodes a, u < nodes.length ∧ ¬ st.getD u 0 < 2 by rw [HUA.out]; intro u hu; simp [usesN] at hu)
              have HR1 := Lib.hid (HFL.out.2.1.put a 1)
              have HB1 := Lib.hid (HB.out.setCell (p := ⟨w1.heap.size, a, none⟩) hg0 (.int .i64 1))
              have hsb : w1.heap.size + 1 ≤ (wr.setCell ⟨w1.heap.size, a, none⟩ (.int .i64 1)).heap.size := HR1.out.lt
              have hss : (wr.setCell ⟨w1.heap.size, a, none⟩ (.int .i64 1)).heap.size = wr.heap.size := by simp
              go_wp2_with (at_builtin; go_loud (refine app1 kInt 3 28 (.int .i64 0) 8 rfl (.tmp 92) (.tmp 94) rfl Try.underlying28 infoInt rfl (by decide) (by decide) none (w1.heap.size + 1) HR1.out.out (FootIn.none _) hsb rfl (a : Int) [.int .i64 a] (by first | rfl | (rw [hss]; rfl)) rfl (by omega) ?_; intro v' w3 q1 q2 _ q4 q5 q6; have HR3 := Lib.hid (HR1.out.appOut (a := a) q1 q5 q6); have hat3 := HR3.out.st.cellAt? hst1; obtain ⟨u0, u1⟩ := hat3; have HB3 := Lib.hid (HB1.out.trans (q2.below.mono (by omega))); clear q1 q2 q4 q5 q6))
              have HB4 := Lib.hid (HB3.out.setCell (p := ⟨w1.heap.size, a, none⟩) hg0 (.int .i64 2))
              have hnx := FL.pop HFL.out HWN.out (HR3.out.put a 2).pop
              refine ⟨⟨Lib.hid ⟨_, _, _, hnx.1⟩, HB4⟩, ?_⟩
              rw [hnx.1.measure, HM0.out]
              exact hnx.2
            · have h7' : (xk == 7) = false := by simpa using h7
              have hua : useAt nodes a = (usesR ⟨xk, xa, xb, xc⟩).map Int.toNat := by rw [HUA.out, usesN, if_neg h7]
              have hnu : usesR ⟨xk, xa, xb, xc⟩ = nats (useAt nodes a) := by rw [hua, nats_toNat (fun u hu => (HR0.out u hu).1)]
              have hul : (useAt nodes a).length ≤ 3 := by rw [hua, List.length_map]; simp [usesR]; omega
              have HNU := Lib.hid hnu
              have HU := Lib.hid (uses_ref wr (fun _ => False) (fun _ h => h.elim) ⟨xk, xa, xb, xc⟩)
              clear hua hnu h7
              go_wp2_with fail
              refine HU.out.mono ?_
              rintro e w2 ⟨vu, rfl, hru, hbu⟩
              rw [HNU.out] at hru
              have HR2 := Lib.hid (HFL.out.2.1.below hbu)
              have HB2 := Lib.hid (HB.out.trans (hbu.mono (by omega)))
              obtain ⟨us, hus⟩ : ∃ us, useAt nodes a = us := ⟨_, rfl⟩
              rw [hus] at hru hul HUB
              have HUS := Lib.hid hus
              obtain ⟨A9, c9, hv9, -, -⟩ := hru.shape
              rw [List.length_map] at hv9
              subst hv9
              have HRU := Lib.hid hru
              have hw2 := hbu.size
              clear hru hbu hus HU x0 x1 y0 y1 y2 y3 s0 s1 z0
              obtain ⟨z0, -, -, hrn, -⟩ := HBOX.out _ HB2.out
              obtain ⟨x0, x1⟩ := HR2.out.st.cellAt? (getD_some hal)
              rw [HYA.out] at x0
              clear hrn
              go_wp2_with fail
              go_loop [9, 11] (fun wt i => ∃ q : Nat, q ≤ us.length ∧ i = .int .i64 q ∧ wt = .int .i64 (waitI st (us.take q))) (fun _ i => us.length - (intOf i).toNat)
              case atStart => exact ⟨0, Nat.zero_le _, rfl, rfl⟩
              case round =>
                obtain ⟨q, hq, rfl, rfl⟩ := hrel
                by_cases hql : q < us.length
                · obtain ⟨b4, o4, rfl, l0⟩ := HRU.out.int_at (i := q) (by rw [List.length_map]; exact hql)
                  rw [List.getElem_map] at l0
                  have hT := List.take_succ_eq_append_getElem hql
                  have hub := HUB.out _ (List.getElem_mem hql)
                  obtain ⟨u, hu⟩ : ∃ u, us[q] = u := ⟨_, rfl⟩
                  rw [hu] at l0 hT hub
                  have hus : u < st.length := by rw [HFL.out.1.len]; exact hub
                  obtain ⟨t0, t1⟩ := HR2.out.st.cellAt? (getD_some hus)
                  have HWS := Lib.hid (show waitI st (us.take (q + 1)) = if st.getD u 0 < 2 then (u : Int) else waitI st (us.take q) by rw [hT, waitI_snoc])
                  obtain ⟨z, hz⟩ : ∃ z, st.getD u 0 = z := ⟨_, rfl⟩
                  rw [hz] at t0 HWS
                  obtain ⟨wt, hwt⟩ : ∃ wt, waitI st (us.take q) = wt := ⟨_, rfl⟩
                  rw [hwt] at HWS ⊢
                  clear hT hu hz hwt
                  by_cases hz2 : z < 2
                  · rw [if_pos hz2] at HWS
                    go_wp2
                    go_round
                    case rel => exact ⟨q + 1, by omega, by go_num, by rw [HWS.out]⟩
                    case measure => simp [intOf]; omega
                  · rw [if_neg hz2] at HWS
                    go_wp2
                    go_round
                    case rel => exact ⟨q + 1, by omega, by go_num, by rw [HWS.out]⟩
                    case measure => simp [intOf]; omega
                · obtain rfl : q = us.length := by omega
                  rw [List.take_length]
                  have hlt2 := HR2.out.lt
                  have HR1 := Lib.hid (HR2.out.put a 1)
                  have HB1 := Lib.hid (HB2.out.setCell (p := ⟨w1.heap.size, a, none⟩) hg0 (.int .i64 1))
                  have hsb : w1.heap.size + 1 ≤ (w2.setCell ⟨w1.heap.size, a, none⟩ (.int .i64 1)).heap.size := HR1.out.lt
                  have hss : (w2.setCell ⟨w1.heap.size, a, none⟩ (.int .i64 1)).heap.size = w2.heap.size := by simp
                  rcases waitI_is st us with ⟨hw1, hw2'⟩ | ⟨u, hu, hw1, hw2'⟩
                  · rw [hw1]
                    have HWN := Lib.hid (show ∀ u ∈ useAt nodes a, u < nodes.length ∧ ¬ st.getD u 0 < 2 by rw [HUS.out]; exact fun u hu => ⟨HUB.out u hu, hw2' u hu⟩)
                    clear hw1 hw2'
                    go_wp2_with (at_builtin; go_loud (refine app1 kInt 3 28 (.int .i64 0) 8 rfl (.tmp 92) (.tmp 94) rfl Try.underlying28 infoInt rfl (by decide) (by decide) none (w1.heap.size + 1) HR1.out.out (FootIn.none _) hsb rfl (a : Int) [.int .i64 a] (by first | rfl | (rw [hss]; rfl)) rfl (by omega) ?_; intro v' w3 q1 q2 _ q4 q5 q6; have HR3 := Lib.hid (HR1.out.appOut (a := a) q1 q5 q6); have hat3 := HR3.out.st.cellAt? hst1; obtain ⟨u0, u1⟩ := hat3; have HB3 := Lib.hid (HB1.out.trans (q2.below.mono (by omega))); clear q1 q2 q4 q5 q6))
                    have HB4 := Lib.hid (HB3.out.setCell (p := ⟨w1.heap.size, a, none⟩) hg0 (.int .i64 2))
                    have hnx := FL.pop HFL.out HWN.out (HR3.out.put a 2).pop
                    refine ⟨⟨Lib.hid ⟨_, _, _, hnx.1⟩, HB4⟩, ?_⟩
                    rw [hnx.1.measure, HM0.out]
                    exact hnx.2
                  · rw [hw1]
                    have hpu := HFL.out.1.push HFM.out HL.out (u := u) (by rw [HUS.out]; exact hu) hw2'
                    have HUU := Lib.hid (show u ∈ useAt nodes a by rw [HUS.out]; exact hu)
                    have HW2 := Lib.hid hw2'
                    have hul' : u < st.length := by rw [HFL.out.1.len]; exact HUB.out u hu
                    have hun : u < nodes.length := HUB.out u hu
                    have hcu : (st.set a 1)[u]? = some 0 := by
                      rw [List.getElem?_set, if_neg (fun e => hpu.2.1 e.symm), getD_some hul', hpu.1]
                    obtain ⟨t0, t1⟩ := HR1.out.st.cellAt? hcu
                    clear hw1 hw2' hpu hu hcu
                    go_wp2_with (at_builtin; go_loud (refine app1 kInt 3 28 (.int .i64 0) 8 rfl (.tmp 109) (.tmp 111) rfl Try.underlying28 infoInt rfl (by decide) (by decide) none (w1.heap.size + 1) HR1.out.way (FootIn.none _) hsb rfl (u : Int) [.int .i64 u] (by first | rfl | (rw [hss]; rfl)) rfl (by omega) ?_; intro v' w3 q1 q2 _ q4 q5 q6; have HR3 := Lib.hid (HR1.out.appWay (a := u) q1 q5 q6); have HB3 := Lib.hid (HB1.out.trans (q2.below.mono (by omega))); clear q1 q2 q4 q5 q6))
                    have hnx := FL.push HFM.out HL.out HFL.out HUU.out HW2.out HR3.out
                    refine ⟨⟨Lib.hid ⟨_, _, _, hnx.1⟩, HB3⟩, ?_⟩
                    rw [hnx.1.measure, HM0.out]
                    exact hnx.2
      · have hyf : (y == 0) = false := by simpa using hy0
        have HSU := Lib.hid (HI.out.succ hlt (by rw [HYY.out]; exact hy0))
        clear hy0
        go_wp2_with fail
        go_loopw [5, 6] (fun vo vs wq => vo = .slice A5 o.length c5 ∧ vs = .slice A6 ([] : List Nat).length c6 ∧ wq = wr) (fun _ _ _ => 0)
        case atStart => exact ⟨rfl, rfl, rfl⟩
        case round =>
          obtain ⟨rfl, rfl, rfl⟩ := hrel
          go_wp2
          go_roundw
          case rel => exact ⟨j + 1, by omega, by go_num, Lib.hid ⟨st, o, HSU.out, HR.out⟩, HB⟩
          case measure => simp [intOf]; omega
    · obtain rfl : j = nodes.length := by omega
      have hl0 : (nats o).length = o.length := List.length_map ..
      go_wp2
      go_ret2
      refine ⟨_, _, rfl, HR.out.out.rowS S (fun g hg hs => by have h1 := (HR.out.out.base hg).1; have := hS g hs; omega), HI.out.beh, HI.out.low, HBW.out⟩
end Go.Proofs.Ytbfjacgfifecpaa
