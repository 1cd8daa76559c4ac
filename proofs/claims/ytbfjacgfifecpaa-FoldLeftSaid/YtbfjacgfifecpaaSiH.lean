/- Do two nets tell the same? slipstickref07.Alike: the walk, where they do. -/
import Derived.Test.YtbfjacgfifecpaaSiE
import Derived.Test.YtbfjacgfifecpaaSiG
namespace Go.Proofs.Ytbfjacgfifecpaa
open Go.RowKit

/-- a net that can be told cycle by cycle -/
structure SimN (nodes : List Node) (ins outs : List Port) : Prop where
  frm : formedB nodes ins outs = true
  lev : ∃ l, IsLev nodes l
  ip : okPorts nodes ins
  op : okPorts nodes outs
  len : nodes.length ≤ 1073741824

theorem fitsB_wide {ins ins2 : List Port} (h : ins.map wideP = ins2.map wideP) (ms : List Nat) : fitsB ins ms = fitsB ins2 ms := by
  have hl : ins.length = ins2.length := by simpa using congrArg List.length h
  have hf : ∀ i, fitAt ins ms i = fitAt ins2 ms i := fun i => by
    have hi : (ins.map wideP)[i]? = (ins2.map wideP)[i]? := by rw [h]
    rw [List.getElem?_map, List.getElem?_map] at hi
    unfold fitAt
    cases e1 : ins[i]? with
    | none =>
      cases e2 : ins2[i]? with
      | none => rfl
      | some q => rw [e1, e2] at hi; simp at hi
    | some p =>
      cases e2 : ins2[i]? with
      | none => rw [e1, e2] at hi; simp at hi
      | some q =>
        rw [e1, e2] at hi
        simp only [Option.map_some, Option.some.injEq, wideP, Prod.mk.injEq] at hi
        cases ms[i]? with
        | none => rfl
        | some m => simp only [hi.2]
  unfold fitsB
  rw [hl, show fitAt ins ms = fitAt ins2 ms from funext hf]
theorem throughE_wide {ins ins2 : List Port} (h : ins.map wideP = ins2.map wideP) (s : List (List Nat)) : throughE ins s = throughE ins2 s := by
  unfold throughE fitsAll
  rw [show fitsB ins = fitsB ins2 from funext (fitsB_wide h)]

set_option maxHeartbeats 4000000 in
set_option maxRecDepth 100000 in
theorem alike_any (w : World) (S2 : Nat → Prop) (v u vs : Value) (nodes nodes2 : List Node) (ins outs ins2 outs2 : List Port) (s : List (List (List Int))) (hN : NetV w v nodes ins outs) (hM : NetV w u nodes2 ins2 outs2) (h1 : SimN nodes ins outs) (h2 : SimN nodes2 ins2 outs2)
    (hx : Row (kRow (kRow (kNum .u32))) w S2 vs s) (hsc : okScript s) (hwi : ins.map wideP = ins2.map wideP) (hwo : outs.map wideP = outs2.map wideP) (hT : throughC nodes ins outs (s.map fun r => r.map partsVal) = throughC nodes2 ins2 outs2 (s.map fun r => r.map partsVal))
    (hlen : (throughC nodes ins outs (s.map fun r => r.map partsVal)).length ≤ 1099511627776) (hlr : ∀ r ∈ throughC nodes ins outs (s.map fun r => r.map partsVal), r.length ≤ 1099511627776 ∧ ∀ x ∈ r, x.length ≤ 1099511627776) :
    Calls Try.prog 36 #[v, u, vs] w fun e w' => e = .returned (.bool true) ∧ Below w.heap.size w w' := by
  obtain ⟨An, cn, Ai, ci, Ao, co, Bn, dn, Bi, di, Bo, eo, rfl, rfl, hbox⟩ := hN.boxes hM
  obtain ⟨wb, hwb⟩ : ∃ wb, wb = ((w.alloc (netBox (.slice An nodes.length cn) (.slice Ai ins.length ci) (.slice Ao outs.length co))).alloc (netBox (.slice Bn nodes2.length dn) (.slice Bi ins2.length di) (.slice Bo outs2.length eo))) := ⟨_, rfl⟩
  have hsz : wb.heap.size = w.heap.size + 2 := by rw [hwb]; simp
  rw [← hwb] at hbox
  obtain ⟨⟨c0, c1, c2⟩, ⟨d0, d1, d2⟩, -, -, -⟩ := hbox wb (Below.refl _ _)
  obtain ⟨A2, k2, rfl, -, -⟩ := hx.shape
  have HZ := Lib.hid (fun W hW => And.intro (hbox W hW).1 (hbox W hW).2.1)
  have HN1 := Lib.hid (fun (W : World) (hW : Below (w.heap.size + 2) wb W) => show NetV W (.agg #[.slice An nodes.length cn, .slice Ai ins.length ci, .slice Ao outs.length co]) nodes ins outs from ⟨_, _, _, rfl, (hbox W hW).2.2.1.1, (hbox W hW).2.2.1.2.1, (hbox W hW).2.2.1.2.2⟩)
  have HN2 := Lib.hid (fun (W : World) (hW : Below (w.heap.size + 2) wb W) => show NetV W (.agg #[.slice Bn nodes2.length dn, .slice Bi ins2.length di, .slice Bo outs2.length eo]) nodes2 ins2 outs2 from ⟨_, _, _, rfl, (hbox W hW).2.2.2.1.1, (hbox W hW).2.2.2.1.2.1, (hbox W hW).2.2.2.1.2.2⟩)
  have HP := Lib.hid (fun (W : World) (hW : Below (w.heap.size + 2) wb W) => And.intro (And.intro (hbox W hW).2.2.1.2.1 (hbox W hW).2.2.2.1.2.1) (And.intro (hbox W hW).2.2.1.2.2 (hbox W hW).2.2.2.1.2.2))
  have HBW := Lib.hid (fun (W : World) (hW : Below (w.heap.size + 2) wb W) => (hbox W hW).2.2.2.2)
  have HSZ := Lib.hid hsz
  have HW := Lib.hid hwb
  have HX := Lib.hid hx
  have HSC := Lib.hid hsc
  have HT := Lib.hid hT
  have HLR := Lib.hid hlr
  have HLL := Lib.hid hlen
  have HWI := Lib.hid hwi
  have HWO := Lib.hid hwo
  have H1 := Lib.hid h1
  have H2 := Lib.hid h2
  have HE := Lib.hid (throughE_wide hwi (s.map fun r => r.map partsVal))
  have HL1 := Lib.hid h1.lev
  have HL2 := Lib.hid h2.lev
  have hl0 : ∀ W : World, Below (w.heap.size + 2) wb W → w.heap.size + 2 ≤ W.heap.size := fun W hW => by have := hW.size; omega
  have HLS := Lib.hid hl0
  rw [hwb] at c0 c1 c2 d0 d1 d2
  clear hbox hsz hN hM hwb hx hsc hT hlr hlen hwi hwo h1 h2 hl0
  go_enter Try.func36, Try.ntmps36
  go_wp2_with fail
  rw [← HW.out]
  clear c0 c1 c2 d0 d1 d2
  obtain ⟨l1, hl1⟩ := HL1.out
  obtain ⟨l2, hl2⟩ := HL2.out
  have HI1 := Lib.hid hl1
  have HI2 := Lib.hid hl2
  clear hl1 hl2
  refine (fast_any _ (fun _ => False) (fun _ h => h.elim) _ nodes ins outs (HN1.out _ (Below.refl _ _)) H1.out.len H1.out.ip.1 H1.out.op.1 H1.out.frm l1 HI1.out).mono ?_
  rintro e w1 ⟨v1, o1, rfl, hr1, hbh1, hal1, hb1⟩
  rw [HSZ.out] at hb1
  have HR1 := Lib.hid hr1
  have HBH1 := Lib.hid hbh1
  have HAL1 := Lib.hid hal1
  have HB1 := Lib.hid hb1
  obtain ⟨⟨c0, c1, c2⟩, ⟨d0, d1, d2⟩⟩ := HZ.out _ hb1
  clear hr1 hbh1 hal1 hb1
  go_wp2_with fail
  refine (fast_any _ (fun _ => False) (fun _ h => h.elim) _ nodes2 ins2 outs2 (HN2.out _ HB1.out) H2.out.len H2.out.ip.1 H2.out.op.1 H2.out.frm l2 HI2.out).mono ?_
  rintro e w2 ⟨v2, o2, rfl, hr2, hbh2, hal2, hb2⟩
  have HR1' := Lib.hid (HR1.out.later hb2)
  have HR2 := Lib.hid hr2
  have HBH2 := Lib.hid hbh2
  have HAL2 := Lib.hid hal2
  have HB2 := Lib.hid (HB1.out.trans (hb2.mono (HLS.out _ HB1.out)))
  clear hr2 hbh2 hal2 hb2 c0 c1 c2 d0 d1 d2
  obtain ⟨⟨c0, c1, c2⟩, ⟨d0, d1, d2⟩⟩ := HZ.out _ HB2.out
  go_wp2_with fail
  refine (ports07_ref _ _ _ ins ins2 (HP.out _ HB2.out).1.1 (HP.out _ HB2.out).1.2 (Nat.le_trans H1.out.ip.1 (by decide)) (Nat.le_trans H2.out.ip.1 (by decide))).mono ?_
  rintro e w3 ⟨rfl, hb3⟩
  rw [decide_eq_true HWI.out]
  have HB3 := Lib.hid (HB2.out.trans (hb3.mono (HLS.out _ HB2.out)))
  have HR1'' := Lib.hid (HR1'.out.later hb3)
  have HR2' := Lib.hid (HR2.out.later hb3)
  clear hb3 c0 c1 c2 d0 d1 d2
  obtain ⟨⟨c0, c1, c2⟩, ⟨d0, d1, d2⟩⟩ := HZ.out _ HB3.out
  go_wp2_with fail
  refine (ports07_ref _ _ _ outs outs2 (HP.out _ HB3.out).2.1 (HP.out _ HB3.out).2.2 (Nat.le_trans H1.out.op.1 (by decide)) (Nat.le_trans H2.out.op.1 (by decide))).mono ?_
  rintro e w4 ⟨rfl, hb4⟩
  rw [decide_eq_true HWO.out]
  have HB4 := Lib.hid (HB3.out.trans (hb4.mono (HLS.out _ HB3.out)))
  have HR1 := Lib.hid (HR1''.out.later hb4)
  have HR2 := Lib.hid (HR2'.out.later hb4)
  clear hb4 c0 c1 c2 d0 d1 d2 HR1' HR1'' HR2'
  obtain ⟨⟨c0, c1, c2⟩, ⟨d0, d1, d2⟩⟩ := HZ.out _ HB4.out
  go_wp2_with fail
  refine (through_any _ (fun _ => False) _ _ (fun _ h => h.elim) _ _ _ nodes ins outs o1 l1 s (HN1.out _ HB4.out) HR1.out (HX.out.later (HBW.out _ HB4.out)) (Nat.le_trans H1.out.len (by decide)) (Frm.of H1.out.frm) HBH1.out HAL1.out HI1.out H1.out.ip H1.out.op HSC.out).mono ?_
  rintro e w5 ⟨v5, n5, rfl, hn5, hr5, hb5⟩
  have HB5 := Lib.hid (HB4.out.trans (hb5.mono (HLS.out _ HB4.out)))
  have HR2' := Lib.hid (HR2.out.later hb5)
  have HR5 := Lib.hid hr5
  have HN5 := Lib.hid hn5
  clear hb5 hr5 hn5 c0 c1 c2 d0 d1 d2
  obtain ⟨⟨c0, c1, c2⟩, ⟨d0, d1, d2⟩⟩ := HZ.out _ HB5.out
  go_wp2_with fail
  refine (through_any _ (fun _ => False) _ _ (fun _ h => h.elim) _ _ _ nodes2 ins2 outs2 o2 l2 s (HN2.out _ HB5.out) HR2'.out (HX.out.later (HBW.out _ HB5.out)) (Nat.le_trans H2.out.len (by decide)) (Frm.of H2.out.frm) HBH2.out HAL2.out HI2.out H2.out.ip H2.out.op HSC.out).mono ?_
  rintro e w6 ⟨v6, n6, rfl, hn6, hr6, hb6⟩
  obtain rfl : n6 = n5 := by rw [hn6, HN5.out, HE.out]
  rw [← HT.out] at hr6
  have HR5' := Lib.hid (HR5.out.later hb6)
  have HB6 := Lib.hid (HB5.out.trans (hb6.mono (HLS.out _ HB5.out)))
  generalize throughC nodes ins outs (s.map fun r => r.map partsVal) = res at *
  obtain ⟨A6, c6, rfl, -, -⟩ := hr6.shape
  obtain ⟨A5, c5, rfl, -, -⟩ := HR5'.out.shape
  have HR6 := Lib.hid hr6
  have hq : (n6 != n6) = false := by simp
  have hrl := HLL.out
  clear hr6 hb6 hn6 c0 c1 c2 d0 d1 d2 HN5 HR5
  go_wp2_with fail
  clear hq
  go_loopw [15] (fun iv wr => ∃ i : Nat, iv = .int .i64 i ∧ i ≤ res.length ∧ Hid (Below (w.heap.size + 2) wb wr) ∧ Hid (Row (kRow (kRow (kNum .u32))) wr (fun _ => False) (.slice A5 res.length c5) res ∧ Row (kRow (kRow (kNum .u32))) wr (fun _ => False) (.slice A6 res.length c6) res)) (fun iv _ => res.length - (intOf iv).toNat)
  case atStart => exact ⟨0, rfl, Nat.zero_le _, HB6, Lib.hid ⟨HR5'.out, HR6.out⟩⟩
  case round =>
    obtain ⟨i, rfl, hi, HB, HRR⟩ := hrel
    by_cases hlt : i < res.length
    · obtain ⟨b, off, A3, d3, rfl, x0, hxb⟩ := HRR.out.1.row_at hlt
      obtain ⟨b2, off2, A4, d4, rfl, y0, hyb⟩ := HRR.out.2.row_at hlt
      obtain ⟨hk1, hk2⟩ := HLR.out _ (List.getElem_mem hlt)
      obtain ⟨x, hxx⟩ : ∃ x, res[i] = x := ⟨_, rfl⟩
      rw [hxx] at x0 y0 hxb hyb hk1 hk2
      clear hxx
      have HC := Lib.hid (fun W (hW : Below wr.heap.size wr W) => show Calls Try.prog 75 #[.slice A3 x.length d3, .slice A4 x.length d4] W fun e w' => e = .returned (.bool true) ∧ Below W.heap.size W w' from (rows_same W _ _ _ _ x x (hxb.later hW) (hyb.later hW) hk1 hk2 hk2).mono fun e w' h => ⟨by rw [h.1, decide_eq_true rfl], h.2⟩)
      clear hxb hyb hk2
      go_wp2_with fail
      go_region_law (go_simp; go_at_call 75; refine (HC.out _ (Below.refl _ _).drew).mono ?_; rintro e w3 ⟨rfl, hb3⟩; have HB3 := Lib.hid ((Below.refl wr.heap.size wr).drew.trans (hb3.mono (Nat.le_refl _))); clear hb3)
      all_goals
        have HBN := Lib.hid (HB.out.trans (HB3.out.mono (HLS.out _ HB.out)))
        go_wp2
        refine ⟨⟨i + 1, by go_num, by omega, HBN, Lib.hid ⟨HRR.out.1.later HB3.out, HRR.out.2.later HB3.out⟩⟩, ?_⟩
        simp [intOf]; omega
    · obtain rfl : i = res.length := by omega
      have HWW := Lib.hid (HBW.out _ HB.out)
      go_wp2
      go_ret
      exact ⟨rfl, HWW.out⟩
end Go.Proofs.Ytbfjacgfifecpaa
