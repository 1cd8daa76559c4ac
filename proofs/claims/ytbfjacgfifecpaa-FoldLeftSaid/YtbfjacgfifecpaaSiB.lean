/- Any net's values in a cycle: slipstickref07.Values, by any order. -/
import Derived.Test.YtbfjacgfifecpaaSiA
namespace Go.Proofs.Ytbfjacgfifecpaa
open Go.RowKit

set_option maxHeartbeats 4000000 in
set_option maxRecDepth 100000 in
theorem values_any (w : World) (S S1 S2 S3 : Nat → Prop) (hS : There S w) (v vord vst vin : Value) (nodes : List Node) (ins outs : List Port) (o : List Nat) (st inn : List Bool) (hN : NetV w v nodes ins outs) (hord : Row kInt w S1 vord (nats o))
    (hst : Row kInt w S2 vst (st.map b2i)) (hin : Row kInt w S3 vin (inn.map b2i)) (hsl : st.length = nodes.length) (hil : inn.length = nodes.length) (hnl : nodes.length ≤ 1099511627776) (hf : Frm nodes) (hbh : Beh nodes o) :
    Calls Try.prog 92 #[v, vord, vst, vin] w fun e w' => ∃ v', e = .returned v' ∧ Row kInt w' S v' ((valsO nodes st inn o).map b2i) ∧ Below w.heap.size w w' := by
  obtain ⟨An, cn, Ai, ci, Ao, co, rfl, hbox⟩ := hN.box
  let ob := netBox (.slice An nodes.length cn) (.slice Ai ins.length ci) (.slice Ao outs.length co)
  have hmk := make_ints nodes.length hnl
  have hO := made_ints nodes.length hnl (w.alloc ob)
  have hsz : (w.alloc ob).heap.size = w.heap.size + 1 := by simp
  rw [hsz] at hO
  have hb1 : Below (w.heap.size + 1) (w.alloc ob) ((w.alloc ob).alloc (.cells (madeCells #[.int .i64 0] nodes.length) 3)) := (Below.refl _ _).alloc (by rw [hsz]; exact Nat.le_refl _) _
  obtain ⟨z0, -, -, -⟩ := hbox (w.alloc ob) (Below.refl _ _)
  obtain ⟨A1, c1, rfl, -, -⟩ := hord.shape
  obtain ⟨A2, c2, rfl, -, -⟩ := hst.shape
  obtain ⟨A3, c3, rfl, -, -⟩ := hin.shape
  have h1 : (nats o).length = o.length := List.length_map ..
  have h2 : (st.map b2i).length = nodes.length := by simp [hsl]
  have h3 : (inn.map b2i).length = nodes.length := by simp [hil]
  have hol : o.length ≤ nodes.length := hbh.length
  rw [h1] at hord ⊢
  rw [h2] at hst ⊢
  rw [h3] at hin ⊢
  have HO := Lib.hid hO
  have HBOX := Lib.hid hbox
  have HK := Lib.hid hf
  have HBH := Lib.hid hbh
  have HORD := Lib.hid hord
  have HST := Lib.hid hst
  have HIN := Lib.hid hin
  have HSL := Lib.hid hsl
  have HIL := Lib.hid hil
  have HB1 := Lib.hid hb1
  clear hO hbox hf hbh hsz hb1 hN hord hst hin hsl hil h1 h2 h3
  go_enter Try.func92, Try.ntmps92
  go_wp2_with fail
  go_loopw [10] (fun i wr => ∃ j : Nat, j ≤ o.length ∧ i = .int .i64 j ∧ Own kInt 3 wr none (w.heap.size + 1) (.slice (some ⟨w.heap.size + 1, 0, none⟩) nodes.length nodes.length) ((valsO nodes st inn (o.take j)).map b2i) ∧ Below (w.heap.size + 1) (w.alloc ob) wr) (fun i _ => o.length - (intOf i).toNat)
  case atStart => exact ⟨0, Nat.zero_le _, rfl, by rw [List.take_zero, valsO, List.foldl_nil, List.map_replicate]; exact HO.out, HB1.out⟩
  case round =>
    obtain ⟨j, hj, rfl, ho, hb⟩ := hrel
    clear z0
    obtain ⟨z0, -, -, hrn, -, -, hbw⟩ := HBOX.out _ hb
    have HB := Lib.hid hb
    by_cases hlt : j < o.length
    · obtain ⟨hun, -⟩ := HBH.out.at_ j hlt
      have hT := List.take_succ_eq_append_getElem hlt
      obtain ⟨b1, o1, rfl, q1⟩ := (HORD.out.later hbw).int_at (i := j) (by rw [List.length_map]; exact hlt)
      rw [List.getElem_map] at q1
      obtain ⟨u, hu⟩ : ∃ u, o[j] = u := ⟨_, rfl⟩
      rw [hu] at hun hT q1
      obtain ⟨b, off, rfl, y0, y1, y2, y3⟩ := hrn.node_at hun
      have hszr : w.heap.size + 1 ≤ wr.heap.size := by have := hb.size; simp at this; omega
      obtain ⟨xb, hxb⟩ : ∃ xb, xb = (Obj.cells #[.int .i64 nodes[u].kind, .int .i64 nodes[u].a, .int .i64 nodes[u].b, .int .i64 nodes[u].c] 38) := ⟨_, rfl⟩
      have hbw2 := hbw.alloc (show w.heap.size ≤ wr.heap.size by omega) xb
      obtain ⟨b2, o2, rfl, q2⟩ := (HST.out.later hbw2).b2i_at (i := u) (by have := HSL.out; omega)
      obtain ⟨b3, o3, rfl, q3⟩ := (HIN.out.later hbw2).b2i_at (i := u) (by have := HIL.out; omega)
      have hvl := valsO_length nodes st inn (o.take j)
      have ho2 := ho.kept (Kept.of_below_all ((Below.refl _ _).alloc (Nat.le_refl _) xb) (FootIn.none _) (Nat.le_refl _))
      obtain ⟨y, hy⟩ : ∃ y, ((valsO nodes st inn (o.take j)).map b2i)[u]? = some y := ⟨_, List.getElem?_eq_getElem (by rw [List.length_map]; omega)⟩
      obtain ⟨x0, x1⟩ := ho2.cellAt? hy
      have HO2 := Lib.hid ho2
      have HR := Lib.hid (HK.out nodes[u] (List.getElem_mem hun))
      have hstep : valsO nodes st inn (o.take (j + 1)) = (valsO nodes st inn (o.take j)).set u (valB nodes[u] (valsO nodes st inn (o.take j)) st inn u) := by
        rw [hT, valsO_snoc, valStep, List.getElem?_eq_getElem hun]
      have HSTEP := Lib.hid hstep
      have HVL := Lib.hid hvl
      have HB2 := Lib.hid (hb.alloc hszr xb)
      have HBW := Lib.hid hbw
      have HY := Lib.hid hy
      rw [hxb] at HO2 HB2 q2 q3 x0 x1
      clear hrn hxb hstep hvl ho hb hbw hbw2 ho2 hT hu hy
      generalize nodes[u] = x at *
      generalize valsO nodes st inn (o.take j) = vs at *
      have HSET := Lib.hid (fun bb : Bool => (List.map_set (l := vs) (i := u) (a := bb) (f := b2i)))
      obtain ⟨kind, xa, xb', xc⟩ := x
      dsimp only at *
      have hkk := rightB_kind HR.out
      dsimp only at hkk
      have hcase : kind = 0 ∨ kind = 1 ∨ kind = 7 ∨ (2 ≤ kind ∧ kind ≤ 6) := by omega
      clear hkk
      rcases hcase with rfl | rfl | rfl | hg
      · have HXB := Lib.hid (show xa = b2i (valB ⟨0, xa, xb', xc⟩ vs st inn u) by rcases rightB_const HR.out rfl with h | h <;> simp only at h <;> subst h <;> rfl)
        go_wp2
        go_roundw
        case rel =>
          have hs := HO2.out.store (FootIn.none _) (by simp; omega) u xa
          exact ⟨j + 1, by omega, by go_num, by rw [HSTEP.out, HSET.out, ← HXB.out]; exact hs.1, HB2.out.setCell (Nat.le_refl _) _⟩
        case measure => simp [intOf]; omega
      · have HXB := Lib.hid (show b2i (at_ inn u) = b2i (valB ⟨1, xa, xb', xc⟩ vs st inn u) by rfl)
        generalize b2i (at_ inn u) = y2 at *
        go_wp2
        go_roundw
        case rel =>
          have hs := HO2.out.store (FootIn.none _) (by simp; omega) u y2
          exact ⟨j + 1, by omega, by go_num, by rw [HSTEP.out, HSET.out, ← HXB.out]; exact hs.1, HB2.out.setCell (Nat.le_refl _) _⟩
        case measure => simp [intOf]; omega
      · have HXB := Lib.hid (show b2i (at_ st u) = b2i (valB ⟨7, xa, xb', xc⟩ vs st inn u) by rfl)
        generalize b2i (at_ st u) = y2 at *
        go_wp2
        go_roundw
        case rel =>
          have hs := HO2.out.store (FootIn.none _) (by simp; omega) u y2
          exact ⟨j + 1, by omega, by go_num, by rw [HSTEP.out, HSET.out, ← HXB.out]; exact hs.1, HB2.out.setCell (Nat.le_refl _) _⟩
        case measure => simp [intOf]; omega
      · have hk0 : (kind == 0) = false := by rw [beq_eq_false_iff_ne]; omega
        have hk1 : (kind == 1) = false := by rw [beq_eq_false_iff_ne]; omega
        have hk7 : (kind == 7) = false := by rw [beq_eq_false_iff_ne]; omega
        have HXB := Lib.hid (show b2i (gateB ⟨kind, xa, xb', xc⟩ vs) = b2i (valB ⟨kind, xa, xb', xc⟩ vs st inn u) by
          rw [valB, if_neg (by simp only; omega), if_neg (by simp only; omega), if_neg (by simp only; omega)])
        have HG := Lib.hid hg
        clear hg
        have HROW := Lib.hid (HO2.out.rowS (fun _ => False) (fun _ _ h => h))
        have HS2 := Lib.hid (HO2.out.shape)
        have hlm : (vs.map b2i).length = nodes.length := by rw [List.length_map]; exact HVL.out
        clear x0 x1 q2 q3
        go_wp2_with fail
        refine (gate_ref _ (fun _ => False) ⟨kind, xa, xb', xc⟩ _ vs HROW.out HG.out (fun u hu => by have := rightB_uses HR.out u hu; have := HVL.out; omega) (by have := HVL.out; omega)).mono ?_
        rintro e w2 ⟨rfl, hb3⟩
        have HO3 := Lib.hid (HO2.out.kept (Kept.of_below_all hb3 (FootIn.none _) (Nat.le_refl _)))
        have HB3 := Lib.hid (HB2.out.trans (hb3.mono (Nat.le_trans (by simp) HB2.out.size)))
        have hs3 := hb3.size
        rw [HXB.out]
        obtain ⟨u0, u1⟩ := HO3.out.cellAt? HY.out
        clear hb3
        go_wp2_with fail
        go_roundw
        case rel =>
          have hs := HO3.out.store (FootIn.none _) (by simp at hs3; omega) u (b2i (valB ⟨kind, xa, xb', xc⟩ vs st inn u))
          exact ⟨j + 1, by omega, by go_num, by rw [HSTEP.out, HSET.out]; exact hs.1, HB3.out.setCell (Nat.le_refl _) _⟩
        case measure => simp [intOf]; omega
    · obtain rfl : j = o.length := by omega
      rw [List.take_length] at ho
      have HBW := Lib.hid hbw
      have HL := Lib.hid (show ((valsO nodes st inn o).map b2i).length = nodes.length by rw [List.length_map, valsO_length])
      clear hb hbw
      go_wp2
      go_ret
      exact ⟨_, rfl, ho.rowS S (fun g hg hs => by have h1 := (ho.base hg).1; have := hS g hs; omega), HBW.out⟩
end Go.Proofs.Ytbfjacgfifecpaa
