/- slipstickref11.grow. -/
import Derived.Test.YtbfjacgfifecpaaSwD
import Derived.Test.YtbfjacgfifecpaaNx
namespace Go.Proofs.Ytbfjacgfifecpaa
open Go.RowKit

abbrev isg (g i : Nat) : Prop := i = g
theorem Same.refl' (S : Nat → Prop) (w : World) : Same S w w := ⟨Nat.le_refl _, fun _ _ _ => rfl⟩
theorem Same.trans' {S : Nat → Prop} {a b c : World} (h : Same S a b) (k : Same S b c) : Same S a c := ⟨Nat.le_trans h.1 k.1, fun i hi hn => (k.2 i (Nat.lt_of_lt_of_le hi h.1) hn).trans (h.2 i hi hn)⟩
theorem Same.below' {S : Nat → Prop} {a b : World} (h : Below a.heap.size a b) : Same S a b := ⟨h.size, fun i hi _ => h.block i hi⟩
theorem Same.store' {g : Nat} (w : World) (j : Nat) (u : Value) : Same (isg g) w (w.setCell ⟨g, j, none⟩ u) := ⟨by simp, fun i _ hn => heap_setCell_other _ ⟨g, j, none⟩ i _ hn⟩
theorem Same.cell' {S : Nat → Prop} {w w' : World} (h : Same S w w') {b j : Nat} (hb : b < w.heap.size) (hn : ¬ S b) {u : Value} (hc : w.cell? ⟨b, j, none⟩ = some u) : w'.cell? ⟨b, j, none⟩ = some u := (World.cell?_of_block (h.2 b hb hn)).trans hc
theorem setU_snoc (l : List Bool) (us : List Nat) (a : Nat) : setU l (us ++ [a]) = (setU l us).set a true := by simp [setU]

set_option maxHeartbeats 2000000 in
set_option maxRecDepth 4096 in
theorem grow_ref (w0 w : World) (v : Value) (nodes : List Node) (ins outs : List Port) (hN : NetV w0 v nodes ins outs) (hB : Below w0.heap.size w0 w) (g n : Nat) (l : List Bool) (hO : Own kBool 4 w none w0.heap.size (.slice (some ⟨g, 0, none⟩) n n) l)
    (hl : l.length = nodes.length) (hnl : nodes.length ≤ 1073741824) (hin : ∀ x ∈ nodes, ∀ u ∈ usesR x, 0 ≤ u ∧ u < nodes.length) :
    Calls Try.prog 78 #[v, .slice (some ⟨g, 0, none⟩) n n] w fun e w' => e = .returned (.slice (some ⟨g, 0, none⟩) n n) ∧ Own kBool 4 w' none w0.heap.size (.slice (some ⟨g, 0, none⟩) n n) (grow nodes (nodes.length + 1) l) ∧ Below w0.heap.size w0 w' ∧ Same (isg g) w w' := by
  obtain ⟨An, cn, Ai, ci, Ao, co, rfl, hbox⟩ := (hN.later hB).box
  let ob := netBox (.slice An nodes.length cn) (.slice Ai ins.length ci) (.slice Ao outs.length co)
  obtain ⟨w1, hw1⟩ : ∃ w1, w1 = w.alloc ob := ⟨_, rfl⟩
  have hs1 : w1.heap.size = w.heap.size + 1 := by rw [hw1]; simp
  have hb01 : Below w.heap.size w w1 := by rw [hw1]; exact (Below.refl _ _).alloc (Nat.le_refl _) _
  rw [← hw1, ← hs1] at hbox
  obtain ⟨z0, -, -, -, -, -, -⟩ := hbox w1 (Below.refl _ _)
  have hgb := hO.base (g := g) rfl
  obtain rfl : n = nodes.length := by rw [← hl]; obtain ⟨_, _, he, _⟩ := hO.shape; injection he
  have HZ := Lib.hid (fun W (hW : Same (isg g) w1 W) => hW.cell' (by omega) (by show ¬ (w.heap.size = g); omega) z0)
  have HN := Lib.hid (fun W (hW : Below w0.heap.size w0 W) => hN.later hW)
  have HO1 := Lib.hid (hO.kept (Kept.of_below_all hb01 (FootIn.none _) (Nat.le_refl _)))
  have HB1 := Lib.hid (hB.trans (hb01.mono hB.size))
  have HW1 := Lib.hid hw1
  have HIN := Lib.hid hin
  have HINU := Lib.hid (inU_of hin)
  have HL := Lib.hid hl
  have HGB := Lib.hid hgb
  have HW01 := Lib.hid (Same.below' (S := isg g) hb01)
  clear hN hbox hs1 hb01 hw1 hO hgb hl hB hin
  go_enter Try.func78, Try.ntmps78
  go_wp2_with fail
  rw [← HW1.out]
  go_loopw [5] (fun rv wr => ∃ r : Nat, rv = .int .i64 r ∧ r ≤ nodes.length + 1 ∧ Hid (Own kBool 4 wr none w0.heap.size (.slice (some ⟨g, 0, none⟩) nodes.length nodes.length) (grow nodes r l)) ∧ Hid (Below w0.heap.size w0 wr) ∧ Hid (Same (isg g) w1 wr)) (fun rv _ => nodes.length + 1 - (intOf rv).toNat)
  case atStart => exact ⟨0, rfl, Nat.zero_le _, HO1, HB1, Lib.hid (Same.refl' _ _)⟩
  case round =>
    clear HO1 HB1 z0
    obtain ⟨r, rfl, hr, HO, HB, HS⟩ := hrel
    have z0 := HZ.out _ HS.out
    by_cases hlt : r ≤ nodes.length
    · go_wp2_with fail
      obtain ⟨wo, hwo⟩ : ∃ wo, wo = wr := ⟨_, rfl⟩
      subst hwo
      go_loopw [6] (fun iv wp => ∃ i : Nat, iv = .int .i64 i ∧ i ≤ nodes.length ∧ Hid (Own kBool 4 wp none w0.heap.size (.slice (some ⟨g, 0, none⟩) nodes.length nodes.length) (grU nodes i (grow nodes r l))) ∧ Hid (Below w0.heap.size w0 wp) ∧ Hid (Same (isg g) w1 wp)) (fun iv _ => nodes.length - (intOf iv).toNat)
      case atStart => exact ⟨0, rfl, Nat.zero_le _, HO, HB, HS⟩
      case round =>
        clear HO HB HS z0
        obtain ⟨i, rfl, hi, HO, HB, HS⟩ := hrel
        have z0 := HZ.out _ HS.out
        by_cases hit : i < nodes.length
        · obtain ⟨vn, vi, vo, he, hrn, -, -⟩ := HN.out _ HB.out
          simp only [Value.agg.injEq, Array.mk.injEq, List.cons.injEq, and_true] at he
          obtain ⟨rfl, -, -⟩ := he
          obtain ⟨b, off, rfl, y0, y1, y2, y3⟩ := hrn.node_at hit
          have hua : useI nodes i = (usesR nodes[i]).map Int.toNat := useI_at (List.getElem?_eq_getElem hit)
          have hiu := HIN.out _ (List.getElem_mem hit)
          have hul : (usesR nodes[i]).length ≤ 3 := by simp [usesR]; omega
          obtain ⟨x, hxx⟩ : ∃ x, nodes[i] = x := ⟨_, rfl⟩
          rw [hxx] at y0 y1 y2 y3 hua hiu hul
          clear hxx hrn
          have HU := Lib.hid (uses_ref wr (isg g) (fun j hj => by have := HGB.out; have := HS.out.1; have := HW01.out.1; show j < _; rw [show j = g from hj]; omega) x)
          obtain ⟨xk, xa, xb, xc⟩ := x
          dsimp only at y0 y1 y2 y3
          have HUA := Lib.hid hua
          have HIU := Lib.hid hiu
          have HUL := Lib.hid hul
          obtain ⟨cur, hcur⟩ : ∃ cur, grU nodes i (grow nodes r l) = cur := ⟨_, rfl⟩
          have HNX := Lib.hid (show grU nodes (i + 1) (grow nodes r l) = if cur.getD i false = true then setU cur (useI nodes i) else cur by rw [grU_succ, hcur, gr1])
          have hcl : cur.length = nodes.length := by rw [← hcur, grU_length, grow_length, HL.out]
          rw [hcur] at HO
          have HCL := Lib.hid hcl
          clear hua hiu hul hcur hcl
          go_wp2_with fail
          refine HU.out.mono ?_
          rintro e w4 ⟨v4, rfl, hr4, hb4⟩
          obtain ⟨us, hus⟩ : ∃ us, useI nodes i = us := ⟨_, rfl⟩
          have HUN := Lib.hid (show ∀ a ∈ us, a < nodes.length from fun a ha => HINU.out i a (by rw [hus]; exact ha))
          have hnu : usesR ⟨xk, xa, xb, xc⟩ = nats us := by rw [← hus, HUA.out, nats_toNat (fun u hu => (HIU.out u hu).1)]
          have hul : us.length ≤ 3 := by have := HUL.out; rw [hnu, List.length_map] at this; exact this
          rw [hnu] at hr4
          rw [hus] at HNX
          obtain ⟨A4, c4, he4, -, -⟩ := hr4.shape
          rw [List.length_map] at he4
          subst he4
          have HR4 := Lib.hid hr4
          have HO4 := Lib.hid (HO.out.kept (Kept.of_below_all hb4 (FootIn.none _) (Nat.le_refl _)))
          have HB4 := Lib.hid (HB.out.trans (hb4.mono HB.out.size))
          have HS4 := Lib.hid (HS.out.trans' (Same.below' hb4))
          clear hr4 hb4 HU HUA HIU HUL hus hnu y0 y1 y2 y3 z0
          go_wp2_with fail
          obtain ⟨b0, hb0⟩ : ∃ b0, cur.getD i false = b0 := ⟨_, rfl⟩
          rw [hb0] at HNX
          have HB0 := Lib.hid hb0
          clear hb0
          obtain ⟨wo2, hwo2⟩ : ∃ wo2, wo2 = wr := ⟨_, rfl⟩
          subst hwo2
          go_loopw [8] (fun kv wq => ∃ k : Nat, kv = .int .i64 k ∧ k ≤ us.length ∧ (b0 = false → k = 0) ∧ Hid (Own kBool 4 wq none w0.heap.size (.slice (some ⟨g, 0, none⟩) nodes.length nodes.length) (setU cur (us.take k))) ∧ Hid (Below w0.heap.size w0 wq) ∧ Hid (Same (isg g) w1 wq) ∧ Hid (Same (isg g) w4 wq)) (fun kv _ => us.length - (intOf kv).toNat)
          case atStart => exact ⟨0, rfl, Nat.zero_le _, fun _ => rfl, by simpa [setU] using HO4, HB4, HS4, Lib.hid (Same.refl' _ _)⟩
          case round =>
            clear HO HB HS HO4 HB4 HS4
            obtain ⟨k, rfl, hk, hk0, HO, HB, HS, HSS⟩ := hrel
            have hgl := HGB.out
            by_cases hkt : k < us.length
            · have hcell : (setU cur (us.take k))[i]? = some b0 := by
                have hl2 : i < (setU cur (us.take k)).length := by rw [setU_length, HCL.out]; exact hit
                have h1 := setU_at (us.take k) cur (fun a ha => by rw [HCL.out]; exact HUN.out a (List.mem_of_mem_take ha)) i
                rw [List.getD_eq_getElem?_getD, List.getElem?_eq_getElem hl2, Option.getD_some] at h1
                rw [List.getElem?_eq_getElem hl2, h1, HB0.out]
                cases hbb : b0 with
                | true => simp
                | false => rw [hk0 hbb]; simp
              obtain ⟨c0, c1⟩ := HO.out.boolAt? hcell
              cases hbb : b0 with
              | true =>
                rw [hbb] at c0
                obtain ⟨b2, off2, rfl, x0⟩ := (HR4.out.keep (S' := fun _ => False) HSS.out (fun _ _ h => h.elim)).int_at (by simpa using hkt)
                have HT := Lib.hid (List.take_succ_eq_append_getElem hkt)
                have hm := HUN.out _ (List.getElem_mem hkt)
                have x0' : wr.cell? ⟨b2, off2 + k, none⟩ = some (.int .i64 ((us[k] : Nat) : Int)) := by simpa using x0
                obtain ⟨a, ha⟩ : ∃ a, us[k] = a := ⟨_, rfl⟩
                rw [ha] at x0' HT hm
                have hal : a < (setU cur (us.take k)).length := by rw [setU_length, HCL.out]; exact hm
                obtain ⟨d0, d1⟩ := HO.out.boolAt? (List.getElem?_eq_getElem hal)
                have HOS := Lib.hid (HO.out.storeBool a true)
                rw [← setU_snoc, ← HT.out] at HOS
                have HBS := Lib.hid (HB.out.setCell (p := ⟨g, a, none⟩) hgl.1 (.bool true))
                clear ha x0 hcell hk0 hbb
                go_wp2_with fail
                refine ⟨⟨k + 1, by go_num, by omega, by simp, HOS, HBS, Lib.hid (HS.out.trans' (Same.store' _ _ _)), Lib.hid (HSS.out.trans' (Same.store' _ _ _))⟩, ?_⟩
                simp [intOf]; omega
              | false =>
                rw [hbb] at c0
                rw [hbb] at HNX
                obtain rfl := hk0 hbb
                have HON : Hid (Own kBool 4 wr none w0.heap.size (.slice (some ⟨g, 0, none⟩) nodes.length nodes.length) (grU nodes (i + 1) (grow nodes r l))) := by rw [HNX.out]; exact HO
                clear hcell
                go_wp2_with fail
                refine ⟨⟨i + 1, by go_num, by omega, HON, HB, HS⟩, ?_⟩
                simp [intOf]; omega
            · obtain rfl : k = us.length := by omega
              rw [List.take_length] at HO
              have HON : Hid (Own kBool 4 wr none w0.heap.size (.slice (some ⟨g, 0, none⟩) nodes.length nodes.length) (grU nodes (i + 1) (grow nodes r l))) := by
                rw [HNX.out]
                cases hbb : b0 with
                | true => exact HO
                | false => rw [List.length_eq_zero_iff.1 (hk0 hbb)] at HO; exact HO
              clear hk0
              go_wp2_with fail
              refine ⟨⟨i + 1, by go_num, by omega, HON, HB, HS⟩, ?_⟩
              simp [intOf]; omega
        · obtain rfl : i = nodes.length := by omega
          go_wp2_with fail
          refine ⟨⟨r + 1, by go_num, by omega, HO, HB, HS⟩, ?_⟩
          simp [intOf]; omega
    · obtain rfl : r = nodes.length + 1 := by omega
      go_wp2
      go_ret
      exact ⟨rfl, HO.out, HB.out, HW01.out.trans' HS.out⟩
end Go.Proofs.Ytbfjacgfifecpaa
