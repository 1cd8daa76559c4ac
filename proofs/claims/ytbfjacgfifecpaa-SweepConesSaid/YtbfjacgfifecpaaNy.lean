/- The reference's Order. -/
import Derived.Test.YtbfjacgfifecpaaNo
import Derived.Test.YtbfjacgfifecpaaNx
namespace Go.Proofs.Ytbfjacgfifecpaa
open Go.RowKit

theorem bins_take {l : List Int} {r m n : Nat} (h : r ≤ m) : (bins l m n).take r = bins l r n := by
  rw [bins, bins, ← List.map_take, List.take_range, Nat.min_eq_left h]
theorem bins_pre {l : List Int} {r m n : Nat} (h : r ≤ m) : (bins l m n).flatten = (bins l r n).flatten ++ ((bins l m n).drop r).flatten := by
  rw [← bins_take h, ← List.flatten_append, List.take_append_drop]
theorem top_lt {l : List Int} (h0 : ∀ x ∈ l, 0 ≤ x) : ∀ x ∈ l, 0 ≤ x ∧ x < (((maxF l + 1).toNat : Nat) : Int) := fun x hx => by
  have := h0 x hx
  have := le_maxF hx
  omega
theorem bins_enough {l : List Int} (h0 : ∀ x ∈ l, 0 ≤ x) {r : Nat} (h : (maxF l + 1).toNat ≤ r) : (bins l r l.length).flatten.length = l.length := by
  refine bins_flat_len (fun x hx => ?_) l.length (Nat.le_refl _)
  have := top_lt h0 x hx
  omega
theorem bins_done {l : List Int} (h0 : ∀ x ∈ l, 0 ≤ x) {r : Nat} (hr : r ≤ (maxF l + 1).toNat) (h : l.length ≤ (bins l r l.length).flatten.length) : (bins l r l.length).flatten = ordL l := by
  have h1 := bins_enough h0 (Nat.le_refl _)
  have h2 := bins_pre (l := l) (n := l.length) hr
  have h3 := congrArg List.length h2
  rw [h1, List.length_append] at h3
  rw [ordL, h2, List.eq_nil_of_length_eq_zero (show ((bins l (maxF l + 1).toNat l.length).drop r).flatten.length = 0 by omega), List.append_nil]
theorem bins_le {l : List Int} (h0 : ∀ x ∈ l, 0 ≤ x) {r : Nat} (hr : r ≤ (maxF l + 1).toNat) : (bins l r l.length).flatten.length ≤ l.length := by
  have h1 := bins_enough h0 (Nat.le_refl _)
  have h3 := congrArg List.length (bins_pre (l := l) (n := l.length) hr)
  rw [h1, List.length_append] at h3
  omega
theorem bins_next {l : List Int} {r n : Nat} : (bins l (r + 1) n).flatten = (bins l r n).flatten ++ binL l n r := by
  rw [bins, bins, List.range_succ, List.map_append, List.flatten_append]
  simp

set_option maxHeartbeats 2000000 in
set_option maxRecDepth 100000 in
theorem order_ref (w : World) (v : Value) (nodes : List Node) (ins outs : List Port) (hN : NetV w v nodes ins outs) (hF : Fits nodes ins outs) :
    Calls Try.prog 19 #[v] w fun e w' => ∃ v' o x, e = .returned (.tuple #[v', .int .i64 x]) ∧ Row kInt w' (fun _ => False) v' o ∧ OrdOut nodes ins outs x o ∧ Below w.heap.size w w' := by
  obtain ⟨An, cn, Ai, ci, Ao, co, rfl, hbox⟩ := hN.box
  let ob := netBox (.slice An nodes.length cn) (.slice Ai ins.length ci) (.slice Ao outs.length co)
  have hb0 : Below w.heap.size w (w.alloc ob) := (Below.refl _ _).alloc (Nat.le_refl _) _
  obtain ⟨z0, z1, z2, -, -, -, -⟩ := hbox (w.alloc ob) (Below.refl _ _)
  have HC := Lib.hid (lev_ref (w.alloc ob) _ nodes ins outs (hN.later hb0) hF)
  have HB0 := Lib.hid hb0
  have HF := Lib.hid hF
  clear hbox hN hF hb0
  go_enter Try.func19, Try.ntmps19
  go_wp2_with fail
  refine HC.out.mono ?_
  rintro e w1 ⟨v1, l, x, rfl, hr, hl, hb1⟩
  obtain ⟨A, c, rfl, -, -⟩ := hr.shape
  have HR := Lib.hid hr
  have HB1 := Lib.hid (HB0.out.trans (hb1.mono (by simp)))
  have hlen : l.length ≤ 1099511627776 := Nat.le_trans hl.length HF.out.nl
  have hnn := hl.nonneg
  have HL := Lib.hid hl
  have hbd : maxF l < 262144 := by
    obtain ⟨bb, h1, h2, h3, h4, h5⟩ := hl
    by_cases h0 : x = 0
    · have hz := errP_zero (h1.symm.trans h0)
      have hm := maxF_le (l := l) (m := 262143) (by omega) fun y hy => by
        have := (h4 h0).bound (formed_inN hz.2.1) y hy
        omega
      omega
    · rw [h5 h0]; decide
  obtain ⟨m, hm⟩ : ∃ m : Nat, m = (maxF l + 1).toNat := ⟨_, rfl⟩
  have hm2 : m ≤ 1048576 := by omega
  have HM := Lib.hid hm
  have HNN := Lib.hid hnn
  have HDONE := Lib.hid (fun r (hr : r ≤ m) (h : l.length ≤ (bins l r l.length).flatten.length) => bins_done hnn (by rw [← hm]; exact hr) h)
  have HENO := Lib.hid (fun r (hr : m ≤ r) => bins_enough hnn (show (maxF l + 1).toNat ≤ r by rw [← hm]; exact hr))
  have HLEB := Lib.hid (fun r (hr : r ≤ m) => bins_le hnn (show r ≤ (maxF l + 1).toNat by rw [← hm]; exact hr))
  have HO0 := Lib.hid (show Own kInt 3 (w1.alloc (.cells #[] 3)) none w1.heap.size (.slice (some ⟨w1.heap.size, 0, none⟩) 0 0) (nats (bins l 0 l.length).flatten) from Own.lit0 kInt 3 w1)
  have HBB0 := Lib.hid ((Below.refl w1.heap.size w1).alloc (Nat.le_refl _) (.cells #[] 3))
  clear hb1 HC z0 z1 z2 hr hl hnn hbd hm
  go_wp2_with fail
  go_loopw [6, 7, 8] (fun ov lv iv wr => ∃ r : Nat, lv = .int .i64 r ∧ r ≤ m ∧ Hid (Own kInt 3 wr none w1.heap.size ov (nats (bins l r l.length).flatten)) ∧ Hid (Below w1.heap.size w1 wr)) (fun ov lv iv _ => m - (intOf lv).toNat)
  case atStart => exact ⟨0, rfl, Nat.zero_le _, HO0, HBB0⟩
  case round =>
    clear HO0 HBB0
    obtain ⟨r, rfl, hr, HO, HB⟩ := hrel
    obtain ⟨Ab, cb, rfl, -, -⟩ := HO.out.shape
    have hfl : (nats (bins l r l.length).flatten).length = (bins l r l.length).flatten.length := List.length_map _
    rw [hfl] at HO
    rw [hfl]
    obtain ⟨F, hFF⟩ : ∃ F, (bins l r l.length).flatten = F := ⟨_, rfl⟩
    have HFF := Lib.hid hFF
    rw [hFF] at HO ⊢
    clear hfl
    by_cases hgo : F.length < l.length
    · have hrm : r < m := by
        rcases Nat.lt_or_ge r m with h | h
        · exact h
        · have := HENO.out r h
          rw [hFF] at this
          omega
      have HO0 := Lib.hid (show Own kInt 3 wr none w1.heap.size (.slice Ab F.length cb) (nats (F ++ binL l 0 r)) by rw [show binL l 0 r = [] from rfl, List.append_nil]; exact HO.out)
      have HB0' := Lib.hid HB.out
      clear hFF HO HB
      go_wp2_with fail
      obtain ⟨wo, hwo⟩ : ∃ wo, wo = wr := ⟨_, rfl⟩
      subst hwo
      go_loopw [6, 8] (fun ov iv wr => ∃ i : Nat, iv = .int .i64 i ∧ i ≤ l.length ∧ Hid (Own kInt 3 wr none w1.heap.size ov (nats (F ++ binL l i r))) ∧ Hid (Below w1.heap.size w1 wr)) (fun ov iv _ => l.length - (intOf iv).toNat)
      case atStart => exact ⟨0, rfl, Nat.zero_le _, HO0, HB0'⟩
      case round =>
        clear HO0 HB0'
        obtain ⟨i, rfl, hi, HO, HB⟩ := hrel
        by_cases hlt : i < l.length
        · obtain ⟨b, off, rfl, x0⟩ := HR.out.int_at hlt
          replace x0 := cellBelow HB.out x0
          have hg : l.getD i 0 = l[i] := by rw [List.getD_eq_getElem?_getD, List.getElem?_eq_getElem hlt]; rfl
          have HS := Lib.hid (binL_succ l i r)
          rw [hg] at HS
          obtain ⟨y, hy⟩ : ∃ y, l[i] = y := ⟨_, rfl⟩
          rw [hy] at x0 HS
          clear hg hy
          by_cases he : y = (r : Int)
          · have hq : (y == (r : Int)) = true := by simpa using he
            have HON := Lib.hid (show nats (F ++ binL l (i + 1) r) = nats (F ++ binL l i r) ++ [(i : Int)] by rw [HS.out, if_pos he]; simp)
            have hbl : (binL l i r).length ≤ i := by have := List.length_filter_le (fun k => decide (l.getD k 0 = (r : Int))) (List.range i); rw [List.length_range] at this; exact this
            have hun : ((nats (F ++ binL l i r)).length + 1) * 8 ≤ 140737488355328 := by rw [List.length_map, List.length_append]; omega
            have hb1 := HB.out.size
            clear he hbl
            go_wp2_with (at_builtin; go_loud (refine appI rfl (.tmp 34) (.tmp 36) rfl HO.out hb1 rfl (i : Int) _ rfl rfl hun ?_; intro v' w5 q1 q5 q6; rw [← HON.out] at q1; have HQ1 := Lib.hid q1; have HQ5 := Lib.hid q5; clear q1 q5 q6))
            refine ⟨⟨i + 1, by go_num, by omega, HQ1, Lib.hid (HB.out.grown HQ5.out HB.out.size (fun g hg => (HO.out.base hg).1))⟩, ?_⟩
            simp [intOf]; omega
          · have hq : (y == (r : Int)) = false := by simpa using he
            have HON := Lib.hid (show nats (F ++ binL l (i + 1) r) = nats (F ++ binL l i r) by rw [HS.out, if_neg he, List.append_nil])
            clear he
            go_wp2
            refine ⟨⟨i + 1, by go_num, by omega, by rw [HON.out]; exact HO, HB⟩, ?_⟩
            simp [intOf]; omega
        · obtain rfl : i = l.length := by omega
          have HON := Lib.hid (show nats (bins l (r + 1) l.length).flatten = nats (F ++ binL l l.length r) by rw [bins_next, HFF.out])
          go_wp2
          refine ⟨⟨r + 1, by go_num, by omega, by rw [HON.out]; exact HO, HB⟩, ?_⟩
          simp [intOf]; omega
    · have HEQ := Lib.hid (HDONE.out r hr (by rw [hFF]; omega))
      have HROW := Lib.hid (HO.out.rowS (fun _ => False) (fun _ _ h => h))
      have HBW := Lib.hid (HB1.out.trans (HB.out.mono HB1.out.size))
      clear hFF
      go_wp2
      go_ret2
      exact ⟨_, _, x, rfl, HROW.out, ⟨l, HL.out, by rw [← HFF.out, HEQ.out]⟩, HBW.out⟩
end Go.Proofs.Ytbfjacgfifecpaa
