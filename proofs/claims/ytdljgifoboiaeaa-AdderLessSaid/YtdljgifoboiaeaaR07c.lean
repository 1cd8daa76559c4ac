/- All nodes' values in a cycle: slipstickref07. -/
import Derived.Test.YtdljgifoboiaeaaR07b
namespace Go.Proofs.Ytdljgifoboiaeaa
open Go.RowKit

def valB (x : Node) (vs st inn : List Bool) (i : Nat) : Bool :=
  if x.kind = 0 then decide (x.a = 1) else if x.kind = 1 then at_ inn i else if x.kind = 7 then at_ st i else gateB x vs
/-- the values of the first k nodes, in the order of their places -/
def valsK (nodes : List Node) (st inn : List Bool) : Nat → List Bool
  | 0 => []
  | k + 1 => valsK nodes st inn k ++ [valB (nodes.getD k ⟨0, 0, 0, 0⟩) (valsK nodes st inn k) st inn k]
theorem valsK_length (nodes : List Node) (st inn : List Bool) (k : Nat) : (valsK nodes st inn k).length = k := by
  induction k with
  | zero => rfl
  | succ k ih => simp [valsK, ih]
theorem at_pad (vs : List Bool) (m : Nat) (i : Int) : at_ (vs ++ List.replicate m false) i = at_ vs i := by
  unfold at_
  rw [List.getD_eq_getElem?_getD, List.getD_eq_getElem?_getD, List.getElem?_append]
  split
  · rfl
  · rename_i h
    rw [List.getElem?_replicate, List.getElem?_eq_none (by omega)]
    split <;> rfl
theorem gateB_pad (x : Node) (vs : List Bool) (m : Nat) : gateB x (vs ++ List.replicate m false) = gateB x vs := by simp only [gateB, at_pad]
def padded (n : Nat) (vs : List Bool) : List Int := (vs ++ List.replicate (n - vs.length) false).map b2i
theorem padded_nil (n : Nat) : padded n [] = List.replicate n 0 := by simp [padded, b2i]
theorem padded_length (n : Nat) (vs : List Bool) (h : vs.length ≤ n) : (padded n vs).length = n := by simp [padded]; omega
theorem padded_all (n : Nat) (vs : List Bool) (h : vs.length = n) : padded n vs = vs.map b2i := by simp [padded, h]
theorem padded_at (n : Nat) (vs : List Bool) (h : vs.length < n) : (padded n vs)[vs.length]? = some 0 := by
  rw [padded, List.getElem?_map, List.getElem?_append_right (Nat.le_refl _), Nat.sub_self, List.getElem?_replicate, if_pos (by omega)]; rfl
theorem padded_set (n : Nat) (vs : List Bool) (b : Bool) (h : vs.length < n) : (padded n vs).set vs.length (b2i b) = padded n (vs ++ [b]) := by
  obtain ⟨m, hm⟩ : ∃ m, n - vs.length = m + 1 := ⟨n - vs.length - 1, by omega⟩
  simp only [padded, List.length_append, List.length_cons, List.length_nil, hm, show n - (vs.length + (0 + 1)) = m by omega, List.map_append, List.replicate_succ, List.map_cons, List.map_nil]
  rw [List.set_append_right _ _ (by simp)]
  simp

def Ordered (nodes : List Node) : Prop := ∀ i (x : Node), nodes[i]? = some x → rightB x i = true
theorem rightB_uses {x : Node} {n : Nat} (h : rightB x n = true) : ∀ u, u ∈ usesR x → 0 ≤ u ∧ u < n := by
  simp only [rightB, Bool.and_eq_true, List.all_eq_true, decide_eq_true_eq] at h
  exact h.1.2
theorem rightB_kind {x : Node} {n : Nat} (h : rightB x n = true) : 0 ≤ x.kind ∧ x.kind ≤ 7 := by
  simp only [rightB, Bool.and_eq_true, decide_eq_true_eq] at h
  have := h.1.1
  unfold many at this
  repeat' split at this
  all_goals omega
theorem rightB_const {x : Node} {n : Nat} (h : rightB x n = true) (h0 : x.kind = 0) : x.a = 0 ∨ x.a = 1 := by
  simp only [rightB, if_pos h0, Bool.and_eq_true, decide_eq_true_eq, bitB] at h
  exact h.2.1.1
theorem rightB_reg {x : Node} {n : Nat} (h : rightB x n = true) (h7 : x.kind = 7) : (x.b = 0 ∨ x.b = 1) ∧ 0 ≤ x.a ∧ x.a < n := by
  refine ⟨?_, rightB_uses h _ (by simp [usesR, many, h7])⟩
  simp only [rightB, if_neg (show ¬ x.kind = 0 by omega), if_pos h7, Bool.and_eq_true, decide_eq_true_eq, bitB] at h
  exact h.2.1
theorem rightB_mono {x : Node} {n m : Nat} (h : rightB x n = true) (hm : n ≤ m) : rightB x m = true := by
  simp only [rightB, Bool.and_eq_true, List.all_eq_true, decide_eq_true_eq] at h ⊢
  exact ⟨⟨h.1.1, fun u hu => by have := h.1.2 u hu; omega⟩, h.2⟩
theorem Ordered.all {nodes : List Node} (h : Ordered nodes) : nodes.all (fun x => rightB x nodes.length) = true := by
  rw [List.all_eq_true]
  intro x hx
  obtain ⟨i, hi, rfl⟩ := List.mem_iff_getElem.1 hx
  exact rightB_mono (h i _ (by simp [hi])) (by omega)
theorem Ordered.nil : Ordered [] := fun i x h => by simp at h
theorem Ordered.snoc {nodes : List Node} (h : Ordered nodes) {x : Node} (hx : rightB x nodes.length = true) : Ordered (nodes ++ [x]) := by
  intro i y hy
  rw [List.getElem?_append] at hy
  split at hy
  · exact h i y hy
  · rename_i hi
    have : i = nodes.length := by have := (List.getElem?_eq_some_iff.1 hy).1; simp at this; omega
    subst this
    simp at hy
    subst hy
    exact hx
theorem Ordered.mem {nodes : List Node} (h : Ordered nodes) {x : Node} (hx : x ∈ nodes) : ∃ i, i < nodes.length ∧ rightB x i = true := by
  obtain ⟨i, hi, rfl⟩ := List.mem_iff_getElem.1 hx
  exact ⟨i, hi, h i _ (by simp [hi])⟩

def placesOf (n : Nat) : List Int := (List.range n).map fun i : Nat => (i : Int)
theorem places_length (n : Nat) : (placesOf n).length = n := by simp [placesOf]
theorem places_at (n i : Nat) (h : i < (placesOf n).length) : (placesOf n)[i] = (i : Int) := by simp [placesOf]

set_option maxHeartbeats 4000000 in
set_option maxRecDepth 100000 in
theorem values_ref (w : World) (S S1 S2 S3 : Nat → Prop) (hS : There S w) (v vord vst vin : Value) (nodes : List Node) (ins outs : List Port) (st inn : List Bool) (hN : NetV w v nodes ins outs) (hord : Row kInt w S1 vord (placesOf nodes.length))
    (hst : Row kInt w S2 vst (st.map b2i)) (hin : Row kInt w S3 vin (inn.map b2i)) (hsl : st.length = nodes.length) (hil : inn.length = nodes.length) (hnl : nodes.length ≤ 1099511627776) (hk : Ordered nodes) :
    Calls Try.prog 98 #[v, vord, vst, vin] w fun e w' => ∃ v', e = .returned v' ∧ Row kInt w' S v' ((valsK nodes st inn nodes.length).map b2i) ∧ Below w.heap.size w w' := by
  obtain ⟨An, cn, Ai, ci, Ao, co, rfl, hbox⟩ := hN.box
  let ob := netBox (.slice An nodes.length cn) (.slice Ai ins.length ci) (.slice Ao outs.length co)
  have hmk := make_ints nodes.length hnl
  have hO := made_ints nodes.length hnl (w.alloc ob)
  have hsz : (w.alloc ob).heap.size = w.heap.size + 1 := by simp
  rw [hsz] at hO
  have hb1 : Below (w.heap.size + 1) (w.alloc ob) ((w.alloc ob).alloc (.cells (madeCells #[.int .i64 0] nodes.length) 3)) := (Below.refl _ _).alloc (by rw [hsz]; exact Nat.le_refl _) _
  obtain ⟨z0, -, -, -⟩ := hbox (w.alloc ob) (Below.refl _ _)
  obtain ⟨A1, c1, rfl, -, -⟩ := hord.shape
  obtain ⟨A2, c2, rfl, -, -⟩ := hst.shape
  obtain ⟨A3, c3, rfl, -, -⟩ := hin.shape
  have h1 : (placesOf nodes.length).length = nodes.length := places_length _
  have h2 : (st.map b2i).length = nodes.length := by simp [hsl]
  have h3 : (inn.map b2i).length = nodes.length := by simp [hil]
  rw [h1] at hord ⊢
  rw [h2] at hst ⊢
  rw [h3] at hin ⊢
  have HO := Lib.hid hO
  have HBOX := Lib.hid hbox
  have HK := Lib.hid hk
  have HORD := Lib.hid hord
  have HST := Lib.hid hst
  have HIN := Lib.hid hin
  have HSL := Lib.hid hsl
  have HIL := Lib.hid hil
  have HB1 := Lib.hid hb1
  clear hO hbox hk hsz hb1 hN hord hst hin hsl hil h1 h2 h3
  go_enter Try.func98, Try.ntmps98
  go_wp2_with fail
  go_loopw [10] (fun i wr => ∃ j : Nat, j ≤ nodes.length ∧ i = .int .i64 j ∧ Own kInt 3 wr none (w.heap.size + 1) (.slice (some ⟨w.heap.size + 1, 0, none⟩) nodes.length nodes.length) (padded nodes.length (valsK nodes st inn j)) ∧ Below (w.heap.size + 1) (w.alloc ob) wr) (fun i _ => nodes.length - (intOf i).toNat)
  case atStart => exact ⟨0, Nat.zero_le _, rfl, by rw [valsK, padded_nil]; exact HO.out, HB1.out⟩
  case round =>
    obtain ⟨j, hj, rfl, ho, hb⟩ := hrel
    clear z0
    obtain ⟨z0, -, -, hrn, -, -, hbw⟩ := HBOX.out _ hb
    have HB := Lib.hid hb
    by_cases hlt : j < nodes.length
    · obtain ⟨b, off, rfl, y0, y1, y2, y3⟩ := hrn.node_at hlt
      obtain ⟨b1, o1, rfl, q1⟩ := (HORD.out.later hbw).int_at (i := j) (by rw [places_length]; exact hlt)
      rw [places_at] at q1
      have hszr : w.heap.size + 1 ≤ wr.heap.size := by have := hb.size; simp at this; omega
      obtain ⟨xb, hxb⟩ : ∃ xb, xb = (Obj.cells #[.int .i64 nodes[j].kind, .int .i64 nodes[j].a, .int .i64 nodes[j].b, .int .i64 nodes[j].c] 117) := ⟨_, rfl⟩
      have hbw2 := hbw.alloc (show w.heap.size ≤ wr.heap.size by omega) xb
      obtain ⟨b2, o2, rfl, q2⟩ := (HST.out.later hbw2).b2i_at (i := j) (by have := HSL.out; omega)
      obtain ⟨b3, o3, rfl, q3⟩ := (HIN.out.later hbw2).b2i_at (i := j) (by have := HIL.out; omega)
      have hvl := valsK_length nodes st inn j
      have ho2 := ho.kept (Kept.of_below_all ((Below.refl _ _).alloc (Nat.le_refl _) xb) (FootIn.none _) (Nat.le_refl _))
      have hat := ho2.cellAt? (show (padded nodes.length (valsK nodes st inn j))[j]? = some 0 by have h := padded_at nodes.length (valsK nodes st inn j) (by omega); rw [hvl] at h; exact h)
      obtain ⟨x0, x1⟩ := hat
      have HO2 := Lib.hid ho2
      have HR := Lib.hid (HK.out j nodes[j] (by simp [hlt]))
      have hstep : valsK nodes st inn (j + 1) = valsK nodes st inn j ++ [valB nodes[j] (valsK nodes st inn j) st inn j] := by
        rw [valsK, List.getD_eq_getElem?_getD, List.getElem?_eq_getElem hlt]; rfl
      have HSTEP := Lib.hid hstep
      have HSET := Lib.hid (fun bb : Bool => padded_set nodes.length (valsK nodes st inn j) bb (by omega))
      rw [hvl] at HSET
      have HVL := Lib.hid hvl
      have HB2 := Lib.hid (hb.alloc hszr xb)
      have HBW := Lib.hid hbw
      rw [hxb] at HO2 HB2 q2 q3 x0 x1
      clear hrn hxb hstep hvl ho hb hbw hbw2 ho2
      generalize nodes[j] = x at *
      generalize valsK nodes st inn j = vs at *
      obtain ⟨kind, xa, xb', xc⟩ := x
      dsimp only at *
      have hkk := rightB_kind HR.out
      dsimp only at hkk
      have hcase : kind = 0 ∨ kind = 1 ∨ kind = 7 ∨ (2 ≤ kind ∧ kind ≤ 6) := by omega
      clear hkk
      rcases hcase with rfl | rfl | rfl | hg
      · have HXB := Lib.hid (show xa = b2i (valB ⟨0, xa, xb', xc⟩ vs st inn j) by rcases rightB_const HR.out rfl with h | h <;> simp only at h <;> subst h <;> rfl)
        go_wp2
        go_roundw
        case rel =>
          have hs := HO2.out.store (FootIn.none _) (by simp; omega) j xa
          exact ⟨j + 1, by omega, by go_num, by rw [HSTEP.out, ← HSET.out, ← HXB.out]; exact hs.1, HB2.out.setCell (Nat.le_refl _) _⟩
        case measure => simp [intOf]; omega
      · have HXB := Lib.hid (show b2i (at_ inn j) = b2i (valB ⟨1, xa, xb', xc⟩ vs st inn j) by rfl)
        generalize b2i (at_ inn j) = y at *
        go_wp2
        go_roundw
        case rel =>
          have hs := HO2.out.store (FootIn.none _) (by simp; omega) j y
          exact ⟨j + 1, by omega, by go_num, by rw [HSTEP.out, ← HSET.out, ← HXB.out]; exact hs.1, HB2.out.setCell (Nat.le_refl _) _⟩
        case measure => simp [intOf]; omega
      · have HXB := Lib.hid (show b2i (at_ st j) = b2i (valB ⟨7, xa, xb', xc⟩ vs st inn j) by rfl)
        generalize b2i (at_ st j) = y at *
        go_wp2
        go_roundw
        case rel =>
          have hs := HO2.out.store (FootIn.none _) (by simp; omega) j y
          exact ⟨j + 1, by omega, by go_num, by rw [HSTEP.out, ← HSET.out, ← HXB.out]; exact hs.1, HB2.out.setCell (Nat.le_refl _) _⟩
        case measure => simp [intOf]; omega
      · have hk0 : (kind == 0) = false := by rw [beq_eq_false_iff_ne]; omega
        have hk1 : (kind == 1) = false := by rw [beq_eq_false_iff_ne]; omega
        have hk7 : (kind == 7) = false := by rw [beq_eq_false_iff_ne]; omega
        have HXB := Lib.hid (show b2i (gateB ⟨kind, xa, xb', xc⟩ (vs ++ List.replicate (nodes.length - vs.length) false)) = b2i (valB ⟨kind, xa, xb', xc⟩ vs st inn j) by
          rw [gateB_pad, valB, if_neg (by simp only; omega), if_neg (by simp only; omega), if_neg (by simp only; omega)])
        have HG := Lib.hid hg
        have hvn : vs.length ≤ nodes.length := by have := HVL.out; omega
        clear hg
        have hrow : Row kInt (wr.alloc (.cells #[.int .i64 kind, .int .i64 xa, .int .i64 xb', .int .i64 xc] 117)) (fun _ => False) (.slice (some ⟨w.heap.size + 1, 0, none⟩) nodes.length nodes.length) ((vs ++ List.replicate (nodes.length - vs.length) false).map b2i) :=
          HO2.out.rowS (fun _ => False) (fun _ _ h => h)
        have HROW := Lib.hid hrow
        clear hrow
        go_wp2_with fail
        refine (gate_ref _ (fun _ => False) ⟨kind, xa, xb', xc⟩ _ (vs ++ List.replicate (nodes.length - vs.length) false) HROW.out HG.out (fun u hu => by have := rightB_uses HR.out u hu; have := HVL.out; simp; omega) (by simp; omega)).mono ?_
        rintro e w2 ⟨rfl, hb3⟩
        have HO3 := Lib.hid (HO2.out.kept (Kept.of_below_all hb3 (FootIn.none _) (Nat.le_refl _)))
        have HB3 := Lib.hid (HB2.out.trans (hb3.mono (Nat.le_trans (by simp) HB2.out.size)))
        have hs3 := hb3.size
        rw [HXB.out]
        have hat3 := HO3.out.cellAt? (show (padded nodes.length vs)[j]? = some 0 by have h := padded_at nodes.length vs (by have := HVL.out; omega); rw [HVL.out] at h; exact h)
        obtain ⟨u0, u1⟩ := hat3
        clear hb3
        go_wp2_with fail
        go_roundw
        case rel =>
          have hs := HO3.out.store (FootIn.none _) (by simp at hs3; omega) j (b2i (valB ⟨kind, xa, xb', xc⟩ vs st inn j))
          exact ⟨j + 1, by omega, by go_num, by rw [HSTEP.out, ← HSET.out]; exact hs.1, HB3.out.setCell (Nat.le_refl _) _⟩
        case measure => simp [intOf]; omega
    · obtain rfl : j = nodes.length := by omega
      rw [padded_all _ _ (valsK_length _ _ _ _)] at ho
      have HBW := Lib.hid hbw
      clear hb hbw
      go_wp2
      go_ret
      exact ⟨_, rfl, ho.rowS S (fun g hg hs => by have h1 := (ho.base hg).1; have := hS g hs; omega), HBW.out⟩
end Go.Proofs.Ytdljgifoboiaeaa
