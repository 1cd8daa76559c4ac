/- The state, at first and behind a cycle: slipstickref07. -/
import Derived.Test.YtdljgifoboiaeaaR07
namespace Go.Proofs.Ytdljgifoboiaeaa
open Go.RowKit

/-- a net as a value -/
def NetV (w : World) (v : Value) (nodes : List Node) (ins outs : List Port) : Prop :=
  ∃ vn vi vo, v = .agg #[vn, vi, vo] ∧ Row kNode w (fun _ => False) vn nodes ∧ Row kPort w (fun _ => False) vi ins ∧ Row kPort w (fun _ => False) vo outs
theorem NetV.later {w w' : World} {v : Value} {nodes : List Node} {ins outs : List Port} (h : NetV w v nodes ins outs) (hb : Below w.heap.size w w') : NetV w' v nodes ins outs := by
  obtain ⟨vn, vi, vo, rfl, h1, h2, h3⟩ := h
  exact ⟨vn, vi, vo, rfl, h1.later hb, h2.later hb, h3.later hb⟩
abbrev netBox (vn vi vo : Value) : Obj := .cells #[vn, vi, vo] 33
theorem NetV.box {w : World} {v : Value} {nodes : List Node} {ins outs : List Port} (h : NetV w v nodes ins outs) :
    ∃ An cn Ai ci Ao co, v = .agg #[.slice An nodes.length cn, .slice Ai ins.length ci, .slice Ao outs.length co] ∧
      ∀ W, Below (w.heap.size + 1) (w.alloc (netBox (.slice An nodes.length cn) (.slice Ai ins.length ci) (.slice Ao outs.length co))) W →
        W.cell? ⟨w.heap.size, 0, none⟩ = some (.slice An nodes.length cn) ∧ W.cell? ⟨w.heap.size, 1, none⟩ = some (.slice Ai ins.length ci) ∧ W.cell? ⟨w.heap.size, 2, none⟩ = some (.slice Ao outs.length co) ∧
        Row kNode W (fun _ => False) (.slice An nodes.length cn) nodes ∧ Row kPort W (fun _ => False) (.slice Ai ins.length ci) ins ∧ Row kPort W (fun _ => False) (.slice Ao outs.length co) outs ∧ Below w.heap.size w W := by
  obtain ⟨vn, vi, vo, rfl, h1, h2, h3⟩ := h
  obtain ⟨An, cn, rfl, -, -⟩ := h1.shape
  obtain ⟨Ai, ci, rfl, -, -⟩ := h2.shape
  obtain ⟨Ao, co, rfl, -, -⟩ := h3.shape
  refine ⟨An, cn, Ai, ci, Ao, co, rfl, fun W hW => ?_⟩
  have hb : Below w.heap.size w W := ((Below.refl _ _).alloc (Nat.le_refl _) _).trans (hW.mono (by omega))
  exact ⟨(hW.cell (p := ⟨w.heap.size, 0, none⟩) (by simp)).trans (World.cell?_alloc_new _ _ _ 0), (hW.cell (p := ⟨w.heap.size, 1, none⟩) (by simp)).trans (World.cell?_alloc_new _ _ _ 1), (hW.cell (p := ⟨w.heap.size, 2, none⟩) (by simp)).trans (World.cell?_alloc_new _ _ _ 2),
    h1.later hb, h2.later hb, h3.later hb, hb⟩

/-- a row of zeros -/
theorem make_ints (n : Nat) (hn : n ≤ 1099511627776) (W : World) : (Instr.makeSlice 26 (.int .i64 (n : Int)) (.int .i64 (n : Int))).run Try.prog W = .ok (.slice (some ⟨W.heap.size, 0, none⟩) n n) (W.alloc (.cells (madeCells #[.int .i64 0] n) 3)) := by
  obtain ⟨i0, hi, hz0, hz1, hz2⟩ := info_parts infoInt
  have hr := run_make (P := Try.prog) W 26 3 i0 (.int .i64 0) Try.underlying26 hi hz0 .i64 .i64 n n (by omega) (Int.le_refl _) (by rw [hz2]; omega) (by omega)
  rw [hz1] at hr
  simp only [Int.toNat_natCast, Nat.mul_one] at hr
  exact hr
theorem made_ints (n : Nat) (hn : n ≤ 1099511627776) (W : World) : Own kInt 3 (W.alloc (.cells (madeCells #[.int .i64 0] n) 3)) none W.heap.size (.slice (some ⟨W.heap.size, 0, none⟩) n n) (List.replicate n 0) := by
  have h := World.ownsRow_lit (base := W.heap.size) (e := 3) (size := 1) W (madeCells #[.int .i64 0] n) n (Nat.le_refl _) (by simp only [maxLen]; omega) (by simp [size_madeCells])
  refine Own.of_ints ?_ (fun _ _ => foot_none _ _)
  have e : (List.replicate n 0).map (fun x => Value.int .i64 x) = (madeCells #[.int .i64 0] n).toList := by rw [toList_madeCells_one]; simp
  rw [e, List.length_replicate]
  exact h

/-- a row that is filled from the left -/
def filled {α : Type} (f : α → Bool) (xs : List α) (k : Nat) : List Int := (xs.take k).map (fun x => b2i (f x)) ++ List.replicate (xs.length - k) 0
theorem filled_zero {α : Type} (f : α → Bool) (xs : List α) : filled f xs 0 = List.replicate xs.length 0 := by simp [filled]
theorem filled_length {α : Type} (f : α → Bool) (xs : List α) (k : Nat) (hk : k ≤ xs.length) : (filled f xs k).length = xs.length := by simp [filled]; omega
theorem filled_all {α : Type} (f : α → Bool) (xs : List α) : filled f xs xs.length = (xs.map f).map b2i := by simp [filled]
theorem filled_at {α : Type} (f : α → Bool) (xs : List α) (k : Nat) (hk : k < xs.length) : (filled f xs k)[k]? = some 0 := by
  have hl : ((xs.take k).map (fun x => b2i (f x))).length = k := by simp; omega
  rw [filled, List.getElem?_append_right (by omega), hl, Nat.sub_self, List.getElem?_replicate, if_pos (by omega)]
theorem filled_succ {α : Type} (f : α → Bool) (xs : List α) (k : Nat) (hk : k < xs.length) : (filled f xs k).set k (b2i (f xs[k])) = filled f xs (k + 1) := by
  have hl : ((xs.take k).map (fun x => b2i (f x))).length = k := by simp; omega
  rw [filled, List.set_append_right _ _ (by omega), hl, Nat.sub_self, filled, List.take_succ_eq_append_getElem hk]
  obtain ⟨m, hm⟩ : ∃ m, xs.length - k = m + 1 := ⟨xs.length - k - 1, by omega⟩
  rw [hm, show xs.length - (k + 1) = m by omega, List.replicate_succ, List.map_append, List.set_cons_zero, List.append_assoc]
  rfl
theorem filled_skip {α : Type} (f : α → Bool) (xs : List α) (k : Nat) (hk : k < xs.length) (h : f xs[k] = false) : filled f xs (k + 1) = filled f xs k := by
  rw [← filled_succ f xs k hk, h]
  apply List.ext_getElem?
  intro i
  rw [List.getElem?_set]
  split
  · rename_i he; subst he
    rw [filled_length f xs k (by omega), if_pos hk, filled_at f xs k hk]; rfl
  · rfl

def startR (nodes : List Node) : List Bool := nodes.map fun x => decide (x.kind = 7) && decide (x.b = 1)
def nextR (nodes : List Node) (vs : List Bool) : List Bool := nodes.map fun x => decide (x.kind = 7) && at_ vs x.a

set_option maxHeartbeats 2000000 in
set_option maxRecDepth 100000 in
theorem start_ref (w : World) (S : Nat → Prop) (hS : There S w) (v : Value) (nodes : List Node) (ins outs : List Port) (hN : NetV w v nodes ins outs) (hnl : nodes.length ≤ 1099511627776) (hk : ∀ x ∈ nodes, x.kind = 7 → x.b = 0 ∨ x.b = 1) :
    Calls Try.prog 96 #[v] w fun e w' => ∃ v', e = .returned v' ∧ Row kInt w' S v' ((startR nodes).map b2i) ∧ Below w.heap.size w w' := by
  obtain ⟨An, cn, Ai, ci, Ao, co, rfl, hbox⟩ := hN.box
  let ob := netBox (.slice An nodes.length cn) (.slice Ai ins.length ci) (.slice Ao outs.length co)
  have hmk := make_ints nodes.length hnl
  have hO := made_ints nodes.length hnl (w.alloc ob)
  have hsz : (w.alloc ob).heap.size = w.heap.size + 1 := by simp
  rw [hsz] at hO
  have HO := Lib.hid hO
  have HBOX := Lib.hid hbox
  have HK := Lib.hid hk
  have HSZ := Lib.hid hsz
  have hb1 : Below (w.heap.size + 1) (w.alloc ob) ((w.alloc ob).alloc (.cells (madeCells #[.int .i64 0] nodes.length) 3)) := (Below.refl _ _).alloc (by rw [hsz]; exact Nat.le_refl _) _
  have HB1 := Lib.hid hb1
  obtain ⟨z0, -, -, -⟩ := hbox (w.alloc ob) (Below.refl _ _)
  clear hO hbox hk hsz hb1 hN
  go_enter Try.func96, Try.ntmps96
  go_wp2_with fail
  go_loopw [4] (fun i wr => ∃ j : Nat, j ≤ nodes.length ∧ i = .int .i64 j ∧ Own kInt 3 wr none (w.heap.size + 1) (.slice (some ⟨w.heap.size + 1, 0, none⟩) nodes.length nodes.length) (filled (fun x : Node => decide (x.kind = 7) && decide (x.b = 1)) nodes j) ∧ Below (w.heap.size + 1) (w.alloc ob) wr) (fun i _ => nodes.length - (intOf i).toNat)
  case atStart => exact ⟨0, Nat.zero_le _, rfl, by rw [filled_zero]; exact HO.out, HB1.out⟩
  case round =>
    obtain ⟨j, hj, rfl, ho, hb⟩ := hrel
    clear z0
    obtain ⟨z0, -, -, hrn, -, -, hbw⟩ := HBOX.out _ hb
    have HB := Lib.hid hb
    have HBW := Lib.hid hbw
    have HOW := Lib.hid ho
    clear hb hbw
    by_cases hlt : j < nodes.length
    · obtain ⟨b, off, rfl, y0, y1, y2, y3⟩ := hrn.node_at hlt
      have hat := ho.cellAt? (filled_at _ nodes j hlt)
      obtain ⟨x0, x1⟩ := hat
      have HF := Lib.hid (filled_succ (fun x : Node => decide (x.kind = 7) && decide (x.b = 1)) nodes j hlt)
      have HG := Lib.hid (filled_skip (fun x : Node => decide (x.kind = 7) && decide (x.b = 1)) nodes j hlt)
      have HM := Lib.hid (HK.out _ (List.getElem_mem hlt))
      clear hrn y1 y3 ho
      generalize nodes[j] = x at y0 y2 HF HG HM
      obtain ⟨kind, xa, xb, xc⟩ := x
      dsimp only at y0 y2 HF HG HM
      by_cases h7 : kind = 7
      · subst h7
        have HXB := Lib.hid (show xb = b2i (decide ((7:Int) = 7) && decide (xb = 1)) by rcases HM.out rfl with h | h <;> subst h <;> rfl)
        go_wp2
        go_roundw
        case rel =>
          have hst := HOW.out.store (FootIn.none _) (by have := HB.out.size; simp at this; omega) j xb
          exact ⟨j + 1, by omega, by go_num, by rw [← HF.out, ← HXB.out]; exact hst.1, HB.out.setCell (Nat.le_refl _) _⟩
        case measure => simp [intOf]; omega
      · have h7' : (kind == 7) = false := by simpa using h7
        go_wp2
        go_roundw
        case rel => exact ⟨j + 1, by omega, by go_num, by rw [HG.out (by simp [h7])]; exact HOW.out, HB.out⟩
        case measure => simp [intOf]; omega
    · obtain rfl : j = nodes.length := by omega
      rw [filled_all] at ho
      clear HOW
      go_wp2
      go_ret
      exact ⟨_, rfl, ho.rowS S (fun g hg hs => by have h1 := (ho.base hg).1; have := hS g hs; omega), HBW.out⟩

set_option maxHeartbeats 2000000 in
set_option maxRecDepth 100000 in
theorem next_ref (w : World) (S S' : Nat → Prop) (hS : There S w) (v u : Value) (nodes : List Node) (ins outs : List Port) (vs : List Bool) (hN : NetV w v nodes ins outs) (hx : Row kInt w S' u (vs.map b2i)) (hvl : vs.length = nodes.length) (hnl : nodes.length ≤ 1099511627776) (hk : ∀ x ∈ nodes, x.kind = 7 → 0 ≤ x.a ∧ x.a < nodes.length) :
    Calls Try.prog 100 #[v, u] w fun e w' => ∃ v', e = .returned v' ∧ Row kInt w' S v' ((nextR nodes vs).map b2i) ∧ Below w.heap.size w w' := by
  obtain ⟨An, cn, Ai, ci, Ao, co, rfl, hbox⟩ := hN.box
  let ob := netBox (.slice An nodes.length cn) (.slice Ai ins.length ci) (.slice Ao outs.length co)
  have hmk := make_ints nodes.length hnl
  have hO := made_ints nodes.length hnl (w.alloc ob)
  have hsz : (w.alloc ob).heap.size = w.heap.size + 1 := by simp
  rw [hsz] at hO
  have HO := Lib.hid hO
  have HBOX := Lib.hid hbox
  have HK := Lib.hid hk
  have HSZ := Lib.hid hsz
  have HX := Lib.hid hx
  have hb1 : Below (w.heap.size + 1) (w.alloc ob) ((w.alloc ob).alloc (.cells (madeCells #[.int .i64 0] nodes.length) 3)) := (Below.refl _ _).alloc (by rw [hsz]; exact Nat.le_refl _) _
  have HB1 := Lib.hid hb1
  obtain ⟨z0, -, -, -⟩ := hbox (w.alloc ob) (Below.refl _ _)
  obtain ⟨Ax, cx, rfl, -, -⟩ := hx.shape
  have hml : (vs.map b2i).length = nodes.length := by simp [hvl]
  rw [hml] at *
  have HVL := Lib.hid hvl
  clear hO hbox hk hsz hb1 hN hx hml hvl
  go_enter Try.func100, Try.ntmps100
  go_wp2_with fail
  go_loopw [6] (fun i wr => ∃ j : Nat, j ≤ nodes.length ∧ i = .int .i64 j ∧ Own kInt 3 wr none (w.heap.size + 1) (.slice (some ⟨w.heap.size + 1, 0, none⟩) nodes.length nodes.length) (filled (fun x : Node => decide (x.kind = 7) && at_ vs x.a) nodes j) ∧ Below (w.heap.size + 1) (w.alloc ob) wr) (fun i _ => nodes.length - (intOf i).toNat)
  case atStart => exact ⟨0, Nat.zero_le _, rfl, by rw [filled_zero]; exact HO.out, HB1.out⟩
  case round =>
    obtain ⟨j, hj, rfl, ho, hb⟩ := hrel
    clear z0
    obtain ⟨z0, -, -, hrn, -, -, hbw⟩ := HBOX.out _ hb
    have HB := Lib.hid hb
    have HBW := Lib.hid hbw
    have HOW := Lib.hid ho
    clear hb
    by_cases hlt : j < nodes.length
    · obtain ⟨b, off, rfl, y0, y1, y2, y3⟩ := hrn.node_at hlt
      have hat := ho.cellAt? (filled_at _ nodes j hlt)
      obtain ⟨x0, x1⟩ := hat
      have HF := Lib.hid (filled_succ (fun x : Node => decide (x.kind = 7) && at_ vs x.a) nodes j hlt)
      have HG := Lib.hid (filled_skip (fun x : Node => decide (x.kind = 7) && at_ vs x.a) nodes j hlt)
      have HM := Lib.hid (HK.out _ (List.getElem_mem hlt))
      clear hrn y2 y3 ho
      generalize nodes[j] = x at y0 y1 HF HG HM
      obtain ⟨kind, xa, xb, xc⟩ := x
      dsimp only at y0 y1 HF HG HM
      by_cases h7 : kind = 7
      · subst h7
        obtain ⟨h0, h1⟩ := HM.out rfl
        obtain ⟨q, rfl⟩ := Int.eq_ofNat_of_zero_le h0
        have hq : q < nodes.length := by omega
        obtain ⟨bx, ox, rfl, hcell⟩ := (HX.out.later hbw).b2i_at (i := q) (by have := HVL.out; omega)
        have HXB := Lib.hid (show b2i (at_ vs q) = b2i (decide ((7:Int) = 7) && at_ vs q) by simp)
        clear hbw h0 h1 HM HG
        generalize b2i (at_ vs q) = y at hcell HXB
        go_wp2
        go_roundw
        case rel =>
          have hst := HOW.out.store (FootIn.none _) (by have := HB.out.size; simp at this; omega) j y
          exact ⟨j + 1, by omega, by go_num, by rw [← HF.out, ← HXB.out]; exact hst.1, HB.out.setCell (Nat.le_refl _) _⟩
        case measure => simp [intOf]; omega
      · have h7' : (kind == 7) = false := by simpa using h7
        clear hbw
        go_wp2
        go_roundw
        case rel => exact ⟨j + 1, by omega, by go_num, by rw [HG.out (by simp [h7])]; exact HOW.out, HB.out⟩
        case measure => simp [intOf]; omega
    · obtain rfl : j = nodes.length := by omega
      rw [filled_all] at ho
      clear HOW hbw
      go_wp2
      go_ret
      exact ⟨_, rfl, ho.rowS S (fun g hg hs => by have h1 := (ho.base hg).1; have := hS g hs; omega), HBW.out⟩
end Go.Proofs.Ytdljgifoboiaeaa
