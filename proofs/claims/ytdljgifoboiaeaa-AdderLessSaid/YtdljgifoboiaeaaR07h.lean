/- One cycle: slipstickref07.Eval. -/
import Derived.Test.YtdljgifoboiaeaaR07g
namespace Go.Proofs.Ytdljgifoboiaeaa
open Go.RowKit

def evalR (nodes : List Node) (ins outs : List Port) (nums : List (List Int)) : List (List Int) :=
  outsR outs (valsK nodes (startR nodes) (inputsR nodes.length ins (nums.map partsVal)) nodes.length)

theorem eval_bad (w : World) (S1 : Nat → Prop) (v u : Value) (nodes : List Node) (ins outs : List Port) (nums : List (List Int)) (hN : NetV w v nodes ins outs) (hx : Row (kRow (kNum .u32)) w S1 u nums) (hnl : nodes.length ≤ 1099511627776) (hil : ins.length ≤ 1073741824) (hol : outs.length ≤ 1073741824) (hf : formedB nodes ins outs = false) :
    Calls Try.prog 61 #[v, u] w fun e w' => e = .returned (.tuple #[.slice none 0 0, .bool false]) ∧ Below w.heap.size w w' := by
  obtain ⟨An, cn, Ai, ci, Ao, co, rfl, hbox⟩ := hN.box
  obtain ⟨Ax, cx, rfl, -, -⟩ := hx.shape
  let ob := netBox (.slice An nodes.length cn) (.slice Ai ins.length ci) (.slice Ao outs.length co)
  obtain ⟨z0, z1, z2, hr1, hr2, hr3, hbw⟩ := hbox (w.alloc ob) (Below.refl _ _)
  have HN := Lib.hid (show NetV (w.alloc ob) (.agg #[.slice An nodes.length cn, .slice Ai ins.length ci, .slice Ao outs.length co]) nodes ins outs from ⟨_, _, _, rfl, hr1, hr2, hr3⟩)
  have HBW := Lib.hid hbw
  have HF := Lib.hid hf
  clear hbox hr1 hr2 hr3 hbw hf hN hx
  go_enter Try.func61, Try.ntmps61
  go_wp2_with fail
  refine (fast_bad _ _ nodes ins outs HN.out hnl hil hol HF.out).mono ?_
  rintro e w1 ⟨rfl, hb1⟩
  have HB := Lib.hid (HBW.out.trans (hb1.mono HBW.out.size))
  clear hb1
  go_wp2
  go_ret2
  exact ⟨rfl, HB.out⟩

theorem lit_row {α : Type} {k : Kd α} {S : Nat → Prop} (e : TypeId) (w : World) (xs : List (List α)) (vs : List Value) (hl : vs.length = xs.length) (hl2 : xs.length ≤ 1099511627776) (h : ∀ (i : Nat) x v, xs[i]? = some x → vs[i]? = some v → Row k w (fun i => S i) v x) (hS : There S w) :
    Row (kRow k) (w.alloc (.cells vs.toArray e)) S (.slice (some ⟨w.heap.size, 0, none⟩) xs.length xs.length) xs := by
  have hb : Below w.heap.size w (w.alloc (.cells vs.toArray e)) := (Below.refl _ _).alloc (Nat.le_refl _) _
  have hflat : (vs.map fun v => [v]).flatten = vs := by
    clear hl h hb
    induction vs with
    | nil => rfl
    | cons v vs ih => simp [ih]
  refine ⟨_, _, vs.map fun v => [v], rfl, Nat.le_refl _, by simp only [maxLen]; omega, (fun h => nomatch h), ⟨by simp [hl], fun i x cs hx hc => ?_⟩, fun hn => ⟨_, _, rfl, by simp, fun hs => by have := hS _ hs; omega, fun j u hu => ?_⟩⟩
  · rw [List.getElem?_map] at hc
    obtain ⟨v, hv, rfl⟩ := Option.map_eq_some_iff.1 hc
    exact ⟨v, rfl, (h i x v hx hv).later hb⟩
  · rw [hflat] at hu
    rw [Nat.zero_add, World.cell?_alloc_new]
    simpa using hu

set_option maxHeartbeats 4000000 in
set_option maxRecDepth 100000 in
theorem eval_ref (w : World) (S S1 : Nat → Prop) (hS : There S w) (v u : Value) (nodes : List Node) (ins outs : List Port) (nums : List (List Int)) (hN : NetV w v nodes ins outs) (hx : Row (kRow (kNum .u32)) w S1 u nums)
    (hnl : nodes.length ≤ 1099511627776) (hk : Ordered nodes) (hi : okPorts nodes ins) (ho : okPorts nodes outs) (hf : formedB nodes ins outs = true) (hrow : okRow nodes ins nums) :
    Calls Try.prog 61 #[v, u] w fun e w' => ∃ v', e = .returned (.tuple #[v', .bool true]) ∧ Row (kRow (kNum .u32)) w' S v' (evalR nodes ins outs nums) ∧ Below w.heap.size w w' := by
  obtain ⟨An, cn, Ai, ci, Ao, co, rfl, hbox⟩ := hN.box
  obtain ⟨Ax, cx, rfl, -, -⟩ := hx.shape
  let ob := netBox (.slice An nodes.length cn) (.slice Ai ins.length ci) (.slice Ao outs.length co)
  have hsz : (w.alloc ob).heap.size = w.heap.size + 1 := by simp
  obtain ⟨z0, z1, z2, hr1, hr2, hr3, hbw⟩ := hbox (w.alloc ob) (Below.refl _ _)
  have HN := Lib.hid (show NetV (w.alloc ob) (.agg #[.slice An nodes.length cn, .slice Ai ins.length ci, .slice Ao outs.length co]) nodes ins outs from ⟨_, _, _, rfl, hr1, hr2, hr3⟩)
  have HBOX := Lib.hid hbox
  have HSZ := Lib.hid hsz
  have HX := Lib.hid (hx.later ((Below.refl _ _).alloc (Nat.le_refl _) ob))
  have HROW := Lib.hid hrow
  clear hbox hr1 hr2 hr3 hbw hN hx hsz hrow
  go_enter Try.func61, Try.ntmps61
  go_wp2_with fail
  refine (fast_ref _ (fun _ => False) (fun _ h => h.elim) _ nodes ins outs HN.out hnl hi.1 ho.1 hk hf).mono ?_
  rintro e w1 ⟨v1, rfl, hr1, hb1⟩
  obtain ⟨A1, c1, rfl, -, -⟩ := hr1.shape
  have HX1 := Lib.hid (HX.out.later hb1)
  have HR1 := Lib.hid hr1
  rw [HSZ.out] at hb1
  obtain ⟨z0, z1, z2, hq1, hq2, hq3, hbw⟩ := HBOX.out _ hb1
  have HN1 := Lib.hid (show NetV w1 (.agg #[.slice An nodes.length cn, .slice Ai ins.length ci, .slice Ao outs.length co]) nodes ins outs from ⟨_, _, _, rfl, hq1, hq2, hq3⟩)
  have HBW := Lib.hid hbw
  clear hr1 hb1 hq1 hq2 hq3 hbw
  have hbl : Below w1.heap.size w1 (w1.alloc (.cells #[.slice Ax nums.length cx] 45)) := (Below.refl _ _).alloc (Nat.le_refl _) _
  have HL := Lib.hid (lit_row (k := kRow (kNum .u32)) (S := fun _ => False) 45 w1 [nums] [.slice Ax nums.length cx] rfl (by simp) (fun i x v hx hv => by
    match i, hx, hv with
    | 0, hx, hv => simp at hx hv; subst hx; subst hv; exact HX1.out.mono (fun _ _ h => h.elim)) (fun _ h => h.elim))
  have HBL := Lib.hid hbl
  clear hbl
  go_wp2_with fail
  refine (through_ref _ S _ _ (fun i hi => by have := hS i hi; have := HBW.out.size; simp; omega) _ _ _ nodes ins outs [nums] (HN1.out.later HBL.out) (HR1.out.later HBL.out) HL.out hnl hk hi ho (by simp) (by intro r hr; simp at hr; subst hr; exact HROW.out)).mono ?_
  rintro e w2 ⟨v2, rfl, hr2, hb2⟩
  have hth : throughR nodes ins outs ([nums].map fun r => r.map partsVal) = [evalR nodes ins outs nums] := by
    simp [throughR, evalR, cycleR_eq, stateR]
  rw [hth] at hr2
  obtain ⟨A2, c2, rfl, -, -⟩ := hr2.shape
  obtain ⟨b, off, A3, c3, rfl, x0, hr3⟩ := hr2.row_at (i := 0) (by simp)
  have HR3 := Lib.hid hr3
  have HB2 := Lib.hid ((HBW.out.trans (HBL.out.mono HBW.out.size)).trans (hb2.mono (by have := HBW.out.size; simp; omega)))
  clear hr2 hb2 hth hr3
  simp only [List.getElem_cons_zero, Nat.add_zero] at x0 HR3
  go_wp2
  go_ret2
  exact ⟨_, rfl, HR3.out, HB2.out⟩
end Go.Proofs.Ytdljgifoboiaeaa
