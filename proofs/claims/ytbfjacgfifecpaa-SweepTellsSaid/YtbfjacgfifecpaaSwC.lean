/- sweep.Count, sweep.Cone. -/
import Derived.Test.YtbfjacgfifecpaaSwB
import Derived.Test.YtbfjacgfifecpaaNn
namespace Go.Proofs.Ytbfjacgfifecpaa
open Go.RowKit

/-- append of numbers that are read to a row of the call's own -/
theorem appIs {W : World} {ops : Array Oper} {rest : List Oper} {o : Oper} {a : Act} {Q : Exit → Act → World → Prop} (hgd : o.guard = none)
    (s x : Operand) (ho : o.op = .call { callee := .builtin .append, args := #[s, x], argTypes := #[28, 28] }) {B : Nat} {v : Value} {xs : List Int} (hO : Own kInt 3 W none B v xs) (hB : B ≤ W.heap.size) (hs : a.eval s = v)
    (u : Value) (ys : List Int) (hu : Row kInt W (fun _ => False) u ys) (hn : 0 < ys.length) (hx : a.eval x = u) (hl : (xs.length + ys.length) * 8 ≤ 140737488355328)
    (hK : ∀ v' w', Own kInt 3 w' none B v' (xs ++ ys) → W.grownBy w' v.ownBlock → (v'.ownBlock = v.ownBlock ∨ ∃ b, v'.ownBlock = some b ∧ W.heap.size ≤ b) → wpList Try.prog ops Q rest (a.put o.dst v') w') :
    wpList Try.prog ops Q (o :: rest) a W := by
  obtain ⟨A, c, css, rfl, h1, h2, h0, h3, h4⟩ := hu
  obtain ⟨b, off, rfl, hb, -, hc⟩ := h4 hn
  refine app kInt 3 28 (.int .i64 0) 8 hgd s x ho Try.underlying28 infoIntK rfl (by decide) (by decide) none B hO (FootIn.none _) hB hs ⟨b, off, none⟩ ys.length c ys css hx rfl ⟨h3.1, fun i x cs hx hc => h3.2 i x cs hx hc⟩ (fun j u hu => ?_) hl
    fun v' w' q1 _ _ _ q5 q6 => hK v' w' q1 q5 (q6.imp id fun h => ⟨_, h, Nat.le_refl _⟩)
  rw [Addr.add_lit]
  exact hc j u hu

def frC (ins outs : List Port) : List Nat := ((outs ++ ins).flatMap (·.bits)).map Int.toNat
def CntOut (nodes : List Node) (ins outs : List Port) (e : Int) (l : List Bool) : Prop := (∃ k, LevOut nodes ins outs e k) ∧ (e = 0 → IsRch nodes (frC ins outs) l) ∧ (e ≠ 0 → l = [])
theorem CntOut.unique {nodes : List Node} {ins outs : List Port} {e e' : Int} {l l' : List Bool} (h : CntOut nodes ins outs e l) (h' : CntOut nodes ins outs e' l') : e = e' ∧ l = l' := by
  obtain ⟨⟨k, h1⟩, h2, h3⟩ := h
  obtain ⟨⟨k', h1'⟩, h2', h3'⟩ := h'
  obtain ⟨rfl, -⟩ := h1.unique h1'
  refine ⟨rfl, ?_⟩
  by_cases h0 : e = 0
  · exact (h2 h0).unique (h2' h0)
  · rw [h3 h0, h3' h0]
theorem LevOut.formed {nodes : List Node} {ins outs : List Port} {e : Int} {l : List Int} (h : LevOut nodes ins outs e l) (h0 : e = 0) : formedB nodes ins outs = true := by
  obtain ⟨b, h1, -⟩ := h
  exact (errP_zero (h1.symm.trans h0)).2.1
def idxs (b : List Bool) : List Int := nats ((List.range b.length).filter fun i => b.getD i false)
def ConOut (nodes : List Node) (ins outs : List Port) (a e : Int) (l : List Int) : Prop :=
  ∃ e0, (∃ k, LevOut nodes ins outs e0 k) ∧ (e0 ≠ 0 → e = e0 ∧ l = []) ∧ (e0 = 0 → ¬ (0 ≤ a ∧ a < nodes.length) → e = 3 ∧ l = []) ∧ (e0 = 0 → 0 ≤ a ∧ a < nodes.length → e = 0 ∧ ∃ b, IsRch nodes [a.toNat] b ∧ l = idxs b)
theorem ConOut.unique {nodes : List Node} {ins outs : List Port} {a e e' : Int} {l l' : List Int} (h : ConOut nodes ins outs a e l) (h' : ConOut nodes ins outs a e' l') : e = e' ∧ l = l' := by
  obtain ⟨e0, ⟨k, h1⟩, h2, h3, h4⟩ := h
  obtain ⟨e0', ⟨k', h1'⟩, h2', h3', h4'⟩ := h'
  obtain ⟨rfl, -⟩ := h1.unique h1'
  by_cases h0 : e0 = 0
  · by_cases ha : 0 ≤ a ∧ a < nodes.length
    · obtain ⟨r1, b, r2, r3⟩ := h4 h0 ha
      obtain ⟨r1', b', r2', r3'⟩ := h4' h0 ha
      rw [r1, r1', r3, r3', r2.unique r2']
      exact ⟨rfl, rfl⟩
    · obtain ⟨r1, r2⟩ := h3 h0 ha
      obtain ⟨r1', r2'⟩ := h3' h0 ha
      rw [r1, r1', r2, r2']
      exact ⟨rfl, rfl⟩
  · obtain ⟨r1, r2⟩ := h2 h0
    obtain ⟨r1', r2'⟩ := h2' h0
    rw [r1, r1', r2, r2']
    exact ⟨rfl, rfl⟩
theorem flatMap_take {ps : List Port} {j : Nat} (hj : j < ps.length) : (ps.take (j + 1)).flatMap (·.bits) = (ps.take j).flatMap (·.bits) ++ ps[j].bits := flat_take hj
theorem flat_le {ps : List Port} {j : Nat} (hj : j < ps.length) : ((ps.take j).flatMap (·.bits)).length + ps[j].bits.length ≤ (ps.flatMap (·.bits)).length := by
  have h := flat_len (k := ps[j].bits.length) hj
  rw [List.take_length, List.length_append] at h
  exact h

theorem nilRowBool (w : World) (S : Nat → Prop) : Row kBool w S (.slice none 0 0) [] := ⟨none, 0, [], rfl, Nat.le_refl _, by simp [maxLen], fun _ => rfl, Pairs.nil _ _ _, fun h => by simp at h⟩
set_option maxHeartbeats 2000000 in
set_option maxRecDepth 4096 in
theorem count_net (w : World) (v : Value) (nodes : List Node) (ins outs : List Port) (hN : NetV w v nodes ins outs) (hF : Fits nodes ins outs) (hS : ((outs ++ ins).flatMap (·.bits)).length ≤ 1099511627776) :
    Calls Try.prog 40 #[v] w fun e w' => ∃ v' l x, e = .returned (.tuple #[v', .int .i64 x]) ∧ Row kBool w' (fun _ => False) v' l ∧ CntOut nodes ins outs x l ∧ Below w.heap.size w w' := by
  obtain ⟨An, cn, Ai, ci, Ao, co, rfl, hbox⟩ := hN.box
  let ob := netBox (.slice An nodes.length cn) (.slice Ai ins.length ci) (.slice Ao outs.length co)
  obtain ⟨w1, hw1⟩ : ∃ w1, w1 = w.alloc ob := ⟨_, rfl⟩
  have hs1 : w1.heap.size = w.heap.size + 1 := by rw [hw1]; simp
  have hb01 : Below w.heap.size w w1 := by rw [hw1]; exact (Below.refl _ _).alloc (Nat.le_refl _) _
  rw [← hw1, ← hs1] at hbox
  obtain ⟨z0, z1, z2, -, -, -, -⟩ := hbox w1 (Below.refl _ _)
  have HC := Lib.hid (check_net w1 _ nodes ins outs (hN.later hb01) hF)
  have HBOX := Lib.hid hbox
  have HS1 := Lib.hid hs1
  have HW1 := Lib.hid hw1
  have HF := Lib.hid hF
  have HS := Lib.hid (show (outs.flatMap (·.bits)).length + (ins.flatMap (·.bits)).length ≤ 1099511627776 by rw [List.flatMap_append, List.length_append] at hS; exact hS)
  have HN := Lib.hid (fun W (hW : Below w.heap.size w W) => hN.later hW)
  have hil := hF.il
  have hol := hF.ol
  clear hN hbox hs1 hb01 hw1 hF hS
  go_enter Try.func40, Try.ntmps40
  go_wp2_with fail
  rw [← HW1.out]
  go_wp2_with fail
  refine HC.out.mono ?_
  rintro e w2 ⟨k, x, rfl, hl, hb2⟩
  have HL := Lib.hid hl
  have HB2 := Lib.hid hb2
  obtain ⟨y0, y1, y2, -, -, -, hbw⟩ := HBOX.out _ hb2
  have HBW2 := Lib.hid hbw
  clear hl hb2 HC z0 z1 z2 hbw
  by_cases hx : x = 0
  · subst hx
    have HFB := Lib.hid (formed_in (HL.out.formed rfl))
    have HO0 := Lib.hid (Own.nil kInt 3 w2 none w1.heap.size)
    clear y0 y1
    go_wp2_with fail
    go_loopw [5, 18] (fun fv iv wr => ∃ i : Nat, iv = .int .i64 i ∧ i ≤ outs.length ∧ Hid (Own kInt 3 wr none w1.heap.size fv ((outs.take i).flatMap (·.bits))) ∧ Hid (Below w1.heap.size w1 wr)) (fun fv iv _ => outs.length - (intOf iv).toNat)
    case atStart => exact ⟨0, rfl, Nat.zero_le _, HO0, HB2⟩
    case round =>
      obtain ⟨i, rfl, hi, HO, HB⟩ := hrel
      obtain ⟨z0, z1, z2, -, -, hro, -⟩ := HBOX.out _ HB.out
      by_cases hlt : i < outs.length
      · obtain ⟨b, off, A3, d3, rfl, y0, y1, hxb⟩ := hro.port_at hlt
        have HFT := Lib.hid (flatMap_take hlt)
        have hq := HFB.out.2 _ (List.mem_append_right _ (List.getElem_mem hlt))
        have hfl := flat_le hlt
        obtain ⟨x, hxx⟩ : ∃ x, outs[i] = x := ⟨_, rfl⟩
        rw [hxx] at y0 y1 hxb HFT hq hfl
        clear hxx
        obtain ⟨s, bs⟩ := x
        dsimp only at y0 y1 hxb HFT hq hfl
        have hbp : Below wr.heap.size wr (wr.alloc (.cells #[.string s, .slice A3 bs.length d3] 53)) := (Below.refl _ _).alloc (Nat.le_refl _) _
        have HOX := Lib.hid (HO.out.kept (Kept.of_below_all hbp (FootIn.none _) (Nat.le_refl _)))
        have HBX := Lib.hid (HB.out.trans (hbp.mono HB.out.size))
        have HXB := Lib.hid (hxb.later hbp)
        have hlen : 0 < bs.length := List.length_pos_iff.2 hq.1
        have hle : (((outs.take i).flatMap (·.bits)).length + bs.length) * 8 ≤ 140737488355328 := by have := HS.out; omega
        have hbs := HBX.out.size
        clear hro hxb hbp hq hfl
        go_wp2_with (at_builtin; go_loud (refine appIs rfl (.tmp 22) (.tmp 24) rfl HOX.out hbs rfl _ bs HXB.out hlen rfl hle ?_; intro v' w5 q1 q5 q6))
        have hbn := HBX.out.grown q5 hbs (fun g hg => (HOX.out.base hg).1)
        refine ⟨⟨i + 1, by go_num, by omega, by rw [HFT.out]; exact Lib.hid q1, Lib.hid hbn⟩, ?_⟩
        simp [intOf]; omega
      · obtain rfl : i = outs.length := by omega
        rw [List.take_length] at HO
        clear hro z2
        go_wp2_with fail
        go_loopw [5, 30] (fun fv iv wr => ∃ i : Nat, iv = .int .i64 i ∧ i ≤ ins.length ∧ Hid (Own kInt 3 wr none w1.heap.size fv ((outs.flatMap (·.bits)) ++ (ins.take i).flatMap (·.bits))) ∧ Hid (Below w1.heap.size w1 wr)) (fun fv iv _ => ins.length - (intOf iv).toNat)
        case atStart => exact ⟨0, rfl, Nat.zero_le _, by simpa using HO, HB⟩
        case round =>
          clear HO HB z0 z1 hlt hi
          obtain ⟨i, rfl, hi, HO, HB⟩ := hrel
          obtain ⟨z0, z1, z2, -, hri, -, hbw⟩ := HBOX.out _ HB.out
          have HBW := Lib.hid hbw
          clear hbw
          by_cases hlt : i < ins.length
          · obtain ⟨b, off, A3, d3, rfl, y0, y1, hxb⟩ := hri.port_at hlt
            have HFT := Lib.hid (flatMap_take hlt)
            have hq := HFB.out.2 _ (List.mem_append_left _ (List.getElem_mem hlt))
            have hfl := flat_le hlt
            obtain ⟨x, hxx⟩ : ∃ x, ins[i] = x := ⟨_, rfl⟩
            rw [hxx] at y0 y1 hxb HFT hq hfl
            clear hxx
            obtain ⟨s, bs⟩ := x
            dsimp only at y0 y1 hxb HFT hq hfl
            have hbp : Below wr.heap.size wr (wr.alloc (.cells #[.string s, .slice A3 bs.length d3] 53)) := (Below.refl _ _).alloc (Nat.le_refl _) _
            have HOX := Lib.hid (HO.out.kept (Kept.of_below_all hbp (FootIn.none _) (Nat.le_refl _)))
            have HBX := Lib.hid (HB.out.trans (hbp.mono HB.out.size))
            have HXB := Lib.hid (hxb.later hbp)
            have hlen : 0 < bs.length := List.length_pos_iff.2 hq.1
            have hle : ((outs.flatMap (·.bits) ++ (ins.take i).flatMap (·.bits)).length + bs.length) * 8 ≤ 140737488355328 := by have := HS.out; rw [List.length_append]; omega
            have hbs := HBX.out.size
            clear hri hxb hbp hq hfl
            go_wp2_with (at_builtin; go_loud (refine appIs rfl (.tmp 34) (.tmp 36) rfl HOX.out hbs rfl _ bs HXB.out hlen rfl hle ?_; intro v' w5 q1 q5 q6))
            have hbn := HBX.out.grown q5 hbs (fun g hg => (HOX.out.base hg).1)
            refine ⟨⟨i + 1, by go_num, by omega, by rw [HFT.out, ← List.append_assoc]; exact Lib.hid q1, Lib.hid hbn⟩, ?_⟩
            simp [intOf]; omega
          · obtain rfl : i = ins.length := by omega
            rw [List.take_length] at HO
            have hnn : ∀ b ∈ outs.flatMap (·.bits) ++ ins.flatMap (·.bits), 0 ≤ b ∧ b < nodes.length := fun b hb => by
              rw [← List.flatMap_append] at hb
              obtain ⟨q, hq, hb⟩ := List.mem_flatMap.1 hb
              exact (HFB.out.2 q (by simp only [List.mem_append] at hq ⊢; exact hq.symm)).2 b hb
            have hrow := HO.out.rowS (fun _ => False) (fun _ _ h => h)
            have hfr : nats (frC ins outs) = outs.flatMap (·.bits) ++ ins.flatMap (·.bits) := by
              unfold frC
              rw [List.flatMap_append]
              exact nats_toNat fun b hb => (hnn b hb).1
            have hfl : (frC ins outs).length ≤ 1099511627776 := by
              unfold frC
              rw [List.length_map, List.flatMap_append, List.length_append]
              exact HS.out
            have hf : ∀ a ∈ frC ins outs, a < nodes.length := fun a ha => by
              unfold frC at ha
              obtain ⟨z, hz, rfl⟩ := List.mem_map.1 ha
              have := hnn z (by rwa [List.flatMap_append] at hz)
              omega
            have HC := Lib.hid (reached_net wr _ nodes ins outs (HN.out wr HBW.out) _ (frC ins outs) (by rw [hfr]; exact hrow) HFB.out.1 hf (by have := (errP_zero (HL.out.choose_spec.1.symm)).1; omega) hfl)
            clear hnn hrow hfr hfl hf hri hlt hi
            go_wp2_with fail
            refine HC.out.mono ?_
            rintro e w6 ⟨v6, l6, rfl, hr6, hl6, hb6⟩
            have HR6 := Lib.hid hr6
            have HL6 := Lib.hid hl6
            have HB6 := Lib.hid (HBW.out.trans (hb6.mono HBW.out.size))
            clear hr6 hl6 hb6 HC
            go_wp2
            go_ret2
            exact ⟨_, l6, 0, rfl, HR6.out, ⟨⟨_, HL.out⟩, fun _ => HL6.out, fun h => absurd rfl h⟩, HB6.out⟩
  · go_wp2
    go_ret2
    exact ⟨_, [], x, rfl, nilRowBool _ _, ⟨⟨_, HL.out⟩, fun h => absurd h hx, fun _ => rfl⟩, HBW2.out⟩
end Go.Proofs.Ytbfjacgfifecpaa
