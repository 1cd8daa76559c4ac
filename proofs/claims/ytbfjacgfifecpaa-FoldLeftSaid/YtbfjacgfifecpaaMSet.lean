/- A set of places: map[int]bool. -/
import Derived.Test.YtbfjacgfifecpaaNOrd
import Derived.Test.YtbfjacgfifecpaaSwTells
namespace Go.Proofs.Ytbfjacgfifecpaa
open Go.RowKit Go.Maps

theorem plainElem_bool_inv {H : Type} {P : Program} {e : TypeId} (he : P.underlying e = some .bool) {v : Value} {z : DataW H × List MemPlace} (h : plainElem P e v = some z) : ∃ a, v = .bool a ∧ z = (.lit (.bool a), []) := by
  unfold plainElem at h
  rw [he] at h
  cases v <;> simp at h
  exact ⟨_, rfl, h.symm⟩
def MSet (w : World) (b n : Nat) (S : Nat → Prop) : Prop :=
  ∃ D : DataW Unit, w.ownsMap Try.prog 3 (plainElem Try.prog 4) b n D ∧ ∀ k : Nat, ∃ c : Bool, D.atKey (.int .i64 (k : Int)) (.lit (.bool false)) = .lit (.bool c) ∧ (c = true ↔ S k)
theorem MSet.made (w : World) : MSet (w.alloc (.map #[] 0)) w.heap.size 0 (fun _ => False) := ⟨_, World.ownsMap_made _ _ _ _, fun k => ⟨false, rfl, by simp⟩⟩
section
variable {w w' : World} {b n : Nat} {S S' : Nat → Prop}
theorem MSet.congr (h : MSet w b n S) (hS : ∀ k, S k ↔ S' k) : MSet w b n S' := by
  obtain ⟨D, h1, h2⟩ := h
  refine ⟨D, h1, fun k => ?_⟩
  obtain ⟨c, h3, h4⟩ := h2 k
  exact ⟨c, h3, h4.trans (hS k)⟩
theorem MSet.below (h : MSet w b n S) (hb : Below w.heap.size w w') : MSet w' b n S := by
  obtain ⟨D, h1, h2⟩ := h
  exact ⟨D, h1.kept (row := none) ⟨hb.os, hb.tape, hb.output, hb.size, fun k hk _ => hb.block k hk⟩ (by simp), h2⟩
theorem MSet.other (h : MSet w b n S) {row : Option Nat} (hg : w.grownBy w' row) (hr : some b ≠ row) : MSet w' b n S := by
  obtain ⟨D, h1, h2⟩ := h
  exact ⟨D, h1.kept hg hr, h2⟩
set_option maxRecDepth 100000 in
theorem MSet.look (h : MSet w b n S) {k : Nat} (hk : k ≤ 1099511627776) : ∃ c : Bool, (Instr.lookup 50 (.map (some b)) (.int .i64 (k : Int)) false).run Try.prog w = .ok (.bool c) w ∧ (c = true ↔ S k) := by
  obtain ⟨D, h1, h2⟩ := h
  obtain ⟨c, h3, h4⟩ := h2 k
  obtain ⟨v, ps, hrun, hv⟩ := h1.lookup law_int Try.underlying50 (zero_bool w) (plainElem_bool Try.underlying4 false) (key_small hk)
  obtain ⟨a, rfl, ha⟩ := plainElem_bool_inv Try.underlying4 hv
  rw [h3] at ha
  injection ha with ha
  injection ha with ha
  injection ha with ha
  subst ha
  exact ⟨c, hrun, h4⟩
theorem MSet.lookC (h : MSet w b n S) {k : Nat} (hk : k ≤ 1099511627776) (c : Bool) (hc : c = true ↔ S k) : (Instr.lookup 50 (.map (some b)) (.int .i64 (k : Int)) false).run Try.prog w = .ok (.bool c) w := by
  obtain ⟨c', h1, h2⟩ := h.look hk
  rw [h1, Bool.eq_iff_iff.2 (h2.trans hc.symm)]
theorem MSet.put {D : DataW Unit} (hT : Maps.Tidy D) (h2 : ∀ k : Nat, ∃ c : Bool, D.atKey (.int .i64 (k : Int)) (.lit (.bool false)) = .lit (.bool c) ∧ (c = true ↔ S k)) {a : Nat} (h : w'.ownsMap Try.prog 3 (plainElem Try.prog 4) b n (D.put (.int .i64 (a : Int)) (.lit (.bool true)))) : MSet w' b n (fun k => S k ∨ k = a) := by
  refine ⟨_, h, fun k => ?_⟩
  by_cases e : k = a
  · subst e
    exact ⟨true, by rw [Maps.atKey_put_same (k := .int .i64 (k : Int)) hT.isMap (by exact trivial)], by simp⟩
  · obtain ⟨c, h3, h4⟩ := h2 k
    exact ⟨c, by rw [Maps.atKey_put_other (fun h => e (by injection h with _ h; omega)), h3], by simp [h4, e]⟩
end
theorem MSet.ne {w : World} {b n : Nat} {S : Nat → Prop} (h : MSet w b n S) {b0 j : Nat} {u : Value} (hc : w.cell? ⟨b0, j, none⟩ = some u) : ¬ b0 = b := by
  obtain ⟨D, ⟨es, clock, hb, -⟩, -⟩ := h
  rintro rfl
  simp [World.cell?, hb] at hc
theorem Same.grown' {w w' : World} {g : Nat} (h : w.grownBy w' (some g)) : Same (isg g) w w' := ⟨h.size, fun i hi hn => h.block i hi (fun e => hn (by injection e))⟩
theorem mem_take_succ {α : Type} {xs : List α} {k : Nat} (hk : k < xs.length) {x : α} : x ∈ xs.take (k + 1) ↔ x ∈ xs.take k ∨ x = xs[k] := by
  rw [List.take_succ_eq_append_getElem hk, List.mem_append, List.mem_singleton]
/-- m[a] = true -/
theorem putM {W : World} {ops : Array Oper} {rest : List Oper} {o : Oper} {a : Act} {Q : Exit → Act → World → Prop} (hgd : o.guard = none)
    (m x v : Operand) (hop : o.op = Op.mapUpdate 50 m x v) {b n : Nat} {S : Nat → Prop} (hM : MSet W b n S) (hm : a.eval m = .map (some b)) (hn : n < maxLen) (k : Nat) (hk : k ≤ 1099511627776) (hx : a.eval x = .int .i64 (k : Int)) (hv : a.eval v = .bool true)
    (hK : ∀ w', MSet w' b (n + 1) (fun j => S j ∨ j = k) → W.grownBy w' (some b) → wpList Try.prog ops Q rest (a.put o.dst undef) w') : wpList Try.prog ops Q (o :: rest) a W := by
  obtain ⟨D, h1, h2⟩ := hM
  exact wpList_mapUpdate_own W hgd m x v 50 hop 3 4 law_int Try.underlying50 _ b n D hm h1 hn _ _ _ hx hv (key_small hk) (.lit (.bool true)) [] (plainElem_bool Try.underlying4 true)
    fun w' hw hg => hK w' (MSet.put (h1.tidy law_int) h2 hw) hg

/-! plain: what hangs on one place -/
theorem Rch.split {nodes : List Node} {fr : List Nat} {i : Nat} (h : Rch nodes fr i) : ∃ a ∈ fr, Rch nodes [a] i := by
  induction h with
  | base ha => exact ⟨_, ha, .base (by simp)⟩
  | step _ hb ih => obtain ⟨a, ha, h⟩ := ih; exact ⟨a, ha, .step h hb⟩
theorem Rch.self (nodes : List Node) (a : Nat) : Rch nodes [a] a := .base (by simp)
theorem Rch.input {nodes : List Node} {a i : Nat} (hk : kindAt nodes a = 1) (h : Rch nodes [a] i) : i = a := by
  induction h with
  | base ha => simpa using ha
  | @step u v _ hb ih =>
    subst ih
    unfold useI at hb
    unfold kindAt at hk
    cases hx : nodes[u]? with
    | none => rw [hx] at hb; simp at hb
    | some x =>
      rw [hx] at hb hk
      dsimp only at hb hk
      unfold usesR many at hb
      rw [if_pos (.inr hk)] at hb
      simp at hb
theorem Rch.trans' {nodes : List Node} {a b i : Nat} (h : Rch nodes [b] i) (h' : Rch nodes [a] b) : Rch nodes [a] i := h.mono fun x hx => by
  obtain rfl : x = b := by simpa using hx
  exact h'
theorem mem_idxs {b : List Bool} {x : Int} : x ∈ idxs b ↔ ∃ j : Nat, x = (j : Int) ∧ b.getD j false = true := by
  unfold idxs nats
  rw [List.mem_map]
  constructor
  · rintro ⟨j, hj, rfl⟩
    rw [List.mem_filter] at hj
    exact ⟨j, rfl, hj.2⟩
  · rintro ⟨j, rfl, hj⟩
    refine ⟨j, List.mem_filter.2 ⟨?_, hj⟩, rfl⟩
    rw [List.mem_range]
    rcases Nat.lt_or_ge j b.length with h | h
    · exact h
    · rw [List.getD_eq_getElem?_getD, List.getElem?_eq_none h] at hj; simp at hj
/-- the cone of a place that there is -/
theorem ConOut.good {nodes : List Node} {ins outs : List Port} {k : Nat} {e : Int} {l : List Int} {ll : List Int} (h : ConOut nodes ins outs (k : Int) e l) (hl : LevOut nodes ins outs 0 ll) (hk : k < nodes.length) : e = 0 ∧ l.length ≤ nodes.length ∧ ∀ x, x ∈ l ↔ ∃ j : Nat, x = (j : Int) ∧ Rch nodes [k] j := by
  have hlen := h.len
  obtain ⟨e0, ⟨k0, h1⟩, -, -, h4⟩ := h
  obtain ⟨rfl, -⟩ := h1.unique hl
  obtain ⟨r1, b, r2, rfl⟩ := h4 rfl ⟨by omega, by omega⟩
  refine ⟨r1, hlen, fun x => ?_⟩
  rw [mem_idxs]
  rw [Int.toNat_natCast] at r2
  constructor
  · rintro ⟨j, rfl, hj⟩; exact ⟨j, rfl, (r2.2 j).1 hj⟩
  · rintro ⟨j, rfl, hj⟩; exact ⟨j, rfl, (r2.2 j).2 hj⟩
/-- what counts, by cones -/
theorem counts_by {nodes : List Node} {ins outs : List Port} {l : List Bool} (hf : formedB nodes ins outs = true) (hh : homeB nodes ins = true) (h : IsRch nodes (frC ins outs) l) (i : Nat) :
    l.getD i false = true ↔ (kindAt nodes i = 1 ∨ ∃ b ∈ outs.flatMap (·.bits), ∃ a : Nat, b = (a : Int) ∧ Rch nodes [a] i) := by
  have hin := (formed_in hf).2
  have hi : ∀ b ∈ ins.flatMap (·.bits), 0 ≤ b ∧ b < (nodes.length : Int) := fun b hb => by
    obtain ⟨q, hq, hb⟩ := List.mem_flatMap.1 hb
    exact (hin q (List.mem_append_left _ hq)).2 b hb
  have hk := home_iff hh hi
  rw [h.2 i]
  constructor
  · intro hr
    obtain ⟨a, ha, hr⟩ := hr.split
    unfold frC at ha
    rw [List.flatMap_append, List.map_append, List.mem_append] at ha
    rcases ha with ha | ha
    · right
      obtain ⟨b, hb, rfl⟩ := List.mem_map.1 ha
      obtain ⟨q, hq, hb'⟩ := List.mem_flatMap.1 hb
      have := (hin q (List.mem_append_right _ hq)).2 b hb'
      exact ⟨b, hb, b.toNat, by omega, hr⟩
    · left
      have h1 := (hk a).2 ha
      rw [hr.input h1]
      exact h1
  · rintro (h1 | ⟨b, hb, a, rfl, hr⟩)
    · refine .base ?_
      unfold frC
      rw [List.flatMap_append, List.map_append, List.mem_append]
      exact .inr ((hk i).1 h1)
    · refine hr.mono fun x hx => ?_
      obtain rfl : x = a := by simpa using hx
      refine .base ?_
      unfold frC
      rw [List.flatMap_append, List.map_append, List.mem_append]
      exact .inl (List.mem_map.2 ⟨_, hb, by simp⟩)
end Go.Proofs.Ytbfjacgfifecpaa
