/- NetOrders, plain: places in order; the map of places. -/
import Derived.Test.YtbfjacgfifecpaaNTells
import Derived.Maps.OwnSet
import Derived.Maps.Views
namespace Go.Proofs.Ytbfjacgfifecpaa
open Go.RowKit Go.Maps

theorem mem_binL {l : List Int} {n v k : Nat} : k ∈ binL l n v ↔ k < n ∧ l.getD k 0 = (v : Int) := by
  rw [binL, List.mem_filter, List.mem_range, decide_eq_true_eq]
theorem mem_bins {l : List Int} {n : Nat} : ∀ {r k : Nat}, k ∈ (bins l r n).flatten ↔ k < n ∧ 0 ≤ l.getD k 0 ∧ l.getD k 0 < (r : Int) := by
  intro r
  induction r with
  | zero =>
    intro k
    rw [show bins l 0 n = [] from rfl]
    simp only [List.flatten_nil, List.not_mem_nil, false_iff]
    omega
  | succ r ih =>
    intro k
    rw [bins_next, List.mem_append, ih, mem_binL]
    omega
theorem bins_nodup {l : List Int} {n : Nat} : ∀ r : Nat, (bins l r n).flatten.Nodup := by
  intro r
  induction r with
  | zero => rw [show bins l 0 n = [] from rfl]; simp
  | succ r ih =>
    rw [bins_next, List.nodup_append]
    refine ⟨ih, List.nodup_range.filter _, fun a ha b hb e => ?_⟩
    subst e
    have h1 := (mem_bins.1 ha).2.2
    have h2 := (mem_binL.1 hb).2
    omega
theorem ordL_nodup (l : List Int) : (ordL l).Nodup := bins_nodup _
theorem getD_mem {l : List Int} {k : Nat} (h : k < l.length) : l.getD k 0 ∈ l := by
  rw [List.getD_eq_getElem?_getD, List.getElem?_eq_getElem h]
  exact List.getElem_mem h
theorem mem_ordL {l : List Int} (h0 : ∀ x ∈ l, 0 ≤ x) {k : Nat} : k ∈ ordL l ↔ k < l.length := by
  rw [ordL, mem_bins]
  refine ⟨fun h => h.1, fun h => ⟨h, ?_⟩⟩
  exact top_lt h0 _ (getD_mem h)
theorem ordL_length {l : List Int} (h0 : ∀ x ∈ l, 0 ≤ x) : (ordL l).length = l.length := bins_enough h0 (Nat.le_refl _)
/-- a place in order -/
def posN (ns : List Nat) (k : Nat) : Nat := if k ∈ ns then ns.idxOf k else 0
theorem pos_lt {l : List Int} (h0 : ∀ x ∈ l, 0 ≤ x) {u i : Nat} (hu : u < l.length) (hi : i < l.length) (hlt : l.getD u 0 < l.getD i 0) : posN (ordL l) u < posN (ordL l) i := by
  rw [posN, posN, if_pos ((mem_ordL h0).2 hu), if_pos ((mem_ordL h0).2 hi)]
  have hu0 := h0 _ (getD_mem hu)
  have hi1 := top_lt h0 _ (getD_mem hi)
  obtain ⟨v, hv⟩ := Int.eq_ofNat_of_zero_le hi1.1
  have hvm : v ≤ (maxF l + 1).toNat := by omega
  have e := bins_pre (l := l) (n := l.length) hvm
  have hin : u ∈ (bins l v l.length).flatten := mem_bins.2 ⟨hu, hu0, by omega⟩
  have hout : i ∉ (bins l v l.length).flatten := fun h => by have := (mem_bins.1 h).2.2; omega
  rw [ordL, e, List.idxOf_append, if_pos hin, List.idxOf_append, if_neg hout]
  have := List.idxOf_lt_length_of_mem hin
  omega
theorem posN_snoc {ns : List Nat} {a : Nat} (ha : a ∉ ns) (k : Nat) : posN (ns ++ [a]) k = if k = a then ns.length else posN ns k := by
  unfold posN
  by_cases h : k = a
  · subst h
    rw [if_pos rfl, if_pos (by simp), List.idxOf_append, if_neg ha]
    simp
  · rw [if_neg h]
    by_cases hk : k ∈ ns
    · rw [if_pos hk, if_pos (List.mem_append_left _ hk), List.idxOf_append, if_pos hk]
    · rw [if_neg hk, if_neg (by simp [hk, h])]

/-! ### the map of places -/
theorem law_int : Keyed Try.prog 3 := Go.Maps.int_keyed Try.underlying3
theorem zero_int (w : World) : (zeroValue 3).run Try.prog w = .ok (.int .i64 0) w := by kernel_rfl
theorem wf_small {k : Nat} (h : k ≤ 1099511627776) : (Lit.int .i64 (k : Int)).wf = true := WalkArith.wf_i64 (by omega)
theorem key_small {k : Nat} (h : k ≤ 1099511627776) : keyOf Try.prog 3 (.int .i64 (k : Int)) = some (.int .i64 (k : Int)) := Go.Maps.keyOf_int_mk Try.underlying3 (wf_small h)
def Plc (w : World) (b n : Nat) (ns : List Nat) : Prop :=
  ∃ D : DataW Unit, w.ownsMap Try.prog 3 (plainElem Try.prog 3) b n D ∧ Maps.size D = ns.length ∧ (∀ k : Nat, Maps.has D (.int .i64 (k : Int)) = decide (k ∈ ns)) ∧ ∀ k : Nat, D.atKey (.int .i64 (k : Int)) (.lit (.int .i64 0)) = .lit (.int .i64 (posN ns k : Int))
set_option maxRecDepth 100000 in
theorem Plc.look {w : World} {b n : Nat} {ns : List Nat} (h : Plc w b n ns) {k : Nat} (hk : k ≤ 1099511627776) : (Instr.lookup 46 (.map (some b)) (.int .i64 (k : Int)) false).run Try.prog w = .ok (.int .i64 (posN ns k : Int)) w := by
  obtain ⟨D, h1, -, -, h4⟩ := h
  obtain ⟨c, hrun, hat, -⟩ := h1.lookup_int law_int Try.underlying46 Try.underlying3 (zero_int w) (key_small hk)
  rw [h4 k] at hat
  injection hat with hat
  injection hat with _ hat
  rw [hrun, hat]
theorem Plc.made (w : World) : Plc (w.alloc (.map #[] 0)) w.heap.size 0 [] := ⟨_, World.ownsMap_made _ _ _ _, rfl, fun _ => rfl, fun _ => rfl⟩
theorem Plc.put {w' : World} {b n : Nat} {ns : List Nat} {D : DataW Unit} (hT : Maps.Tidy D) (hs : Maps.size D = ns.length) (hh : ∀ k : Nat, Maps.has D (.int .i64 (k : Int)) = decide (k ∈ ns)) (hk : ∀ k : Nat, D.atKey (.int .i64 (k : Int)) (.lit (.int .i64 0)) = .lit (.int .i64 (posN ns k : Int)))
    {a : Nat} (ha : a ∉ ns) (h : w'.ownsMap Try.prog 3 (plainElem Try.prog 3) b n (D.put (.int .i64 (a : Int)) (.lit (.int .i64 (ns.length : Int))))) : Plc w' b n (ns ++ [a]) := by
  refine ⟨_, h, ?_, fun k => ?_, fun k => ?_⟩
  · rw [Maps.size_put hT, hh a, decide_eq_false ha, if_neg (by simp), hs, List.length_append]; rfl
  · by_cases e : k = a
    · subst e
      rw [Maps.has_put_same (k := .int .i64 (k : Int)) hT.isMap (by exact trivial)]
      simp
    · rw [Maps.has_put_other (fun h => e (by injection h with _ h; omega)), hh k]
      simp [e]
  · rw [posN_snoc ha]
    by_cases e : k = a
    · subst e
      rw [if_pos rfl, Maps.atKey_put_same (k := .int .i64 (k : Int)) hT.isMap (by exact trivial)]
    · rw [if_neg e, Maps.atKey_put_other (fun h => e (by injection h with _ h; omega)), hk k]
theorem Plc.alloc {w : World} {b n : Nat} {ns : List Nat} (h : Plc w b n ns) (o : Obj) : Plc (w.alloc o) b n ns := by
  obtain ⟨D, h1, h2⟩ := h
  exact ⟨D, h1.alloc o, h2⟩
theorem Plc.below {w w' : World} {b n : Nat} {ns : List Nat} (h : Plc w b n ns) (hb : Below w.heap.size w w') : Plc w' b n ns := by
  obtain ⟨D, h1, h2⟩ := h
  exact ⟨D, h1.kept (row := none) ⟨hb.os, hb.tape, hb.output, hb.size, fun k hk _ => hb.block k hk⟩ (by simp), h2⟩
end Go.Proofs.Ytbfjacgfifecpaa
