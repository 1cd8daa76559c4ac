/- NetGrows, plain: a node more. -/
import Derived.Test.YtbfjacgfifecpaaNTells
namespace Go.Proofs.Ytbfjacgfifecpaa
open Go.RowKit

theorem lvl_at {l l' : List Int} {us : List Nat} (h : ∀ u ∈ us, u < l.length) : lvl us (l ++ l') = lvl us l := lvl_congr fun u hu => by
  rw [List.getD_eq_getElem?_getD, List.getD_eq_getElem?_getD, List.getElem?_append_left (h u hu)]
theorem portB_mono {q : Port} {n m : Nat} (h : portB q n = true) (hm : n ≤ m) : portB q m = true := by
  rw [portB, Bool.and_eq_true, List.all_eq_true] at h ⊢
  refine ⟨h.1, fun a ha => ?_⟩
  have := h.2 a ha
  simp at this ⊢
  omega
theorem formed_grow {nodes : List Node} {ins outs : List Port} {x : Node} (h : formedB nodes ins outs = true) (hx : rightB x (nodes.length + 1) = true) : formedB (nodes ++ [x]) ins outs = true := by
  rw [formedB, Bool.and_eq_true, List.all_eq_true, List.all_eq_true] at h ⊢
  rw [List.length_append, List.length_cons, List.length_nil]
  refine ⟨fun y hy => ?_, fun q hq => portB_mono (h.2 q hq) (by omega)⟩
  rcases List.mem_append.1 hy with hy | hy
  · exact rightB_mono (h.1 y hy) (by omega)
  · simp at hy; subst hy; exact hx
theorem home_grow {nodes : List Node} {ins outs : List Port} {x : Node} (hf : formedB nodes ins outs = true) (h : homeB nodes ins = true) (hx : x.kind ≠ 1) : homeB (nodes ++ [x]) ins = true := by
  refine homeB_true fun i hi => ?_
  rw [List.length_append, List.length_cons, List.length_nil] at hi
  by_cases hl : i < nodes.length
  · have h1 : homeAt nodes (ins.flatMap (·.bits)) i = true := by
      rw [homeB, List.all_eq_true] at h
      exact h i (List.mem_range.2 hl)
    rw [homeAt] at h1 ⊢
    rw [show kindAt (nodes ++ [x]) i = kindAt nodes i by rw [kindAt, kindAt, List.getElem?_append_left hl]]
    exact h1
  · obtain rfl : i = nodes.length := by omega
    rw [homeAt, decide_eq_true_eq]
    have hk : kindAt (nodes ++ [x]) nodes.length = x.kind := by rw [kindAt, List.getElem?_append_right (Nat.le_refl _), Nat.sub_self]; rfl
    rw [hk, wantK, if_neg hx]
    have : (ins.flatMap (·.bits)).count (nodes.length : Int) = 0 := by
      rw [List.count_eq_zero]
      intro hm
      obtain ⟨q, hq, hb⟩ := List.mem_flatMap.1 hm
      have := ((formed_in hf).2 q (List.mem_append_left _ hq)).2 _ hb
      omega
    omega
/-- a node that uses such as there are -/
def NewNode (x : Node) (n : Nat) : Prop := rightB x (n + 1) = true ∧ x.kind ≠ 1 ∧ ∀ u ∈ usesN x, u < n
theorem lev_grow {nodes : List Node} {ins outs : List Port} {x : Node} {l : List Int} (h : LevOut nodes ins outs 0 l) (hn : nodes.length ≤ 60) (hx : NewNode x nodes.length) : LevOut (nodes ++ [x]) ins outs 0 (l ++ [lvl (usesN x) l]) := by
  obtain ⟨b, h1, h2, h3, h4, h5⟩ := h
  obtain ⟨⟨e1, e2⟩, e3, e4, e5, e6, rfl⟩ := errP_zero h1.symm
  have hl := h4 rfl
  have hlev : IsLev (nodes ++ [x]) (l ++ [lvl (usesN x) l]) := by
    refine ⟨by rw [List.length_append, List.length_append, hl.1]; rfl, fun i y hy => ?_⟩
    by_cases hi : i < nodes.length
    · rw [List.getElem?_append_left hi] at hy
      have h := hl.2 i y hy
      have hin : ∀ u ∈ usesN y, u < l.length := fun u hu => by rw [hl.1]; exact formed_inN e3 y (List.mem_of_getElem? hy) u hu
      rw [lvl_at hin, ← h, List.getD_eq_getElem?_getD, List.getD_eq_getElem?_getD, List.getElem?_append_left (by rw [hl.1]; exact hi)]
    · have hlen := (List.getElem?_eq_some_iff.1 hy).1
      rw [List.length_append, List.length_cons, List.length_nil] at hlen
      obtain rfl : i = nodes.length := by omega
      rw [List.getElem?_append_right (Nat.le_refl _), Nat.sub_self] at hy
      simp at hy
      subst hy
      rw [lvl_at (fun u hu => by rw [hl.1]; exact hx.2.2 u hu), List.getD_eq_getElem?_getD, List.getElem?_append_right (by rw [hl.1]; exact Nat.le_refl _), hl.1, Nat.sub_self]
      rfl
  have hone : ¬ (262144 < (nodes ++ [x]).length ∨ 64 < ins.length + outs.length) := by rw [List.length_append, List.length_cons, List.length_nil]; omega
  refine ⟨true, ?_, fun _ => ⟨_, hlev⟩, fun h => by simp at h, fun _ => hlev, fun h => absurd rfl h⟩
  rw [errP, if_neg hone, if_neg (by rw [formed_grow e3 hx.1]; simp), if_neg (by rw [e4]; simp), if_neg (by rw [e5]; simp), if_neg (by rw [home_grow e3 e6 hx.2.1]; simp)]
  rfl
theorem fits_grow {nodes : List Node} {ins outs : List Port} {x : Node} (h : Fits nodes ins outs) (hn : nodes.length ≤ 60) : Fits (nodes ++ [x]) ins outs := ⟨by rw [List.length_append, List.length_cons, List.length_nil]; omega, h.il, h.ol, h.bits, h.names, h.sum⟩
theorem row_take {w : World} {S : Nat → Prop} {A : Option Addr} {n c : Nat} {xs : List Int} (h : Row kInt w S (.slice A n c) xs) {m : Nat} (hm : m ≤ xs.length) : Row kInt w S (.slice A m c) (xs.take m) := by
  obtain ⟨A', c', css, he, h1, h2, h0, h3, h4⟩ := h
  injection he with e1 e2 e3
  subst e1; subst e3
  have hlen : (xs.take m).length = m := by rw [List.length_take]; omega
  refine ⟨A, c, css.take m, by rw [hlen], by omega, h2, h0, ⟨by rw [List.length_take, List.length_take, h3.1], fun i x cs hx hc => ?_⟩, fun hn => ?_⟩
  · rw [List.getElem?_take] at hx hc
    split at hx
    · rename_i hi
      rw [if_pos hi] at hc
      exact h3.2 i x cs hx hc
    · cases hx
  · obtain ⟨b, off, rfl, q1, q2, q3⟩ := h4 (by omega)
    refine ⟨b, off, rfl, q1, q2, fun j u hu => q3 j u ?_⟩
    rw [← List.take_append_drop m css, List.flatten_append]
    rw [List.getElem?_append_left (List.getElem?_eq_some_iff.1 hu).1]
    exact hu
end Go.Proofs.Ytbfjacgfifecpaa
