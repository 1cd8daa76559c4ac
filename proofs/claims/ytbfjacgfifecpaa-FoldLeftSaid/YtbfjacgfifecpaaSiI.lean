/- Two nets that tell the same, plain: values that go with one another. -/
import Derived.Test.YtbfjacgfifecpaaSiH
import Derived.Test.YtbfjacgfifecpaaNOrd
namespace Go.Proofs.Ytbfjacgfifecpaa

theorem lev_nonneg {nodes : List Node} {l : List Int} (h : IsLev nodes l) : ∀ x ∈ l, 0 ≤ x := by
  intro x hx
  obtain ⟨i, hi, rfl⟩ := List.mem_iff_getElem.1 hx
  have := h.nonneg i
  rwa [List.getD_eq_getElem?_getD, List.getElem?_eq_getElem hi] at this
theorem mem_take_idx {l : List Nat} {u j : Nat} (hu : u ∈ l) (h : l.idxOf u < j) : u ∈ l.take j := by
  have hl := List.idxOf_lt_length_of_mem hu
  have h1 : (l.take j)[l.idxOf u]? = some u := by
    rw [List.getElem?_take, if_pos h, List.getElem?_eq_getElem hl]
    exact congrArg some (List.getElem_idxOf hl)
  exact List.mem_of_getElem? h1
theorem not_mem_take {l : List Nat} (hnd : l.Nodup) {j : Nat} (hj : j < l.length) : l[j] ∉ l.take j := by
  have hnd2 := hnd
  rw [← List.take_append_drop (j + 1) l, List.take_succ_eq_append_getElem hj, List.nodup_append] at hnd2
  exact fun h => (List.nodup_append.1 hnd2.1).2.2 _ h l[j] (List.mem_singleton.2 rfl) rfl
/-- the order by levels -/
theorem beh_of_lev {nodes : List Node} {l : List Int} (hf : Frm nodes) (hl : IsLev nodes l) : Beh nodes (ordL l) ∧ ∀ u, u < nodes.length → u ∈ ordL l := by
  have hn0 := lev_nonneg hl
  have hll := hl.1
  have hnd := ordL_nodup l
  have hmem : ∀ u, u < nodes.length → u ∈ ordL l := fun u hu => (mem_ordL hn0).2 (by omega)
  refine ⟨⟨fun j hj => ?_⟩, hmem⟩
  have ham : (ordL l)[j] < nodes.length := by rw [← hll]; exact (mem_ordL hn0).1 (List.getElem_mem hj)
  have hnx := List.getElem?_eq_getElem ham
  refine ⟨ham, not_mem_take hnd hj, fun v hv => ?_⟩
  have hvn := hf.uses hv
  refine mem_take_idx (hmem v hvn) ?_
  rw [useAt_at hnx] at hv
  have hlx := hl.2 _ _ hnx
  have hge := lvl_ge (l := l) hv
  have hp := pos_lt hn0 (u := v) (i := (ordL l)[j]) (by omega) (by omega) (by omega)
  rw [posN, posN, if_pos (hmem v hvn), if_pos (List.getElem_mem hj)] at hp
  have : (ordL l).idxOf (ordL l)[j] = j := hnd.idxOf_getElem j hj
  omega
theorem isVal_ex {nodes : List Node} {l : List Int} (hf : Frm nodes) (hl : IsLev nodes l) (st inn : List Bool) : ∃ V, IsVal nodes st inn V :=
  have h := beh_of_lev hf hl
  ⟨_, valsO_is hf h.1 h.2 st inn⟩
theorem valsC_is {nodes : List Node} {l : List Int} (hf : Frm nodes) (hl : IsLev nodes l) (st inn : List Bool) : IsVal nodes st inn (valsC nodes st inn) := by
  obtain ⟨V, hV⟩ := isVal_ex hf hl st inn
  rw [valsC_eq hf hl hV]
  exact hV

/-- what goes out is the same, if values, moved by P, are values -/
theorem through_same {nodes nodes2 : List Node} {ins ins2 outs outs2 : List Port} {l l2 : List Int} (P : List Bool → List Bool) (hf : Frm nodes) (hf2 : Frm nodes2) (hl : IsLev nodes l) (hl2 : IsLev nodes2 l2) (hw : ins.map wideP = ins2.map wideP)
    (h0 : startR nodes2 = P (startR nodes)) (hi : ∀ ms, fitsB ins ms = true → inputsR nodes2.length ins2 ms = P (inputsR nodes.length ins ms)) (hv : ∀ st inn V, st.length = nodes.length → inn.length = nodes.length → IsVal nodes st inn V → IsVal nodes2 (P st) (P inn) (P V))
    (hn : ∀ st inn V, IsVal nodes st inn V → nextR nodes2 (P V) = P (nextR nodes V)) (ho : ∀ st inn V, IsVal nodes st inn V → outsR outs2 (P V) = outsR outs V) (s : List (List Nat)) : throughC nodes ins outs s = throughC nodes2 ins2 outs2 s := by
  have hfa : fitsAll ins s = fitsAll ins2 s := by unfold fitsAll; rw [show fitsB ins = fitsB ins2 from funext (fitsB_wide hw)]
  unfold throughC
  rw [← hfa]
  cases hfit : fitsAll ins s with
  | false => rfl
  | true =>
    rw [if_pos rfl, if_pos rfl]
    have hrow : ∀ i, i < s.length → fitsB ins (s.getD i []) = true := fun i hi => by
      rw [fitsAll, List.all_eq_true] at hfit
      refine hfit _ ?_
      rw [List.getD_eq_getElem?_getD, List.getElem?_eq_getElem hi]
      exact List.getElem_mem hi
    have hcy : ∀ i, i < s.length → stC nodes2 ins2 s i = P (stC nodes ins s i) → cyC nodes2 ins2 s i = P (cyC nodes ins s i) := fun i his hst => by
      unfold cyC
      rw [hst, hi _ (hrow i his)]
      exact valsC_eq hf2 hl2 (hv _ _ _ (stC_length _ _ _ _) (inputsR_length _ _ _) (valsC_is hf hl _ _))
    have hst : ∀ i, i ≤ s.length → stC nodes2 ins2 s i = P (stC nodes ins s i) := by
      intro i
      induction i with
      | zero => exact fun _ => h0
      | succ i ih =>
        intro his
        rw [stC_succ, stC_succ, hcy i (by omega) (ih (by omega))]
        exact hn _ _ _ (valsC_is hf hl _ _)
    unfold outsC
    refine List.map_congr_left fun i hir => ?_
    have his : i < s.length := List.mem_range.1 hir
    rw [hcy i his (hst i (by omega))]
    exact (ho _ _ _ (valsC_is hf hl _ _)).symm

theorem throughC_len {nodes : List Node} {ins outs : List Port} {s : List (List Nat)} (ho : okPorts nodes outs) : (throughC nodes ins outs s).length ≤ s.length ∧ ∀ r ∈ throughC nodes ins outs s, r.length ≤ 1099511627776 ∧ ∀ x ∈ r, x.length ≤ 1099511627776 := by
  unfold throughC
  split
  · unfold outsC
    refine ⟨by simp, fun r hr => ?_⟩
    obtain ⟨i, -, rfl⟩ := List.mem_map.1 hr
    unfold outsR
    refine ⟨by rw [List.length_map]; exact Nat.le_trans ho.1 (by decide), fun x hx => ?_⟩
    obtain ⟨p, hp, rfl⟩ := List.mem_map.1 hx
    rw [parts32_length]
    have h1 := nbits_le (numB_lt p.bits (cyC nodes ins s i))
    have h2 := (ho.2 p hp).1
    omega
  · exact ⟨by simp, fun r hr => by simp at hr⟩
end Go.Proofs.Ytbfjacgfifecpaa
