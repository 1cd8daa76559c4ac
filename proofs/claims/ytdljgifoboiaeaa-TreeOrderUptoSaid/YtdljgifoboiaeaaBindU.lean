/- What came in, and its bulk. -/
import Derived.Test.YtdljgifoboiaeaaBindN
namespace Go.Proofs.Ytdljgifoboiaeaa
open Go.ChangeShapes Go.WideShapes Go.ChangeAt Go.RowKit

section
variable {H : Type}
theorem bulkAll_map {α : Type} (f : α → DataW H) (g : α → Nat) (l : List α) (h : ∀ a ∈ l, g a ≤ Rows.uptoBulk (f a)) : (l.map g).sum ≤ Rows.uptoBulkAll (l.map f) := by
  induction l with
  | nil => simp
  | cons a l ih =>
    rw [List.map_cons, List.map_cons, List.sum_cons, Rows.uptoBulkAll]
    have h1 := h a (by simp)
    have h2 := ih fun b hb => h b (by simp [hb])
    omega
theorem bulkAll_lits (k : IntKind) (zs : List Int) : zs.length ≤ Rows.uptoBulkAll (lits (H := H) k zs) := by
  have h := bulkAll_map (H := H) (fun z => .lit (.int k z)) (fun _ => 1) zs (fun _ _ => by simp [Rows.uptoBulk])
  rw [show (zs.map fun _ => 1).sum = zs.length by induction zs with
    | nil => rfl
    | cons z zs ih => rw [List.map_cons, List.sum_cons, ih (by
        exact bulkAll_map (H := H) (fun z => .lit (.int k z)) (fun _ => 1) zs (fun _ _ => by simp [Rows.uptoBulk])), List.length_cons]; omega] at h
  exact h

theorem bind_natsU {enc : TypeId × Value → H} {W : World} {fuel : Nat} {x : DataW H × List MemPlace} {a0 : Option Addr} {len cap : Nat}
    (hf : DataW.trod enc Try.prog W 0 (fun _ => true) true fuel 22 (Value.slice a0 len cap).cells.toList = some x) : ∃ xss : List (List Int), Row (kRow (kNum .u32)) W (fun _ => False) (.slice a0 len cap) xss ∧ (∀ xs ∈ xss, okParts xs) ∧ (xss.map fun xs => xs.length + 1).sum ≤ Rows.uptoBulk x.1 := by
  rcases Go.Deep.open_int_rows Try.underlying22 Try.underlying39 Try.underlying128 (by kernel_rfl) (by kernel_rfl) hf with ⟨hcs, hxe⟩ | ⟨a, len', cap', A, L, C, Z, hcs, _, hlc, hcm, hxe, hcell⟩
  · simp [Value.cells] at hcs
    obtain ⟨rfl, rfl, rfl⟩ := hcs
    exact ⟨[], ⟨none, 0, [], rfl, Nat.le_refl _, by simp [maxLen], fun _ => rfl, Pairs.nil _ _ _, fun h => by simp at h⟩, by simp, by simp⟩
  · simp [Value.cells] at hcs
    obtain ⟨rfl, rfl, rfl⟩ := hcs
    refine ⟨(List.range len).map fun r => (Z r).take (L r), ?_, ?_, ?_⟩
    · refine ⟨some a, cap, (List.range len).map fun r => [Value.slice (A r) (L r) (C r)], by simp, by simpa using hlc, hcm, (fun h => nomatch h), ⟨by simp, fun i x cs hx hc => ?_⟩, fun hn => ?_⟩
      · rw [List.getElem?_map] at hx hc
        obtain ⟨r, hr, rfl⟩ := Option.map_eq_some_iff.1 hx
        rw [hr] at hc
        injection hc with hc
        subst hc
        have hrl : r < cap := by
          have h := List.mem_of_getElem? hr
          simp at h; omega
        obtain ⟨_, q2, q3, q4, q5, q6, q7⟩ := hcell r hrl
        exact ⟨_, rfl, nums_row q2 q3 q4 q6 fun a ha j hj => (q7 a ha).2 j hj⟩
      · simp at hn
        have h0 := (hcell 0 (by omega)).1
        rw [show a.add 0 = a by simp [Addr.add]] at h0
        obtain ⟨b, off, rfl⟩ := spot_none h0
        refine ⟨b, off, rfl, World.block_lt_of_cell? _ _ h0, fun h => h, fun j u hu => ?_⟩
        rw [one_flat, List.getElem?_map] at hu
        obtain ⟨r, hr, rfl⟩ := Option.map_eq_some_iff.1 hu
        have hjr := List.getElem?_eq_some_iff.1 hr
        obtain ⟨hj, hjr⟩ := hjr
        rw [List.getElem_range] at hjr
        subst hjr
        have h := (hcell j (by simp at hj; omega)).1
        rw [add_plain'] at h
        exact h
    · intro xs hxs
      simp only [List.mem_map, List.mem_range] at hxs
      obtain ⟨r, hr, rfl⟩ := hxs
      intro z hz
      exact u32_ok ((hcell r (by omega)).2.2.2.2.1 z (List.mem_of_mem_take hz))
    · rw [hxe, List.map_map]
      show _ ≤ Rows.uptoBulk (.slice _ _)
      rw [Rows.uptoBulk]
      have h := bulkAll_map (H := H) (fun r => Go.Deep.intRow .u32 (A r) (L r) (Z r)) (fun r => ((Z r).take (L r)).length + 1) (List.range len) (fun r hr => by
        rw [List.mem_range] at hr
        obtain ⟨_, q2, q3, q4, q5, q6, q7⟩ := hcell r (by omega)
        unfold Go.Deep.intRow
        cases hA : A r with
        | none => have := q6 hA; simp [Rows.uptoBulk]; omega
        | some a' =>
          simp only [Rows.uptoBulk]
          have h1 := bulkAll_lits (H := H) .u32 ((Z r).take (L r))
          omega)
      exact Nat.le_trans h (by omega)
theorem bind_u8s {enc : TypeId × Value → H} {W : World} {fuel : Nat} {x : DataW H × List MemPlace} {a0 : Option Addr} {len cap : Nat}
    (hf : DataW.trod enc Try.prog W 0 (fun _ => true) true fuel 78 (Value.slice a0 len cap).cells.toList = some x) : ∃ xs : List Int, Row (kNum .u8) W (fun _ => False) (.slice a0 len cap) xs ∧ ∀ x ∈ xs, 0 ≤ x ∧ x < 256 := by
  rcases open_ints Try.underlying78 Try.underlying5 (by kernel_rfl) hf with ⟨hcs, _⟩ | ⟨a, len', cap', Z, hcs, _, hlc, hcm, hzl, _, hcell, hwf⟩
  · simp [Value.cells] at hcs
    obtain ⟨rfl, rfl, rfl⟩ := hcs
    exact ⟨[], ⟨none, 0, [], rfl, Nat.le_refl _, by simp [maxLen], fun _ => rfl, Pairs.nil _ _ _, fun h => by simp at h⟩, fun z hz => by simp at hz⟩
  · simp [Value.cells] at hcs
    obtain ⟨rfl, rfl, rfl⟩ := hcs
    rw [if_pos rfl] at hzl
    exact ⟨Z.take len, nums_row hlc hcm hzl (fun h => nomatch h) (fun b hb j hj => by injection hb with hb; subst hb; exact hcell j (by omega)), fun z hz => u8_ok (hwf z (List.mem_of_mem_take hz))⟩
theorem sum_lens (xss : List (List Int)) : (xss.map fun xs => xs.length + 1).sum = (xss.map List.length).sum + xss.length := by
  induction xss with
  | nil => rfl
  | cons y ys ih => rw [List.map_cons, List.map_cons, List.sum_cons, List.sum_cons, ih, List.length_cons]; omega
end
end Go.Proofs.Ytdljgifoboiaeaa
