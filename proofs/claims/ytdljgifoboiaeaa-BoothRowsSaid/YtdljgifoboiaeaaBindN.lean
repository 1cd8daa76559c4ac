/- Rows of numbers that came in. -/
import Derived.Test.YtdljgifoboiaeaaBind
import Derived.Test.YtdljgifoboiaeaaJR01
namespace Go.Proofs.Ytdljgifoboiaeaa
open Go.ChangeShapes Go.WideShapes Go.ChangeAt Go.RowKit

theorem u32_ok {n : Int} (h : (Lit.int .u32 n).wf = true) : 0 ≤ n ∧ n < 4294967296 := by have := bounds_u32 h; omega
theorem u8_ok {n : Int} (h : (Lit.int .u8 n).wf = true) : 0 ≤ n ∧ n < 256 := by have := bounds_u8 h; omega
theorem u16_ok {n : Int} (h : (Lit.int .u16 n).wf = true) : 0 ≤ n ∧ n < 65536 := by have := bounds_u16 h; omega
theorem spot_none {W : World} {a : Addr} {v : Value} (h : W.cell? a = some v) : ∃ b off, a = ⟨b, off, none⟩ := by
  obtain ⟨b, off, spot⟩ := a
  have := World.cell?_spot h
  subst this
  exact ⟨b, off, rfl⟩
theorem one_flat (n : Nat) (f : Nat → Value) : ((List.range n).map fun r => [f r]).flatten = (List.range n).map f := by
  induction n with
  | zero => rfl
  | succ n ih => simp [List.range_succ, ih]
theorem add_plain' (b off j : Nat) : (⟨b, off, none⟩ : Addr).add j = ⟨b, off + j, none⟩ := by unfold Addr.add; split <;> simp_all

/-- a row of numbers, of its cells -/
theorem nums_row {W : World} {k : IntKind} {A : Option Addr} {l c : Nat} {Z : List Int} (h1 : l ≤ c) (h2 : c ≤ maxLen) (h3 : Z.length = c) (h0 : A = none → c = 0)
    (hc : ∀ a, A = some a → ∀ j, j < c → W.cell? (a.add j) = some (.int k (Z.getD j 0))) : Row (kNum k) W (fun _ => False) (.slice A l c) (Z.take l) := by
  have hl : (Z.take l).length = l := by simp; omega
  refine ⟨A, c, (Z.take l).map fun x => [Value.int k x], by rw [hl], by omega, h2, h0, ⟨by simp, fun i x cs hx hcs => ?_⟩, fun hn => ?_⟩
  · rw [List.getElem?_map, hx] at hcs
    injection hcs with hcs
    exact hcs.symm
  · rw [hl] at hn
    rcases A with _ | a
    · have := h0 rfl; omega
    · obtain ⟨b, off, rfl⟩ := spot_none (by have h := hc a rfl 0 (by omega); rw [show a.add 0 = a by simp [Addr.add]] at h; exact h)
      refine ⟨b, off, rfl, World.block_lt_of_cell? _ _ (hc _ rfl 0 (by omega)), fun h => h, fun j u hu => ?_⟩
      have hfl : ((Z.take l).map fun x => [Value.int k x]).flatten = (Z.take l).map fun x => Value.int k x := by
        generalize Z.take l = zs
        induction zs with
        | nil => rfl
        | cons z zs ih => simp [ih]
      rw [hfl, List.getElem?_map] at hu
      obtain ⟨z, hz, rfl⟩ := Option.map_eq_some_iff.1 hu
      have hj : j < l := by have := (List.getElem?_eq_some_iff.1 hz).1; omega
      have h := hc _ rfl j (by omega)
      rw [add_plain'] at h
      rw [h]
      rw [List.getElem?_take, if_pos hj] at hz
      rw [List.getD_eq_getElem?_getD, hz]; rfl

theorem bind_nats {H : Type} {enc : TypeId × Value → H} {W : World} {fuel : Nat} {x : DataW H × List MemPlace} {a0 : Option Addr} {len cap : Nat}
    (hf : DataW.trod enc Try.prog W 0 (fun _ => true) true fuel 22 (Value.slice a0 len cap).cells.toList = some x) : ∃ xss : List (List Int), Row (kRow (kNum .u32)) W (fun _ => False) (.slice a0 len cap) xss ∧ ∀ xs ∈ xss, okParts xs := by
  rcases Go.Deep.open_int_rows Try.underlying22 Try.underlying39 Try.underlying128 (by kernel_rfl) (by kernel_rfl) hf with ⟨hcs, _⟩ | ⟨a, len', cap', A, L, C, Z, hcs, _, hlc, hcm, _, hcell⟩
  · simp [Value.cells] at hcs
    obtain ⟨rfl, rfl, rfl⟩ := hcs
    exact ⟨[], ⟨none, 0, [], rfl, Nat.le_refl _, by simp [maxLen], fun _ => rfl, Pairs.nil _ _ _, fun h => by simp at h⟩, by simp⟩
  · simp [Value.cells] at hcs
    obtain ⟨rfl, rfl, rfl⟩ := hcs
    refine ⟨(List.range len).map fun r => (Z r).take (L r), ?_, ?_⟩
    · refine ⟨some a, cap, (List.range len).map fun r => [Value.slice (A r) (L r) (C r)], by simp, by simpa using hlc, hcm, (fun h => nomatch h), ⟨by simp, fun i x cs hx hc => ?_⟩, fun hn => ?_⟩
      · rw [List.getElem?_map] at hx hc
        obtain ⟨r, hr, rfl⟩ := Option.map_eq_some_iff.1 hx
        rw [hr] at hc
        injection hc with hc
        subst hc
        have hrl : r < cap := by
          have h := List.mem_of_getElem? hr
          simp at h; omega
        obtain ⟨_, q2, q3, q4, q5, q6, q7⟩ := hcell r hrl
        exact ⟨_, rfl, nums_row q2 q3 q4 q6 fun a ha j hj => (q7 a ha).2 j hj⟩
      · simp at hn
        have h0 := (hcell 0 (by omega)).1
        rw [show a.add 0 = a by simp [Addr.add]] at h0
        obtain ⟨b, off, rfl⟩ := spot_none h0
        refine ⟨b, off, rfl, World.block_lt_of_cell? _ _ h0, fun h => h, fun j u hu => ?_⟩
        rw [one_flat, List.getElem?_map] at hu
        obtain ⟨r, hr, rfl⟩ := Option.map_eq_some_iff.1 hu
        have hjr := List.getElem?_eq_some_iff.1 hr
        obtain ⟨hj, hjr⟩ := hjr
        rw [List.getElem_range] at hjr
        subst hjr
        have h := (hcell j (by simp at hj; omega)).1
        rw [add_plain'] at h
        exact h
    · intro xs hxs
      simp only [List.mem_map, List.mem_range] at hxs
      obtain ⟨r, hr, rfl⟩ := hxs
      intro z hz
      exact u32_ok ((hcell r (by omega)).2.2.2.2.1 z (List.mem_of_mem_take hz))

theorem bind_nat {H : Type} {enc : TypeId × Value → H} {W : World} {fuel : Nat} {x : DataW H × List MemPlace} {a0 : Option Addr} {len cap : Nat}
    (hf : DataW.trod enc Try.prog W 0 (fun _ => true) true fuel 39 (Value.slice a0 len cap).cells.toList = some x) : ∃ xs : List Int, Row (kNum .u32) W (fun _ => False) (.slice a0 len cap) xs ∧ okParts xs := by
  rcases open_ints Try.underlying39 Try.underlying128 (by kernel_rfl) hf with ⟨hcs, _⟩ | ⟨a, len', cap', Z, hcs, _, hlc, hcm, hzl, _, hcell, hwf⟩
  · simp [Value.cells] at hcs
    obtain ⟨rfl, rfl, rfl⟩ := hcs
    exact ⟨[], ⟨none, 0, [], rfl, Nat.le_refl _, by simp [maxLen], fun _ => rfl, Pairs.nil _ _ _, fun h => by simp at h⟩, fun z hz => by simp at hz⟩
  · simp [Value.cells] at hcs
    obtain ⟨rfl, rfl, rfl⟩ := hcs
    rw [if_pos rfl] at hzl
    exact ⟨Z.take len, nums_row hlc hcm hzl (fun h => nomatch h) (fun b hb j hj => by injection hb with hb; subst hb; exact hcell j (by omega)), fun z hz => u32_ok (hwf z (List.mem_of_mem_take hz))⟩
end Go.Proofs.Ytdljgifoboiaeaa
