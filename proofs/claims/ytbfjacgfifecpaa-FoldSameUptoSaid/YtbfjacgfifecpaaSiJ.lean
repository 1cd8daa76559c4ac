/- Nets that are small, and may be, can be told cycle by cycle. Plain. -/
import Derived.Test.YtbfjacgfifecpaaSiI
import Derived.Test.YtbfjacgfifecpaaNTells
namespace Go.Proofs.Ytbfjacgfifecpaa

theorem wtP_of {nodes : List Node} {ins outs : List Port} (h : largeB nodes ins outs 60 = false) : ∀ q ∈ ins ++ outs, q.bits.length ≤ 4000 ∧ q.name.size ≤ 4000 := by
  obtain ⟨h1, h2, h3, h4⟩ := small_of h
  intro q hq
  have hw : wtP q ≤ 4000 := by
    rcases List.mem_append.1 hq with hq | hq
    · have := wt_mem hq; omega
    · have := wt_mem hq; omega
  unfold wtP at hw
  omega
theorem flat_bd {B : Nat} : ∀ (ps : List Port), (∀ q ∈ ps, q.bits.length ≤ B) → (ps.flatMap (·.bits)).length ≤ ps.length * B
  | [], _ => by simp
  | p :: ps, h => by
    have h1 := h p List.mem_cons_self
    have h2 := flat_bd ps fun q hq => h q (List.mem_cons_of_mem _ hq)
    rw [List.flatMap_cons, List.length_append, List.length_cons, Nat.add_mul]
    omega
theorem fits_err {nodes : List Node} {ins outs : List Port} {b : Bool} (h : errP nodes ins outs b = 0) (hq : ∀ q ∈ ins ++ outs, q.bits.length ≤ 4000 ∧ q.name.size ≤ 4000) : Fits nodes ins outs := by
  obtain ⟨⟨h1, h2⟩, -⟩ := errP_zero h
  refine ⟨by omega, by omega, by omega, fun q hq' => ?_, fun q hq' => ?_, ?_⟩
  · have := (hq q hq').1; omega
  · have := (hq q hq').2; omega
  · have := flat_bd (B := 4000) ins fun q hq' => (hq q (List.mem_append_left _ hq')).1
    have : ins.length * 4000 ≤ 64 * 4000 := Nat.mul_le_mul_right _ (by omega)
    omega
theorem sim_err {nodes : List Node} {ins outs : List Port} {b : Bool} {l : List Int} (h : errP nodes ins outs b = 0) (hl : IsLev nodes l) (hq : ∀ q ∈ ins ++ outs, q.bits.length ≤ 4000 ∧ q.name.size ≤ 4000) : SimN nodes ins outs := by
  obtain ⟨⟨h1, h2⟩, hf, -⟩ := errP_zero h
  have hfo := (formed_in hf).2
  refine ⟨hf, ⟨l, hl⟩, ⟨by omega, fun q hq' => ⟨?_, (hfo q (List.mem_append_left _ hq')).2⟩⟩, ⟨by omega, fun q hq' => ⟨?_, (hfo q (List.mem_append_right _ hq')).2⟩⟩, by omega⟩
  · have := (hq q (List.mem_append_left _ hq')).1; omega
  · have := (hq q (List.mem_append_right _ hq')).1; omega
theorem lev_out {nodes : List Node} {ins outs : List Port} {l : List Int} (h : errP nodes ins outs true = 0) (hl : IsLev nodes l) : LevOut nodes ins outs 0 l :=
  ⟨true, h.symm, fun _ => ⟨l, hl⟩, fun h => absurd h (by simp), fun _ => hl, fun h => absurd rfl h⟩
/-- a script that came in, not too large -/
structure ScrN (s : List (List (List Int))) : Prop where
  len : s.length ≤ 1048576
  row : ∀ x ∈ s, x.length ≤ 1048576
  ok : ∀ x ∈ s, ∀ xs ∈ x, okParts xs ∧ xs.length ≤ 1048576
  sum : scriptN s ≤ 1099511627776
theorem ScrN.scr {s : List (List (List Int))} (h : ScrN s) : okScript s := ⟨by have := h.len; omega, fun row hr => ⟨by have := h.row row hr; omega, fun xs hx => ⟨(h.ok row hr xs hx).1, by have := (h.ok row hr xs hx).2; omega⟩⟩⟩
end Go.Proofs.Ytbfjacgfifecpaa
