/- Bytes, nodes and texts that came in. -/
import Derived.Test.YtbfjacgfifecpaaBindNet
import Derived.Test.YtbfjacgfifecpaaJNA
import Derived.ChangeMaps5
namespace Go.Proofs.Ytbfjacgfifecpaa
open Go.ChangeShapes Go.WideShapes Go.ChangeAt Go.RowKit

theorem u8_ok {n : Int} (h : (Lit.int .u8 n).wf = true) : 0 ≤ n ∧ n < 256 := by have := bounds_u8 h; omega
section
variable {H : Type} {enc : TypeId × Value → H} {W : World}
set_option maxRecDepth 100000 in
theorem bind_node {v : Value} {d : DataW H} {p : List MemPlace} {r : Reach} {b0 : Nat} (hv : Value.okWide Try.prog W r b0 38 v) (h : DataW.Trod enc Try.prog W 0 (fun _ => true) true 38 v d p) : ∃ x : Node, v = nodeV x := by
  obtain ⟨cs, rfl, hsz⟩ := okWide_struct Try.underlying38 hv
  obtain ⟨fuel, hf⟩ := h
  obtain ⟨l⟩ := cs
  have hl : l.length = 4 := hsz.trans cells_node
  obtain ⟨x, hx, -⟩ := el_node fuel l (d, p) hf hl
  refine ⟨x, ?_⟩
  have : l = x.cells := hx
  rw [this]
  rfl
set_option maxRecDepth 100000 in
theorem bind_str {v : Value} {d : DataW H} {p : List MemPlace} {r : Reach} {b0 : Nat} (hv : Value.okWide Try.prog W r b0 9 v) (h : DataW.Trod enc Try.prog W 0 (fun _ => true) true 9 v d p) (hw : ∀ n ∈ d.weights Try.prog 9, n ≤ reachBytes) : ∃ s : ByteArray, v = .string s ∧ s.size ≤ 140737488355328 := by
  obtain ⟨s, rfl, hd, -⟩ := Go.ChangeMaps.open_string Try.underlying9 hv h
  refine ⟨s, rfl, ?_⟩
  subst hd
  have h1 := hw s.data.toList.length (by simp [DataW.weights])
  have hr : reachBytes < 140737488355328 := by decide
  have hs : s.size = s.data.toList.length := by rw [Array.length_toList]; rfl
  omega
end
end Go.Proofs.Ytbfjacgfifecpaa
