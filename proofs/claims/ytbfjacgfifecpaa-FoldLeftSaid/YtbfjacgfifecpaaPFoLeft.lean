/- The row of slipsticklaw09.FoldLeft: the statement is true of every input; what was there is as it was. No conditions. -/
import Derived.Test.YtbfjacgfifecpaaBindNet
import Derived.Test.YtbfjacgfifecpaaFoLeft
namespace Go.Proofs.Ytbfjacgfifecpaa
open Go.ChangeShapes Go.WideShapes Go.ChangeAt Go.RowKit

set_option maxRecDepth 100000 in
theorem foldLeft_lifted (os : Os) (started : os.Started) (H : Type) (enc : TypeId × Value → H) :
    ReturnsInHanded {} Try.checked os 12 .any (Rows.foldLeftSpec.pre6 enc Try.prog Try.f12 Rows.foldLeftRow.domain false) (Rows.foldLeftSpec.post enc Try.prog Try.f12 false true false false) := by
  refine returnsInHanded_of_change_sized (C := Try.checked) own_ started (by kernel_rfl) Try.func12
    (ChangeSpec.witness6 (enc := enc) (C := Try.checked) false ⟨#[], #[.agg #[.slice none 0 0, .slice none 0 0, .slice none 0 0]], []⟩ 8 (by kernel_rfl) (by kernel_rfl) (by kernel_rfl) (by kernel_rfl)) ?_
  intro W base args ds gs before hval0 hW hcnd hsz0 _
  have hsz : (DataW.weightsEach Try.prog (Try.f12.params.toList ++ Rows.foldLeftSpec.plain.varTypes Try.prog) (ds ++ gs)).all (· ≤ reachBytes) = true := hsz0
  have hval : ∀ (j : Nat) t v, Try.f12.params[j]? = some t → args[j]? = some v → Value.okWide Try.prog W .any base t v := hval0
  have hW' := hW
  obtain ⟨p, q, hA0, hV, rfl, hfz, hnd⟩ := hW
  have hA : DataW.TrodAll enc Try.prog W 0 (fun _ => true) true Try.f12.params.toList args.toList ds p := hA0
  rw [Try.params12] at hA hval hsz
  obtain ⟨v0, vs0, d0, ds0, p0, q0, hargs, rfl, rfl, h0, hr0⟩ := trodAll_cons hA
  obtain ⟨rfl, rfl, rfl⟩ := trodAll_nil hr0
  obtain rfl : args = #[v0] := by cases args; simp_all
  have hV2 := hV
  obtain ⟨hg, hq⟩ := trodVars_none hV2
  subst hg; subst hq
  have hw0 : ∀ n ∈ d0.weights Try.prog 25, n ≤ reachBytes := fun n hn => by simpa using List.all_eq_true.1 hsz _ (DataW.weights_mem_each (j := 0) rfl rfl n hn)
  obtain ⟨nodes0, ins0, outs0, hN0, hP0⟩ := bind_net (hval 0 25 v0 rfl rfl) h0 hw0
  clear hA0 hval0 hsz0
  refine (foldLeft_walk W _ nodes0 ins0 outs0 hN0 hP0).mono fun e W' ⟨he, hbel⟩ => ?_
  subst he
  exact ⟨_, rfl, law_post hW' rfl hbel (by rfl) (by rw [Try.params12]; decide) rfl rfl rfl⟩

theorem foldLeft_proved : Rows.FoldLeftSaid :=
  OpenClaim.holds_of_wide 12 Try.f12 rfl rfl rfl rfl rfl rfl rfl ⟨rfl, rfl, rfl, rfl, rfl⟩ rfl rfl rfl rfl rfl (by kernel_rfl) Try.func12 (by kernel_rfl)
    (of_decide_eq_true (by kernel_rfl)) (by unfold Func.isWrapper; first | (rw [if_pos (by decide +kernel)]; kernel_rfl) | (rw [if_neg (by decide +kernel)]; exact ⟨rfl, rfl⟩))
    (fun os started H enc _ => foldLeft_lifted os started H enc)
#print axioms foldLeft_proved
end Go.Proofs.Ytbfjacgfifecpaa
