/- The row of slipsticklaw15.TreeRounds: the statement is true of every input; what was there is as it was. No conditions. -/
import Derived.Test.YtdljgifoboiaeaaBindN
import Derived.Test.YtdljgifoboiaeaaLRounds
namespace Go.Proofs.Ytdljgifoboiaeaa
open Go.ChangeShapes Go.WideShapes Go.ChangeAt Go.RowKit

set_option maxRecDepth 100000 in
theorem treeRounds_lifted (os : Os) (started : os.Started) (H : Type) (enc : TypeId × Value → H) :
    ReturnsInHanded {} Try.checked os 6 .any (Rows.treeRoundsSpec.pre6 enc Try.prog Try.f6 Rows.treeRoundsRow.domain false) (Rows.treeRoundsSpec.post enc Try.prog Try.f6 false true false false) := by
  refine returnsInHanded_of_change (C := Try.checked) own_ started (by kernel_rfl) Try.func6
    (ChangeSpec.witness6 (enc := enc) (C := Try.checked) false ⟨#[], #[.int .u16 0], []⟩ 8 (by kernel_rfl) (by kernel_rfl) (by kernel_rfl) (by kernel_rfl)) ?_
  intro W base args ds gs before hval0 hW hcnd _
  have hval : ∀ (j : Nat) t v, Try.f6.params[j]? = some t → args[j]? = some v → Value.okWide Try.prog W .any base t v := hval0
  have hW' := hW
  obtain ⟨p, q, hA0, hV, rfl, hfz, hnd⟩ := hW
  have hA : DataW.TrodAll enc Try.prog W 0 (fun _ => true) true Try.f6.params.toList args.toList ds p := hA0
  rw [Try.params6] at hA hval
  obtain ⟨v0, vs0, d0, ds0, p0, q0, hargs, rfl, rfl, h0, hr0⟩ := trodAll_cons hA
  obtain ⟨rfl, rfl, rfl⟩ := trodAll_nil hr0
  obtain rfl : args = #[v0] := by cases args; simp_all
  have hV2 := hV
  obtain ⟨hg, hq⟩ := trodVars_none hV2
  subst hg; subst hq
  obtain ⟨a0, rfl, rfl, rfl, wa0⟩ := open_int Try.underlying75 (hval 0 75 v0 rfl rfl) h0
  have ha0 := u16_ok wa0
  obtain ⟨a0, rfl⟩ := Int.eq_ofNat_of_zero_le ha0.1
  have ha0 : a0 < 65536 := by omega
  clear hA0 hval0
  refine (treeRounds_walk W a0 ha0).mono fun e W' ⟨he, hbel⟩ => ?_
  subst he
  exact ⟨_, rfl, law_post hW' rfl hbel (by rfl) (by rw [Try.params6]; decide) rfl rfl rfl⟩

theorem treeRounds_proved : Rows.TreeRoundsSaid :=
  OpenClaim.holds_of_wide 6 Try.f6 rfl rfl rfl rfl rfl rfl rfl ⟨rfl, rfl, rfl, rfl, rfl⟩ rfl rfl rfl rfl rfl (by kernel_rfl) Try.func6 (by kernel_rfl)
    (of_decide_eq_true (by kernel_rfl)) (by unfold Func.isWrapper; first | (rw [if_pos (by decide +kernel)]; kernel_rfl) | (rw [if_neg (by decide +kernel)]; exact ⟨rfl, rfl⟩))
    (fun os started H enc _ => treeRounds_lifted os started H enc)
#print axioms treeRounds_proved
end Go.Proofs.Ytdljgifoboiaeaa
