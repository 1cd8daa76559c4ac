/- The row of slipsticklaw09.FoldSame: the statement is true of every input of bulk at most 1048576; what was there is as it was. One condition: the bulk. -/
import Derived.Test.YtbfjacgfifecpaaBindS
import Derived.Test.YtbfjacgfifecpaaFoSame
namespace Go.Proofs.Ytbfjacgfifecpaa
open Go.ChangeShapes Go.WideShapes Go.ChangeAt Go.RowKit

set_option maxRecDepth 100000 in
theorem foldSameUpto_lifted (os : Os) (started : os.Started) (H : Type) (enc : TypeId × Value → H) (F : Stop.Interp) :
    ReturnsInHanded {} Try.checked os 13 .any ((Rows.OpenSpec.upto Rows.foldSameSpec).pre6 enc Try.prog Try.f13 Rows.foldSameUptoRow.domain false) (((Rows.OpenSpec.upto Rows.foldSameSpec).at F).post enc Try.prog Try.f13 false true false false) := by
  refine returnsInHanded_of_cond (C := Try.checked) (s := (Rows.OpenSpec.upto Rows.foldSameSpec)) (k := Rows.uptoSmall) rfl own_ started (by kernel_rfl) Try.func13
    (OpenSpec.witness (enc := enc) (C := Try.checked) (s := (Rows.OpenSpec.upto Rows.foldSameSpec)) (k := Rows.uptoSmall) rfl false ⟨#[], #[.agg #[.slice none 0 0, .slice none 0 0, .slice none 0 0], .slice none 0 0], []⟩ 8 (by kernel_rfl) (by kernel_rfl) (by kernel_rfl) (x := ([.agg [.nil, .nil, .nil], .nil], [], [])) (by kernel_rfl) (by kernel_rfl) (by kernel_rfl)) ?_
  intro W base args ds gs before hval0 hW hcnd hbulk0 _
  have hval : ∀ (j : Nat) t v, Try.f13.params[j]? = some t → args[j]? = some v → Value.okWide Try.prog W .any base t v := hval0
  have hW' := hW
  obtain ⟨p, q, hA0, hV, rfl, hfz, hnd⟩ := hW
  have hA : DataW.TrodAll enc Try.prog W 0 (fun _ => true) true Try.f13.params.toList args.toList ds p := hA0
  rw [Try.params13] at hA hval
  obtain ⟨v0, vs0, d0, ds0, p0, q0, hargs, rfl, rfl, h0, hr0⟩ := trodAll_cons hA
  obtain ⟨v1, vs1, d1, ds1, p1, q1, rfl, rfl, rfl, h1, hr1⟩ := trodAll_cons hr0
  obtain ⟨rfl, rfl, rfl⟩ := trodAll_nil hr1
  obtain rfl : args = #[v0, v1] := by cases args; simp_all
  have hV2 := hV
  obtain ⟨hg, hq⟩ := trodVars_none hV2
  subst hg; subst hq
  have hbulk : Rows.uptoBulkAll ([d0, d1] ++ []) ≤ 1048576 := of_decide_eq_true hbulk0
  simp only [List.append_nil, Rows.uptoBulkAll] at hbulk
  obtain ⟨nodes0, ins0, outs0, hN0, hP0⟩ := bind_netU (hval 0 25 v0 rfl rfl) h0
  obtain ⟨s1, hx1, hs1⟩ := bind_script (hval 1 55 v1 rfl rfl) h1 (by omega)
  clear hA0 hval0 hbulk0
  refine (foldSame_walk W _ _ nodes0 ins0 outs0 s1 hN0 (fun q hq => by have := hP0 q hq; omega) hx1 hs1).mono fun e W' ⟨he, hbel⟩ => ?_
  subst he
  exact ⟨_, rfl, law_post hW' rfl hbel (by rfl) (by rw [Try.params13]; decide) rfl rfl rfl⟩

theorem foldSameUpto_proved : Rows.FoldSameUptoSaid :=
  OpenClaim.holds_of_cond 13 Try.f13 rfl rfl rfl rfl rfl rfl rfl ⟨rfl, rfl, rfl, rfl, rfl⟩ rfl rfl rfl rfl rfl (by kernel_rfl) Try.func13 (by kernel_rfl)
    (of_decide_eq_true (by kernel_rfl)) (by unfold Func.isWrapper; first | (rw [if_pos (by decide +kernel)]; kernel_rfl) | (rw [if_neg (by decide +kernel)]; exact ⟨rfl, rfl⟩))
    (fun os started H enc _ F => foldSameUpto_lifted os started H enc F)
#print axioms foldSameUpto_proved
end Go.Proofs.Ytbfjacgfifecpaa
