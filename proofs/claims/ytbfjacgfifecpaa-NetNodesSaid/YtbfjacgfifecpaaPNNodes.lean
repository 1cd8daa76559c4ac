/- The row of slipsticklaw06.NetNodes: the statement is true of every input; what was there is as it was. No conditions. -/
import Derived.Test.YtbfjacgfifecpaaBind8
import Derived.Test.YtbfjacgfifecpaaNNodes
namespace Go.Proofs.Ytbfjacgfifecpaa
open Go.ChangeShapes Go.WideShapes Go.ChangeAt Go.RowKit

set_option maxRecDepth 100000 in
theorem netNodes_lifted (os : Os) (started : os.Started) (H : Type) (enc : TypeId × Value → H) :
    ReturnsInHanded {} Try.checked os 4 .any (Rows.netNodesSpec.pre6 enc Try.prog Try.f4 Rows.netNodesRow.domain false) (Rows.netNodesSpec.post enc Try.prog Try.f4 false true false false) := by
  refine returnsInHanded_of_change_sized (C := Try.checked) own_ started (by kernel_rfl) Try.func4
    (ChangeSpec.witness6 (enc := enc) (C := Try.checked) false ⟨#[], #[.agg #[.int .i64 0, .int .i64 0, .int .i64 0, .int .i64 0], .string ⟨#[]⟩, .agg #[.slice none 0 0, .slice none 0 0, .slice none 0 0], .agg #[.slice none 0 0, .slice none 0 0, .slice none 0 0]], []⟩ 8 (by kernel_rfl) (by kernel_rfl) (by kernel_rfl) (by kernel_rfl)) ?_
  intro W base args ds gs before hval0 hW hcnd hsz0 _
  have hsz : (DataW.weightsEach Try.prog (Try.f4.params.toList ++ Rows.netNodesSpec.plain.varTypes Try.prog) (ds ++ gs)).all (· ≤ reachBytes) = true := hsz0
  have hval : ∀ (j : Nat) t v, Try.f4.params[j]? = some t → args[j]? = some v → Value.okWide Try.prog W .any base t v := hval0
  have hW' := hW
  obtain ⟨p, q, hA0, hV, rfl, hfz, hnd⟩ := hW
  have hA : DataW.TrodAll enc Try.prog W 0 (fun _ => true) true Try.f4.params.toList args.toList ds p := hA0
  rw [Try.params4] at hA hval hsz
  obtain ⟨v0, vs0, d0, ds0, p0, q0, hargs, rfl, rfl, h0, hr0⟩ := trodAll_cons hA
  obtain ⟨v1, vs1, d1, ds1, p1, q1, rfl, rfl, rfl, h1, hr1⟩ := trodAll_cons hr0
  obtain ⟨v2, vs2, d2, ds2, p2, q2, rfl, rfl, rfl, h2, hr2⟩ := trodAll_cons hr1
  obtain ⟨v3, vs3, d3, ds3, p3, q3, rfl, rfl, rfl, h3, hr3⟩ := trodAll_cons hr2
  obtain ⟨rfl, rfl, rfl⟩ := trodAll_nil hr3
  obtain rfl : args = #[v0, v1, v2, v3] := by cases args; simp_all
  have hV2 := hV
  obtain ⟨hg, hq⟩ := trodVars_none hV2
  subst hg; subst hq
  obtain ⟨x0, rfl⟩ := bind_node (hval 0 38 v0 rfl rfl) h0
  have hw1 : ∀ n ∈ d1.weights Try.prog 9, n ≤ reachBytes := fun n hn => by simpa using List.all_eq_true.1 hsz _ (DataW.weights_mem_each (j := 1) rfl rfl n hn)
  obtain ⟨s1, rfl, hs1⟩ := bind_str (hval 1 9 v1 rfl rfl) h1 hw1
  have hw2 : ∀ n ∈ d2.weights Try.prog 25, n ≤ reachBytes := fun n hn => by simpa using List.all_eq_true.1 hsz _ (DataW.weights_mem_each (j := 2) rfl rfl n hn)
  obtain ⟨nodes2, ins2, outs2, hN2, hP2⟩ := bind_net (hval 2 25 v2 rfl rfl) h2 hw2
  have hw3 : ∀ n ∈ d3.weights Try.prog 25, n ≤ reachBytes := fun n hn => by simpa using List.all_eq_true.1 hsz _ (DataW.weights_mem_each (j := 3) rfl rfl n hn)
  obtain ⟨nodes3, ins3, outs3, hN3, hP3⟩ := bind_net (hval 3 25 v3 rfl rfl) h3 hw3
  clear hA0 hval0 hsz0
  refine (netNodes_walk W x0 s1 _ _ nodes2 nodes3 ins2 outs2 ins3 outs3 hs1 hN2 hP2 hN3 hP3).mono fun e W' ⟨he, hbel⟩ => ?_
  subst he
  exact ⟨_, rfl, law_post hW' rfl hbel (by rfl) (by rw [Try.params4]; decide) rfl rfl rfl⟩

theorem netNodes_proved : Rows.NetNodesSaid :=
  OpenClaim.holds_of_wide 4 Try.f4 rfl rfl rfl rfl rfl rfl rfl ⟨rfl, rfl, rfl, rfl, rfl⟩ rfl rfl rfl rfl rfl (by kernel_rfl) Try.func4 (by kernel_rfl)
    (of_decide_eq_true (by kernel_rfl)) (by unfold Func.isWrapper; first | (rw [if_pos (by decide +kernel)]; kernel_rfl) | (rw [if_neg (by decide +kernel)]; exact ⟨rfl, rfl⟩))
    (fun os started H enc _ => netNodes_lifted os started H enc)
#print axioms netNodes_proved
end Go.Proofs.Ytbfjacgfifecpaa
