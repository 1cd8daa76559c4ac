/- The row of slipsticklaw06.NetGrows: the statement is true of every input; what was there is as it was. No conditions. -/
import Derived.Test.YtbfjacgfifecpaaBind8
import Derived.Test.YtbfjacgfifecpaaNGrows
namespace Go.Proofs.Ytbfjacgfifecpaa
open Go.ChangeShapes Go.WideShapes Go.ChangeAt Go.RowKit

set_option maxRecDepth 100000 in
theorem netGrows_lifted (os : Os) (started : os.Started) (H : Type) (enc : TypeId × Value → H) :
    ReturnsInHanded {} Try.checked os 6 .any (Rows.netGrowsSpec.pre6 enc Try.prog Try.f6 Rows.netGrowsRow.domain false) (Rows.netGrowsSpec.post enc Try.prog Try.f6 false true false false) := by
  refine returnsInHanded_of_change_sized (C := Try.checked) own_ started (by kernel_rfl) Try.func6
    (ChangeSpec.witness6 (enc := enc) (C := Try.checked) false ⟨#[], #[.agg #[.slice none 0 0, .slice none 0 0, .slice none 0 0], .int .u8 0, .int .u8 0, .int .u8 0, .int .u8 0], []⟩ 8 (by kernel_rfl) (by kernel_rfl) (by kernel_rfl) (by kernel_rfl)) ?_
  intro W base args ds gs before hval0 hW hcnd hsz0 _
  have hsz : (DataW.weightsEach Try.prog (Try.f6.params.toList ++ Rows.netGrowsSpec.plain.varTypes Try.prog) (ds ++ gs)).all (· ≤ reachBytes) = true := hsz0
  have hval : ∀ (j : Nat) t v, Try.f6.params[j]? = some t → args[j]? = some v → Value.okWide Try.prog W .any base t v := hval0
  have hW' := hW
  obtain ⟨p, q, hA0, hV, rfl, hfz, hnd⟩ := hW
  have hA : DataW.TrodAll enc Try.prog W 0 (fun _ => true) true Try.f6.params.toList args.toList ds p := hA0
  rw [Try.params6] at hA hval hsz
  obtain ⟨v0, vs0, d0, ds0, p0, q0, hargs, rfl, rfl, h0, hr0⟩ := trodAll_cons hA
  obtain ⟨v1, vs1, d1, ds1, p1, q1, rfl, rfl, rfl, h1, hr1⟩ := trodAll_cons hr0
  obtain ⟨v2, vs2, d2, ds2, p2, q2, rfl, rfl, rfl, h2, hr2⟩ := trodAll_cons hr1
  obtain ⟨v3, vs3, d3, ds3, p3, q3, rfl, rfl, rfl, h3, hr3⟩ := trodAll_cons hr2
  obtain ⟨v4, vs4, d4, ds4, p4, q4, rfl, rfl, rfl, h4, hr4⟩ := trodAll_cons hr3
  obtain ⟨rfl, rfl, rfl⟩ := trodAll_nil hr4
  obtain rfl : args = #[v0, v1, v2, v3, v4] := by cases args; simp_all
  have hV2 := hV
  obtain ⟨hg, hq⟩ := trodVars_none hV2
  subst hg; subst hq
  have hw0 : ∀ n ∈ d0.weights Try.prog 25, n ≤ reachBytes := fun n hn => by simpa using List.all_eq_true.1 hsz _ (DataW.weights_mem_each (j := 0) rfl rfl n hn)
  obtain ⟨nodes0, ins0, outs0, hN0, hP0⟩ := bind_net (hval 0 25 v0 rfl rfl) h0 hw0
  obtain ⟨a1, rfl, rfl, rfl, wa1⟩ := open_int Try.underlying5 (hval 1 5 v1 rfl rfl) h1
  have ha1 := u8_ok wa1
  obtain ⟨a1, rfl⟩ := Int.eq_ofNat_of_zero_le ha1.1
  have ha1 : a1 < 256 := by omega
  obtain ⟨a2, rfl, rfl, rfl, wa2⟩ := open_int Try.underlying5 (hval 2 5 v2 rfl rfl) h2
  have ha2 := u8_ok wa2
  obtain ⟨a2, rfl⟩ := Int.eq_ofNat_of_zero_le ha2.1
  have ha2 : a2 < 256 := by omega
  obtain ⟨a3, rfl, rfl, rfl, wa3⟩ := open_int Try.underlying5 (hval 3 5 v3 rfl rfl) h3
  have ha3 := u8_ok wa3
  obtain ⟨a3, rfl⟩ := Int.eq_ofNat_of_zero_le ha3.1
  have ha3 : a3 < 256 := by omega
  obtain ⟨a4, rfl, rfl, rfl, wa4⟩ := open_int Try.underlying5 (hval 4 5 v4 rfl rfl) h4
  have ha4 := u8_ok wa4
  obtain ⟨a4, rfl⟩ := Int.eq_ofNat_of_zero_le ha4.1
  have ha4 : a4 < 256 := by omega
  clear hA0 hval0 hsz0
  refine (netGrows_walk W _ nodes0 ins0 outs0 a1 a2 a3 a4 ha1 ha2 ha3 ha4 hN0 hP0).mono fun e W' ⟨he, hbel⟩ => ?_
  subst he
  exact ⟨_, rfl, law_post hW' rfl hbel (by rfl) (by rw [Try.params6]; decide) rfl rfl rfl⟩

theorem netGrows_proved : Rows.NetGrowsSaid :=
  OpenClaim.holds_of_wide 6 Try.f6 rfl rfl rfl rfl rfl rfl rfl ⟨rfl, rfl, rfl, rfl, rfl⟩ rfl rfl rfl rfl rfl (by kernel_rfl) Try.func6 (by kernel_rfl)
    (of_decide_eq_true (by kernel_rfl)) (by unfold Func.isWrapper; first | (rw [if_pos (by decide +kernel)]; kernel_rfl) | (rw [if_neg (by decide +kernel)]; exact ⟨rfl, rfl⟩))
    (fun os started H enc _ => netGrows_lifted os started H enc)
#print axioms netGrows_proved
end Go.Proofs.Ytbfjacgfifecpaa
