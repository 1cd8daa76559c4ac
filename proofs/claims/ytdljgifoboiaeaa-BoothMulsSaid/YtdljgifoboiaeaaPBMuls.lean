/- The row of slipsticklaw16.BoothMuls: the statement is true of every input; what was there is as it was. No conditions. -/
import Derived.Test.YtdljgifoboiaeaaBindN
import Derived.Test.YtdljgifoboiaeaaL16
namespace Go.Proofs.Ytdljgifoboiaeaa
open Go.ChangeShapes Go.WideShapes Go.ChangeAt Go.RowKit

set_option maxRecDepth 100000 in
theorem boothMuls_lifted (os : Os) (started : os.Started) (H : Type) (enc : TypeId × Value → H) :
    ReturnsInHanded {} Try.checked os 12 .any (Rows.boothMulsSpec.pre6 enc Try.prog Try.f12 Rows.boothMulsRow.domain false) (Rows.boothMulsSpec.post enc Try.prog Try.f12 false true false false) := by
  refine returnsInHanded_of_change (C := Try.checked) own_ started (by kernel_rfl) Try.func12
    (ChangeSpec.witness6 (enc := enc) (C := Try.checked) false ⟨#[], #[.int .u8 0, .int .u8 0, .slice none 0 0, .slice none 0 0], []⟩ 8 (by kernel_rfl) (by kernel_rfl) (by kernel_rfl) (by kernel_rfl)) ?_
  intro W base args ds gs before hval0 hW hcnd _
  have hval : ∀ (j : Nat) t v, Try.f12.params[j]? = some t → args[j]? = some v → Value.okWide Try.prog W .any base t v := hval0
  have hW' := hW
  obtain ⟨p, q, hA0, hV, rfl, hfz, hnd⟩ := hW
  have hA : DataW.TrodAll enc Try.prog W 0 (fun _ => true) true Try.f12.params.toList args.toList ds p := hA0
  rw [Try.params12] at hA hval
  obtain ⟨v0, vs0, d0, ds0, p0, q0, hargs, rfl, rfl, h0, hr0⟩ := trodAll_cons hA
  obtain ⟨v1, vs1, d1, ds1, p1, q1, rfl, rfl, rfl, h1, hr1⟩ := trodAll_cons hr0
  obtain ⟨v2, vs2, d2, ds2, p2, q2, rfl, rfl, rfl, h2, hr2⟩ := trodAll_cons hr1
  obtain ⟨v3, vs3, d3, ds3, p3, q3, rfl, rfl, rfl, h3, hr3⟩ := trodAll_cons hr2
  obtain ⟨rfl, rfl, rfl⟩ := trodAll_nil hr3
  obtain rfl : args = #[v0, v1, v2, v3] := by cases args; simp_all
  have hV2 := hV
  obtain ⟨hg, hq⟩ := trodVars_none hV2
  subst hg; subst hq
  obtain ⟨a0, rfl, rfl, rfl, wa0⟩ := open_int Try.underlying5 (hval 0 5 v0 rfl rfl) h0
  have ha0 := u8_ok wa0
  obtain ⟨a0, rfl⟩ := Int.eq_ofNat_of_zero_le ha0.1
  have ha0 : a0 < 256 := by omega
  obtain ⟨a1, rfl, rfl, rfl, wa1⟩ := open_int Try.underlying5 (hval 1 5 v1 rfl rfl) h1
  have ha1 := u8_ok wa1
  obtain ⟨a1, rfl⟩ := Int.eq_ofNat_of_zero_le ha1.1
  have ha1 : a1 < 256 := by omega
  obtain ⟨c2, len2, cap2, rfl⟩ := okWide_slice Try.underlying39 (hval 2 39 v2 rfl rfl)
  obtain ⟨fuel2, hf2⟩ := h2
  obtain ⟨xs2, hx2, ho2⟩ := bind_nat hf2
  obtain ⟨c3, len3, cap3, rfl⟩ := okWide_slice Try.underlying39 (hval 3 39 v3 rfl rfl)
  obtain ⟨fuel3, hf3⟩ := h3
  obtain ⟨xs3, hx3, ho3⟩ := bind_nat hf3
  clear hA0 hval0
  refine (muls_walk W a0 a1 ha0 ha1 _ _ xs2 xs3 hx2 hx3 ho2 ho3).mono fun e W' ⟨he, hbel⟩ => ?_
  subst he
  exact ⟨_, rfl, law_post hW' rfl hbel (by rfl) (by rw [Try.params12]; decide) rfl rfl rfl⟩

theorem boothMuls_proved : Rows.BoothMulsSaid :=
  OpenClaim.holds_of_wide 12 Try.f12 rfl rfl rfl rfl rfl rfl rfl ⟨rfl, rfl, rfl, rfl, rfl⟩ rfl rfl rfl rfl rfl (by kernel_rfl) Try.func12 (by kernel_rfl)
    (of_decide_eq_true (by kernel_rfl)) (by unfold Func.isWrapper; first | (rw [if_pos (by decide +kernel)]; kernel_rfl) | (rw [if_neg (by decide +kernel)]; exact ⟨rfl, rfl⟩))
    (fun os started H enc _ => boothMuls_lifted os started H enc)
#print axioms boothMuls_proved
end Go.Proofs.Ytdljgifoboiaeaa
