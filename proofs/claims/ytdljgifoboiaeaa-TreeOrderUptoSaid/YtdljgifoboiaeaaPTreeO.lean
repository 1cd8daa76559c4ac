/- The row of slipsticklaw15.TreeOrder: the statement is true of every input of bulk at most 1048576; what was there is as it was. One condition: the bulk. -/
import Derived.Test.YtdljgifoboiaeaaBindU
import Derived.Test.YtdljgifoboiaeaaTreeO
namespace Go.Proofs.Ytdljgifoboiaeaa
open Go.ChangeShapes Go.WideShapes Go.ChangeAt Go.RowKit

set_option maxRecDepth 100000 in
theorem treeOrderUpto_lifted (os : Os) (started : os.Started) (H : Type) (enc : TypeId × Value → H) (F : Stop.Interp) :
    ReturnsInHanded {} Try.checked os 7 .any ((Rows.OpenSpec.upto Rows.treeOrderSpec).pre6 enc Try.prog Try.f7 Rows.treeOrderUptoRow.domain false) (((Rows.OpenSpec.upto Rows.treeOrderSpec).at F).post enc Try.prog Try.f7 false true false false) := by
  refine returnsInHanded_of_cond (C := Try.checked) (s := (Rows.OpenSpec.upto Rows.treeOrderSpec)) (k := Rows.uptoSmall) rfl own_ started (by kernel_rfl) Try.func7
    (OpenSpec.witness (enc := enc) (C := Try.checked) (s := (Rows.OpenSpec.upto Rows.treeOrderSpec)) (k := Rows.uptoSmall) rfl false ⟨#[], #[.slice none 0 0, .int .u8 0, .slice none 0 0], []⟩ 8 (by kernel_rfl) (by kernel_rfl) (by kernel_rfl) (x := ([.nil, .lit (.int .u8 0), .nil], [], [])) (by kernel_rfl) (by kernel_rfl) (by kernel_rfl)) ?_
  intro W base args ds gs before hval0 hW hcnd hbulk0 _
  have hval : ∀ (j : Nat) t v, Try.f7.params[j]? = some t → args[j]? = some v → Value.okWide Try.prog W .any base t v := hval0
  have hW' := hW
  obtain ⟨p, q, hA0, hV, rfl, hfz, hnd⟩ := hW
  have hA : DataW.TrodAll enc Try.prog W 0 (fun _ => true) true Try.f7.params.toList args.toList ds p := hA0
  rw [Try.params7] at hA hval
  obtain ⟨v0, vs0, d0, ds0, p0, q0, hargs, rfl, rfl, h0, hr0⟩ := trodAll_cons hA
  obtain ⟨v1, vs1, d1, ds1, p1, q1, rfl, rfl, rfl, h1, hr1⟩ := trodAll_cons hr0
  obtain ⟨v2, vs2, d2, ds2, p2, q2, rfl, rfl, rfl, h2, hr2⟩ := trodAll_cons hr1
  obtain ⟨rfl, rfl, rfl⟩ := trodAll_nil hr2
  obtain rfl : args = #[v0, v1, v2] := by cases args; simp_all
  have hV2 := hV
  obtain ⟨hg, hq⟩ := trodVars_none hV2
  subst hg; subst hq
  obtain ⟨c0, len0, cap0, rfl⟩ := okWide_slice Try.underlying78 (hval 0 78 v0 rfl rfl)
  obtain ⟨fuel0, hf0⟩ := h0
  obtain ⟨xs0, hx0, ho0⟩ := bind_u8s hf0
  obtain ⟨a1, rfl, rfl, rfl, wa1⟩ := open_int Try.underlying5 (hval 1 5 v1 rfl rfl) h1
  have ha1 := u8_ok wa1
  obtain ⟨a1, rfl⟩ := Int.eq_ofNat_of_zero_le ha1.1
  have ha1 : a1 < 256 := by omega
  obtain ⟨c2, len2, cap2, rfl⟩ := okWide_slice Try.underlying22 (hval 2 22 v2 rfl rfl)
  obtain ⟨fuel2, hf2⟩ := h2
  obtain ⟨xss2, hx2, ho2, hu2⟩ := bind_natsU hf2
  have hbulk : Rows.uptoBulkAll ([d0, _, d2] ++ []) ≤ 1048576 := of_decide_eq_true hbulk0
  simp only [List.append_nil, Rows.uptoBulkAll, Rows.uptoBulk] at hbulk
  clear hA0 hval0 hbulk0
  refine (treeOrder_walk W a1 ha1 _ _ xs0 xss2 hx0 ho0 hx2 ho2 (by have h := sum_lens xss2; simp only at hu2; omega) (by have h := sum_lens xss2; simp only at hu2; omega)).mono fun e W' ⟨he, hbel⟩ => ?_
  subst he
  exact ⟨_, rfl, law_post hW' rfl hbel (by rfl) (by rw [Try.params7]; decide) rfl rfl rfl⟩

theorem treeOrderUpto_proved : Rows.TreeOrderUptoSaid :=
  OpenClaim.holds_of_cond 7 Try.f7 rfl rfl rfl rfl rfl rfl rfl ⟨rfl, rfl, rfl, rfl, rfl⟩ rfl rfl rfl rfl rfl (by kernel_rfl) Try.func7 (by kernel_rfl)
    (of_decide_eq_true (by kernel_rfl)) (by unfold Func.isWrapper; first | (rw [if_pos (by decide +kernel)]; kernel_rfl) | (rw [if_neg (by decide +kernel)]; exact ⟨rfl, rfl⟩))
    (fun os started H enc _ F => treeOrderUpto_lifted os started H enc F)
#print axioms treeOrderUpto_proved
end Go.Proofs.Ytdljgifoboiaeaa
