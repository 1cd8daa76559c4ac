/- From a law's walk to its row: arguments that are only read. -/
import Derived.Test.YtbfjacgfifecpaaRows
import Derived.Test.YtbfjacgfifecpaaKBase
import Derived.ProofKit
import Derived.OpenShut
import Derived.ReadAgain
import Derived.SizedLaws
import Derived.Deep.Matrix
namespace Go.Proofs.Ytbfjacgfifecpaa
open Go.ChangeShapes Go.WideShapes Go.ChangeAt Go.RowKit

theorem own_ : ownKnob Try.prog.godebug = none := by kernel_rfl
theorem kids_ : Kids Try.prog (· < Try.prog.types.size) := kids_rows (by kernel_rfl) (by kernel_rfl)
theorem full_ : ∀ t e, t < Try.prog.types.size → Try.prog.underlying t = some (.slice e) → 0 < Try.prog.cellsOf e := slices_full_of Try.prog (by kernel_rfl)

section
variable {H : Type} {enc : TypeId × Value → H} {P : Program} {w w' : World} {base : Nat} {sp : Nat → Bool} {held : Bool}
theorem trodAll_carry : ∀ {ts : List TypeId} {vs : List Value} {ds : List (DataW H)} {ps : List MemPlace}, DataW.TrodAll enc P w base sp held ts vs ds ps → (∀ p ∈ ps, w.sameAt w' p) → DataW.TrodAll enc P w' base sp held ts vs ds ps
  | [], _, _, _, h, _ => by
    obtain ⟨rfl, rfl, rfl⟩ := trodAll_nil h
    exact rfl
  | _ :: _, _, _, _, h, hs => by
    obtain ⟨v, vs1, d, ds1, a, b, rfl, rfl, rfl, ⟨n, h1⟩, h2⟩ := trodAll_cons h
    exact ⟨a, b, ⟨n, DataW.trod_carry n _ _ _ h1 fun p hp => hs p (by simp [hp])⟩, trodAll_carry h2 fun p hp => hs p (by simp [hp]), rfl⟩
end

set_option maxRecDepth 100000 in
/-- a law's row: true is told, and what was there is as it was -/
theorem law_post {H : Type} {enc : TypeId × Value → H} {f : Func} {s : ChangeSpec} {W W' : World} {args : Array Value} {ds : List (DataW H)} {before : List MemPlace}
    (hW : DataW.Whole enc Try.prog f.params.toList s.vars false W args.toList ds [] before) (hvs : s.vars = []) (hb : Below W.heap.size W W')
    (hr : f.resultTypes = #[4]) (hp : ∀ t ∈ f.params.toList, t < Try.prog.types.size)
    (hres : (s.fn H ds).results = [.lit (.bool true)]) (hargs : (s.fn H ds).args = ds) (hvars : (s.fn H ds).vars = []) :
    s.post enc Try.prog f false true false false W args (.bool true) W' := by
  have hW' := hW
  obtain ⟨p, q, hA0, hV, rfl, hfz, hnd⟩ := hW
  rw [hvs] at hV
  obtain ⟨-, rfl⟩ := trodVars_none hV
  have hA : DataW.TrodAll enc Try.prog W 0 (fun _ => true) true f.params.toList args.toList ds p := hA0
  simp only [List.append_nil] at hW' hfz
  have hlt : ∀ x ∈ p, x.block < W.heap.size := fun x hx => hW'.lt x hx
  have hargs2 : ∀ sp : Nat → Bool, (∀ x ∈ p, sp x.block = true) → DataW.TrodAll enc Try.prog W' 0 sp true f.params.toList args.toList (s.fn H (ds ++ [])).args p := fun sp hsp => by
    rw [List.append_nil, hargs]
    exact trodAll_carry (DataW.TrodAll.respare kids_ full_ hp hA hsp) fun x hx => hb.same (hlt x hx)
  have hres2 : ∀ (b : Nat) (sp : Nat → Bool) (hd : Bool), DataW.TrodAll enc Try.prog W' b sp hd f.resultTypes.toList ((Value.bool true).resultList f.resultTypes.size) (s.fn H (ds ++ [])).results [] := fun b sp hd => by
    rw [List.append_nil, hres, hr]
    exact trodAll_mk1 (shut_bool Try.underlying4 _)
  have hok : ∀ (j : Nat) (t : TypeId) (r : Value), f.resultTypes[j]? = some t → ((Value.bool true).resultList f.resultTypes.size)[j]? = some r → Value.okWide Try.prog W' .any 0 t r := by
    intro j t r h1 h2
    rw [hr] at h1 h2
    have h2 : ([Value.bool true] : List Value)[j]? = some r := h2
    match j, h1, h2 with
    | 0, h1, h2 =>
      simp at h1 h2
      subst h1; subst h2
      exact okWide_bool_mk Try.underlying4 _
    | j + 1, h1, h2 => simp at h2
  have hold : ∀ x ∈ p, (fun b => decide (b < W.heap.size)) x.block = true := fun x hx => by simpa using hlt x hx
  have hv2 : ∀ sp : Nat → Bool, DataW.TrodVars enc Try.prog W' sp s.vars (s.fn H (ds ++ [])).vars [] := fun sp => by
    rw [List.append_nil, hvs, hvars]; exact rfl
  refine ⟨ds, [], p, [], p, [], hW', hres2 _ _ _, hargs2 _ hold, hv2 _, World.keptBut_mono (fun x hx => ⟨hx, .inr (.inl hx)⟩) (hb.frame (· ∈ p)), fun _ => ?_⟩
  refine ⟨hok, _, _, ([] ++ p) ++ [], ⟨[] ++ p, [], trodAll_append (hargs2 _ (fun _ _ => rfl)) (hres2 _ _ _), hv2 _, rfl, ?_, ?_⟩, ?_⟩
  · intro b off hx
    have hx2 : MemPlace.cell b off ∈ p := by simpa using hx
    have h1 := hfz b off (by simpa using hx2)
    rw [hb.frozen (p := ⟨b, off, none⟩) (hlt _ hx2)]
    exact h1
  · intro ha
    have := hnd ha
    simpa using this
  · intro x hx _
    simpa using hx
end Go.Proofs.Ytbfjacgfifecpaa
