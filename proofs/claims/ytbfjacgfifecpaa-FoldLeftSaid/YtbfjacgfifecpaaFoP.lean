/- fold: all nodes in order, plain: what holds along the way. -/
import Derived.Test.YtbfjacgfifecpaaFoD
namespace Go.Proofs.Ytbfjacgfifecpaa

theorem fold1_const {m : List Node} {n : Nat} (hm : ∀ x ∈ m, okNd n x) {x : Node} (hx : x.kind = 0 → x.a = 0 ∨ x.a = 1) (h0 : (fold1 m x).1.kind = 0) : (fold1 m x).1.a = 0 ∨ (fold1 m x).1.a = 1 := by
  have hn := nd_ok hm
  by_cases h : x.kind = 2 ∨ x.kind = 3 ∨ x.kind = 4 ∨ x.kind = 5 ∨ x.kind = 6
  · rcases h with h | h | h | h | h
    · rw [show fold1 m x = flipN m x by unfold fold1; rw [if_pos h]] at h0 ⊢
      unfold flipN at h0 ⊢
      split at h0
      · rename_i hk
        rw [if_pos hk]
        have := (hn x.a).1 hk
        show 1 - (nd m x.a).a = 0 ∨ 1 - (nd m x.a).a = 1
        omega
      · split at h0 <;> exact absurd h0 (by show ¬ x.kind = 0; omega)
    · rw [show fold1 m x = bothN m x 0 by unfold fold1; rw [if_neg (by omega), if_pos h]] at h0 ⊢
      unfold bothN at h0 ⊢
      repeat' split at h0
      all_goals simp_all
    · rw [show fold1 m x = bothN m x 1 by unfold fold1; rw [if_neg (by omega), if_neg (by omega), if_pos h]] at h0 ⊢
      unfold bothN at h0 ⊢
      repeat' split at h0
      all_goals simp_all
    · rw [show fold1 m x = oddN m x by unfold fold1; rw [if_neg (by omega), if_neg (by omega), if_neg (by omega), if_pos h]] at h0 ⊢
      unfold oddN at h0 ⊢
      repeat' split at h0
      all_goals simp_all
    · rw [show fold1 m x = choiceN m x by unfold fold1; rw [if_neg (by omega), if_neg (by omega), if_neg (by omega), if_neg (by omega), if_pos h]] at h0 ⊢
      unfold choiceN at h0 ⊢
      repeat' split at h0
      all_goals simp_all
  · have e : fold1 m x = (x, -1) := by
      unfold fold1
      rw [if_neg (by omega), if_neg (by omega), if_neg (by omega), if_neg (by omega), if_neg (by omega)]
    rw [e] at h0 ⊢
    exact hx h0
/-- by looks: an inductive look at look -/
theorem look_ind {m : List Node} {n : Nat} (hm : ∀ x ∈ m, okNd n x) (Q : Node → Node × Int → Prop) (h1 : ∀ x, okX n x → (fold1 m x).1.kind = x.kind → Q x (fold1 m x)) (h2 : ∀ x r, okX n x → (fold1 m x).1.kind < x.kind → Q (fold1 m x).1 r → Q x r) : ∀ (k : Nat) (x : Node), okX n x → x.kind < k → Q x (look m x) := by
  intro k
  induction k with
  | zero => intro x hx hk; have := hx.1; omega
  | succ k ih =>
    intro x hx hk
    obtain ⟨f1, f2, -⟩ := fold1_ok hm hx
    rw [look_eq hm hx]
    split
    · rename_i h; exact h1 x hx h
    · rename_i h
      have := f2 h
      exact h2 x _ hx this (ih _ f1 (by omega))
theorem look_ok {m : List Node} {n : Nat} (hm : ∀ x ∈ m, okNd n x) {x : Node} (hx : okX n x) : okX n (look m x).1 ∧ ((look m x).2 = -1 ∨ 0 ≤ (look m x).2 ∧ (look m x).2 < n) :=
  look_ind hm (fun _ r => okX n r.1 ∧ (r.2 = -1 ∨ 0 ≤ r.2 ∧ r.2 < n)) (fun x hx _ => ⟨(fold1_ok hm hx).1, (fold1_ok hm hx).2.2.imp id fun h => ⟨h.1, h.2.1⟩⟩) (fun _ _ _ _ h => h) 7 x hx (by have := hx.1; omega)
theorem look_const {m : List Node} {n : Nat} (hm : ∀ x ∈ m, okNd n x) {x : Node} (hx : okX n x) (h0 : x.kind = 0 → x.a = 0 ∨ x.a = 1) : (look m x).1.kind = 0 → (look m x).1.a = 0 ∨ (look m x).1.a = 1 :=
  look_ind hm (fun x r => (x.kind = 0 → x.a = 0 ∨ x.a = 1) → r.1.kind = 0 → r.1.a = 0 ∨ r.1.a = 1) (fun x _ _ h0 h => fold1_const hm h0 h) (fun x r _ _ ih h0 => ih (fold1_const hm h0)) 7 x hx (by have := hx.1; omega) h0
theorem uses_renF {f : Nat → Nat} {x : Node} {z : Int} (h : z ∈ usesR (renN f x)) : ∃ u ∈ usesR x, z = (f u.toNat : Int) := by
  have hb := many_bd x.kind
  obtain ⟨k, a, b, c⟩ := x
  dsimp only at hb
  rcases (show many k = -1 ∨ many k = 0 ∨ many k = 1 ∨ many k = 2 ∨ many k = 3 by omega) with e | e | e | e | e <;> simp [usesR, renN, e] at h ⊢
  · exact h
  · rcases h with h | h
    · exact .inl h
    · exact .inr h
  · rcases h with h | h | h
    · exact .inl h
    · exact .inr (.inl h)
    · exact .inr (.inr h)
theorem okX_ren {n : Nat} {x : Node} {f : Nat → Nat} (hx : okX n x) (hf : ∀ u, u < n → f u < n) : okX n (renN f x) := by
  refine ⟨hx.1, fun z hz => ?_⟩
  obtain ⟨u, hu, rfl⟩ := uses_renF hz
  have h := hx.2 u hu
  have := hf u.toNat (by omega)
  omega
theorem okX_right {n : Nat} {x : Node} (h : rightB x n = true) (hk : 2 ≤ x.kind ∧ x.kind ≤ 6) : okX n x := ⟨.inr hk, rightB_uses h⟩
theorem okNd_right {n : Nat} {x : Node} (h : rightB x n = true) : okNd n x := ⟨rightB_const h, fun h2 => rightB_uses h _ (by simp [usesR, many, h2])⟩
theorem okNd_X {n : Nat} {x : Node} (h : okX n x) (h0 : x.kind = 0 → x.a = 0 ∨ x.a = 1) : okNd n x := ⟨h0, fun h2 => h.2 _ (by simp [usesR, many, h2])⟩

structure FoS where
  m : List Node
  st : List Nat
def isGt (x : Node) : Prop := 2 ≤ x.kind ∧ x.kind ≤ 6
instance (x : Node) : Decidable (isGt x) := by unfold isGt; infer_instance
def foStep (nodes : List Node) (s : FoS) (a : Nat) : FoS :=
  match nodes[a]? with
  | none => s
  | some x => if isGt x then ⟨s.m.set a (look s.m (renN (stF s.st) x)).1, if (look s.m (renN (stF s.st) x)).2 = -1 then s.st else s.st.set a (look s.m (renN (stF s.st) x)).2.toNat⟩ else s
def foRun (nodes : List Node) (o : List Nat) : FoS := o.foldl (foStep nodes) ⟨nodes, List.range nodes.length⟩
theorem foRun_snoc (nodes : List Node) (o : List Nat) (a : Nat) : foRun nodes (o ++ [a]) = foStep nodes (foRun nodes o) a := by simp [foRun]
structure FoI (nodes : List Node) (o : List Nat) (s : FoS) : Prop where
  lm : s.m.length = nodes.length
  ls : s.st.length = nodes.length
  out : ∀ u, u ∉ o → s.m[u]? = nodes[u]?
  fix : ∀ (u : Nat) (x : Node), nodes[u]? = some x → ¬ isGt x → s.m[u]? = some x
  gate : ∀ (u : Nat) (x : Node), nodes[u]? = some x → isGt x → ∃ y : Node, s.m[u]? = some y ∧ okX nodes.length y
  bs : ∀ u, u < nodes.length → stF s.st u < nodes.length
  nd : ∀ x ∈ s.m, okNd nodes.length x
theorem FoI.init {nodes : List Node} (hf : Frm nodes) : FoI nodes [] ⟨nodes, List.range nodes.length⟩ :=
  ⟨rfl, by simp, fun _ _ => rfl, fun _ _ h _ => h, fun u x h hg => ⟨x, h, okX_right (hf x (List.mem_of_getElem? h)) hg⟩, fun u hu => by
    show (List.range nodes.length).getD u 0 < nodes.length
    rw [List.getD_eq_getElem?_getD, List.getElem?_range hu]
    exact hu, fun x hx => okNd_right (hf x hx)⟩
theorem FoI.step {nodes : List Node} {o : List Nat} {s : FoS} (h : FoI nodes o s) (hf : Frm nodes) {a : Nat} (ha : a < nodes.length) : FoI nodes (o ++ [a]) (foStep nodes s a) := by
  have hnx := List.getElem?_eq_getElem ha
  obtain ⟨x, hx⟩ : ∃ x, nodes[a] = x := ⟨_, rfl⟩
  rw [hx] at hnx
  unfold foStep
  rw [hnx]
  dsimp only
  split
  · rename_i hg
    have hok := okX_ren (okX_right (hf x (List.mem_of_getElem? hnx)) hg) h.bs
    obtain ⟨r1, r2⟩ := look_ok h.nd hok
    have rc := look_const h.nd hok (fun e => absurd e (by show ¬ x.kind = 0; unfold isGt at hg; omega))
    obtain ⟨r, hr⟩ : ∃ r, look s.m (renN (stF s.st) x) = r := ⟨_, rfl⟩
    rw [hr] at r1 r2 rc ⊢
    have hal : a < s.m.length := by rw [h.lm]; exact ha
    have hasl : a < s.st.length := by rw [h.ls]; exact ha
    refine ⟨by simp [h.lm], ?_, fun u hu => ?_, fun u y hy hng => ?_, fun u y hy hgy => ?_, fun u hu => ?_, fun y hy => ?_⟩
    · show (if r.2 = -1 then s.st else s.st.set a r.2.toNat).length = _
      split <;> simp [h.ls]
    · have hua : a ≠ u := fun e => hu (by rw [← e]; simp)
      show (s.m.set a r.1)[u]? = _
      rw [List.getElem?_set, if_neg hua]
      exact h.out u fun h' => hu (by simp [h'])
    · have hua : a ≠ u := fun e => by subst e; rw [hnx] at hy; injection hy with hy; subst hy; exact hng hg
      show (s.m.set a r.1)[u]? = _
      rw [List.getElem?_set, if_neg hua]
      exact h.fix u y hy hng
    · show ∃ z, (s.m.set a r.1)[u]? = some z ∧ _
      rw [List.getElem?_set]
      by_cases e : a = u
      · rw [if_pos e, if_pos hal]; exact ⟨_, rfl, r1⟩
      · rw [if_neg e]; exact h.gate u y hy hgy
    · show stF (if r.2 = -1 then s.st else s.st.set a r.2.toNat) u < _
      split
      · exact h.bs u hu
      · rename_i hne
        unfold stF
        rw [List.getD_eq_getElem?_getD, List.getElem?_set]
        by_cases e : a = u
        · rw [if_pos e, if_pos hasl]
          have := r2.resolve_left hne
          show r.2.toNat < _
          omega
        · rw [if_neg e]
          have := h.bs u hu
          unfold stF at this
          rw [List.getD_eq_getElem?_getD] at this
          exact this
    · rcases List.mem_or_eq_of_mem_set hy with hy | rfl
      · exact h.nd y hy
      · exact okNd_X r1 rc
  · rename_i hg
    refine ⟨h.lm, h.ls, fun u hu => h.out u fun h' => hu (by simp [h']), h.fix, h.gate, h.bs, h.nd⟩
end Go.Proofs.Ytbfjacgfifecpaa
