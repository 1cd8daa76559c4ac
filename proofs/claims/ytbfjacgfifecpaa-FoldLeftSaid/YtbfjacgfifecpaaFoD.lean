/- fold: what a node becomes, plain. -/
import Derived.Test.YtbfjacgfifecpaaFoC
namespace Go.Proofs.Ytbfjacgfifecpaa

def okNd (n : Nat) (x : Node) : Prop := (x.kind = 0 → x.a = 0 ∨ x.a = 1) ∧ (x.kind = 2 → 0 ≤ x.a ∧ x.a < n)
def okX (n : Nat) (x : Node) : Prop := (x.kind = 0 ∨ 2 ≤ x.kind ∧ x.kind ≤ 6) ∧ ∀ z ∈ usesR x, 0 ≤ z ∧ z < n
theorem nd_ok {m : List Node} {n : Nat} (h : ∀ x ∈ m, okNd n x) (a : Int) : okNd n (nd m a) := by
  unfold nd
  rw [List.getD_eq_getElem?_getD]
  cases e : m[a.toNat]? with
  | none => exact ⟨fun _ => .inl rfl, fun h => by simp at h⟩
  | some x => exact h x (List.mem_of_getElem? e)
theorem kind6 {k : Int} (h : k = 0 ∨ 2 ≤ k ∧ k ≤ 6) : k = 0 ∨ k = 2 ∨ k = 3 ∨ k = 4 ∨ k = 5 ∨ k = 6 := by omega
/-- what one look gives: (told, kept) -/
def Fo1 (n : Nat) (x : Node) (r : Node × Int) : Prop := okX n r.1 ∧ (r.1.kind ≠ x.kind → r.1.kind < x.kind) ∧ (r.2 = -1 ∨ 0 ≤ r.2 ∧ r.2 < n ∧ r.1 = x)
theorem Fo1.same {n : Nat} {x : Node} (h : okX n x) : Fo1 n x (x, -1) := ⟨h, fun h => absurd rfl h, .inl rfl⟩
theorem Fo1.stand {n : Nat} {x : Node} {s : Int} (h : okX n x) (h0 : 0 ≤ s) (h1 : s < n) : Fo1 n x (x, s) := ⟨h, fun h => absurd rfl h, .inr ⟨h0, h1, rfl⟩⟩
theorem Fo1.const {n : Nat} {x : Node} (v : Int) (h : 0 < x.kind) : Fo1 n x (⟨0, v, 0, 0⟩, -1) := ⟨⟨.inl rfl, fun z hz => by simp [usesR, many] at hz⟩, fun _ => h, .inl rfl⟩
theorem Fo1.not {n : Nat} {x : Node} {a : Int} (h : 2 < x.kind) (ha : 0 ≤ a ∧ a < n) : Fo1 n x (⟨2, a, 0, 0⟩, -1) := ⟨⟨.inr ⟨by show (2 : Int) ≤ 2; omega, by show (2 : Int) ≤ 6; omega⟩, fun z hz => by simp [usesR, many] at hz; subst hz; exact ha⟩, fun _ => h, .inl rfl⟩
theorem Fo1.two {n : Nat} {x : Node} {k a b : Int} (hk : k = 3 ∨ k = 4) (h : k < x.kind) (ha : 0 ≤ a ∧ a < n) (hb : 0 ≤ b ∧ b < n) : Fo1 n x (⟨k, a, b, 0⟩, -1) := ⟨⟨.inr ⟨by show 2 ≤ k; omega, by show k ≤ 6; omega⟩, fun z hz => by
  rcases hk with rfl | rfl <;> simp [usesR, many] at hz <;> rcases hz with rfl | rfl <;> assumption⟩, fun _ => h, .inl rfl⟩
theorem uses_ab {n : Nat} {k a b c : Int} (h : okX n ⟨k, a, b, c⟩) (hk : k = 3 ∨ k = 4 ∨ k = 5) : (0 ≤ a ∧ a < n) ∧ (0 ≤ b ∧ b < n) := by
  have h2 := h.2
  rcases hk with rfl | rfl | rfl <;> simp [usesR, many] at h2 <;> exact h2
theorem uses_abc {n : Nat} {a b c : Int} (h : okX n ⟨6, a, b, c⟩) : (0 ≤ a ∧ a < n) ∧ (0 ≤ b ∧ b < n) ∧ (0 ≤ c ∧ c < n) := by
  have h2 := h.2
  simp [usesR, many] at h2
  exact h2
theorem uses_a {n : Nat} {a b c : Int} (h : okX n ⟨2, a, b, c⟩) : 0 ≤ a ∧ a < n := by
  have h2 := h.2
  simp [usesR, many] at h2
  exact h2
theorem fold1_ok {m : List Node} {n : Nat} (hm : ∀ x ∈ m, okNd n x) {x : Node} (hx : okX n x) : Fo1 n x (fold1 m x) := by
  obtain ⟨k, a, b, c⟩ := x
  have hn := nd_ok hm
  rcases kind6 hx.1 with h | h | h | h | h | h <;> dsimp only at h <;> subst h
  · exact Fo1.same hx
  · show Fo1 n _ (flipN m _)
    unfold flipN
    dsimp only
    split
    · exact Fo1.const _ (by show (0 : Int) < 2; omega)
    · split
      · rename_i h2
        have := (hn a).2 h2
        exact Fo1.stand hx this.1 this.2
      · exact Fo1.same hx
  · obtain ⟨ha, hb⟩ := uses_ab hx (.inl rfl)
    show Fo1 n _ (bothN m _ 0)
    unfold bothN
    repeat' split
    all_goals first
      | exact Fo1.same hx
      | exact Fo1.stand hx hb.1 hb.2
      | exact Fo1.stand hx ha.1 ha.2
      | exact Fo1.const _ (by show (0 : Int) < 3; omega)
  · obtain ⟨ha, hb⟩ := uses_ab hx (.inr (.inl rfl))
    show Fo1 n _ (bothN m _ 1)
    unfold bothN
    repeat' split
    all_goals first
      | exact Fo1.same hx
      | exact Fo1.stand hx hb.1 hb.2
      | exact Fo1.stand hx ha.1 ha.2
      | exact Fo1.const _ (by show (0 : Int) < 4; omega)
  · obtain ⟨ha, hb⟩ := uses_ab hx (.inr (.inr rfl))
    show Fo1 n _ (oddN m _)
    unfold oddN
    repeat' split
    all_goals first
      | exact Fo1.same hx
      | exact Fo1.stand hx hb.1 hb.2
      | exact Fo1.stand hx ha.1 ha.2
      | exact Fo1.not (by show (2 : Int) < 5; omega) hb
      | exact Fo1.not (by show (2 : Int) < 5; omega) ha
      | exact Fo1.const _ (by show (0 : Int) < 5; omega)
  · obtain ⟨ha, hb, hc⟩ := uses_abc hx
    show Fo1 n _ (choiceN m _)
    unfold choiceN
    repeat' split
    all_goals first
      | exact Fo1.same hx
      | exact Fo1.stand hx ha.1 ha.2
      | exact Fo1.stand hx hb.1 hb.2
      | exact Fo1.stand hx hc.1 hc.2
      | exact Fo1.not (by show (2 : Int) < 6; omega) hc
      | exact Fo1.two (.inl rfl) (by show (3 : Int) < 6; omega) hb hc
      | exact Fo1.two (.inr rfl) (by show (4 : Int) < 6; omega) ha hc
theorem fLook_fuel {m : List Node} {n : Nat} (hm : ∀ x ∈ m, okNd n x) : ∀ (k k' : Nat) (x : Node), okX n x → x.kind < k → x.kind < k' → fLook m k x = fLook m k' x
  | 0, _, x, hx, h, _ => by have := hx.1; omega
  | _ + 1, 0, x, hx, _, h => by have := hx.1; omega
  | k + 1, k' + 1, x, hx, h, h' => by
    obtain ⟨h1, h2, -⟩ := fold1_ok hm hx
    rw [fLook, fLook]
    split
    · rfl
    · rename_i hk
      have := h2 hk
      exact fLook_fuel hm k k' _ h1 (by omega) (by omega)
/-- what a node becomes, and what stands for it -/
def look (m : List Node) (x : Node) : Node × Int := fLook m 8 x
theorem look_eq {m : List Node} {n : Nat} (hm : ∀ x ∈ m, okNd n x) {x : Node} (hx : okX n x) : look m x = if (fold1 m x).1.kind = x.kind then fold1 m x else look m (fold1 m x).1 := by
  obtain ⟨h1, h2, -⟩ := fold1_ok hm hx
  have hk := hx.1
  unfold look
  rw [fLook]
  split
  · rfl
  · rename_i hne
    have := h2 hne
    exact fLook_fuel hm _ _ _ h1 (by omega) (by omega)
end Go.Proofs.Ytbfjacgfifecpaa
