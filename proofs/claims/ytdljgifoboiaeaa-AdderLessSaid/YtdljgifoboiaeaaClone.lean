/- slices.Clone of numbers and of nodes. -/
import Derived.Test.YtdljgifoboiaeaaLay
import Derived.WalkSpells
namespace Go.Proofs.Ytdljgifoboiaeaa
open Go.RowKit

theorem Own.lit0 {α : Type} (k : Kd α) (e : TypeId) (w : World) : Own k e (w.alloc (.cells #[] e)) none w.heap.size (.slice (some ⟨w.heap.size, 0, none⟩) 0 0) [] :=
  ⟨[], by have := World.ownsRow_lit (base := w.heap.size) (e := e) (size := k.size) w #[] 0 (Nat.le_refl _) (Nat.zero_le _) (by simp); simpa using this, Pairs.nil k _ _, fun _ _ => foot_none _ _⟩

/-- a slice that is read, behind a new block: its cells, its pairs -/
theorem row_src {α : Type} {k : Kd α} {w : World} {xs : List α} {css : List (List Value)} {S : Nat → Prop} {ad : Addr} (h3 : Pairs k w S xs css)
    (h4 : 0 < xs.length → ∃ b off, some ad = some ⟨b, off, none⟩ ∧ b < w.heap.size ∧ ¬ S b ∧ ∀ j u, css.flatten[j]? = some u → w.cell? ⟨b, off + j, none⟩ = some u) (o : Obj)
    (S' : Nat → Prop) (hk : ∀ x cs, k.K w S x cs → k.K (w.alloc o) S' x cs) :
    Pairs k (w.alloc o) S' xs css ∧ ∀ j u, css.flatten[j]? = some u → (w.alloc o).cell? (ad.add j) = some u := by
  refine ⟨⟨h3.1, fun i x cs hx hc => hk x cs (h3.2 i x cs hx hc)⟩, fun j u hu => ?_⟩
  have hn : 0 < xs.length := by
    rcases Nat.eq_zero_or_pos xs.length with h | h
    · have := h3.1
      rw [h] at this
      rw [List.eq_nil_of_length_eq_zero this] at hu
      simp at hu
    · exact h
  obtain ⟨b, off, he, hb, _, hc⟩ := h4 hn
  injection he with he
  subst he
  rw [Addr.add_lit, World.cell?_alloc_lt _ _ _ hb]
  exact hc j u hu

theorem clone_calls (w : World) (v : Value) (xs : List Int) (S : Nat → Prop) (hx : Row kInt w S v xs) (hl : xs.length ≤ 1099511627776) :
    Calls Try.prog 90 #[v] w fun e w' => ∃ v', e = .returned v' ∧ Own kInt 3 w' none w.heap.size v' xs ∧ Below w.heap.size w w' := by
  obtain ⟨A, c, css, rfl, h1, h2, h0, h3, h4⟩ := hx
  have hnil := Lib.run_eql_slice_nil (P := Try.prog)
  rcases A with _ | ad
  · obtain rfl := h0 rfl
    have hn : xs.length = 0 := by omega
    obtain rfl := List.eq_nil_of_length_eq_zero hn
    go_enter Try.func90, Try.ntmps90
    go_wp2
    go_ret
    exact ⟨_, rfl, Own.nil kInt _ w none _, Below.refl _ _⟩
  · have src := Lib.hid (row_src h3 h4 (.cells #[] 3) (fun i => foot (w.alloc (.cells #[] 3)) none i ∨ (Value.slice (some ⟨w.heap.size, 0, none⟩) 0 0).ownBlock = some i) (fun x cs h => h))
    clear h3 h4 h0
    go_enter Try.func90, Try.ntmps90
    go_wp2_with (at_builtin; refine app kInt 3 26 (.int .i64 0) 8 rfl (.tmp 5) (.tmp 6) rfl Try.underlying26 infoInt rfl (by decide) (by decide) none w.heap.size (Own.lit0 kInt _ w) (FootIn.none _) (by simp) rfl ad xs.length c xs css rfl rfl src.out.1 src.out.2 (by simp; omega) ?_; intro v' w' q1 q2 q3 q4 q5 q6; have Q := Lib.hid (And.intro q1 q2.below); clear q1 q2 q3 q4 q5 q6)
    go_ret
    exact ⟨v', rfl, by simpa using Q.out.1, ((Below.refl _ _).alloc (Nat.le_refl _) _).trans Q.out.2⟩

theorem clone_nodes_calls (w : World) (v : Value) (xs : List Node) (S : Nat → Prop) (hx : Row kNode w S v xs) (hl : xs.length ≤ 1099511627776) :
    Calls Try.prog 92 #[v] w fun e w' => ∃ v', e = .returned v' ∧ Own kNode 117 w' none w.heap.size v' xs ∧ Below w.heap.size w w' := by
  obtain ⟨A, c, css, rfl, h1, h2, h0, h3, h4⟩ := hx
  have hnil := Lib.run_eql_slice_nil (P := Try.prog)
  rcases A with _ | ad
  · obtain rfl := h0 rfl
    have hn : xs.length = 0 := by omega
    obtain rfl := List.eq_nil_of_length_eq_zero hn
    go_enter Try.func92, Try.ntmps92
    go_wp2
    go_ret
    exact ⟨_, rfl, Own.nil kNode _ w none _, Below.refl _ _⟩
  · have src := Lib.hid (row_src h3 h4 (.cells #[] 117) (fun i => foot (w.alloc (.cells #[] 117)) none i ∨ (Value.slice (some ⟨w.heap.size, 0, none⟩) 0 0).ownBlock = some i) (fun x cs h => h))
    clear h3 h4 h0
    go_enter Try.func92, Try.ntmps92
    go_wp2_with (at_builtin; refine app kNode 117 30 (.agg #[.int .i64 0, .int .i64 0, .int .i64 0, .int .i64 0]) 32 rfl (.tmp 5) (.tmp 6) rfl Try.underlying30 infoNode rfl (by decide) (by decide) none w.heap.size (Own.lit0 kNode _ w) (FootIn.none _) (by simp) rfl ad xs.length c xs css rfl rfl src.out.1 src.out.2 (by simp; omega) ?_; intro v' w' q1 q2 q3 q4 q5 q6; have Q := Lib.hid (And.intro q1 q2.below); clear q1 q2 q3 q4 q5 q6)
    go_ret
    exact ⟨v', rfl, by simpa using Q.out.1, ((Below.refl _ _).alloc (Nat.le_refl _) _).trans Q.out.2⟩

end Go.Proofs.Ytdljgifoboiaeaa
