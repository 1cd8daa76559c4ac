/- Laws on append to a row of the call's own, in the words of Base. -/
import Derived.Test.YtdljgifoboiaeaaKinds
import Derived.Maps.AppendAt
import Derived.Deep.RegionLaw
import Derived.Laws.AppendOwnNone
namespace Go.Proofs.Ytdljgifoboiaeaa
open Go.RowKit

theorem Own.grown {α : Type} {k : Kd α} {e : TypeId} {w w' : World} {p : Option Nat} {B : Nat} {v v' : Value} {xs ys : List α} {dss : List (List Value)}
    (hO : Own k e w p B v xs) (hF : FootIn w p) (hB : B ≤ w.heap.size)
    (hP : Pairs k w (fun i => foot w p i ∨ v.ownBlock = some i) ys dss)
    (hr : ∀ css, w.ownsRow B e k.size v xs.length css.flatten → Pairs k w (fun i => foot w p i ∨ v.ownBlock = some i) xs css → w'.ownsRow B e k.size v' (xs.length + ys.length) (css.flatten ++ dss.flatten))
    (hg : w.grownBy w' v.ownBlock) (hat : v'.ownBlock = v.ownBlock ∨ v'.ownBlock = some w.heap.size) :
    Own k e w' p B v' (xs ++ ys) ∧ Kept B p w w' ∧ FootIn w' p ∧ ∀ i, foot w' p i ↔ foot w p i := by
  have hbase : ∀ g, v.ownBlock = some g → B ≤ g ∧ ¬ foot w p g := fun g h => ⟨(hO.base h).1, hO.off h⟩
  obtain ⟨hk, hfo⟩ := Kept.of_grown hg hF hB hbase
  obtain ⟨css, h1, h2, h3⟩ := hO
  have hS : ∀ i, i < w.heap.size → (foot w' p i ∨ v'.ownBlock = some i) → (foot w p i ∨ v.ownBlock = some i) := by
    intro i hi hm
    rcases hm with hm | hm
    · exact .inl ((hfo i).1 hm)
    · rcases hat with h | h
      · exact .inr (h ▸ hm)
      · rw [h] at hm; injection hm with hm; omega
  have hsame : Same (fun i => foot w p i ∨ v.ownBlock = some i) w w' := ⟨hg.size, fun i hi hn => hg.block i hi fun he => hn (.inr he.symm)⟩
  refine ⟨⟨css ++ dss, ?_, (h2.keep hsame hS).append (hP.keep hsame hS), ?_⟩, hk, hF.iff hfo hg.size, hfo⟩
  · rw [List.length_append, List.flatten_append]
    exact hr css h1 h2
  · intro g hgv hf
    rcases hat with h | h
    · exact h3 g (h ▸ hgv) ((hfo g).1 hf)
    · rw [h] at hgv; injection hgv with hgv
      subst hgv
      have := hF _ ((hfo _).1 hf)
      omega

section
variable {P : Program} {o : Oper} {a : Act} {Q : Exit → Act → World → Prop}

theorem le_maxLen {n b : Nat} (hb : 0 < b) (h : n * b ≤ 140737488355328) : n ≤ maxLen := by
  have := Nat.le_trans (Nat.le_mul_of_pos_right n hb) h
  simp only [maxLen]; omega

/-- append(v, ys...), the new elements at an address -/
theorem wp_app {α : Type} (k : Kd α) (e t : TypeId) (z : Value) (bytes : Nat) {w : World} {K : Act → World → Prop}
    (s x : Operand) (ho : o.op = .call { callee := .builtin .append, args := #[s, x], argTypes := #[t, t] })
    (ht : P.underlying t = some (.slice e)) (hinfo : (P.info? e).map (fun i => (i.zero, i.size, i.bytes)) = some (some z, k.size, bytes)) (hz : z.cells.size = k.size) (hk0 : 0 < k.size) (hb0 : 0 < bytes)
    (p : Option Nat) (B : Nat) {v : Value} {xs : List α} (hO : Own k e w p B v xs) (hF : FootIn w p) (hB : B ≤ w.heap.size) (hs : a.eval s = v)
    (ad : Addr) (m c : Nat) (ys : List α) (dss : List (List Value)) (hx : a.eval x = .slice (some ad) m c) (hm : ys.length = m)
    (hP : Pairs k w (fun i => foot w p i ∨ v.ownBlock = some i) ys dss) (hc : ∀ j u, dss.flatten[j]? = some u → w.cell? (ad.add j) = some u)
    (hl : (xs.length + m) * bytes ≤ 140737488355328)
    (hK : ∀ v' w', Own k e w' p B v' (xs ++ ys) → Kept B p w w' → FootIn w' p → (∀ i, foot w' p i ↔ foot w p i) → w.grownBy w' v.ownBlock → (v'.ownBlock = v.ownBlock ∨ v'.ownBlock = some w.heap.size) → K (a.put o.dst v') w') : o.wp P a w K Q := by
  obtain ⟨i0, hi, hzz⟩ := Option.map_eq_some_iff.1 hinfo
  simp only [Prod.mk.injEq] at hzz
  obtain ⟨hz0, hz1, hz2⟩ := hzz
  subst hm
  obtain ⟨css, h1, h2, h3⟩ := hO
  obtain ⟨v', w', hr, q2, q3, _, q5⟩ := run_append_own_at (P := P) w B t o.type e i0 z k.size bytes ht hi hz0 hz1 hz2 hz hk0 v xs.length css.flatten h1 ad ys.length c dss.flatten hP.flat hc hP.one (le_maxLen hb0 hl) hl hB
  unfold Oper.wp execOp
  simp only [ho, resolve, invoke, builtin, Sem.run_bind, Sem.run_pure, Result.andThen_ok, List.map_toArray, List.map_cons, List.map_nil, hs, hx, hr]
  have hcss : ∀ css', w.ownsRow B e k.size v xs.length css'.flatten → Pairs k w (fun i => foot w p i ∨ v.ownBlock = some i) xs css' → css'.flatten = css.flatten := by
    intro css' h1' _
    rcases h1.2 with ⟨rfl, h0⟩ | ⟨g, cap, cur, rfl, _, hgg, _, _, _, ht⟩
    · have a1 := h1.1; have a2 := h1'.1
      rw [h0] at a1 a2
      simp only [Nat.zero_mul] at a1 a2
      rw [List.eq_nil_of_length_eq_zero a1, List.eq_nil_of_length_eq_zero a2]
    · rcases h1'.2 with ⟨hv, _⟩ | ⟨g', cap', cur', hv, _, hgg', _, _, _, ht'⟩
      · cases hv
      · injection hv with hv; injection hv with hv; injection hv with hv
        subst hv
        rw [hgg] at hgg'
        injection hgg' with hgg'; injection hgg' with hgg'
        subst hgg'
        rw [← ht, ← ht']
  obtain ⟨r1, r2, r3, r4⟩ := Own.grown (v' := v') ⟨css, h1, h2, h3⟩ hF hB hP (fun css' a1 a2 => by rw [hcss css' a1 a2]; exact q2) q3 q5
  exact hK v' w' r1 r2 r3 r4 q3 q5

/-- the same as a step of the walk -/
theorem app {α : Type} (k : Kd α) (e t : TypeId) (z : Value) (bytes : Nat) {w : World} {ops : Array Oper} {rest : List Oper} (hgd : o.guard = none)
    (s x : Operand) (ho : o.op = .call { callee := .builtin .append, args := #[s, x], argTypes := #[t, t] })
    (ht : P.underlying t = some (.slice e)) (hinfo : (P.info? e).map (fun i => (i.zero, i.size, i.bytes)) = some (some z, k.size, bytes)) (hz : z.cells.size = k.size) (hk0 : 0 < k.size) (hb0 : 0 < bytes)
    (p : Option Nat) (B : Nat) {v : Value} {xs : List α} (hO : Own k e w p B v xs) (hF : FootIn w p) (hB : B ≤ w.heap.size) (hs : a.eval s = v)
    (ad : Addr) (m c : Nat) (ys : List α) (dss : List (List Value)) (hx : a.eval x = .slice (some ad) m c) (hm : ys.length = m)
    (hP : Pairs k w (fun i => foot w p i ∨ v.ownBlock = some i) ys dss) (hc : ∀ j u, dss.flatten[j]? = some u → w.cell? (ad.add j) = some u)
    (hl : (xs.length + m) * bytes ≤ 140737488355328)
    (hK : ∀ v' w', Own k e w' p B v' (xs ++ ys) → Kept B p w w' → FootIn w' p → (∀ i, foot w' p i ↔ foot w p i) → w.grownBy w' v.ownBlock → (v'.ownBlock = v.ownBlock ∨ v'.ownBlock = some w.heap.size) → wpList P ops Q rest (a.put o.dst v') w') :
    wpList P ops Q (o :: rest) a w :=
  wpList_plain hgd fun _ hK' => wp_app k e t z bytes s x ho ht hinfo hz hk0 hb0 p B hO hF hB hs ad m c ys dss hx hm hP hc hl fun v' w' q1 q2 q3 q4 q5 q6 => hK' _ _ (hK v' w' q1 q2 q3 q4 q5 q6)

/-- append(v, x) of one element of one cell: it lies in a new block -/
theorem app1 {α : Type} (k : Kd α) (e t : TypeId) (z : Value) (bytes : Nat) {W : World} {ops : Array Oper} {rest : List Oper} (hgd : o.guard = none)
    (s x : Operand) (ho : o.op = .call { callee := .builtin .append, args := #[s, x], argTypes := #[t, t] })
    (ht : P.underlying t = some (.slice e)) (hinfo : (P.info? e).map (fun i => (i.zero, i.size, i.bytes)) = some (some z, k.size, bytes)) (hz : z.cells.size = k.size) (hk0 : 0 < k.size) (hb0 : 0 < bytes)
    (p : Option Nat) (B : Nat) {v : Value} {xs : List α} (hO : Own k e W p B v xs) (hF : FootIn W p) (hB : B ≤ W.heap.size) (hs : a.eval s = v)
    (y : α) (cs : List Value) (hx : a.eval x = .slice (some ⟨W.heap.size, 0, none⟩) 1 1)
    (hP : k.K W (fun i => foot W p i ∨ v.ownBlock = some i) y cs)
    (hl : (xs.length + 1) * bytes ≤ 140737488355328)
    (hK : ∀ v' w', Own k e w' p B v' (xs ++ [y]) → Kept B p W w' → FootIn w' p → (∀ i, foot w' p i ↔ foot W p i) → W.grownBy w' v.ownBlock → (v'.ownBlock = v.ownBlock ∨ ∃ b, v'.ownBlock = some b ∧ W.heap.size < b) → wpList P ops Q rest (a.put o.dst v') w') :
    wpList P ops Q (o :: rest) a (W.alloc (.cells cs.toArray e)) := by
  have hbel : Below W.heap.size W (W.alloc (.cells cs.toArray e)) := (Below.refl _ _).alloc (Nat.le_refl _) _
  have hk : Kept W.heap.size p W (W.alloc (.cells cs.toArray e)) := Kept.of_below_all hbel hF (Nat.le_refl _)
  have hfo : ∀ i, foot (W.alloc (.cells cs.toArray e)) p i ↔ foot W p i := foot_of_heap fun i hi => hbel.block i (hF i hi)
  have hx1 : k.K (W.alloc (.cells cs.toArray e)) (fun i => foot (W.alloc (.cells cs.toArray e)) p i ∨ v.ownBlock = some i) y cs :=
    k.keep hP ⟨hbel.size, fun i hi hn => hbel.block i hi⟩ fun i hi hm => hm.elim (fun h => .inl ((hfo i).1 h)) .inr
  refine app k e t z bytes hgd s x ho ht hinfo hz hk0 hb0 p B (hO.kept hk) (hF.iff hfo hbel.size) (by simp; omega) hs ⟨W.heap.size, 0, none⟩ 1 1 [y] [cs] hx rfl ((Pairs.nil k _ _).snoc hx1) ?_ hl ?_
  · intro j u hu
    simp only [List.flatten_cons, List.flatten_nil, List.append_nil] at hu
    rw [Addr.add_lit, Nat.zero_add]
    show (W.alloc (.cells cs.toArray e)).cell? ⟨W.heap.size, j, none⟩ = some u
    rw [World.cell?_alloc_new]
    simpa using hu
  · intro v' w' q1 q2 q3 q4 q5 q6
    refine hK v' w' q1 ((hk.mono hB).trans q2) q3 (fun i => (q4 i).trans (hfo i)) (World.grownBy.trans (World.grownBy_alloc W _ _) q5) ?_
    rcases q6 with h | h
    · exact .inl h
    · exact .inr ⟨_, h, by simp⟩
end

/-- another row of the call's own stays -/
theorem Own.other {α : Type} {k : Kd α} {e : TypeId} {w w' : World} {p : Option Nat} {B : Nat} {v : Value} {xs : List α} {row : Option Nat} (h : Own k e w p B v xs) (hg : w.grownBy w' row)
    (hfo : ∀ i, foot w' p i ↔ foot w p i) (hne : v.ownBlock = none ∨ v.ownBlock ≠ row) (hel : ∀ (x : α) cs, k.K w (fun i => foot w p i ∨ v.ownBlock = some i) x cs → k.K w (fun i => foot w p i ∨ v.ownBlock = some i ∨ row = some i) x cs) : Own k e w' p B v xs := by
  obtain ⟨css, h1, h2, h3⟩ := h
  refine ⟨css, h1.kept hg hne, ⟨h2.1, fun i x cs hx hc => ?_⟩, fun g hgv hf => h3 g hgv ((hfo g).1 hf)⟩
  exact k.keep (hel x cs (h2.2 i x cs hx hc)) ⟨hg.size, fun i hi hn => hg.block i hi fun he => hn (.inr (.inr he.symm))⟩ fun i hi hm => hm.elim (fun h => .inl ((hfo i).1 h)) (fun h => .inr (.inl h))

end Go.Proofs.Ytdljgifoboiaeaa
