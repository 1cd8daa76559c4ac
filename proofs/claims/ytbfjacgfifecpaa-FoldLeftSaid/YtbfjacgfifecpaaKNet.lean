/- Joined texts: Ports, InOut, Net, Regs. -/
import Derived.Test.YtbfjacgfifecpaaKBase
import Derived.Deep.RegionHeld3

/-! ## A port laid behind the others. -/
namespace Go.Proofs.Ytbfjacgfifecpaa
open Go.RowKit

end Go.Proofs.Ytbfjacgfifecpaa

/-! ## What comes in, what goes out. -/
namespace Go.Proofs.Ytbfjacgfifecpaa
open Go.RowKit

section
variable {P : Program} {o : Oper} {a : Act} {Q : Exit → Act → World → Prop}
theorem wp_app_raw (e t : TypeId) (z : Value) (size bytes : Nat) {w : World} {K : Act → World → Prop}
    (s x : Operand) (ho : o.op = .call { callee := .builtin .append, args := #[s, x], argTypes := #[t, t] })
    (ht : P.underlying t = some (.slice e)) (hinfo : (P.info? e).map (fun i => (i.zero, i.size, i.bytes)) = some (some z, size, bytes)) (hz : z.cells.size = size) (hk0 : 0 < size) (hb0 : 0 < bytes)
    (B : Nat) {v : Value} {n : Nat} {xs : List Value} (hO : w.ownsRow B e size v n xs) (hB : B ≤ w.heap.size) (hs : a.eval s = v)
    (ad : Addr) (m c : Nat) (news : List Value) (hx : a.eval x = .slice (some ad) m c) (hm : news.length = m * size) (hc : ∀ j u, news[j]? = some u → w.cell? (ad.add j) = some u) (h1 : ∀ u ∈ news, u.oneCell' = true)
    (hl : (n + m) * bytes ≤ 140737488355328)
    (hK : ∀ v' w', w'.ownsRow B e size v' (n + m) (xs ++ news) → w.grownBy w' v.ownBlock → (v'.ownBlock = v.ownBlock ∨ v'.ownBlock = some w.heap.size) → K (a.put o.dst v') w') : o.wp P a w K Q := by
  obtain ⟨i0, hi, hzz⟩ := Option.map_eq_some_iff.1 hinfo
  simp only [Prod.mk.injEq] at hzz
  obtain ⟨hz0, hz1, hz2⟩ := hzz
  obtain ⟨v', w', hr, q2, q3, _, q5⟩ := run_append_own_at (P := P) w B t o.type e i0 z size bytes ht hi hz0 hz1 hz2 hz hk0 v n xs hO ad m c news hm hc h1 (le_maxLen hb0 hl) hl hB
  unfold Oper.wp execOp
  simp only [ho, resolve, invoke, builtin, Sem.run_bind, Sem.run_pure, Result.andThen_ok, List.map_toArray, List.map_cons, List.map_nil, hs, hx, hr]
  exact hK v' w' q2 q3 q5
end

theorem port_news (W : World) (s : ByteArray) (u : Value) (t : TypeId) : ∀ j x, ([Value.string s, u] : List Value)[j]? = some x → (W.alloc (.cells #[.string s, u] t)).cell? ((⟨W.heap.size, 0, none⟩ : Addr).add j) = some x := by
  intro j x hx
  rw [Addr.add_lit, Nat.zero_add, World.cell?_alloc_new]
  simpa using hx
theorem port_one (s : ByteArray) (A : Option Addr) (n c : Nat) : ∀ x ∈ ([.string s, .slice A n c] : List Value), x.oneCell' = true := by
  intro x hx; simp at hx; rcases hx with rfl | rfl <;> rfl

theorem ownsRow_shape {w : World} {base size n : Nat} {e : TypeId} {v : Value} {xs : List Value} (h : w.ownsRow base e size v n xs) : ∃ A c, v = .slice A n c ∧ n ≤ c ∧ c ≤ maxLen := by
  rcases h.2 with ⟨rfl, rfl⟩ | ⟨g, cap, cur, rfl, _, _, hc, hm, _⟩
  · exact ⟨none, 0, rfl, Nat.le_refl _, by simp [maxLen]⟩
  · exact ⟨_, cap, rfl, hc, hm⟩
end Go.Proofs.Ytbfjacgfifecpaa

/-! ## The net that is told: a copy of the builder's. -/
namespace Go.Proofs.Ytbfjacgfifecpaa
open Go.RowKit

section
variable {P : Program} {o : Oper} {a : Act} {Q : Exit → Act → World → Prop}
/-- append(v, x) of one element that lies in a new block, as one step of a region -/
theorem wp_app1 {α : Type} (k : Kd α) (e t : TypeId) (z : Value) (bytes : Nat) {W : World} {K : Act → World → Prop}
    (s x : Operand) (ho : o.op = .call { callee := .builtin .append, args := #[s, x], argTypes := #[t, t] })
    (ht : P.underlying t = some (.slice e)) (hinfo : (P.info? e).map (fun i => (i.zero, i.size, i.bytes)) = some (some z, k.size, bytes)) (hz : z.cells.size = k.size) (hk0 : 0 < k.size) (hb0 : 0 < bytes)
    (p : Option Nat) (B : Nat) {v : Value} {xs : List α} (hO : Own k e W p B v xs) (hF : FootIn W p) (hB : B ≤ W.heap.size) (hs : a.eval s = v)
    (y : α) (cs : List Value) (hx : a.eval x = .slice (some ⟨W.heap.size, 0, none⟩) 1 1)
    (hP : k.K W (fun i => foot W p i ∨ v.ownBlock = some i) y cs)
    (hl : (xs.length + 1) * bytes ≤ 140737488355328)
    (hK : ∀ v' w', Own k e w' p B v' (xs ++ [y]) → Kept B p W w' → FootIn w' p → (∀ i, foot w' p i ↔ foot W p i) → W.grownBy w' v.ownBlock → (v'.ownBlock = v.ownBlock ∨ ∃ b, v'.ownBlock = some b ∧ W.heap.size < b) → K (a.put o.dst v') w') :
    o.wp P a (W.alloc (.cells cs.toArray e)) K Q := by
  have hbel : Below W.heap.size W (W.alloc (.cells cs.toArray e)) := (Below.refl _ _).alloc (Nat.le_refl _) _
  have hk : Kept W.heap.size p W (W.alloc (.cells cs.toArray e)) := Kept.of_below_all hbel hF (Nat.le_refl _)
  have hfo : ∀ i, foot (W.alloc (.cells cs.toArray e)) p i ↔ foot W p i := foot_of_heap fun i hi => hbel.block i (hF i hi)
  have hx1 : k.K (W.alloc (.cells cs.toArray e)) (fun i => foot (W.alloc (.cells cs.toArray e)) p i ∨ v.ownBlock = some i) y cs :=
    k.keep hP ⟨hbel.size, fun i hi hn => hbel.block i hi⟩ fun i hi hm => hm.elim (fun h => .inl ((hfo i).1 h)) .inr
  refine wp_app k e t z bytes s x ho ht hinfo hz hk0 hb0 p B (hO.kept hk) (hF.iff hfo hbel.size) (by simp; omega) hs ⟨W.heap.size, 0, none⟩ 1 1 [y] [cs] hx rfl ((Pairs.nil k _ _).snoc hx1) ?_ hl ?_
  · intro j u hu
    simp only [List.flatten_cons, List.flatten_nil, List.append_nil] at hu
    rw [Addr.add_lit, Nat.zero_add]
    show (W.alloc (.cells cs.toArray e)).cell? ⟨W.heap.size, j, none⟩ = some u
    rw [World.cell?_alloc_new]
    simpa using hu
  · intro v' w' q1 q2 q3 q4 q5 q6
    refine hK v' w' q1 ((hk.mono hB).trans q2) q3 (fun i => (q4 i).trans (hfo i)) (World.grownBy.trans (World.grownBy_alloc W _ _) q5) ?_
    rcases q6 with h | h
    · exact .inl h
    · exact .inr ⟨_, h, by simp⟩
end

theorem Row.port_at {w : World} {S : Nat → Prop} {A : Option Addr} {n c : Nat} {xs : List Port} (h : Row kPort w S (.slice A n c) xs) {i : Nat} (hi : i < xs.length) :
    ∃ b off A2 c2, A = some ⟨b, off, none⟩ ∧ w.cell? ⟨b, off + i * 2, none⟩ = some (.string xs[i].name) ∧ w.cell? ⟨b, off + i * 2 + 1, none⟩ = some (.slice A2 xs[i].bits.length c2) ∧ Row kInt w S (.slice A2 xs[i].bits.length c2) xs[i].bits := by
  have hn : n = xs.length := h.len
  obtain ⟨b, off, rfl, x, cs, hx, hk, hc⟩ := h.at (i := i) (by omega)
  rw [List.getElem?_eq_getElem hi] at hx
  injection hx with hx
  subst hx
  obtain ⟨v, rfl, hr⟩ := hk
  obtain ⟨A2, c2, rfl, -, -⟩ := hr.shape
  exact ⟨b, off, A2, c2, rfl, hc 0 _ rfl, hc 1 _ rfl, hr⟩

/-- ports, no word of theirs in S0 -/
def kPortOff (S0 : Nat → Prop) : Kd Port where
  size := 2
  K := fun w S x cs => ∃ v, cs = [.string x.name, v] ∧ Row kInt w (fun i => S i ∨ S0 i) v x.bits
  len := by rintro w S x cs ⟨v, rfl, _⟩; rfl
  one := by
    rintro w S x cs ⟨v, rfl, h⟩ u hu
    obtain ⟨A, c, rfl, _⟩ := h.shape
    simp at hu; rcases hu with rfl | rfl <;> rfl
  keep := fun ⟨v, e, h⟩ hs hS => ⟨v, e, h.keep ⟨hs.1, fun i hi hn => hs.2 i hi fun h => hn (.inl h)⟩ fun i hi hm => hm.elim (fun h => .inl (hS i hi h)) .inr⟩

theorem Own.rowNodes {e : TypeId} {w : World} {B : Nat} {S : Nat → Prop} {v : Value} {ns : List Node} (h : Own kNode e w none B v ns) (hS : ∀ i, S i → i < B) : Row kNode w S v ns := by
  obtain ⟨A, c, css, rfl, r1, r2, r0, r3, r4⟩ := h.row (by decide) (Nat.le_refl _)
  refine ⟨A, c, css, rfl, r1, r2, r0, ⟨r3.1, fun i x cs hx hc => r3.2 i x cs hx hc⟩, fun hn => ?_⟩
  obtain ⟨b, off, rfl, q1, _, q3⟩ := r4 hn
  have := (h.base (g := b) rfl).1
  exact ⟨b, off, rfl, q1, fun hs => by have := hS b hs; omega, q3⟩
theorem Own.rowPorts {e : TypeId} {w : World} {B : Nat} {S : Nat → Prop} {v : Value} {ps : List Port} (h : Own (kPortOff S) e w none B v ps) (hS : ∀ i, S i → i < B) : Row kPort w S v ps := by
  obtain ⟨A, c, css, rfl, r1, r2, r0, r3, r4⟩ := h.row (show 0 < 2 by decide) (Nat.le_refl _)
  refine ⟨A, c, css, rfl, r1, r2, r0, ⟨r3.1, fun i x cs hx hc => ?_⟩, fun hn => ?_⟩
  · obtain ⟨v, rfl, hr⟩ := r3.2 i x cs hx hc
    exact ⟨v, rfl, hr.mono fun i _ h => .inr h⟩
  · obtain ⟨b, off, rfl, q1, _, q3⟩ := r4 hn
    have := (h.base (g := b) rfl).1
    exact ⟨b, off, rfl, q1, fun hs => by have := hS b hs; omega, q3⟩
theorem Row.later {α : Type} {k : Kd α} {w w' : World} {S : Nat → Prop} {v : Value} {xs : List α} (h : Row k w S v xs) (hb : Below w.heap.size w w') : Row k w' S v xs :=
  h.keep ⟨hb.size, fun i hi _ => hb.block i hi⟩ fun _ _ h => h
theorem cell_set3 {w : World} {g p j : Nat} {x y z v : Value} (h : p ≠ g) (hc : w.cell? ⟨p, j, none⟩ = some v) : (((w.setCell ⟨g, 0, none⟩ x).setCell ⟨g, 1, none⟩ y).setCell ⟨g, 2, none⟩ z).cell? ⟨p, j, none⟩ = some v := by
  rw [World.cell?_of_block (heap_setCell_other _ ⟨g, 2, none⟩ p z h), World.cell?_of_block (heap_setCell_other _ ⟨g, 1, none⟩ p y h), World.cell?_of_block (heap_setCell_other _ ⟨g, 0, none⟩ p x h)]
  exact hc
theorem heap_set3 {w : World} {g i : Nat} {x y z : Value} (h : i ≠ g) : (((w.setCell ⟨g, 0, none⟩ x).setCell ⟨g, 1, none⟩ y).setCell ⟨g, 2, none⟩ z).heap[i]? = w.heap[i]? := by
  rw [heap_setCell_other _ ⟨g, 2, none⟩ i z h, heap_setCell_other _ ⟨g, 1, none⟩ i y h, heap_setCell_other _ ⟨g, 0, none⟩ i x h]
theorem Row.bare0 {α : Type} {k : Kd α} {w : World} {S : Nat → Prop} {v : Value} {xs : List α} (h : Row k w S v xs) : Row k w (may w none w.heap.size) v xs :=
  h.mono fun i hi hm => hm.elim (fun h => by omega) (fun h => (foot_none _ _ h).elim)
theorem Row.done {α : Type} {k : Kd α} {w w' : World} {g : Nat} {S : Nat → Prop} {v : Value} {xs : List α} (h : Row k w (fun i => i = g ∨ S i) v xs) (hs : w.heap.size ≤ w'.heap.size) (hh : ∀ i, i ≠ g → w'.heap[i]? = w.heap[i]?) : Row k w' S v xs :=
  h.keep ⟨hs, fun i _ hn => hh i fun he => hn (.inl he)⟩ fun _ _ h => .inr h

end Go.Proofs.Ytbfjacgfifecpaa

/-! ## Registers in a row. -/
namespace Go.Proofs.Ytbfjacgfifecpaa
open Go.RowKit

def onePart (f : Int → BSt → Int × BSt) (X : List Int) (k : Nat) (s : BSt) : List Int := (mapS f (X.take k) s).1 ++ X.drop k
theorem onePart_zero (f : Int → BSt → Int × BSt) (X : List Int) (s : BSt) : onePart f X 0 s = X := by simp [onePart, mapS]
theorem onePart_at (f : Int → BSt → Int × BSt) (X : List Int) (k : Nat) (s : BSt) (hk : k < X.length) : (onePart f X k s)[k]? = some X[k] := by
  have hl : (mapS f (X.take k) s).1.length = k := by simp [mapS_length]; omega
  unfold onePart
  rw [List.getElem?_append_right (by omega), hl, Nat.sub_self, List.getElem?_drop, Nat.add_zero, List.getElem?_eq_getElem hk]
theorem onePart_succ (f : Int → BSt → Int × BSt) (X : List Int) (k : Nat) (s : BSt) (hk : k < X.length) :
    (onePart f X k s).set k (f X[k] (mapS f (X.take k) s).2).1 = onePart f X (k + 1) s ∧ (f X[k] (mapS f (X.take k) s).2).2 = (mapS f (X.take (k + 1)) s).2 := by
  have hl : (mapS f (X.take k) s).1.length = k := by simp [mapS_length]; omega
  have hs := mapS_take_succ f X k hk s
  refine ⟨?_, by rw [hs]⟩
  unfold onePart
  rw [hs, List.set_append_right _ _ (by omega), hl, Nat.sub_self, List.drop_eq_getElem_cons hk, List.set_cons_zero, List.append_assoc]
  rfl
theorem onePart_all (f : Int → BSt → Int × BSt) (X : List Int) (s : BSt) : onePart f X X.length s = (mapS f X s).1 := by simp [onePart]
theorem regs_length (xs : List Int) (n : Nat) (s : BSt) : (bRegs xs n s).1.length = xs.length := by
  induction n with
  | zero => rfl
  | succ n ih => rw [bRegs, mapS_length, ih]
theorem regs_mono (xs : List Int) (s : BSt) {m n : Nat} (h : m ≤ n) : Ext (bRegs xs m s).2 (bRegs xs n s).2 := by
  induction h with
  | refl => exact Ext.refl _
  | step _ ih => exact ih.trans (mapS_ext _ (fun _ s => lay_ext _ s) _ _)

end Go.Proofs.Ytbfjacgfifecpaa
