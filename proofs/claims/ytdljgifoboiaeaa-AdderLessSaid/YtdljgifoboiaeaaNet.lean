/- The net that is told: a copy of the builder's. -/
import Derived.Test.YtdljgifoboiaeaaInOut
import Derived.Deep.RegionHeld3
namespace Go.Proofs.Ytdljgifoboiaeaa
open Go.RowKit

section
variable {P : Program} {o : Oper} {a : Act} {Q : Exit → Act → World → Prop}
/-- append(v, x) of one element that lies in a new block, as one step of a region -/
theorem wp_app1 {α : Type} (k : Kd α) (e t : TypeId) (z : Value) (bytes : Nat) {W : World} {K : Act → World → Prop}
    (s x : Operand) (ho : o.op = .call { callee := .builtin .append, args := #[s, x], argTypes := #[t, t] })
    (ht : P.underlying t = some (.slice e)) (hinfo : (P.info? e).map (fun i => (i.zero, i.size, i.bytes)) = some (some z, k.size, bytes)) (hz : z.cells.size = k.size) (hk0 : 0 < k.size) (hb0 : 0 < bytes)
    (p : Option Nat) (B : Nat) {v : Value} {xs : List α} (hO : Own k e W p B v xs) (hF : FootIn W p) (hB : B ≤ W.heap.size) (hs : a.eval s = v)
    (y : α) (cs : List Value) (hx : a.eval x = .slice (some ⟨W.heap.size, 0, none⟩) 1 1)
    (hP : k.K W (fun i => foot W p i ∨ v.ownBlock = some i) y cs)
    (hl : (xs.length + 1) * bytes ≤ 140737488355328)
    (hK : ∀ v' w', Own k e w' p B v' (xs ++ [y]) → Kept B p W w' → FootIn w' p → (∀ i, foot w' p i ↔ foot W p i) → W.grownBy w' v.ownBlock → (v'.ownBlock = v.ownBlock ∨ ∃ b, v'.ownBlock = some b ∧ W.heap.size < b) → K (a.put o.dst v') w') :
    o.wp P a (W.alloc (.cells cs.toArray e)) K Q := by
  have hbel : Below W.heap.size W (W.alloc (.cells cs.toArray e)) := (Below.refl _ _).alloc (Nat.le_refl _) _
  have hk : Kept W.heap.size p W (W.alloc (.cells cs.toArray e)) := Kept.of_below_all hbel hF (Nat.le_refl _)
  have hfo : ∀ i, foot (W.alloc (.cells cs.toArray e)) p i ↔ foot W p i := foot_of_heap fun i hi => hbel.block i (hF i hi)
  have hx1 : k.K (W.alloc (.cells cs.toArray e)) (fun i => foot (W.alloc (.cells cs.toArray e)) p i ∨ v.ownBlock = some i) y cs :=
    k.keep hP ⟨hbel.size, fun i hi hn => hbel.block i hi⟩ fun i hi hm => hm.elim (fun h => .inl ((hfo i).1 h)) .inr
  refine wp_app k e t z bytes s x ho ht hinfo hz hk0 hb0 p B (hO.kept hk) (hF.iff hfo hbel.size) (by simp; omega) hs ⟨W.heap.size, 0, none⟩ 1 1 [y] [cs] hx rfl ((Pairs.nil k _ _).snoc hx1) ?_ hl ?_
  · intro j u hu
    simp only [List.flatten_cons, List.flatten_nil, List.append_nil] at hu
    rw [Addr.add_lit, Nat.zero_add]
    show (W.alloc (.cells cs.toArray e)).cell? ⟨W.heap.size, j, none⟩ = some u
    rw [World.cell?_alloc_new]
    simpa using hu
  · intro v' w' q1 q2 q3 q4 q5 q6
    refine hK v' w' q1 ((hk.mono hB).trans q2) q3 (fun i => (q4 i).trans (hfo i)) (World.grownBy.trans (World.grownBy_alloc W _ _) q5) ?_
    rcases q6 with h | h
    · exact .inl h
    · exact .inr ⟨_, h, by simp⟩
end

theorem Row.port_at {w : World} {S : Nat → Prop} {A : Option Addr} {n c : Nat} {xs : List Port} (h : Row kPort w S (.slice A n c) xs) {i : Nat} (hi : i < xs.length) :
    ∃ b off A2 c2, A = some ⟨b, off, none⟩ ∧ w.cell? ⟨b, off + i * 2, none⟩ = some (.string xs[i].name) ∧ w.cell? ⟨b, off + i * 2 + 1, none⟩ = some (.slice A2 xs[i].bits.length c2) ∧ Row kInt w S (.slice A2 xs[i].bits.length c2) xs[i].bits := by
  have hn : n = xs.length := h.len
  obtain ⟨b, off, rfl, x, cs, hx, hk, hc⟩ := h.at (i := i) (by omega)
  rw [List.getElem?_eq_getElem hi] at hx
  injection hx with hx
  subst hx
  obtain ⟨v, rfl, hr⟩ := hk
  obtain ⟨A2, c2, rfl, -, -⟩ := hr.shape
  exact ⟨b, off, A2, c2, rfl, hc 0 _ rfl, hc 1 _ rfl, hr⟩

/-- ports, no word of theirs in S0 -/
def kPortOff (S0 : Nat → Prop) : Kd Port where
  size := 2
  K := fun w S x cs => ∃ v, cs = [.string x.name, v] ∧ Row kInt w (fun i => S i ∨ S0 i) v x.bits
  len := by rintro w S x cs ⟨v, rfl, _⟩; rfl
  one := by
    rintro w S x cs ⟨v, rfl, h⟩ u hu
    obtain ⟨A, c, rfl, _⟩ := h.shape
    simp at hu; rcases hu with rfl | rfl <;> rfl
  keep := fun ⟨v, e, h⟩ hs hS => ⟨v, e, h.keep ⟨hs.1, fun i hi hn => hs.2 i hi fun h => hn (.inl h)⟩ fun i hi hm => hm.elim (fun h => .inl (hS i hi h)) .inr⟩

set_option maxHeartbeats 2000000 in
set_option maxRecDepth 100000 in
theorem copied_calls (w : World) (S : Nat → Prop) (hS : ∀ i, S i → i < w.heap.size) (v : Value) (ps : List Port) (hx : Row kPort w (may w none w.heap.size) v ps) (hl : ps.length ≤ 1099511627776) (hb : ∀ q ∈ ps, q.bits.length ≤ 1099511627776) :
    Calls Try.prog 91 #[v] w fun e w' => ∃ v', e = .returned v' ∧ Own (kPortOff S) 119 w' none w.heap.size v' ps ∧ Below w.heap.size w w' := by
  obtain ⟨A, c, rfl, hc1, hc2⟩ := hx.shape
  unfold maxLen at hc2
  have HB := Lib.hid hb
  clear hb
  go_enter Try.func91, Try.ntmps91
  go_wp2_with fail
  go_loopw [3, 8] (fun v i wr => ∃ k : Nat, k ≤ ps.length ∧ i = .int .i64 k ∧ Own (kPortOff S) 119 wr none w.heap.size v (ps.take k) ∧ Kept w.heap.size none w wr)
    (fun _ i _ => ps.length - (intOf i).toNat)
  case atStart => exact ⟨0, by omega, rfl, Own.nil _ _ _ _ _, Kept.refl _ _ _⟩
  case round =>
    obtain ⟨k, hk, rfl, ho, hK⟩ := hrel
    obtain ⟨A', c', rfl, -, -⟩ := ho.shape
    by_cases hlt : k < ps.length
    · have hxr := hx.kept hK
      obtain ⟨b, off, A2, c2, rfl, z0, z1, hbits⟩ := hxr.port_at hlt
      have hbl : ps[k].bits.length ≤ 1099511627776 := HB.out _ (List.getElem_mem hlt)
      have hto : (ps.take k).length ≤ 1099511627776 := by simp; omega
      have HT := Lib.hid (List.take_succ_eq_append_getElem hlt)
      generalize hy : ps[k] = y at z0 z1 hbits hbl HT
      generalize ps.take k = ys at ho hto HT
      have HO := Lib.hid ho
      have HBI := Lib.hid hbits
      have HK := Lib.hid hK
      have hszw := hK.size
      clear hxr hbits ho hx hK hy
      have hb0 : Below wr.heap.size wr (wr.alloc (.cells #[.string y.name, .slice A2 y.bits.length c2] 119)).drew := ((Below.refl _ _).alloc (Nat.le_refl _) _).drew
      have HX2 := Lib.hid (HBI.out.keep (S' := may wr none w.heap.size) ⟨hb0.size, fun i hi _ => hb0.block i hi⟩ fun i _ h => h)
      have HB0 := Lib.hid hb0
      clear hb0
      go_wp2_with fail
      go_region_law (first
        | (go_simp; go_at_call 90; refine (clone_calls _ _ y.bits _ HX2.out hbl).mono ?_; rintro e w1 ⟨v1, rfl, ho1, hb1⟩; obtain ⟨A3, c3, rfl, -, -⟩ := ho1.shape; have z2 : w1.cell? ⟨wr.heap.size, 0, none⟩ = some (.string y.name) := (hb1.cell (p := ⟨wr.heap.size, 0, none⟩) (by simp)).trans (by simp); have hs1 : wr.heap.size < w1.heap.size := Nat.lt_of_lt_of_le (by simp) hb1.size; have HO1 := Lib.hid ho1; have HB1 := Lib.hid (HB0.out.trans (hb1.mono (by simp))); clear ho1 hb1)
        | (refine step_app rfl (wp_app1 (kPortOff S) 119 31 (.agg #[.string ⟨#[]⟩, .slice none 0 0]) 40 (.tmp 12) (.tmp 19) rfl Try.underlying31 infoPort rfl (show 0 < 2 by decide) (by decide) none w.heap.size (HO.out.kept (Kept.of_below_all HB1.out (FootIn.none _) (Nat.le_refl _))) (FootIn.none _) (by omega) rfl y [.string y.name, .slice A3 y.bits.length c3] rfl ⟨_, rfl, HO1.out.rowS _ (fun g hg hm => hm.elim (fun hm => hm.elim (foot_none _ _) (fun hm => by have h1 := (HO1.out.base hg).1; have h2 := (HO.out.base hm).2; simp at h1; omega)) (fun hm => by have h1 := (HO1.out.base hg).1; have h2 := hS g hm; simp at h1; omega))⟩ (by omega) ?_); intro v' w' q1 q2 q3 q4 q5 q6; have HQ := Lib.hid (And.intro q1 q2); obtain ⟨A4, c4, hv', -, -⟩ := q1.shape; subst hv'; clear q1 q2 q3 q4 q5 q6))
      all_goals
        go_wp2
        go_roundw
        case rel => exact ⟨k + 1, by omega, by go_num, by rw [HT.out]; have h := HQ.out.1; rw [List.length_append] at h; exact h, (HK.out.trans (Kept.of_below_all HB1.out (FootIn.none _) hszw)).trans HQ.out.2⟩
        case measure => simp [intOf]; omega
    · obtain rfl : k = ps.length := by omega
      have hr : ps.take ps.length = ps := List.take_length
      generalize ps.take ps.length = r at hr ho ⊢
      subst hr
      go_wp2
      go_ret
      exact ⟨_, rfl, ho, hK.below⟩
theorem BRep.rows {w : World} {p : Nat} {st : BSt} (h : BRep w p st) : ∃ vn vi vo, w.cell? ⟨p, 0, none⟩ = some vn ∧ w.cell? ⟨p, 1, none⟩ = some vi ∧ w.cell? ⟨p, 2, none⟩ = some vo ∧
    Row kNode w (may w none w.heap.size) vn st.nodes ∧ Row kPort w (may w none w.heap.size) vi st.ins ∧ Row kPort w (may w none w.heap.size) vo st.outs := by
  obtain ⟨vn, vi, vo, h1, h2, h3, h4, h5, h6⟩ := h
  have ports : ∀ (v : Value) (ps : List Port), (∃ css, w.ownsRow 0 119 2 v ps.length css.flatten ∧ Pairs kPort w (fun i => i = p ∨ vn.ownBlock = some i ∨ vi.ownBlock = some i ∨ vo.ownBlock = some i) ps css) → Row kPort w (may w none w.heap.size) v ps := by
    rintro v ps ⟨css, r1, r2⟩
    have hO : Own kPort 119 w none 0 v ps → Row kPort w (may w none w.heap.size) v ps := fun h => h.row (by decide) (Nat.le_refl _)
    obtain ⟨A, c, hv, hc, hm⟩ := ownsRow_shape r1
    refine ⟨A, c, css, hv, hc, hm, ?_, r2.keep ⟨Nat.le_refl _, fun _ _ _ => rfl⟩ ?_, fun hn => ?_⟩
    · rcases r1.2 with ⟨rfl, _⟩ | ⟨g, cap, cur, rfl, _⟩
      · intro _; injection hv with _ _ e; exact e.symm
      · intro e; injection hv with e'; rw [e] at e'; cases e'
    · intro i hi hm
      rcases hm with h | h
      · omega
      · exact (foot_none _ _ h).elim
    · rcases r1.2 with ⟨_, h0⟩ | ⟨g, cap, cur, he, _, hgg, _⟩
      · omega
      · rw [hv] at he
        injection he with he
        subst he
        have hlt := (Array.getElem?_eq_some_iff.1 hgg).1
        refine ⟨g, 0, rfl, hlt, ?_, fun j u hu => ?_⟩
        · intro hm
          rcases hm with h | h
          · omega
          · exact foot_none _ _ h
        · have := r1.cells (g := g) (by rw [hv]; rfl) j u hu
          rw [Addr.add_lit] at this
          exact this
  exact ⟨vn, vi, vo, by rw [cell_of_row w p 0 _ _ _ h1]; rfl, by rw [cell_of_row w p 1 _ _ _ h1]; rfl, by rw [cell_of_row w p 2 _ _ _ h1]; rfl,
    h2.row (by decide) (Nat.le_refl _), ports vi _ h3, ports vo _ h4⟩

theorem Own.rowNodes {e : TypeId} {w : World} {B : Nat} {S : Nat → Prop} {v : Value} {ns : List Node} (h : Own kNode e w none B v ns) (hS : ∀ i, S i → i < B) : Row kNode w S v ns := by
  obtain ⟨A, c, css, rfl, r1, r2, r0, r3, r4⟩ := h.row (by decide) (Nat.le_refl _)
  refine ⟨A, c, css, rfl, r1, r2, r0, ⟨r3.1, fun i x cs hx hc => r3.2 i x cs hx hc⟩, fun hn => ?_⟩
  obtain ⟨b, off, rfl, q1, _, q3⟩ := r4 hn
  have := (h.base (g := b) rfl).1
  exact ⟨b, off, rfl, q1, fun hs => by have := hS b hs; omega, q3⟩
theorem Own.rowPorts {e : TypeId} {w : World} {B : Nat} {S : Nat → Prop} {v : Value} {ps : List Port} (h : Own (kPortOff S) e w none B v ps) (hS : ∀ i, S i → i < B) : Row kPort w S v ps := by
  obtain ⟨A, c, css, rfl, r1, r2, r0, r3, r4⟩ := h.row (show 0 < 2 by decide) (Nat.le_refl _)
  refine ⟨A, c, css, rfl, r1, r2, r0, ⟨r3.1, fun i x cs hx hc => ?_⟩, fun hn => ?_⟩
  · obtain ⟨v, rfl, hr⟩ := r3.2 i x cs hx hc
    exact ⟨v, rfl, hr.mono fun i _ h => .inr h⟩
  · obtain ⟨b, off, rfl, q1, _, q3⟩ := r4 hn
    have := (h.base (g := b) rfl).1
    exact ⟨b, off, rfl, q1, fun hs => by have := hS b hs; omega, q3⟩
theorem Row.later {α : Type} {k : Kd α} {w w' : World} {S : Nat → Prop} {v : Value} {xs : List α} (h : Row k w S v xs) (hb : Below w.heap.size w w') : Row k w' S v xs :=
  h.keep ⟨hb.size, fun i hi _ => hb.block i hi⟩ fun _ _ h => h
theorem cell_set3 {w : World} {g p j : Nat} {x y z v : Value} (h : p ≠ g) (hc : w.cell? ⟨p, j, none⟩ = some v) : (((w.setCell ⟨g, 0, none⟩ x).setCell ⟨g, 1, none⟩ y).setCell ⟨g, 2, none⟩ z).cell? ⟨p, j, none⟩ = some v := by
  rw [World.cell?_of_block (heap_setCell_other _ ⟨g, 2, none⟩ p z h), World.cell?_of_block (heap_setCell_other _ ⟨g, 1, none⟩ p y h), World.cell?_of_block (heap_setCell_other _ ⟨g, 0, none⟩ p x h)]
  exact hc
theorem heap_set3 {w : World} {g i : Nat} {x y z : Value} (h : i ≠ g) : (((w.setCell ⟨g, 0, none⟩ x).setCell ⟨g, 1, none⟩ y).setCell ⟨g, 2, none⟩ z).heap[i]? = w.heap[i]? := by
  rw [heap_setCell_other _ ⟨g, 2, none⟩ i z h, heap_setCell_other _ ⟨g, 1, none⟩ i y h, heap_setCell_other _ ⟨g, 0, none⟩ i x h]
theorem Row.bare0 {α : Type} {k : Kd α} {w : World} {S : Nat → Prop} {v : Value} {xs : List α} (h : Row k w S v xs) : Row k w (may w none w.heap.size) v xs :=
  h.mono fun i hi hm => hm.elim (fun h => by omega) (fun h => (foot_none _ _ h).elim)
theorem Row.done {α : Type} {k : Kd α} {w w' : World} {g : Nat} {S : Nat → Prop} {v : Value} {xs : List α} (h : Row k w (fun i => i = g ∨ S i) v xs) (hs : w.heap.size ≤ w'.heap.size) (hh : ∀ i, i ≠ g → w'.heap[i]? = w.heap[i]?) : Row k w' S v xs :=
  h.keep ⟨hs, fun i _ hn => hh i fun he => hn (.inl he)⟩ fun _ _ h => .inr h

set_option maxHeartbeats 2000000 in
set_option maxRecDepth 100000 in
theorem net_calls (w : World) (S : Nat → Prop) (hS : ∀ i, S i → i < w.heap.size) (p : Nat) (st : BSt) (hB : BRep w p st) (hl : st.nodes.length ≤ 1099511627776) (hi : st.ins.length ≤ 1099511627776) (ho : st.outs.length ≤ 1099511627776)
    (hbi : ∀ q ∈ st.ins, q.bits.length ≤ 1099511627776) (hbo : ∀ q ∈ st.outs, q.bits.length ≤ 1099511627776) :
    Calls Try.prog 19 #[.pointer (some ⟨p, 0, none⟩)] w fun e w' => ∃ vn vi vo, e = .returned (.agg #[vn, vi, vo]) ∧
      Row kNode w' S vn st.nodes ∧ Row kPort w' S vi st.ins ∧ Row kPort w' S vo st.outs ∧ Below w.heap.size w w' := by
  obtain ⟨vn, vi, vo, c0, c1, c2, rn, ri, ro⟩ := hB.rows
  have hpl := hB.lt
  obtain ⟨An, cn, rfl, -, -⟩ := rn.shape
  obtain ⟨Ai, ci, rfl, -, -⟩ := ri.shape
  obtain ⟨Ao, co, rfl, -, -⟩ := ro.shape
  let ob : Obj := .cells #[.slice none 0 0, .slice none 0 0, .slice none 0 0] 33
  have hb0 : Below w.heap.size w (w.alloc ob).drew := ((Below.refl _ _).alloc (Nat.le_refl _) ob).drew
  have hobj : ∀ j, (w.alloc ob).drew.cell? ⟨w.heap.size, j, none⟩ = (#[.slice none 0 0, .slice none 0 0, .slice none 0 0] : Array Value)[j]? := fun j => World.cell?_alloc_new _ _ _ j
  have hfz : ∀ j, (w.alloc ob).drew.frozen? ⟨w.heap.size, j, none⟩ = false := fun j => World.frozen?_alloc_new _ _ _ j
  have hszb : (w.alloc ob).drew.heap.size = w.heap.size + 1 := by simp
  have hp0 : p < (w.alloc ob).drew.heap.size := by rw [hszb]; omega
  have HC := Lib.hid (And.intro ((hb0.cell (p := ⟨p, 0, none⟩) hpl).trans c0) (And.intro ((hb0.cell (p := ⟨p, 1, none⟩) hpl).trans c1) ((hb0.cell (p := ⟨p, 2, none⟩) hpl).trans c2)))
  have RN := Lib.hid (rn.later (w' := (w.alloc ob).drew) hb0)
  have RI := Lib.hid (ri.later (w' := (w.alloc ob).drew) hb0)
  have RO := Lib.hid (ro.later (w' := (w.alloc ob).drew) hb0)
  have HB0 := Lib.hid hb0
  have HBI := Lib.hid hbi
  have HBO := Lib.hid hbo
  have HOB := Lib.hid (And.intro hobj (And.intro hfz hszb))
  clear rn ri ro hb0 hbi hbo hB hobj hfz hszb
  subst ob
  go_enter Try.func19, Try.ntmps19
  go_wp2_with fail
  go_region_held3 (fun W => W.cell? ⟨p, 0, none⟩ = some (.slice An st.nodes.length cn) ∧ W.cell? ⟨p, 1, none⟩ = some (.slice Ai st.ins.length ci) ∧ W.cell? ⟨p, 2, none⟩ = some (.slice Ao st.outs.length co))
    (first | exact HC.out | exact ⟨c0a, c1a, c2a⟩ | exact ⟨c0b, c1b, c2b⟩ | exact ⟨c0c, c1c, c2c⟩ | exact ⟨cell_set3 (Nat.ne_of_lt hpl) c0c, cell_set3 (Nat.ne_of_lt hpl) c1c, cell_set3 (Nat.ne_of_lt hpl) c2c⟩ | go_keep)
    (first
    | (go_simp; go_at_call 92; refine (clone_nodes_calls _ _ st.nodes _ RN.out hl).mono ?_; rintro e w1 ⟨v1, rfl, o1, b1⟩; obtain ⟨A1, d1, rfl, -, -⟩ := o1.shape; have c0a := (b1.cell (p := ⟨p, 0, none⟩) hp0).trans HC.out.1; have c1a := (b1.cell (p := ⟨p, 1, none⟩) hp0).trans HC.out.2.1; have c2a := (b1.cell (p := ⟨p, 2, none⟩) hp0).trans HC.out.2.2; have H1 := Lib.hid (And.intro o1 b1); clear o1 b1)
    | (go_simp; go_at_call 91; ((with_reducible refine (copied_calls _ (fun i => i = w.heap.size ∨ S i) (fun i hi => Nat.lt_of_lt_of_le (hi.elim (fun h => by rw [h]; simp) (fun h => by have := hS i h; simp; omega)) H1.out.2.size) _ st.ins ((RI.out.later H1.out.2).bare0) hi HBI.out).mono ?_); rintro e w2 ⟨v2, rfl, o2, b2⟩; obtain ⟨A2, d2, rfl, -, -⟩ := o2.shape; have hp1 : p < w1.heap.size := Nat.lt_of_lt_of_le (by simp; omega) H1.out.2.size; have c0b := (b2.cell (p := ⟨p, 0, none⟩) hp1).trans c0a; have c1b := (b2.cell (p := ⟨p, 1, none⟩) hp1).trans c1a; have c2b := (b2.cell (p := ⟨p, 2, none⟩) hp1).trans c2a; have H2 := Lib.hid (And.intro o2 b2); clear o2 b2))
    | (go_simp; go_at_call 91; ((with_reducible refine (copied_calls _ (fun i => i = w.heap.size ∨ S i) (fun i hi => Nat.lt_of_lt_of_le (hi.elim (fun h => by rw [h]; simp) (fun h => by have := hS i h; simp; omega)) (Nat.le_trans H1.out.2.size H2.out.2.size)) _ st.outs (((RO.out.later H1.out.2).later H2.out.2).bare0) ho HBO.out).mono ?_); rintro e w3 ⟨v3, rfl, o3, b3⟩; obtain ⟨A3, d3, rfl, -, -⟩ := o3.shape; have hp2 : p < w2.heap.size := Nat.lt_of_lt_of_le hp1 H2.out.2.size; have hg0 : w.heap.size < (w.alloc (.cells #[.slice none 0 0, .slice none 0 0, .slice none 0 0] 33)).drew.heap.size := (by simp); have hg1 := Nat.lt_of_lt_of_le hg0 H1.out.2.size; have hg2 := Nat.lt_of_lt_of_le hg1 H2.out.2.size; have z0 := (b3.cell (p := ⟨w.heap.size, 0, none⟩) hg2).trans ((H2.out.2.cell (p := ⟨w.heap.size, 0, none⟩) hg1).trans ((H1.out.2.cell (p := ⟨w.heap.size, 0, none⟩) hg0).trans (HOB.out.1 0))); have y0 := (b3.frozen (p := ⟨w.heap.size, 0, none⟩) hg2).trans ((H2.out.2.frozen (p := ⟨w.heap.size, 0, none⟩) hg1).trans ((H1.out.2.frozen (p := ⟨w.heap.size, 0, none⟩) hg0).trans (HOB.out.2.1 0))); have z1 := (b3.cell (p := ⟨w.heap.size, 1, none⟩) hg2).trans ((H2.out.2.cell (p := ⟨w.heap.size, 1, none⟩) hg1).trans ((H1.out.2.cell (p := ⟨w.heap.size, 1, none⟩) hg0).trans (HOB.out.1 1))); have y1 := (b3.frozen (p := ⟨w.heap.size, 1, none⟩) hg2).trans ((H2.out.2.frozen (p := ⟨w.heap.size, 1, none⟩) hg1).trans ((H1.out.2.frozen (p := ⟨w.heap.size, 1, none⟩) hg0).trans (HOB.out.2.1 1))); have z2 := (b3.cell (p := ⟨w.heap.size, 2, none⟩) hg2).trans ((H2.out.2.cell (p := ⟨w.heap.size, 2, none⟩) hg1).trans ((H1.out.2.cell (p := ⟨w.heap.size, 2, none⟩) hg0).trans (HOB.out.1 2))); have y2 := (b3.frozen (p := ⟨w.heap.size, 2, none⟩) hg2).trans ((H2.out.2.frozen (p := ⟨w.heap.size, 2, none⟩) hg1).trans ((H1.out.2.frozen (p := ⟨w.heap.size, 2, none⟩) hg0).trans (HOB.out.2.1 2))); have c0c := (b3.cell (p := ⟨p, 0, none⟩) hp2).trans c0b; have c1c := (b3.cell (p := ⟨p, 1, none⟩) hp2).trans c1b; have c2c := (b3.cell (p := ⟨p, 2, none⟩) hp2).trans c2b; simp only [List.getElem?_toArray, List.getElem?_cons_zero, List.getElem?_cons_succ] at z0 z1 z2; have H3 := Lib.hid (And.intro o3 b3); clear o3 b3)))
  go_wp2
  have hg3 : w.heap.size < w3.heap.size := Nat.lt_of_lt_of_le hg2 H3.out.2.size
  have hSx : ∀ i, (i = w.heap.size ∨ S i) → i < (w.alloc (.cells #[.slice none 0 0, .slice none 0 0, .slice none 0 0] 33)).drew.heap.size := fun i hi => hi.elim (fun h => by rw [h]; simp) (fun h => by have := hS i h; simp; omega)
  have R1 := (H1.out.1.rowNodes (S := fun i => i = w.heap.size ∨ S i) hSx).later H2.out.2 |>.later H3.out.2
  have R2 := (H2.out.1.rowPorts (S := fun i => i = w.heap.size ∨ S i) (fun i hi => Nat.lt_of_lt_of_le (hSx i hi) H1.out.2.size)).later H3.out.2
  have R3 := H3.out.1.rowPorts (S := fun i => i = w.heap.size ∨ S i) (fun i hi => Nat.lt_of_lt_of_le (hSx i hi) (Nat.le_trans H1.out.2.size H2.out.2.size))
  have hbel : Below w.heap.size w w3 := ((HB0.out.trans (H1.out.2.mono (by simp))).trans (H2.out.2.mono (Nat.le_of_lt hg1))).trans (H3.out.2.mono (Nat.le_of_lt hg2))
  refine bodyPost_ret (v := .agg #[.slice A1 st.nodes.length d1, .slice A2 st.ins.length d2, .slice A3 st.outs.length d3]) ?_ rfl ⟨_, _, _, rfl, R1.done (by simp) (fun i hi => heap_set3 hi), R2.done (by simp) (fun i hi => heap_set3 hi), R3.done (by simp) (fun i hi => heap_set3 hi), ?_⟩
  · simp [results, Try.results19, go_sem, z0, z1, z2]
  · exact ((hbel.setCell (Nat.le_refl _) _).setCell (Nat.le_refl _) _).setCell (Nat.le_refl _) _
end Go.Proofs.Ytdljgifoboiaeaa
