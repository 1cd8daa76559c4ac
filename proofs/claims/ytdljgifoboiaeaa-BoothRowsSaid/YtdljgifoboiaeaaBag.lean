/- What is at hand in a function with boxes: boxes and words of its own. Two calls and two boxes made in any order. -/
import Derived.Test.YtdljgifoboiaeaaFold2
import Derived.Test.YtdljgifoboiaeaaShift
namespace Go.Proofs.Ytdljgifoboiaeaa
open Go.RowKit

section
variable {C : World → Prop} {p X B : Nat} {st0 st st' : BSt} {w w' : World} {N : Nat} {L : List Ent} {K : (Int → Bool) → Prop} {bx : List (Nat × Value)} {fs : List (Nat × Value × List Int)}

/-- boxes and words of the call's own, all that lie beyond: what a call keeps -/
structure Bag (p B : Nat) (bx : List (Nat × Value)) (fs : List (Nat × Value × List Int)) (w : World) (st : BSt) : Prop where
  box : ∀ q ∈ bx, Box w p q.1 q.2
  fin : ∀ q ∈ fs, Fine w p st q.1 q.2.1 q.2.2
  size : B ≤ w.heap.size
theorem Bag.then (b : Bag p B bx fs w st) (k : Kept w.heap.size (some p) w w') (x : Ext st st') : Bag p B bx fs w' st' :=
  ⟨fun q hq => (b.box q hq).then k, fun q hq => (b.fin q hq).kept k x, Nat.le_trans b.size k.size⟩
theorem Env.kalloc (E : Env C p X st0 w st N L K) (o : Obj) : Kept w.heap.size (some p) w (w.alloc o) := Kept.of_below_all ((Below.refl _ _).alloc (Nat.le_refl _) o) E.rep.fin (Nat.le_refl _)
theorem Bag.alloc (b : Bag p B bx fs w st) (E : Env C p X st0 w st N L K) (o : Obj) : Bag p B bx fs (w.alloc o) st := b.then (E.kalloc o) (Ext.refl _)
theorem Bag.drew (b : Bag p B bx fs w st) (E : Env C p X st0 w st N L K) : Bag p B bx fs w.drew st := b.then E.kdrew (Ext.refl _)
/-- a box is written: the others, and the words, stay -/
theorem Bag.store (b : Bag p B bx fs w st) (E : Env C p X st0 w st N L K) {g : Nat} {v : Value} (h : Box w p g v) (hX : X ≤ g) (v' : Value) (hb : ∀ q ∈ bx, q.1 ≠ g) (hf : ∀ q ∈ fs, q.2.1.ownBlock ≠ some g) :
    Box (w.setCell ⟨g, 0, none⟩ v') p g v' ∧ Env C p X st0 (w.setCell ⟨g, 0, none⟩ v') st N L K ∧ Bag p B bx fs (w.setCell ⟨g, 0, none⟩ v') st ∧ Kept g (some p) w (w.setCell ⟨g, 0, none⟩ v') ∧ ∀ {b' : Nat} {u : Value}, Box w p b' u → b' ≠ g → Box (w.setCell ⟨g, 0, none⟩ v') p b' u := by
  obtain ⟨s1, s2, s3, s4, s5⟩ := h.store E hX v'
  refine ⟨s1, s2, ⟨fun q hq => s4 (b.box q hq) (hb q hq), fun q hq => ?_, Nat.le_trans b.size s3.size⟩, s3, s4⟩
  have hq' := b.fin q hq
  have hg : w.grownBy (w.setCell ⟨g, 0, none⟩ v') (some g) := grownBy_setCell' w g v'
  have hft : ∀ i, foot w (some p) i → (w.setCell ⟨g, 0, none⟩ v').heap[i]? = w.heap[i]? := fun i hi => Below.heap_setCell w ⟨g, 0, none⟩ v' i fun e => h.2.2 (by have e' : i = g := e; rw [← e']; exact hi)
  exact ⟨hq'.own.other hg (foot_of_heap hft) (.inr fun e => hf q hq e) (fun _ _ h => h), hq'.okay, hq'.len⟩
theorem Bag.turned (b : Bag p B bx fs w st) (E : Env C p X st0 w st N L K) {row : Option Nat} (hg : w.grownBy w' row) (hr : ∀ r, row = some r → X ≤ r ∧ ∃ o : Obj, w.heap[r]? = some o ∧ o.isCells = false) : Bag p B bx fs w' st :=
  ⟨fun q hq => (b.box q hq).turned E hg hr, fun q hq => (b.fin q hq).turned E hg hr, Nat.le_trans b.size hg.size⟩
theorem Bag.add (b : Bag p B bx fs w st) {g : Nat} {v : Value} (h : Box w p g v) : Bag p B ((g, v) :: bx) fs w st :=
  ⟨fun q hq => by rcases List.mem_cons.1 hq with rfl | hq <;> first | exact h | exact b.box q hq, b.fin, b.size⟩
theorem Bag.addF (b : Bag p B bx fs w st) {g : Nat} {v : Value} {xs : List Int} (h : Fine w p st g v xs) : Bag p B bx ((g, v, xs) :: fs) w st :=
  ⟨b.box, fun q hq => by rcases List.mem_cons.1 hq with rfl | hq <;> first | exact h | exact b.fin q hq, b.size⟩

theorem Env.learn (E : Env C p X st0 w st N L K) {F : (Int → Bool) → Prop} (h : ∀ V, Sat V st.nodes → F V) : Env C p X st0 w st N L (fun V => K V ∧ F V) := { E with sem := fun V hV => ⟨E.sem V hV, h V hV⟩ }
/-- a word stays where a box is written -/
theorem Fine.stored {B g : Nat} {u v' v : Value} {xs : List Int} (hf : Fine w p st B v xs) (h : Box w p g u) (hne : v.ownBlock ≠ some g) : Fine (w.setCell ⟨g, 0, none⟩ v') p st B v xs := by
  have hg : w.grownBy (w.setCell ⟨g, 0, none⟩ v') (some g) := grownBy_setCell' w g v'
  have hft : ∀ i, foot w (some p) i → (w.setCell ⟨g, 0, none⟩ v').heap[i]? = w.heap[i]? := fun i hi => Below.heap_setCell w ⟨g, 0, none⟩ v' i fun e => h.2.2 (by have e' : i = g := e; rw [← e']; exact hi)
  exact ⟨hf.own.other hg (foot_of_heap hft) (.inr fun e => hne e) (fun _ _ h => h), hf.okay, hf.len⟩
/-- while zero and one are made: c of them are there, and the boxes they go into (i, j) -/
structure Ones (C : World → Prop) (p X : Nat) (st0 : BSt) (N : Nat) (L : List Ent) (K : (Int → Bool) → Prop) (B : Nat) (bx : List (Nat × Value)) (fs : List (Nat × Value × List Int)) (st1 : BSt) (c : Nat) (i j : Bool) (x14 x15 x43 x45 : Value) (w : World) (st : BSt) : Prop where
  env : Env C p X st0 w st (N + c) L K
  bag : Bag p B bx fs w st
  ext : Ext st1 st
  z : 1 ≤ c → ∃ z, x43 = .int .i64 z ∧ At st z ∧ ∀ V, Sat V st.nodes → V z = false
  o : 2 ≤ c → ∃ o, x45 = .int .i64 o ∧ At st o ∧ ∀ V, Sat V st.nodes → V o = true
  gi : i = true → ∃ g, x14 = .pointer (some ⟨g, 0, none⟩) ∧ Box w p g (.int .i64 0) ∧ B ≤ g
  gj : j = true → ∃ g, x15 = .pointer (some ⟨g, 0, none⟩) ∧ Box w p g (.int .i64 0) ∧ B ≤ g
  ne : i = true → j = true → x14 ≠ x15
variable {st1 : BSt} {c : Nat} {i j : Bool} {x14 x15 x43 x45 : Value}
theorem Ones.mk0 (E : Env C p X st0 w st N L K) (b : Bag p B bx fs w st) (x14 x15 x43 x45 : Value) : Ones C p X st0 N L K B bx fs st 0 false false x14 x15 x43 x45 w st :=
  ⟨E, b, Ext.refl _, by omega, by omega, by simp, by simp, by simp⟩
theorem Ones.alI (h : Ones C p X st0 N L K B bx fs st1 c false j x14 x15 x43 x45 w st) (t : TypeId) : Ones C p X st0 N L K B bx fs st1 c true j (.pointer (some ⟨w.heap.size, 0, none⟩)) x15 x43 x45 (w.alloc (.cells #[.int .i64 0] t)) st :=
  ⟨h.env.alloc _, h.bag.alloc h.env _, h.ext, h.z, h.o, fun _ => ⟨_, rfl, h.env.box _ t, h.bag.size⟩, fun e => by
    obtain ⟨g, e1, e2, e3⟩ := h.gj e
    exact ⟨g, e1, e2.then (h.env.kalloc _), e3⟩, fun _ e he => by
    obtain ⟨g, e1, e2, e3⟩ := h.gj e
    rw [e1] at he
    injection he with he; injection he with he; injection he with he
    have := e2.lt
    omega⟩
theorem Ones.alJ (h : Ones C p X st0 N L K B bx fs st1 c i false x14 x15 x43 x45 w st) (t : TypeId) : Ones C p X st0 N L K B bx fs st1 c i true x14 (.pointer (some ⟨w.heap.size, 0, none⟩)) x43 x45 (w.alloc (.cells #[.int .i64 0] t)) st :=
  ⟨h.env.alloc _, h.bag.alloc h.env _, h.ext, h.z, h.o, fun e => by
    obtain ⟨g, e1, e2, e3⟩ := h.gi e
    exact ⟨g, e1, e2.then (h.env.kalloc _), e3⟩, fun _ => ⟨_, rfl, h.env.box _ t, h.bag.size⟩, fun e _ he => by
    obtain ⟨g, e1, e2, e3⟩ := h.gi e
    rw [e1] at he
    injection he with he; injection he with he; injection he with he
    have := e2.lt
    omega⟩
theorem Ones.bit0 (h : Ones C p X st0 N L K B bx fs st1 0 i j x14 x15 x43 x45 w st) (hN : N + 2 < 1099511627776) :
    Calls Try.prog 104 #[.pointer (some ⟨p, 0, none⟩), .int .i64 0] w fun e w' => ∃ z st', e = .returned (.int .i64 z) ∧ Ones C p X st0 N L K B bx fs st1 1 i j x14 x15 (.int .i64 z) x45 w' st' :=
  (h.env.bit 0 (by omega)).mono fun e w' ⟨z, st', he, k, x, E⟩ => ⟨z, st', he, (E.know fun V h => h.1).only fun e he => List.mem_cons_of_mem _ he, h.bag.then k x, h.ext.trans x, fun _ => ⟨z, rfl, E.at_ (c := z) List.mem_cons_self, fun V hV => by
    have := (E.sem V hV).2; simpa using this⟩, by omega, fun e => by
    obtain ⟨g, e1, e2, e3⟩ := h.gi e
    exact ⟨g, e1, e2.then k, e3⟩, fun e => by
    obtain ⟨g, e1, e2, e3⟩ := h.gj e
    exact ⟨g, e1, e2.then k, e3⟩, h.ne⟩
theorem Ones.bit1 (h : Ones C p X st0 N L K B bx fs st1 1 i j x14 x15 x43 x45 w st) (hN : N + 2 < 1099511627776) :
    Calls Try.prog 104 #[.pointer (some ⟨p, 0, none⟩), .int .i64 1] w fun e w' => ∃ z st', e = .returned (.int .i64 z) ∧ Ones C p X st0 N L K B bx fs st1 2 i j x14 x15 x43 (.int .i64 z) w' st' :=
  (h.env.bit 1 (by omega)).mono fun e w' ⟨z, st', he, k, x, E⟩ => ⟨z, st', he, (E.know fun V h => h.1).only fun e he => List.mem_cons_of_mem _ he, h.bag.then k x, h.ext.trans x, fun _ => by
    obtain ⟨y, e1, e2, e3⟩ := h.z (Nat.le_refl _)
    exact ⟨y, e1, e2.ext x, fun V hV => e3 V (hV.ext x)⟩, fun _ => ⟨z, rfl, E.at_ (c := z) List.mem_cons_self, fun V hV => by
    have := (E.sem V hV).2; simpa using this⟩, fun e => by
    obtain ⟨g, e1, e2, e3⟩ := h.gi e
    exact ⟨g, e1, e2.then k, e3⟩, fun e => by
    obtain ⟨g, e1, e2, e3⟩ := h.gj e
    exact ⟨g, e1, e2.then k, e3⟩, h.ne⟩
end

/-- one of three -/
theorem threeOps {P : Program} {l : List Oper} {Q : Exit → Act → World → Prop} {S : World → Prop} {i j k : Nat} {o o' o'' : Oper} (hi : l[i]? = some o) (hj : l[j]? = some o') (hk : l[k]? = some o'') {fuel : Nat} {listed : Array Bool} {a : Act} {w : World} (hr : Region.ready .any l.toArray listed = [i, j, k])
    (hw : Region.wanted o (yielded l.toArray a.tmps) = true) (hw' : Region.wanted o' (yielded l.toArray a.tmps) = true) (hw'' : Region.wanted o'' (yielded l.toArray a.tmps) = true) (h : ∀ K : Act → World → Prop, Shut (∀ a w, S w → (S w → wpAnyH P .any l.toArray Q S fuel (listed.setIfInBounds i true) a w) → K a w) → Oper.wp P o a w K Q)
    (h' : ∀ K : Act → World → Prop, Shut (∀ a w, S w → (S w → wpAnyH P .any l.toArray Q S fuel (listed.setIfInBounds j true) a w) → K a w) → Oper.wp P o' a w K Q)
    (h'' : ∀ K : Act → World → Prop, Shut (∀ a w, S w → (S w → wpAnyH P .any l.toArray Q S fuel (listed.setIfInBounds k true) a w) → K a w) → Oper.wp P o'' a w K Q) : wpAnyH P .any l.toArray Q S (fuel + 1) listed a w :=
  wpAnyH_ready hr (by simp) (AllReadyH.cons (by simpa using hi) (fun K hK => by rw [if_pos hw]; exact h K hK) (AllReadyH.cons (by simpa using hj) (fun K hK => by rw [if_pos hw']; exact h' K hK) (AllReadyH.cons (by simpa using hk) (fun K hK => by rw [if_pos hw'']; exact h'' K hK) AllReadyH.nil)))
/-- the region's rest is named -/
theorem named {P : Program} {l : Array Oper} {Q : Exit → Act → World → Prop} {S : World → Prop} {fuel : Nat} {listed : Array Bool} {a : Act} {w : World}
    (h : ∀ (M : Nat → Array Bool → Act → World → Prop) (Qn : Act → World → Prop), M = (fun f li a w => wpAnyH P .any l Q S f li a w) → Qn = (fun a w => Q .normal a w) → M fuel listed a w) : wpAnyH P .any l Q S fuel listed a w := h _ _ rfl rfl
section
variable {C : World → Prop} {p X : Nat} {st0 st : BSt} {w w' : World} {N : Nat} {L : List Ent} {K : (Int → Bool) → Prop}
/-- a part of a word at hand, of less room -/
theorem Env.wPart (E : Env C p X st0 w st N L K) {g m c : Nat} {xs : List Int} (h : Ent.word (.slice (some ⟨g, 0, none⟩) m c) xs ∈ L) (j d : Nat) (hj : j + d ≤ m) {c' : Nat} (h1 : d ≤ c') (h2 : c' ≤ c - j) : Env C p X st0 w st N (.word (.slice (some ⟨g, j, none⟩) d c') ((xs.drop j).take d) :: L) K := by
  have E2 := (E.wDrop h j (by omega)).wTake mem_hd d (by omega)
  obtain ⟨hr, ho, hl⟩ := E2.ents _ mem_hd
  rw [Nat.zero_add] at hr
  obtain ⟨ys, hys⟩ : ∃ ys, (xs.drop j).take d = ys := ⟨_, rfl⟩
  rw [hys] at hr ho hl ⊢
  refine E.add _ ⟨?_, ho, hl⟩
  obtain ⟨A', c'', css, he, a1, a2, a3, a4, a5⟩ := hr
  injection he with e1 e2 e3
  subst e1; subst e3; subst e2
  exact ⟨some ⟨g, j, none⟩, c', css, rfl, h1, Nat.le_trans h2 a2, (fun h => nomatch h), a4, a5⟩
/-- a word of the call's own, where another block grows -/
theorem Fine.grown {B : Nat} {v : Value} {xs : List Int} {row : Option Nat} (h : Fine w p st B v xs) (E : Env C p X st0 w st N L K) (hg : w.grownBy w' row) (hr : ∀ g, row = some g → ¬ foot w (some p) g) (hne : v.ownBlock = none ∨ v.ownBlock ≠ row) : Fine w' p st B v xs :=
  ⟨h.own.other hg (foot_of_heap fun i hi => hg.block i (E.rep.fin i hi) fun e => hr i e.symm hi) hne (fun _ _ h => h), h.okay, h.len⟩
end
section
variable {P : Program} {o : Oper} {a : Act} {Q : Exit → Act → World → Prop} {C : World → Prop} {p X : Nat} {st0 st : BSt} {W : World} {N : Nat} {L : List Ent} {K : (Int → Bool) → Prop}
/-- append(v, ys...), ys a row that is read, as a step of a region: what is no cells stays -/
theorem appR {J : Act → World → Prop} (s x : Operand) (ho : o.op = .call { callee := .builtin .append, args := #[s, x], argTypes := #[26, 26] })
    (ht : P.underlying 26 = some (.slice 3)) (hinfo : (P.info? 3).map (fun i => (i.zero, i.size, i.bytes)) = some (some (.int .i64 0), 1, 8))
    (E : Env C p X st0 W st N L K) {B : Nat} {v : Value} {xs : List Int} (hf : Fine W p st B v xs) (hXB : X ≤ B) (hB : B ≤ W.heap.size) (hs : a.eval s = v)
    {S : Nat → Prop} {A : Option Addr} {m c : Nat} {ys : List Int} (hx : a.eval x = .slice A m c) (hy : Row kInt W S (.slice A m c) ys) (hyo : Okay st ys) (h0 : 0 < ys.length) (hl : xs.length + ys.length ≤ 1024)
    (hK : ∀ v' w', Kept B (some p) W w' → KeepsOthers W w' → W.grownBy w' v.ownBlock → Fine w' p st B v' (xs ++ ys) → Env C p X st0 w' st N L K → J (a.put o.dst v') w') : o.wp P a W J Q := by
  obtain ⟨A', c', css, he, h1, h2, _, h3, h4⟩ := hy
  injection he with e1 e2 e3
  subst e1; subst e2; subst e3
  obtain ⟨b, off, rfl, _, _, hc⟩ := h4 h0
  exact wp_app kInt 3 26 (.int .i64 0) 8 s x ho ht hinfo rfl (by decide) (by decide) (some p) B hf.own E.rep.fin hB hs ⟨b, off, none⟩ ys.length c ys css hx rfl ⟨h3.1, fun i x cs hx hc => h3.2 i x cs hx hc⟩
    (fun j u hu => by rw [Addr.add_lit]; exact hc j u hu) (by omega)
    fun v' w' q1 q2 _ _ q5 _ => hK v' w' q2 (KeepsOthers.of_grownBy q5 fun j o hj ho => by
      obtain ⟨css, h1, -⟩ := hf.own
      obtain ⟨cs, t, fr, hh⟩ := rowv_cells h1 hj
      rw [hh] at ho
      injection ho with ho
      rw [← ho]; rfl) q5 ⟨q1, hf.okay.append hyo, by simp; omega⟩ (E.kept (q2.mono hXB) (E.rep.grown q5 fun g hg => hf.own.off hg))
end
end Go.Proofs.Ytdljgifoboiaeaa
