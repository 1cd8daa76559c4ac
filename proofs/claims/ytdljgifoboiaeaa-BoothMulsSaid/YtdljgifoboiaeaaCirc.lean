/- The builder at hand along a walk: what is known of its state, of the words and rows at hand, and of all values that fit the net. -/
import Derived.Test.YtdljgifoboiaeaaSat
import Derived.Test.YtdljgifoboiaeaaJFresh
namespace Go.Proofs.Ytdljgifoboiaeaa
open Go.RowKit

/-- what is at hand: a word of places, a place, a row of data -/
inductive Ent : Type 1
  | word (v : Value) (xs : List Int)
  | pl (c : Int)
  | words (v : Value) (xss : List (List Int))
  | row {α : Type} (k : Kd α) (v : Value) (xs : List α)
def Ent.ok (w : World) (S : Nat → Prop) (st : BSt) : Ent → Prop
  | .word v xs => Row kInt w S v xs ∧ Okay st xs ∧ xs.length ≤ 1024
  | .pl c => At st c
  | .words v xss => Row (kRow kInt) w S v xss ∧ ∀ xs ∈ xss, Okay st xs ∧ xs.length ≤ 1024
  | .row k v xs => Row k w S v xs
theorem Ent.ok.keep {w w' : World} {S S' : Nat → Prop} {st st' : BSt} (hs : Same S w w') (hS : ∀ i, i < w.heap.size → S' i → S i) (he : st.nodes.length ≤ st'.nodes.length) : ∀ {e : Ent}, e.ok w S st → e.ok w' S' st'
  | .word _ _, h => ⟨h.1.keep hs hS, h.2.1.grow he, h.2.2⟩
  | .pl _, h => At.grow h he
  | .words _ _, h => ⟨Row.keep h.1 hs hS, fun xs hx => ⟨(h.2 xs hx).1.grow he, (h.2 xs hx).2⟩⟩
  | .row _ _ _, h => Row.keep h hs hS

theorem mem_hd {a : Ent} {l : List Ent} : a ∈ a :: l := List.mem_cons_self
theorem mem_tl {a b : Ent} {l : List Ent} (h : a ∈ l) : a ∈ b :: l := List.mem_cons_of_mem _ h
theorem sub_nil {L : List Ent} : ∀ e ∈ ([] : List Ent), e ∈ L := fun e he => by simp at he
theorem sub_refl (L : List Ent) : ∀ e ∈ L, e ∈ L := fun _ h => h
theorem sub_cons {a : Ent} {L' L : List Ent} (h : a ∈ L) (hs : ∀ e ∈ L', e ∈ L) : ∀ e ∈ a :: L', e ∈ L := fun e he => by
  rcases List.mem_cons.1 he with rfl | he
  · exact h
  · exact hs e he
theorem sub_tail {a : Ent} {L' L : List Ent} (hs : ∀ e ∈ L', e ∈ L) : ∀ e ∈ L', e ∈ a :: L := fun e he => List.mem_cons_of_mem _ (hs e he)

/-- every port has bits (then the builder's blocks are cells) -/
def HasBits (st : BSt) : Prop := ∀ q, q ∈ st.ins ∨ q ∈ st.outs → q.bits ≠ []
theorem HasBits.none : HasBits ⟨[], [], []⟩ := fun q h => by simp at h
theorem HasBits.ext {a b : BSt} (h : HasBits a) (he : Ext a b) : HasBits b := by obtain ⟨l, rfl⟩ := he; exact h

structure Env (C : World → Prop) (p X : Nat) (st0 : BSt) (w : World) (st : BSt) (N : Nat) (L : List Ent) (K : (Int → Bool) → Prop) : Prop where
  c : C w
  cl : ∀ a b, C a → Kept X (some p) a b → X ≤ a.heap.size → C b
  rep : BRep w p st
  ord : Ordered st.nodes
  ext : Ext st0 st
  cnt : st.nodes.length ≤ N
  size : X ≤ w.heap.size
  ents : ∀ e ∈ L, e.ok w (may w (some p) X) st
  sem : ∀ V, Sat V st.nodes → K V
  bits : HasBits st0

/-- what a call leaves -/
structure Lays (w : World) (p : Nat) (st : BSt) (n : Nat) (w' : World) (st' : BSt) (F : (Int → Bool) → Prop) : Prop where
  laid : Laid w p st' w'
  went : Went st st' n
  sem : ∀ V, Sat V st'.nodes → F V
/-- a word of the call's own -/
structure Fine (w : World) (p : Nat) (st : BSt) (B : Nat) (v : Value) (xs : List Int) : Prop where
  own : Own kInt 3 w (some p) B v xs
  okay : Okay st xs
  len : xs.length ≤ 1024

section
variable {C : World → Prop} {p X : Nat} {st0 st st' : BSt} {w w' : World} {N n : Nat} {L : List Ent} {K F : (Int → Bool) → Prop}

theorem Env.fits (E : Env C p X st0 w st N L K) (h : N < 1099511627776) : st.nodes.length < lim := Nat.lt_of_le_of_lt E.cnt h
theorem Env.kept (E : Env C p X st0 w st N L K) (hk : Kept X (some p) w w') (hB : BRep w' p st) : Env C p X st0 w' st N L K :=
  ⟨E.cl _ _ E.c hk E.size, E.cl, hB, E.ord, E.ext, E.cnt, Nat.le_trans E.size hk.size, fun e he => (E.ents e he).keep hk.same hk.mayOf (Nat.le_refl _), E.sem, E.bits⟩
theorem Env.quiet (E : Env C p X st0 w st N L K) (hb : Below w.heap.size w w') : Env C p X st0 w' st N L K :=
  E.kept (Kept.of_below_all hb E.rep.fin E.size) (E.rep.below hb)
theorem Env.drew (E : Env C p X st0 w st N L K) : Env C p X st0 w.drew st N L K := E.quiet (Below.refl _ _).drew
theorem Env.alloc (E : Env C p X st0 w st N L K) (o : Obj) : Env C p X st0 (w.alloc o) st N L K := E.quiet ((Below.refl _ _).alloc (Nat.le_refl _) o)
theorem Env.lift (E : Env C p X st0 w st N L K) {X' : Nat} (h : X ≤ X') (h' : X' ≤ w.heap.size) : Env C p X' st0 w st N L K :=
  ⟨E.c, fun a b ha hk hs => E.cl a b ha (hk.mono h) (Nat.le_trans h hs), E.rep, E.ord, E.ext, E.cnt, h', fun e he => (E.ents e he).keep ⟨Nat.le_refl _, fun _ _ _ => rfl⟩ (fun i _ hm => hm.elim (fun h2 => .inl (Nat.le_trans h h2)) .inr) (Nat.le_refl _), E.sem, E.bits⟩
theorem Env.top (E : Env C p X st0 w st N L K) : Env C p w.heap.size st0 w st N L K := E.lift E.size (Nat.le_refl _)
theorem Env.call (E : Env C p X st0 w st N L K) (h : Lays w p st n w' st' F) : Env C p X st0 w' st' (N + n) L (fun V => K V ∧ F V) :=
  have hk : Kept X (some p) w w' := h.laid.2.mono E.size
  ⟨E.cl _ _ E.c hk E.size, E.cl, h.laid.1, h.went.ord E.ord, E.ext.trans h.went.ext, by have := h.went.cnt; have := E.cnt; omega, Nat.le_trans E.size hk.size, fun e he => (E.ents e he).keep hk.same hk.mayOf h.went.ext.len, fun V hV => ⟨E.sem V (hV.ext h.went.ext), h.sem V hV⟩, E.bits⟩
theorem Env.cntle (E : Env C p X st0 w st N L K) {N' : Nat} (h : N ≤ N') : Env C p X st0 w st N' L K := { E with cnt := Nat.le_trans E.cnt h }
theorem Env.know (E : Env C p X st0 w st N L K) {K' : (Int → Bool) → Prop} (h : ∀ V, K V → K' V) : Env C p X st0 w st N L K' := { E with sem := fun V hV => h V (E.sem V hV) }
theorem Env.only (E : Env C p X st0 w st N L K) {L' : List Ent} (h : ∀ e ∈ L', e ∈ L) : Env C p X st0 w st N L' K := { E with ents := fun e he => E.ents e (h e he) }
theorem Env.add (E : Env C p X st0 w st N L K) (e : Ent) (h : e.ok w (may w (some p) X) st) : Env C p X st0 w st N (e :: L) K :=
  { E with ents := fun x hx => by rcases List.mem_cons.1 hx with rfl | hx <;> first | exact h | exact E.ents x hx }
theorem Env.addPl (E : Env C p X st0 w st N L K) {x : Int} (h : At st x) : Env C p X st0 w st N (.pl x :: L) K := E.add _ h
theorem Env.addRow (E : Env C p X st0 w st N L K) {α : Type} {k : Kd α} {v : Value} {xs : List α} (h : Row k w (may w (some p) w.heap.size) v xs) : Env C p w.heap.size st0 w st N (.row k v xs :: L) K := E.top.add _ h
theorem Env.addWord (E : Env C p X st0 w st N L K) {v : Value} {xs : List Int} (h : Row kInt w (may w (some p) w.heap.size) v xs) (ho : Okay st xs) (hl : xs.length ≤ 1024) : Env C p w.heap.size st0 w st N (.word v xs :: L) K := E.top.add _ ⟨h, ho, hl⟩
theorem Fine.row {B : Nat} {v : Value} {xs : List Int} (h : Fine w p st B v xs) : Row kInt w (may w (some p) w.heap.size) v xs := h.own.row (by decide) (Nat.le_refl _)
theorem Env.fine (E : Env C p X st0 w st N L K) {B : Nat} {v : Value} {xs : List Int} (h : Fine w p st B v xs) : Env C p w.heap.size st0 w st N (.word v xs :: L) K := E.addWord h.row h.okay h.len
theorem Fine.kept {B : Nat} {v : Value} {xs : List Int} (h : Fine w p st B v xs) (hk : Kept w.heap.size (some p) w w') (he : Ext st st') : Fine w' p st' B v xs := ⟨h.own.kept hk, h.okay.ext he, h.len⟩

/-- a call begins -/
theorem Env.mark (E : Env C p X st0 w st N L K) : Env (fun a => C a ∧ Kept w.heap.size (some p) w a) p w.heap.size st w st N L K :=
  { E.top with
    c := ⟨E.c, Kept.refl _ _ _⟩
    cl := fun a b h k hs => ⟨E.cl a b h.1 (k.mono E.size) (Nat.le_trans E.size hs), h.2.trans k⟩
    ext := Ext.refl _
    bits := E.bits.ext E.ext }
/-- a call ends -/
theorem Env.done {X' N' : Nat} {L' : List Ent} {K' : (Int → Bool) → Prop} (E' : Env (fun a => C a ∧ Kept w.heap.size (some p) w a) p X' st w' st' N' L' K') (E : Env C p X st0 w st N L K) : Env C p w'.heap.size st0 w' st' N' L' K' :=
  { E'.top with
    c := E'.c.1
    cl := fun a b h k hs => E.cl a b h (k.mono (Nat.le_trans E.size E'.c.2.size)) (Nat.le_trans (Nat.le_trans E.size E'.c.2.size) hs)
    ext := E.ext.trans E'.ext
    bits := E.bits }
/-- what was laid, all in all -/
theorem Env.lays {w0 : World} (E : Env (fun a => Kept w0.heap.size (some p) w0 a) p X st w st' N L K) (hN : N ≤ st.nodes.length + n) (hO : Ordered st.nodes → Ordered st'.nodes) : Lays w0 p st n w st' K :=
  ⟨⟨E.rep, E.c⟩, ⟨E.ext, by have := E.cnt; omega, hO⟩, E.sem⟩
theorem Env.start (hB : BRep w p st) (hb : HasBits st) (hO : Ordered st.nodes) (L : List Ent) (hL : ∀ e ∈ L, e.ok w (may w (some p) w.heap.size) st) : Env (fun a => Kept w.heap.size (some p) w a) p w.heap.size st w st st.nodes.length L (fun _ => True) :=
  ⟨Kept.refl _ _ _, fun _ _ h k _ => h.trans k, hB, hO, Ext.refl _, Nat.le_refl _, Nat.le_refl _, hL, fun _ _ => trivial, hb⟩
theorem Env.ofMine {B : Nat} {w0 : World} (h : Mine B w0 w p st) (hb : HasBits st) (hO : Ordered st.nodes) : Env (fun a => Fresh B a p ∧ Below B w0 a) p B st w st st.nodes.length [] (fun _ => True) :=
  ⟨⟨h.2.1, h.2.2.1⟩, fun a b ha hk hs => by
    have h1 : Fresh B b p := fun i hi => by
      rcases Nat.lt_or_ge i B with hlt | hge
      · exact ha.1 i (hk.ft i hlt hi)
      · exact hge
    exact ⟨h1, ha.2.trans ⟨hk.os, hk.tape, hk.output, hk.size, fun i hi => hk.block i hi fun hf => by have := ha.1 i hf; omega⟩⟩, h.1, hO, Ext.refl _, Nat.le_refl _, h.2.2.2, fun e he => by simp at he, fun _ _ => trivial, hb⟩

theorem Fine.lower {B B' : Nat} {v : Value} {xs : List Int} (h : Fine w p st B v xs) (hB : B' ≤ B) : Fine w p st B' v xs := ⟨h.own.lower hB, h.okay, h.len⟩
theorem Fine.later {B : Nat} {v : Value} {xs : List Int} (h : Fine w p st B v xs) (hk : Kept w.heap.size (some p) w w') (E : Env C p X st0 w' st' N L K) (hm : Ent.word v xs ∈ L) : Fine w' p st' B v xs := ⟨h.own.kept hk, (E.ents _ hm).2.1, h.len⟩
theorem Fine.quiet {B : Nat} {v : Value} {xs : List Int} (h : Fine w p st B v xs) (E : Env C p X st0 w st N L K) (hb : Below w.heap.size w w') : Fine w' p st B v xs := ⟨h.own.kept (Kept.of_below_all hb E.rep.fin (Nat.le_refl _)), h.okay, h.len⟩
theorem Fine.drew {B : Nat} {v : Value} {xs : List Int} (h : Fine w p st B v xs) (E : Env C p X st0 w st N L K) : Fine w.drew p st B v xs := h.quiet E (Below.refl _ _).drew
/-- what is of the builder's, and what is at hand, stays where a word of the call's own is written -/
theorem Fine.store {B g n c : Nat} {xs : List Int} (h : Fine w p st B (.slice (some ⟨g, 0, none⟩) n c) xs) (E : Env C p X st0 w st N L K) (hX : X ≤ B) (i : Nat) {r : Int} (hr : At st r) :
    Fine (w.setCell ⟨g, i, none⟩ (.int .i64 r)) p st B (.slice (some ⟨g, 0, none⟩) n c) (xs.set i r) ∧ Env C p X st0 (w.setCell ⟨g, i, none⟩ (.int .i64 r)) st N L K ∧
      ∀ {B' : Nat} {u : Value} {ys : List Int}, Fine w p st B' u ys → u.ownBlock ≠ some g → Fine (w.setCell ⟨g, i, none⟩ (.int .i64 r)) p st B' u ys := by
  have hB : B ≤ w.heap.size := Nat.le_of_lt (Nat.lt_of_le_of_lt (h.own.base rfl).1 (h.own.base rfl).2)
  obtain ⟨q1, q2, q3, q4⟩ := h.own.store E.rep.fin hB i r
  refine ⟨⟨q1, h.okay.set hr i, by simpa using h.len⟩, E.kept (q3.mono hX) (E.rep.grown q2 fun g' hg => h.own.off hg), fun hf hne => ⟨hf.own.other q2 q4 (.inr hne) (fun _ _ h => h), hf.okay, hf.len⟩⟩
theorem Env.kdrew (E : Env C p X st0 w st N L K) : Kept w.heap.size (some p) w w.drew := Kept.of_below_all (Below.refl _ _).drew E.rep.fin (Nat.le_refl _)
theorem Kept.then {w1 w2 : World} (h : Kept w.heap.size (some p) w w1) (k : Kept w1.heap.size (some p) w1 w2) : Kept w.heap.size (some p) w w2 := h.trans (k.mono h.size)

/-- the state is another one: a port is laid -/
theorem Env.turn (E : Env C p X st0 w st N L K) {n : Nat} {l : List Node} (hk : Kept w.heap.size (some p) w w') (hB : BRep w' p st') (hn : st'.nodes = st.nodes ++ l) (hl : l.length ≤ n) (hO : Ordered st'.nodes) (hb : HasBits st') : Env C p X st' w' st' (N + n) L K :=
  have hkX : Kept X (some p) w w' := hk.mono E.size
  ⟨E.cl _ _ E.c hkX E.size, E.cl, hB, hO, Ext.refl _, by rw [hn, List.length_append]; have := E.cnt; omega, Nat.le_trans E.size hk.size, fun e he => (E.ents e he).keep hkX.same hkX.mayOf (by rw [hn, List.length_append]; omega), fun V hV => E.sem V (by rw [hn] at hV; exact Sat.prefix hV), hb⟩
theorem Env.there (E : Env C p X st0 w st N L K) : There (foot w (some p)) w := E.rep.fin

/-- what was at hand ahead of a call, behind it -/
theorem Env.behind' {X' N' : Nat} {st1 : BSt} {L' : List Ent} {K' : (Int → Bool) → Prop} (E0 : Env C p X st0 w st N L K) (k : Kept w.heap.size (some p) w w') (x : st.nodes.length ≤ st'.nodes.length) (E1 : Env C p X' st1 w' st' N' L' K') : Env C p X st1 w' st' N' L K' :=
  have hk : Kept X (some p) w w' := k.mono E0.size
  ⟨E1.c, E0.cl, E1.rep, E1.ord, E1.ext, E1.cnt, Nat.le_trans E0.size k.size, fun e he => (E0.ents e he).keep hk.same hk.mayOf x, E1.sem, E1.bits⟩
theorem Env.behind {X' N' : Nat} {L' : List Ent} {K' : (Int → Bool) → Prop} (E0 : Env C p X st0 w st N L K) (k : Kept w.heap.size (some p) w w') (x : Ext st st') (E1 : Env C p X' st0 w' st' N' L' K') : Env C p X st0 w' st' N' L K' := E0.behind' k x.len E1

/-! ### what is at hand -/
theorem Env.wd (E : Env C p X st0 w st N L K) {v : Value} {xs : List Int} (h : Ent.word v xs ∈ L) : Row kInt w (may w (some p) X) v xs := (E.ents _ h).1
theorem Env.wdTop (E : Env C p X st0 w st N L K) {v : Value} {xs : List Int} (h : Ent.word v xs ∈ L) : Row kInt w (may w (some p) w.heap.size) v xs := (E.ents _ h).1.lift E.size
theorem Env.okay (E : Env C p X st0 w st N L K) {v : Value} {xs : List Int} (h : Ent.word v xs ∈ L) : Okay st xs := (E.ents _ h).2.1
theorem Env.len (E : Env C p X st0 w st N L K) {v : Value} {xs : List Int} (h : Ent.word v xs ∈ L) : xs.length ≤ 1024 := (E.ents _ h).2.2
theorem Env.at_ (E : Env C p X st0 w st N L K) {c : Int} (h : Ent.pl c ∈ L) : At st c := E.ents _ h
theorem Env.rw_ (E : Env C p X st0 w st N L K) {α : Type} {k : Kd α} {v : Value} {xs : List α} (h : Ent.row k v xs ∈ L) : Row k w (may w (some p) X) v xs := E.ents _ h
theorem Env.rwF (E : Env C p X st0 w st N L K) {α : Type} {k : Kd α} {v : Value} {xs : List α} (h : Ent.row k v xs ∈ L) : Row k w (foot w (some p)) v xs := (E.rw_ h).mono fun _ _ h => .inr h
theorem Env.rwTop (E : Env C p X st0 w st N L K) {α : Type} {k : Kd α} {v : Value} {xs : List α} (h : Ent.row k v xs ∈ L) : Row k w (may w (some p) w.heap.size) v xs := (E.rw_ h).lift E.size
theorem Env.shape (E : Env C p X st0 w st N L K) {v : Value} {xs : List Int} (h : Ent.word v xs ∈ L) : ∃ A c, v = .slice A xs.length c ∧ xs.length ≤ c ∧ c ≤ maxLen := (E.wd h).shape
theorem Env.start_ (E : Env C p X st0 w st N L K) {A : Option Addr} {m c : Nat} {xs : List Int} (h : Ent.word (.slice A m c) xs ∈ L) (hn : 0 < xs.length) : ∃ b off, A = some ⟨b, off, none⟩ := by
  obtain ⟨b, off, rfl, _⟩ := (E.wd h).int_at hn
  exact ⟨b, off, rfl⟩
theorem Env.cell (E : Env C p X st0 w st N L K) {b off m c : Nat} {xs : List Int} (h : Ent.word (.slice (some ⟨b, off, none⟩) m c) xs ∈ L) {i : Nat} (hi : i < xs.length) : w.cell? ⟨b, off + i, none⟩ = some (.int .i64 xs[i]) := by
  obtain ⟨b', off', he, hc⟩ := (E.wd h).int_at hi
  injection he with he; injection he with h1 h2; subst h1; subst h2
  exact hc
end

/-! ### references, which only read and make -/
/-- a row of data is told -/
def ToldR {α : Type} (C : World → Prop) (p : Nat) (st0 st : BSt) (w : World) (N : Nat) (L : List Ent) (K : (Int → Bool) → Prop) (k : Kd α) (xs : List α) (e : Ending) (w' : World) : Prop :=
  ∃ v, e = .returned v ∧ Below w.heap.size w w' ∧ Env C p w'.heap.size st0 w' st N (.row k v xs :: L) K
theorem Env.rowB {C : World → Prop} {p X : Nat} {st0 st : BSt} {w w' : World} {N : Nat} {L : List Ent} {K : (Int → Bool) → Prop} (E : Env C p X st0 w st N L K) {α : Type} {k : Kd α} {v : Value} {xs : List α} (hb : Below w.heap.size w w') (hr : Row k w' (foot w (some p)) v xs) : Env C p w'.heap.size st0 w' st N (.row k v xs :: L) K :=
  (E.quiet hb).addRow (hr.mono fun i hi hm => hm.elim (fun h => by omega) fun h => (foot_of_heap (w := w) (w' := w') (fun i hi => hb.block i (E.rep.fin i hi)) i).1 h)
theorem Env.ref {C : World → Prop} {p X : Nat} {st0 st : BSt} {w : World} {N : Nat} {L : List Ent} {K : (Int → Bool) → Prop} (E : Env C p X st0 w st N L K) {P : Program} {f : FuncId} {args : Array Value} {α : Type} {k : Kd α} {xs : List α}
    (h : Calls P f args w fun e w' => ∃ v, e = .returned v ∧ Row k w' (foot w (some p)) v xs ∧ Below w.heap.size w w') : Calls P f args w (ToldR C p st0 st w N L K k xs) :=
  h.mono fun e w' ⟨v, he, hr, hb⟩ => ⟨v, he, hb, E.rowB hb hr⟩

/-! ### the gates -/
section
variable {C : World → Prop} {p X : Nat} {st0 st : BSt} {w : World} {N : Nat} {L : List Ent} {K : (Int → Bool) → Prop}

/-- a place is told -/
def ToldPl (C : World → Prop) (p X : Nat) (st0 st : BSt) (w : World) (N : Nat) (L : List Ent) (K : (Int → Bool) → Prop) (F : (Int → Bool) → Int → Prop) (e : Ending) (w' : World) : Prop :=
  ∃ c st', e = .returned (.int .i64 c) ∧ Kept w.heap.size (some p) w w' ∧ Ext st st' ∧ Env C p X st0 w' st' N (.pl c :: L) (fun V => K V ∧ F V c)
theorem Env.lay (E : Env C p X st0 w st N L K) {x : Node} {w' : World} {F : (Int → Bool) → Int → Prop} (hr : rightB x st.nodes.length = true) (hL : Laid w p (lay x st).2 w') (hF : ∀ V, Sat V (lay x st).2.nodes → F V (lay x st).1) :
    ToldPl C p X st0 st w (N + 1) L K F (.returned (.int .i64 (Go.Proofs.Ytdljgifoboiaeaa.lay x st).1)) w' :=
  ⟨_, _, rfl, hL.2, lay_ext _ _, (E.call ⟨hL, lay_went hr, hF⟩).addPl (lay_there _ _)⟩

theorem Env.bit (E : Env C p X st0 w st N L K) (v : Int) (hN : N < 1099511627776) :
    Calls Try.prog 104 #[.pointer (some ⟨p, 0, none⟩), .int .i64 v] w (ToldPl C p X st0 st w (N + 1) L K fun V c => V c = decide (v ≠ 0)) :=
  (bit_calls w p st v E.rep (E.fits hN)).mono fun e w' ⟨he, hL⟩ => by subst he; exact E.lay (right_bit _ _) hL fun V hV => sat_bit hV
theorem Env.not (E : Env C p X st0 w st N L K) {x : Int} (hx : Ent.pl x ∈ L) (hN : N < 1099511627776) :
    Calls Try.prog 103 #[.pointer (some ⟨p, 0, none⟩), .int .i64 x] w (ToldPl C p X st0 st w (N + 1) L K fun V c => V c = !V x) :=
  (not_calls w p st x E.rep (E.fits hN)).mono fun e w' ⟨he, hL⟩ => by subst he; exact E.lay (right_not (E.at_ hx)) hL fun V hV => sat_not hV
theorem Env.and' (E : Env C p X st0 w st N L K) {x y : Int} (hx : At st x) (hy : At st y) (hN : N < 1099511627776) :
    Calls Try.prog 83 #[.pointer (some ⟨p, 0, none⟩), .int .i64 x, .int .i64 y] w (ToldPl C p X st0 st w (N + 1) L K fun V c => V c = (V x && V y)) :=
  (and_calls w p st x y E.rep (E.fits hN)).mono fun e w' ⟨he, hL⟩ => by subst he; exact E.lay (right_two (.inl rfl) hx hy) hL fun V hV => sat_and hV
theorem Env.or' (E : Env C p X st0 w st N L K) {x y : Int} (hx : At st x) (hy : At st y) (hN : N < 1099511627776) :
    Calls Try.prog 113 #[.pointer (some ⟨p, 0, none⟩), .int .i64 x, .int .i64 y] w (ToldPl C p X st0 st w (N + 1) L K fun V c => V c = (V x || V y)) :=
  (or_calls w p st x y E.rep (E.fits hN)).mono fun e w' ⟨he, hL⟩ => by subst he; exact E.lay (right_two (.inr (.inl rfl)) hx hy) hL fun V hV => sat_or hV
theorem Env.xor' (E : Env C p X st0 w st N L K) {x y : Int} (hx : At st x) (hy : At st y) (hN : N < 1099511627776) :
    Calls Try.prog 108 #[.pointer (some ⟨p, 0, none⟩), .int .i64 x, .int .i64 y] w (ToldPl C p X st0 st w (N + 1) L K fun V c => V c = (V x != V y)) :=
  (xor_calls w p st x y E.rep (E.fits hN)).mono fun e w' ⟨he, hL⟩ => by subst he; exact E.lay (right_two (.inr (.inr rfl)) hx hy) hL fun V hV => sat_xor hV
theorem Env.mux' (E : Env C p X st0 w st N L K) {x y c : Int} (hx : At st x) (hy : At st y) (hc : At st c) (hN : N < 1099511627776) :
    Calls Try.prog 84 #[.pointer (some ⟨p, 0, none⟩), .int .i64 x, .int .i64 y, .int .i64 c] w (ToldPl C p X st0 st w (N + 1) L K fun V r => V r = if V c then V y else V x) :=
  (mux_calls w p st x y c E.rep (E.fits hN)).mono fun e w' ⟨he, hL⟩ => by subst he; exact E.lay (right_mux hx hy hc) hL fun V hV => sat_mux hV
theorem Env.and (E : Env C p X st0 w st N L K) {x y : Int} (hx : Ent.pl x ∈ L) (hy : Ent.pl y ∈ L) (hN : N < 1099511627776) :
    Calls Try.prog 83 #[.pointer (some ⟨p, 0, none⟩), .int .i64 x, .int .i64 y] w (ToldPl C p X st0 st w (N + 1) L K fun V c => V c = (V x && V y)) := E.and' (E.at_ hx) (E.at_ hy) hN
theorem Env.or (E : Env C p X st0 w st N L K) {x y : Int} (hx : Ent.pl x ∈ L) (hy : Ent.pl y ∈ L) (hN : N < 1099511627776) :
    Calls Try.prog 113 #[.pointer (some ⟨p, 0, none⟩), .int .i64 x, .int .i64 y] w (ToldPl C p X st0 st w (N + 1) L K fun V c => V c = (V x || V y)) := E.or' (E.at_ hx) (E.at_ hy) hN
theorem Env.xor (E : Env C p X st0 w st N L K) {x y : Int} (hx : Ent.pl x ∈ L) (hy : Ent.pl y ∈ L) (hN : N < 1099511627776) :
    Calls Try.prog 108 #[.pointer (some ⟨p, 0, none⟩), .int .i64 x, .int .i64 y] w (ToldPl C p X st0 st w (N + 1) L K fun V c => V c = (V x != V y)) := E.xor' (E.at_ hx) (E.at_ hy) hN
theorem Env.mux (E : Env C p X st0 w st N L K) {x y c : Int} (hx : Ent.pl x ∈ L) (hy : Ent.pl y ∈ L) (hc : Ent.pl c ∈ L) (hN : N < 1099511627776) :
    Calls Try.prog 84 #[.pointer (some ⟨p, 0, none⟩), .int .i64 x, .int .i64 y, .int .i64 c] w (ToldPl C p X st0 st w (N + 1) L K fun V r => V r = if V c then V y else V x) := E.mux' (E.at_ hx) (E.at_ hy) (E.at_ hc) hN

/-! ### words -/
/-- a word is told: so long, and what is known of it -/
def ToldW (C : World → Prop) (p : Nat) (st0 st : BSt) (w : World) (N : Nat) (L : List Ent) (K : (Int → Bool) → Prop) (len : Nat) (F : (Int → Bool) → List Int → Prop) (e : Ending) (w' : World) : Prop :=
  ∃ v r st', Hid (r.length = len) ∧ e = .returned v ∧ Kept w.heap.size (some p) w w' ∧ Ext st st' ∧ Fine w' p st' w.heap.size v r ∧ Env C p w'.heap.size st0 w' st' N (.word v r :: L) (fun V => K V ∧ F V r)
theorem Env.laidW (E : Env C p X st0 w st N L K) {n len : Nat} {w' : World} {st' : BSt} {v : Value} {r : List Int} {F : (Int → Bool) → List Int → Prop} (hO : Own kInt 3 w' (some p) w.heap.size v r) (hL : Laid w p st' w') (hw : Went st st' n ∧ Okay st' r) (hlen : r.length = len) (hl : len ≤ 1024) (hF : ∀ V, Sat V st'.nodes → F V r) :
    ToldW C p st0 st w (N + n) L K len F (.returned v) w' :=
  have hf : Fine w' p st' w.heap.size v r := ⟨hO, hw.2, by omega⟩
  ⟨v, r, st', Lib.hid hlen, rfl, hL.2, hw.1.ext, hf, (E.call ⟨hL, hw.1, hF⟩).fine hf⟩
theorem Env.pad (E : Env C p X st0 w st N L K) {v : Value} {xs : List Int} (hx : Ent.word v xs ∈ L) (m : Int) (hm : m ≤ 1024) (hN : N + 1024 < 1099511627776) :
    Calls Try.prog 30 #[.pointer (some ⟨p, 0, none⟩), v, .int .i64 m] w (ToldW C p st0 st w (N + 1024) L K m.toNat fun V r => numV V r = numV V xs % 2 ^ m.toNat) :=
  have hw := pad_went (n := m.toNat) (E.okay hx)
  (pad_calls w p st _ v xs m E.rep (E.wd hx) (by have := E.len hx; omega) (by omega) (by have := hw.1.cnt; have := E.cnt; omega)).mono fun e w' ⟨v', he, hO, hL⟩ => by
    subst he; exact E.laidW hO hL ⟨hw.1.mono (by omega), hw.2⟩ (pad_length _ _ _) (by omega) fun V hV => num_pad hV
theorem Env.padNil (E : Env C p X st0 w st N L K) (m : Int) (hm : m ≤ 1024) (hN : N + 1024 < 1099511627776) :
    Calls Try.prog 30 #[.pointer (some ⟨p, 0, none⟩), .slice none 0 0, .int .i64 m] w (ToldW C p st0 st w (N + 1024) L K m.toNat fun V r => numV V r = 0) :=
  have hw := pad_went (n := m.toNat) (Okay.nil st)
  (pad_calls w p st (fun _ => False) (.slice none 0 0) [] m E.rep ⟨none, 0, [], rfl, Nat.le_refl _, by simp [maxLen], fun _ => rfl, Pairs.nil _ _ _, fun h => by simp at h⟩ (by simp) (by omega) (by have := hw.1.cnt; have := E.cnt; omega)).mono fun e w' ⟨v', he, hO, hL⟩ => by
    subst he; exact E.laidW hO hL ⟨hw.1.mono (by omega), hw.2⟩ (pad_length _ _ _) (by omega) fun V hV => (num_pad hV).trans (by simp [numV_nil])
theorem Env.each (E : Env C p X st0 w st N L K) {v u : Value} {xs ys : List Int} (kind : Int) (hx : Ent.word v xs ∈ L) (hy : Ent.word u ys ∈ L) (hN : N + 4096 < 1099511627776) :
    Calls Try.prog 27 #[.pointer (some ⟨p, 0, none⟩), .int .i64 kind, v, u] w (ToldW C p st0 st w (N + 4096) L K (max xs.length ys.length) fun V r => ∀ i, i < max xs.length ys.length → (numV V r).testBit i = gateK kind ((numV V xs).testBit i) ((numV V ys).testBit i)) :=
  have hw := each_went (kind := kind) (E.okay hx) (E.okay hy)
  have h1 := E.len hx
  have h2 := E.len hy
  (each_calls w p st X v u xs ys kind E.rep E.size (E.wd hx) (E.wd hy) (by omega) (by omega) (by have := hw.1.cnt; have := E.cnt; omega)).mono fun e w' ⟨v', he, hO, hL⟩ => by
    subst he; exact E.laidW hO hL ⟨hw.1.mono (by omega), hw.2⟩ (each_length _ _ _ _) (by omega) fun V hV i hi => sat_each hV i hi
theorem Env.pick (E : Env C p X st0 w st N L K) {v u : Value} {xs ys : List Int} {c : Int} (hx : Ent.word v xs ∈ L) (hy : Ent.word u ys ∈ L) (hc : Ent.pl c ∈ L) (hN : N + 4096 < 1099511627776) :
    Calls Try.prog 29 #[.pointer (some ⟨p, 0, none⟩), v, u, .int .i64 c] w (ToldW C p st0 st w (N + 4096) L K (max xs.length ys.length) fun V r => numV V r = if V c then numV V ys else numV V xs) :=
  have hw := pick_went (c := c) (E.okay hx) (E.okay hy) (E.at_ hc)
  have h1 := E.len hx
  have h2 := E.len hy
  (pick_calls w p st X v u xs ys c E.rep E.size (E.wd hx) (E.wd hy) (by omega) (by omega) (by have := hw.1.cnt; have := E.cnt; omega)).mono fun e w' ⟨v', he, hO, hL⟩ => by
    subst he; exact E.laidW hO hL ⟨hw.1.mono (by omega), hw.2⟩ (pick_length _ _ _ _) (by omega) fun V hV => sat_pick hV
theorem Env.nots (E : Env C p X st0 w st N L K) {v : Value} {xs : List Int} (hx : Ent.word v xs ∈ L) (hN : N + 1024 < 1099511627776) :
    Calls Try.prog 28 #[.pointer (some ⟨p, 0, none⟩), v] w (ToldW C p st0 st w (N + 1024) L K xs.length fun V r => numV V r + numV V xs + 1 = 2 ^ xs.length) :=
  have hw := nots_went (E.okay hx)
  have h1 := E.len hx
  (nots_calls w p st X v xs E.rep E.size (E.wd hx) (by omega) (by have := hw.1.cnt; have := E.cnt; omega)).mono fun e w' ⟨v', he, hO, hL⟩ => by
    subst he; exact E.laidW hO hL ⟨hw.1.mono (by omega), hw.2⟩ (nots_length _ _) (by omega) fun V hV => sat_nots hV
theorem Env.wordOf (E : Env C p X st0 w st N L K) {v : Value} {xs : List Int} (hx : Ent.row (kNum .u32) v xs ∈ L) (hok : okParts xs) (m : Nat) (hm : m ≤ 1024) (hN : N + 1024 < 1099511627776) :
    Calls Try.prog 31 #[.pointer (some ⟨p, 0, none⟩), v, .int .i64 m] w (ToldW C p st0 st w (N + 1024) L K m fun V r => numV V r = partsVal xs % 2 ^ m) :=
  have hw := word_went (partsVal xs) m st
  (word_calls w p st v xs m E.rep (E.rwTop hx) hok (by omega) (by have := hw.1.cnt; have := E.cnt; omega)).mono fun e w' ⟨v', he, hO, hL⟩ => by
    subst he; exact E.laidW hO hL ⟨hw.1.mono (by omega), hw.2⟩ (word_length _ _ _) (by omega) fun V hV => sat_word hV
theorem Env.clone (E : Env C p X st0 w st N L K) {v : Value} {xs : List Int} (hx : Ent.word v xs ∈ L) :
    Calls Try.prog 90 #[v] w (ToldW C p st0 st w N L K xs.length fun _ r => r = xs) :=
  (clone_calls w v xs _ (E.wd hx) (by have := E.len hx; omega)).mono fun e w' ⟨v', he, hO, hb⟩ => by
    subst he
    have E' := E.quiet hb
    have hf : Fine w' p st w.heap.size v' xs := ⟨hO.give E.rep.fin hb, E.okay hx, E.len hx⟩
    exact ⟨v', xs, st, Lib.hid rfl, rfl, Kept.of_below_all hb E.rep.fin (Nat.le_refl _), Ext.refl _, hf, ((E'.know fun V h => ⟨h, rfl⟩).fine hf)⟩
/-- a copy of the call's own, to be written -/
theorem Env.cloneOwn (E : Env C p X st0 w st N L K) {v : Value} {xs : List Int} (hx : Ent.word v xs ∈ L) :
    Calls Try.prog 90 #[v] w fun e w' => ∃ v', e = .returned v' ∧ Below w.heap.size w w' ∧ Fine w' p st w.heap.size v' xs ∧ Env C p X st0 w' st N L K :=
  (clone_calls w v xs _ (E.wd hx) (by have := E.len hx; omega)).mono fun e w' ⟨v', he, hO, hb⟩ => by
    subst he
    exact ⟨v', rfl, hb, ⟨hO.give E.rep.fin hb, E.okay hx, E.len hx⟩, E.quiet hb⟩
end
end Go.Proofs.Ytdljgifoboiaeaa
