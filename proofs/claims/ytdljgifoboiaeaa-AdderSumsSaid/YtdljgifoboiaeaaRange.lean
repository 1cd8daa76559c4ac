/- A range over an iterator, no round of which leaves: the law, with what comes next; the marks at a function's return; the builder's blocks are cells. -/
import Derived.RangeFuncFrom
import Derived.RangeFuncBound
import Derived.RangeFuncCalls
import Derived.RangeFuncLeaves
import Derived.RangeFuncBox
import Derived.OrdersIn
import Derived.OrdersHeld
import Derived.Deep.RegionHeld3
import Derived.Test.YtdljgifoboiaeaaCirc
namespace Go.Proofs.Ytdljgifoboiaeaa
open Go.RowKit

/-- a state that minds no turn of a block that is no cells and lies at or beyond B -/
def Calm (B : Nat) (I : World → Prop) : Prop := ∀ W W' row, I W → W.grownBy W' row → (∀ r, row = some r → B ≤ r ∧ ∃ o : Obj, W.heap[r]? = some o ∧ o.isCells = false) → I W'
theorem Calm.put {B : Nat} {I : World → Prop} (h : Calm B I) {W : World} {l : Nat} {o : Obj} (o' : Obj) (hs : I W) (hB : B ≤ l) (hl : W.heap[l]? = some o) (ho : o.isCells = false) : I (W.putObj l o') :=
  h W _ (some l) hs (grownBy_putObj' W l o') fun r e => by cases e; exact ⟨hB, o, hl, ho⟩
theorem Calm.drew {B : Nat} {I : World → Prop} (h : Calm B I) {W : World} (hs : I W) : I W.drew := h W _ none hs ⟨rfl, rfl, rfl, Nat.le_refl _, fun _ _ _ => rfl⟩ fun r e => by cases e
theorem Calm.alloc {B : Nat} {I : World → Prop} (h : Calm B I) {W : World} (o : Obj) (hs : I W) : I (W.alloc o) := h W _ none hs (World.grownBy_alloc W o none) fun r e => by cases e

/-- an iterator that is never left: xs has come when it ends; Nx: what comes behind what has come; Bx: what it reads -/
def Iter {α : Type} (P : Program) (n g : Nat) (lb : Array Value) (encs : α → Array Value) (Bx : World → Prop) (Nx : List α → α → Prop) (S : List α → Prop) : Prop :=
  ∀ (l : Nat) (J : List α → World → Prop) (W : World), (∀ pre V, J pre V → Bx V) → (∀ pre V, J pre V → J pre V.drew) →
    (∀ pre x V, J pre V → Nx pre x → YieldAt Fence.wide (n - 1) P l (encs x) V fun e V' => e = .returned (.bool true) ∧ J (pre ++ [x]) V') →
    J [] W → CallsIn Fence.wide n P g (#[.func (.yield l) #[] #[]] ++ lb) W fun e V' => (∃ v, e = .returned v) ∧ ∃ xs, S xs ∧ J xs V'

/-- the statement -/
theorem range_law {α : Type} {P : Program} {n : Nat} {g : Operand} {ps : Array Tmp} {assign body : Code} {Q : Exit → Act → World → Prop} {a : Act} {w : World} {gf : Nat} {lb : Array Value} (hg : a.eval g = .func (.func gf) #[] lb) (eg : ∀ args w, (callFunc gf args).run P w = .ok (.enter gf args) w)
    {encs : α → Array Value} {Bx : World → Prop} {Nx : List α → α → Prop} {S : List α → Prop} (hit : Iter P (n - 1) gf lb encs Bx Nx S) (hps : ∀ x, (encs x).size = ps.size)
    (B : Nat) (hB : B ≤ w.heap.size) (I : List α → World → Prop) (hI : ∀ pre, Calm B (I pre)) (hBx : ∀ pre V, I pre V → Bx V) (h0 : I [] w) (a₁ : α → Act)
    (hassign : ∀ (l : Nat) (x : α) (W : World) (K : Act → World → Prop), K (a₁ x) W → assign.wpIn (Fence.wide.inRound l) (n - 1 - 1) P (Exit.then K fun _ _ _ => False) { tmps := (ps.zip (encs x)).foldl (fun t (p, v) => t.setIfInBounds p v) a.tmps, defers := [] } W)
    (hbody : ∀ (l : Nat) (pre : List α) (x : α) (W : World), I pre W → Nx pre x → body.wpIn (Fence.wide.inRound l) (n - 1 - 1) P (fun e _ W' => e = .normal ∧ KeepsOthers W W' ∧ I (pre ++ [x]) W') (a₁ x) W)
    (hdone : ∀ (D : Nat) (xs : List α) (W : World), w.heap.size ≤ D → S xs → I xs W → W.heap[D]? = some (.deferred (some [])) → Q .normal { a with defers := { target := .collected D, args := #[] } :: a.defers } W) :
    (Code.rangeFunc g ps assign body).wpIn Fence.wide n P Q a w := by
  refine wpIn_rangeFunc fun fn _ => ?_
  let R : LoopState → Loop := fun st => { state := st, pending := none, fn, tmps := a.tmps, params := ps, assign, body, defers := w.heap.size }
  let M : World → Prop := fun V => V.heap[w.heap.size]? = some (.deferred (some []))
  let W1 := (w.alloc (.deferred (some []))).alloc (.loop (R .ready))
  have l1 : W1.heap[w.heap.size + 1]? = some (.loop (R .ready)) := by
    have h := World.alloc_heap_new (w.alloc (.deferred (some []))) (.loop (R .ready))
    rw [World.size_alloc] at h
    exact h
  have m1 : M W1 := (Below.heap_alloc _ _ _ (by simp)).trans (World.alloc_heap_new w _)
  have j1 : I [] W1 := (hI []).alloc _ ((hI []).alloc _ h0)
  refine ⟨w.heap.size + 1, [{ target := .collected w.heap.size, args := #[] }], W1, ⟨.fn (.func gf) lb, #[.func (.yield (w.heap.size + 1)) #[] #[]]⟩, W1, gf, #[.func (.yield (w.heap.size + 1)) #[] #[]] ++ lb, W1, run_enterLoop_outer _ _ _ _ _, ?_, fun _ _ => trivial, ?_, fun h => (by cases h), ?_⟩
  · simp only [resolve, hg]; simp [go_sem]
  · simp [invoke, go_sem, eg]
  -- a turn of the record
  have turn : ∀ (pre : List α) (V : World) (st st' : LoopState), I pre V → V.heap[w.heap.size + 1]? = some (.loop (R st)) → M V →
      I pre (V.putObj (w.heap.size + 1) (.loop (R st'))) ∧ (V.putObj (w.heap.size + 1) (.loop (R st'))).heap[w.heap.size + 1]? = some (.loop (R st')) ∧ M (V.putObj (w.heap.size + 1) (.loop (R st'))) := fun pre V st st' hi hl hm =>
    ⟨(hI pre).put _ hi (by omega) hl rfl, World.putObj_heap_same (Array.getElem?_eq_some_iff.1 hl).1, (World.putObj_heap_other (by omega)).trans hm⟩
  refine (hit (w.heap.size + 1) (fun pre V => I pre V ∧ V.heap[w.heap.size + 1]? = some (.loop (R .ready)) ∧ M V) W1 (fun pre V h => hBx pre V h.1) (fun pre V h => ⟨(hI pre).drew h.1, h.2.1, h.2.2⟩) ?_ ⟨j1, l1, m1⟩).mono ?_
  · rintro pre x V ⟨hi, hl, hm⟩ hx
    refine ⟨fn, _, assign, body, run_yield hl (hps x), roundIn_of_wpIn trivial (hassign _ x V _ ⟨_, run_beginRound hl rfl, ?_⟩)⟩
    obtain ⟨i2, l2, m2⟩ := turn pre V .ready .busy hi hl hm
    refine wpIn_mono (hbody _ pre x _ i2 hx) ?_
    rintro e a3 V3 ⟨rfl, hk, i3⟩
    have l3 := hk.same _ _ l2 rfl
    obtain ⟨i4, l4, m4⟩ := turn (pre ++ [x]) V3 .busy .ready i3 l3 (hk.same _ _ m2 rfl)
    exact ⟨_, _, run_endRound none l3, rfl, i4, l4, m4⟩
  · rintro e V ⟨⟨v, rfl⟩, xs, hS, hi, hl, hm⟩
    obtain ⟨i2, -, m2⟩ := turn xs V .ready .exhausted hi hl hm
    exact ⟨none, _, run_endLoop hl (by intro h; cases h), hdone _ xs _ (Nat.le_refl _) hS i2 m2⟩

/-! ### the marks -/
/-- the marks that a function's loops have left -/
def Marks (B : Nat) (w : World) (ds : List Deferred) : Prop :=
  ds.Pairwise (fun a b => a.target ≠ b.target) ∧ ∀ d ∈ ds, ∃ D, d = { target := .collected D, args := #[] } ∧ B ≤ D ∧ w.heap[D]? = some (.deferred (some []))
theorem Marks.nil (B : Nat) (w : World) : Marks B w [] := ⟨.nil, fun d h => by simp at h⟩
theorem Marks.cons {B : Nat} {w w' : World} {ds : List Deferred} (h : Marks B w ds) {D : Nat} (hB : B ≤ D) (hs : ∀ i, i < w.heap.size → (∃ o : Obj, w.heap[i]? = some o ∧ o.isCells = false) → w'.heap[i]? = w.heap[i]?) (hD : w.heap.size ≤ D) (hd : w'.heap[D]? = some (.deferred (some []))) : Marks B w' ({ target := .collected D, args := #[] } :: ds) := by
  refine ⟨List.pairwise_cons.2 ⟨fun d hm he => ?_, h.1⟩, fun d hm => ?_⟩
  · obtain ⟨D', rfl, _, hh⟩ := h.2 d hm
    have := (Array.getElem?_eq_some_iff.1 hh).1
    injection he with he
    omega
  · rcases List.mem_cons.1 hm with rfl | hm
    · exact ⟨D, rfl, hB, hd⟩
    · obtain ⟨D', rfl, hb, hh⟩ := h.2 d hm
      exact ⟨D', rfl, hb, (hs D' (Array.getElem?_eq_some_iff.1 hh).1 ⟨_, hh, rfl⟩).trans hh⟩
theorem Marks.keep {B : Nat} {w w' : World} {ds : List Deferred} (h : Marks B w ds) (hs : ∀ i, i < w.heap.size → (∃ o : Obj, w.heap[i]? = some o ∧ o.isCells = false) → w'.heap[i]? = w.heap[i]?) : Marks B w' ds :=
  ⟨h.1, fun d hm => by
    obtain ⟨D', rfl, hb, hh⟩ := h.2 d hm
    exact ⟨D', rfl, hb, (hs D' (Array.getElem?_eq_some_iff.1 hh).1 ⟨_, hh, rfl⟩).trans hh⟩⟩
/-- at the return all marks are taken -/
theorem leave_marks {F : Fence} {n : Nat} {P : Program} {fn : Func} {tmps : Array Value} {R : Ending → World → Prop} {B : Nat} {v : Value} (hv : ∀ w, (results fn tmps).run P w = .ok v w) (I : World → Prop) (hI : Calm B I) (hR : ∀ w, I w → R (.returned v) w) :
    ∀ (ds : List Deferred) (w : World), Marks B w ds → I w → LeavesInM F n P fn tmps R ds .returning w
  | [], w, _, h => ⟨v, hv w, hR w h⟩
  | d :: ds, w, hm, h => by
    obtain ⟨D, rfl, hB, hD⟩ := hm.2 d List.mem_cons_self
    refine ⟨(by intro h; cases h), .inl ⟨D, _, rfl, run_takeDeferred hD, leave_marks hv I hI hR ds _ ⟨(List.pairwise_cons.1 hm.1).2, fun d' hd' => ?_⟩ (hI.put _ h hB hD rfl)⟩⟩
    obtain ⟨D', rfl, hb, hh⟩ := hm.2 d' (List.mem_cons_of_mem _ hd')
    have hne : D' ≠ D := fun he => (List.pairwise_cons.1 hm.1).1 _ hd' (by rw [he])
    exact ⟨D', rfl, hb, (World.putObj_heap_other hne).trans hh⟩

/-! ### a region that draws, in a round -/
def noDefer (ops : Array Oper) : Bool := ops.all fun o => match o.op with | .defer _ => false | _ => true
theorem noDefer_at {ops : Array Oper} (h : noDefer ops = true) {i : Nat} {o : Oper} (hi : ops[i]? = some o) (c : Call) : o.op ≠ .defer c := by
  intro he
  have hm := Array.mem_of_getElem? hi
  have := (Array.all_eq_true_iff_forall_mem.1 h) o hm
  rw [he] at this
  cases this
theorem opIn {P : Program} {l n : Nat} {o : Oper} {a : Act} {w : World} {K K' : Act → World → Prop} {Q : Exit → Act → World → Prop} (hd : ∀ c, o.op ≠ .defer c) (hK : ∀ a w, K a w → K' a w) (h : o.wp P a w K Q) : o.wpIn (Fence.wide.inRound l) n P a w K' Q := by
  refine ⟨fun _ _ => trivial, ?_⟩
  rw [Oper.semAt_eq _ _ _ hd]
  unfold Oper.wp at h
  generalize (execOp a.eval o).run P w = r at *
  have hw : ∀ {f : FuncId} {args : Array Value} {w : World} {R : Ending → World → Prop}, Calls P f args w R → CallsIn (Fence.wide.inRound l) (n - 1) P f args w R := fun h => CallsIn.inRound l (callsIn_wide.2 h)
  cases r with
  | ok x w' =>
    cases x with
    | value v => exact hK _ _ h
    | skip => exact hK _ _ h
    | defer d => exact hK _ _ h
    | enter f args =>
      refine ⟨fun h => (by cases h), (hw h).mono fun e w'' he => ?_⟩
      cases e with
      | returned v => exact hK _ _ he
      | panicked chain => exact he
      | outgrown => exact he
    | row r args =>
      refine ⟨fun h => (by cases h), fun c cs _ => ?_⟩
      obtain ⟨v, w2, r2, s2⟩ := h c cs
      exact ⟨v, w2, hK _ _ r2, stepsIn_wide.2 s2⟩
    | _ => exact h.elim
  | halt x w' =>
    cases x with
    | panic v => exact h
    | _ => exact h.elim
theorem anyIn {P : Program} {l n : Nat} {ops : Array Oper} {Q : Exit → Act → World → Prop} (hnd : noDefer ops = true) (hl : ¬ LetsOut Q) : ∀ (fuel : Nat) (listed : Array Bool) (a : Act) (w : World), wpAny P .any ops Q fuel listed a w → wpAnyIn (Fence.wide.inRound l) n P .any ops Q fuel listed a w
  | 0, _, _, _, h => h
  | fuel + 1, listed, a, w, h => by
    refine ⟨h.1, fun i hi => ?_⟩
    have h2 := h.2 i hi
    unfold wpOp at h2
    unfold wpOpIn
    split at h2
    · rename_i ho
      simp only [ho]
      exact anyIn hnd hl fuel _ _ _ h2
    · rename_i o ho
      simp only [ho]
      split at h2
      · rename_i hw
        rw [if_pos hw]
        exact opIn (noDefer_at hnd ho) (fun a w h => anyIn hnd hl fuel _ a w h) (h2.resolve_right fun h => hl h.2)
      · rename_i hw
        rw [if_neg hw]
        exact ⟨fun _ _ => trivial, anyIn hnd hl fuel _ _ _ h2⟩
theorem regionIn {P : Program} {l n : Nat} {ops : Array Oper} {Q : Exit → Act → World → Prop} (S : World → Prop) {id : Nat} {a : Act} {w : World} (hm : P.follows .mixedOrders = true) (hnd : noDefer ops = true) (hl : ¬ LetsOut Q) (hS : S w.drew)
    (h : S w.drew → wpAnyH P .any ops Q S ops.size (Array.replicate ops.size false) a w.drew) : (Code.region id ops true).wpIn (Fence.wide.inRound l) n P Q a w :=
  wpIn_region_any hm (anyIn hnd hl _ _ _ _ (wpAny_of_held _ _ _ _ (h hS)))

/-- operation i is taken first -/
theorem takeOp {P : Program} {l : List Oper} {Q : Exit → Act → World → Prop} {S : World → Prop} {i : Nat} {oi : Oper} (hi : l[i]? = some oi) {v : Value} {fuel : Nat} {listed : Array Bool} {a : Act} {w : World}
    (hs : Region.noSelect l.toArray = true) (hf : Region.free .any l.toArray listed i = true) (hr : (Region.ready .any l.toArray listed).contains i = true)
    (hQ : ∀ c a w, Q (.panic c) (a.put oi.dst v) w → Q (.panic c) a w) (hw : Region.wanted oi (yielded l.toArray a.tmps) = true) (hy : ∀ w, S w → (execOp a.eval oi).run P w = .ok (.value v) w) (hS : S w)
    (h : wpAnyH P .any l.toArray Q S fuel (listed.setIfInBounds i true) (a.put oi.dst v) w) : wpAnyH P .any l.toArray Q S (fuel + 1) listed a w :=
  wpAnyH_take (by simpa using hi) hs hf hr hQ (Or.inl ⟨hw, hy⟩) hS h
/-- the one operation that may come up -/
theorem onlyOp {P : Program} {l : List Oper} {Q : Exit → Act → World → Prop} {S : World → Prop} {i : Nat} {o : Oper} (hi : l[i]? = some o) {fuel : Nat} {listed : Array Bool} {a : Act} {w : World} (hr : Region.ready .any l.toArray listed = [i])
    (hw : Region.wanted o (yielded l.toArray a.tmps) = true) (h : ∀ K : Act → World → Prop, Shut (∀ a w, S w → (S w → wpAnyH P .any l.toArray Q S fuel (listed.setIfInBounds i true) a w) → K a w) → Oper.wp P o a w K Q) : wpAnyH P .any l.toArray Q S (fuel + 1) listed a w :=
  wpAnyH_ready hr (by simp) (AllReadyH.cons (by simpa using hi) (fun K hK => by rw [if_pos hw]; exact h K hK) AllReadyH.nil)
/-- one of two -/
theorem twoOps {P : Program} {l : List Oper} {Q : Exit → Act → World → Prop} {S : World → Prop} {i j : Nat} {o o' : Oper} (hi : l[i]? = some o) (hj : l[j]? = some o') {fuel : Nat} {listed : Array Bool} {a : Act} {w : World} (hr : Region.ready .any l.toArray listed = [i, j])
    (hw : Region.wanted o (yielded l.toArray a.tmps) = true) (hw' : Region.wanted o' (yielded l.toArray a.tmps) = true) (h : ∀ K : Act → World → Prop, Shut (∀ a w, S w → (S w → wpAnyH P .any l.toArray Q S fuel (listed.setIfInBounds i true) a w) → K a w) → Oper.wp P o a w K Q)
    (h' : ∀ K : Act → World → Prop, Shut (∀ a w, S w → (S w → wpAnyH P .any l.toArray Q S fuel (listed.setIfInBounds j true) a w) → K a w) → Oper.wp P o' a w K Q) : wpAnyH P .any l.toArray Q S (fuel + 1) listed a w :=
  wpAnyH_ready hr (by simp) (AllReadyH.cons (by simpa using hi) (fun K hK => by rw [if_pos hw]; exact h K hK) (AllReadyH.cons (by simpa using hj) (fun K hK => by rw [if_pos hw']; exact h' K hK) AllReadyH.nil))
/-- all have come up -/
theorem doneOp {P : Program} {l : List Oper} {Q : Exit → Act → World → Prop} {S : World → Prop} {fuel : Nat} {listed : Array Bool} {a : Act} {w : World} (hr : Region.ready .any l.toArray listed = []) (h : Q .normal a w) : wpAnyH P .any l.toArray Q S fuel listed a w := wpAnyH_done hr h _

/-! ### the builder's blocks are cells -/
theorem cell_block {w : World} {b j : Nat} {v : Value} (h : w.cell? ⟨b, j, none⟩ = some v) : ∃ cs t fr, w.heap[b]? = some (.cells cs t fr) := by
  unfold World.cell? at h
  cases ho : w.heap[b]? with
  | none => simp [ho] at h
  | some o => cases o <;> simp_all
theorem rowv_cells {w : World} {B n size : Nat} {e : TypeId} {v : Value} {cs : List Value} (h : w.ownsRow B e size v n cs) {g : Nat} (hg : v.ownBlock = some g) : ∃ cs t fr, w.heap[g]? = some (.cells cs t fr) := by
  rcases h.2 with ⟨rfl, _⟩ | ⟨g', cap, cur, rfl, _, hgg, _⟩
  · cases hg
  · injection hg with hg
    rw [← show g' = g from hg]
    exact ⟨_, _, _, hgg⟩
theorem row_kids {w : World} {B n size : Nat} {e : TypeId} {q off m c j : Nat} {u : Value} {cs : List Value} (h : w.ownsRow B e size (.slice (some ⟨q, off, none⟩) m c) n cs) (hj : j < cs.length) (hu : w.cell? ⟨q, off + j, none⟩ = some u) : cs[j]? = some u := by
  rcases h.2 with ⟨h0, _⟩ | ⟨g', cap, cur, hv, _, hgg, _⟩
  · cases h0
  · injection hv with h1 h2 h3
    injection h1 with h1
    injection h1 with h1 h4
    subst h1; subst h4
    have hc := h.cells (g := q) rfl j cs[j] (by simp [hj])
    rw [Addr.add_lit, hu] at hc
    rw [List.getElem?_eq_getElem hj, hc]
theorem BRep.cellsAll {w : World} {p : Nat} {st : BSt} (h : BRep w p st) (hb : HasBits st) {i : Nat} (hf : foot w (some p) i) : ∃ o : Obj, w.heap[i]? = some o ∧ o.isCells = true := by
  suffices hs : ∃ cs t fr, w.heap[i]? = some (.cells cs t fr) by
    obtain ⟨cs, t, fr, hs⟩ := hs
    exact ⟨_, hs, rfl⟩
  obtain ⟨vn, vi, vo, h1, ⟨cn, n1, n2, n3⟩, ⟨ci, i1, i2⟩, ⟨co, o1, o2⟩, -, -⟩ := h
  have hcell : ∀ {j v}, w.cell? ⟨p, j, none⟩ = some v → v = vn ∨ v = vi ∨ v = vo := by
    intro j v hv
    rw [cell_of_row w p j _ _ _ h1] at hv
    match j, hv with
    | 0, hv => simp at hv; exact .inl hv.symm
    | 1, hv => simp at hv; exact .inr (.inl hv.symm)
    | 2, hv => simp at hv; exact .inr (.inr hv.symm)
    | j + 3, hv => simp at hv
  have ports : ∀ {v : Value} {ps : List Port} {css : List (List Value)} {S : Nat → Prop} {q off m c j : Nat} {u : Value}, v = .slice (some ⟨q, off, none⟩) m c → w.ownsRow 0 119 2 v ps.length css.flatten → Pairs kPort w S ps css → (∀ x ∈ ps, x.bits ≠ []) → j < m * 2 → w.cell? ⟨q, off + j, none⟩ = some u → u.ownBlock = some i → ∃ cs t fr, w.heap[i]? = some (.cells cs t fr) := by
    intro v ps css S q off m c j u hv ho hP hbits hj hu hui
    subst hv
    have hm : m = ps.length := by
      rcases ho.2 with ⟨h0, _⟩ | ⟨g', cap, cur, h0, _⟩
      · cases h0
      · injection h0 with _ h0 _
    have hlen := hP.flat
    have hlen2 : css.flatten.length = m * 2 := by rw [hlen, hm]; rfl
    have hat := row_kids ho (by omega) hu
    have hi : j / 2 < ps.length := by omega
    have hci : j / 2 < css.length := by have := hP.1; omega
    obtain ⟨z, hz, hr⟩ := hP.2 (j / 2) ps[j / 2] css[j / 2] (by simp [hi]) (by simp [hci])
    have hfl := fun k y => flat_at css 2 (fun cs hcs => by have := Pairs.lens (k := kPort) hP cs hcs; exact this) (j / 2) css[j / 2] (by simp [hci]) k y
    rcases Nat.mod_two_eq_zero_or_one j with hmod | hmod
    · have h2 := hfl 0 (.string ps[j / 2].name) (by rw [hz]; rfl)
      rw [show j / 2 * 2 + 0 = j by omega, hat] at h2
      injection h2 with h2
      rw [h2] at hui
      cases hui
    · have h2 := hfl 1 z (by rw [hz]; rfl)
      rw [show j / 2 * 2 + 1 = j by omega, hat] at h2
      injection h2 with h2
      subst h2
      obtain ⟨A, cc, dss, rfl, -, -, -, a3, a4⟩ := hr
      obtain ⟨b, off', rfl, -, -, hcs⟩ := a4 (List.length_pos_iff.2 (hbits _ (List.getElem_mem hi)))
      have hib : b = i := by injection hui
      subst hib
      have hne : 0 < dss.flatten.length := by
        have h5 := a3.flat
        rw [h5]
        exact Nat.mul_pos (List.length_pos_iff.2 (hbits _ (List.getElem_mem hi))) (by decide)
      exact cell_block (hcs 0 dss.flatten[0] (by simp [hne]))
  obtain ⟨b, hpb, hf⟩ := hf
  injection hpb with hpb
  subst hpb
  rcases hf with rfl | ⟨j, v, hv, ho⟩ | ⟨j, q, off, m, c, j', u, hv, hj', hu, hui⟩
  · exact ⟨_, _, _, h1⟩
  · rcases hcell hv with rfl | rfl | rfl
    · exact rowv_cells n1 ho
    · exact rowv_cells i1 ho
    · exact rowv_cells o1 ho
  · rcases hcell hv with rfl | rfl | rfl
    · have hm : m = st.nodes.length := by
        rcases n1.2 with ⟨h0, _⟩ | ⟨g', cap, cur, h0, _⟩
        · cases h0
        · injection h0 with _ h0 _
      have hlen := n2.flat
      have hlen2 : cn.flatten.length = m * 4 := by rw [hlen, hm]; rfl
      have hat := row_kids n1 (by omega) hu
      have := nodes_plain n2 u (List.mem_of_getElem? hat)
      rw [this] at hui
      cases hui
    · exact ports rfl i1 i2 (fun x hx => hb x (.inl hx)) hj' hu hui
    · exact ports rfl o1 o2 (fun x hx => hb x (.inr hx)) hj' hu hui

/-! ### a turn of a block that is no cells; boxes -/
section
variable {C : World → Prop} {p X : Nat} {st0 st st' : BSt} {w w' : World} {N n : Nat} {L : List Ent} {K F : (Int → Bool) → Prop}
theorem Env.turned (E : Env C p X st0 w st N L K) {row : Option Nat} (hg : w.grownBy w' row) (hr : ∀ r, row = some r → X ≤ r ∧ ∃ o : Obj, w.heap[r]? = some o ∧ o.isCells = false) : Env C p X st0 w' st N L K ∧ Kept X (some p) w w' := by
  have hn : ∀ g, row = some g → ¬ foot w (some p) g := fun g hgr hf => by
    obtain ⟨_, o, ho, hc⟩ := hr g hgr
    obtain ⟨o', ho', hc'⟩ := E.rep.cellsAll (E.bits.ext E.ext) hf
    rw [ho] at ho'
    injection ho' with ho'
    rw [ho', hc'] at hc
    cases hc
  have hk := (Kept.of_grown (p := some p) hg E.rep.fin E.size fun g hgr => ⟨(hr g hgr).1, hn g hgr⟩).1
  exact ⟨E.kept hk (E.rep.grown hg hn), hk⟩
/-- what the builder's functions leave alone -/
theorem Env.others (E : Env C p X st0 w st N L K) (hk : Kept w.heap.size (some p) w w') : KeepsOthers w w' :=
  ⟨hk.size, fun k o ho hc => (hk.block k (Array.getElem?_eq_some_iff.1 ho).1 fun hf => by
    obtain ⟨o', ho', hc'⟩ := E.rep.cellsAll (E.bits.ext E.ext) hf
    rw [ho] at ho'
    injection ho' with ho'
    rw [ho', hc'] at hc
    cases hc).trans ho⟩
/-- a block that is there, and none of the builder's -/
def Held (w : World) (p b : Nat) (o : Obj) : Prop := w.heap[b]? = some o ∧ ¬ foot w (some p) b
theorem Held.lt {b : Nat} {o : Obj} (h : Held w p b o) : b < w.heap.size := (Array.getElem?_eq_some_iff.1 h.1).1
theorem Held.kept {b B : Nat} {o : Obj} (h : Held w p b o) (hk : Kept B (some p) w w') (hB : b < B) : Held w' p b o :=
  ⟨(hk.block b hB h.2).trans h.1, fun hf => h.2 (hk.ft b hB hf)⟩
theorem Held.then {b : Nat} {o : Obj} (h : Held w p b o) (hk : Kept w.heap.size (some p) w w') : Held w' p b o := h.kept hk h.lt
/-- a box: one cell, and none of the builder's -/
def Box (w : World) (p b : Nat) (v : Value) : Prop := w.cell? ⟨b, 0, none⟩ = some v ∧ w.frozen? ⟨b, 0, none⟩ = false ∧ ¬ foot w (some p) b
theorem Box.lt {b : Nat} {v : Value} (h : Box w p b v) : b < w.heap.size := World.block_lt_of_cell? w ⟨b, 0, none⟩ h.1
theorem Box.kept {b B : Nat} {v : Value} (h : Box w p b v) (hk : Kept B (some p) w w') (hB : b < B) : Box w' p b v :=
  ⟨(World.cell?_of_block (hk.block b hB h.2.2)).trans h.1, (World.frozen?_of_block (hk.block b hB h.2.2)).trans h.2.1, fun hf => h.2.2 (hk.ft b hB hf)⟩
theorem Box.then {b : Nat} {v : Value} (h : Box w p b v) (hk : Kept w.heap.size (some p) w w') : Box w' p b v := h.kept hk h.lt
theorem Env.box (E : Env C p X st0 w st N L K) (v : Value) (t : TypeId) : Box (w.alloc (.cells #[v] t)) p w.heap.size v := by
  have hbel : Below w.heap.size w (w.alloc (.cells #[v] t)) := (Below.refl _ _).alloc (Nat.le_refl _) _
  refine ⟨by simp, by simp, fun hf => ?_⟩
  have := E.rep.fin _ ((foot_of_heap (fun i hi => hbel.block i (E.rep.fin i hi)) _).1 hf)
  omega
theorem Box.turned {b : Nat} {v : Value} (h : Box w p b v) (E : Env C p X st0 w st N L K) {row : Option Nat} (hg : w.grownBy w' row) (hr : ∀ r, row = some r → X ≤ r ∧ ∃ o : Obj, w.heap[r]? = some o ∧ o.isCells = false) : Box w' p b v := by
  have hb : w'.heap[b]? = w.heap[b]? := hg.block b h.lt fun e => by
    obtain ⟨_, o, ho, hc⟩ := hr b e.symm
    obtain ⟨cs, t, fr, hh⟩ := cell_block h.1
    rw [hh] at ho
    injection ho with ho
    rw [← ho] at hc
    cases hc
  have hn : ∀ g, row = some g → ¬ foot w (some p) g := fun g hgr hf => by
    obtain ⟨_, o, ho, hc⟩ := hr g hgr
    obtain ⟨o', ho', hc'⟩ := E.rep.cellsAll (E.bits.ext E.ext) hf
    rw [ho] at ho'
    injection ho' with ho'
    rw [ho', hc'] at hc
    cases hc
  exact ⟨(World.cell?_of_block hb).trans h.1, (World.frozen?_of_block hb).trans h.2.1, fun hf => h.2.2 ((foot_of_heap (fun i hi => hg.block i (E.rep.fin i hi) fun e => hn i e.symm hi) b).1 hf)⟩
/-- a box is written -/
theorem Box.store {b : Nat} {v : Value} (h : Box w p b v) (E : Env C p X st0 w st N L K) (hX : X ≤ b) (v' : Value) :
    Box (w.setCell ⟨b, 0, none⟩ v') p b v' ∧ Env C p X st0 (w.setCell ⟨b, 0, none⟩ v') st N L K ∧ Kept b (some p) w (w.setCell ⟨b, 0, none⟩ v') ∧ (∀ {b' : Nat} {u : Value}, Box w p b' u → b' ≠ b → Box (w.setCell ⟨b, 0, none⟩ v') p b' u) ∧
      ∀ {B : Nat} {u : Value} {ys : List Int}, Fine w p st B u ys → b < B → Fine (w.setCell ⟨b, 0, none⟩ v') p st B u ys := by
  have hg : w.grownBy (w.setCell ⟨b, 0, none⟩ v') (some b) := grownBy_setCell' w b v'
  have hne : ∀ i, i ≠ b → (w.setCell ⟨b, 0, none⟩ v').heap[i]? = w.heap[i]? := fun i hi => Below.heap_setCell w ⟨b, 0, none⟩ v' i hi
  have hft : ∀ i, foot w (some p) i → (w.setCell ⟨b, 0, none⟩ v').heap[i]? = w.heap[i]? := fun i hi => hne i fun e => h.2.2 (e ▸ hi)
  have hfo := foot_of_heap hft
  have hk : Kept b (some p) w (w.setCell ⟨b, 0, none⟩ v') := (Kept.of_grown (p := some p) hg E.rep.fin (Nat.le_of_lt h.lt) fun g e => by cases e; exact ⟨Nat.le_refl _, h.2.2⟩).1
  refine ⟨⟨World.cell?_setCell_same' _ _ _ (by rw [h.1]; rfl), by rw [World.frozen?_setCell]; exact h.2.1, fun hf => h.2.2 ((hfo b).1 hf)⟩, E.kept (hk.mono hX) (E.rep.keep hft (Below.refl 0 w |>.setCell (Nat.zero_le _) _).size), hk,
    fun hb' hne' => ⟨(World.cell?_of_block (hne _ hne')).trans hb'.1, (World.frozen?_of_block (hne _ hne')).trans hb'.2.1, fun hf => hb'.2.2 ((hfo _).1 hf)⟩, fun hf hB => ⟨hf.own.other hg hfo (.inr fun e => ?_) (fun _ _ h => h), hf.okay, hf.len⟩⟩
  have := (hf.own.base e).1
  omega
/-- what goes on at hand, where a block of no cells has been turned -/
theorem Fine.turned {B : Nat} {v : Value} {xs : List Int} (h : Fine w p st B v xs) (E : Env C p X st0 w st N L K) {row : Option Nat} (hg : w.grownBy w' row) (hr : ∀ r, row = some r → X ≤ r ∧ ∃ o : Obj, w.heap[r]? = some o ∧ o.isCells = false) : Fine w' p st B v xs := by
  have hn : ∀ g, row = some g → ¬ foot w (some p) g := fun g hgr hf => by
    obtain ⟨_, o, ho, hc⟩ := hr g hgr
    obtain ⟨o', ho', hc'⟩ := E.rep.cellsAll (E.bits.ext E.ext) hf
    rw [ho] at ho'
    injection ho' with ho'
    rw [ho', hc'] at hc
    cases hc
  refine ⟨h.own.other hg (foot_of_heap fun i hi => hg.block i (E.rep.fin i hi) fun e => hn i e.symm hi) ?_ (fun _ _ h => h), h.okay, h.len⟩
  cases hv : v.ownBlock with
  | none => exact .inl rfl
  | some g =>
    refine .inr fun e => ?_
    obtain ⟨_, o, ho, hc⟩ := hr g e.symm
    obtain ⟨css, h1, -⟩ := h.own
    obtain ⟨cs, t, fr, hh⟩ := rowv_cells h1 hv
    rw [hh] at ho
    injection ho with ho
    rw [← ho] at hc
    cases hc
end
end Go.Proofs.Ytdljgifoboiaeaa
