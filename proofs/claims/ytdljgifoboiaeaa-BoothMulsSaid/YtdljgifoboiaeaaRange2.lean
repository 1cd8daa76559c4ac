/- A range over an iterator that does work of its own: the law. -/
import Derived.Test.YtdljgifoboiaeaaBag
namespace Go.Proofs.Ytdljgifoboiaeaa
open Go.RowKit

/-- what is no cells stays -/
def Rest (T : World → Prop) : Prop := ∀ V V', T V → KeepsOthers V V' → T V'

/-- an iterator that is never left: what lies between two rounds is I, what is handed over with x is Y, and xs has come when it ends -/
def IterOwn {α : Type} (P : Program) (n g : Nat) (lb : Array Value) (encs : α → Array Value) (I : List α → World → Prop) (Y : List α → α → World → Prop) (S : List α → Prop) : Prop :=
  ∀ (l : Nat) (T : World → Prop) (W : World), Rest T → (∀ pre x V, Y pre x V → T V → YieldAt Fence.wide (n - 1) P l (encs x) V fun e V' => e = .returned (.bool true) ∧ I (pre ++ [x]) V' ∧ T V') →
    I [] W → T W → CallsIn Fence.wide n P g (#[.func (.yield l) #[] #[]] ++ lb) W fun e V' => (∃ v, e = .returned v) ∧ ∃ xs, S xs ∧ I xs V' ∧ T V'

theorem range_own {α : Type} {P : Program} {n : Nat} {g : Operand} {ps : Array Tmp} {assign body : Code} {Q : Exit → Act → World → Prop} {a : Act} {w : World} {gf : Nat} {lb : Array Value} (hg : a.eval g = .func (.func gf) #[] lb) (eg : ∀ args w, (callFunc gf args).run P w = .ok (.enter gf args) w)
    {encs : α → Array Value} {S : List α → Prop} (hps : ∀ x, (encs x).size = ps.size)
    (B : Nat) (hB : B ≤ w.heap.size) (I : List α → World → Prop) (Y : List α → α → World → Prop) (hit : IterOwn P (n - 1) gf lb encs I Y S) (hI : ∀ pre, Calm B (I pre)) (hY : ∀ pre x, Calm B (Y pre x)) (h0 : I [] w) (a₁ : α → Act)
    (hassign : ∀ (l : Nat) (x : α) (W : World) (K : Act → World → Prop), K (a₁ x) W → assign.wpIn (Fence.wide.inRound l) (n - 1 - 1) P (Exit.then K fun _ _ _ => False) { tmps := (ps.zip (encs x)).foldl (fun t (p, v) => t.setIfInBounds p v) a.tmps, defers := [] } W)
    (hbody : ∀ (l : Nat) (pre : List α) (x : α) (W : World), Y pre x W → body.wpIn (Fence.wide.inRound l) (n - 1 - 1) P (fun e _ W' => e = .normal ∧ KeepsOthers W W' ∧ I (pre ++ [x]) W') (a₁ x) W)
    (hdone : ∀ (D : Nat) (xs : List α) (W : World), w.heap.size ≤ D → S xs → I xs W → W.heap[D]? = some (.deferred (some [])) → Q .normal { a with defers := { target := .collected D, args := #[] } :: a.defers } W) :
    (Code.rangeFunc g ps assign body).wpIn Fence.wide n P Q a w := by
  refine wpIn_rangeFunc fun fn _ => ?_
  let R : LoopState → Loop := fun st => { state := st, pending := none, fn, tmps := a.tmps, params := ps, assign, body, defers := w.heap.size }
  let M : World → Prop := fun V => V.heap[w.heap.size]? = some (.deferred (some []))
  let W1 := (w.alloc (.deferred (some []))).alloc (.loop (R .ready))
  have l1 : W1.heap[w.heap.size + 1]? = some (.loop (R .ready)) := by
    have h := World.alloc_heap_new (w.alloc (.deferred (some []))) (.loop (R .ready))
    rw [World.size_alloc] at h
    exact h
  have m1 : M W1 := (Below.heap_alloc _ _ _ (by simp)).trans (World.alloc_heap_new w _)
  have j1 : I [] W1 := (hI []).alloc _ ((hI []).alloc _ h0)
  refine ⟨w.heap.size + 1, [{ target := .collected w.heap.size, args := #[] }], W1, ⟨.fn (.func gf) lb, #[.func (.yield (w.heap.size + 1)) #[] #[]]⟩, W1, gf, #[.func (.yield (w.heap.size + 1)) #[] #[]] ++ lb, W1, run_enterLoop_outer _ _ _ _ _, ?_, fun _ _ => trivial, ?_, fun h => (by cases h), ?_⟩
  · simp only [resolve, hg]; simp [go_sem]
  · simp [invoke, go_sem, eg]
  have turn : ∀ (F : World → Prop) (V : World) (st st' : LoopState), Calm B F → F V → V.heap[w.heap.size + 1]? = some (.loop (R st)) → M V →
      F (V.putObj (w.heap.size + 1) (.loop (R st'))) ∧ (V.putObj (w.heap.size + 1) (.loop (R st'))).heap[w.heap.size + 1]? = some (.loop (R st')) ∧ M (V.putObj (w.heap.size + 1) (.loop (R st'))) := fun F V st st' hF hi hl hm =>
    ⟨hF.put _ hi (by omega) hl rfl, World.putObj_heap_same (Array.getElem?_eq_some_iff.1 hl).1, (World.putObj_heap_other (by omega)).trans hm⟩
  refine (hit (w.heap.size + 1) (fun V => V.heap[w.heap.size + 1]? = some (.loop (R .ready)) ∧ M V) W1 (fun V V' ⟨h1, h2⟩ hk => ⟨hk.same _ _ h1 rfl, hk.same _ _ h2 rfl⟩) ?_ j1 ⟨l1, m1⟩).mono ?_
  · rintro pre x V hi ⟨hl, hm⟩
    refine ⟨fn, _, assign, body, run_yield hl (hps x), roundIn_of_wpIn trivial (hassign _ x V _ ⟨_, run_beginRound hl rfl, ?_⟩)⟩
    obtain ⟨i2, l2, m2⟩ := turn _ V .ready .busy (hY pre x) hi hl hm
    refine wpIn_mono (hbody _ pre x _ i2) ?_
    rintro e a3 V3 ⟨rfl, hk, i3⟩
    have l3 := hk.same _ _ l2 rfl
    obtain ⟨i4, l4, m4⟩ := turn _ V3 .busy .ready (hI (pre ++ [x])) i3 l3 (hk.same _ _ m2 rfl)
    exact ⟨_, _, run_endRound none l3, rfl, i4, l4, m4⟩
  · rintro e V ⟨⟨v, rfl⟩, xs, hS, hi, hl, hm⟩
    obtain ⟨i2, -, m2⟩ := turn _ V .ready .exhausted (hI xs) hi hl hm
    exact ⟨none, _, run_endLoop hl (by intro h; cases h), hdone _ xs _ (Nat.le_refl _) hS i2 m2⟩

/-! ### an operation that enters nothing, in a fenced walk -/
theorem opWide {P : Program} {n : Nat} {o : Oper} {a : Act} {w : World} {K K' : Act → World → Prop} {Q : Exit → Act → World → Prop} (hd : ∀ c, o.op ≠ .defer c) (hK : ∀ a w, K a w → K' a w) (h : o.wp P a w K Q) : o.wpIn Fence.wide n P a w K' Q := by
  refine ⟨fun _ _ => trivial, ?_⟩
  rw [Oper.semAt_plain _ _ _ hd]
  unfold Oper.wp at h
  generalize (execOp a.eval o).run P w = r at *
  have hw : ∀ {f : FuncId} {args : Array Value} {w : World} {R : Ending → World → Prop}, Calls P f args w R → CallsIn Fence.wide (n - 1) P f args w R := fun h => callsIn_wide.2 h
  cases r with
  | ok x w' =>
    cases x with
    | value v => exact hK _ _ h
    | skip => exact hK _ _ h
    | defer d => exact hK _ _ h
    | enter f args =>
      refine ⟨fun h => (by cases h), (hw h).mono fun e w'' he => ?_⟩
      cases e with
      | returned v => exact hK _ _ he
      | panicked chain => exact he
      | outgrown => exact he
    | row r args =>
      refine ⟨fun h => (by cases h), fun c cs _ => ?_⟩
      obtain ⟨v, w2, r2, s2⟩ := h c cs
      exact ⟨v, w2, hK _ _ r2, stepsIn_wide.2 s2⟩
    | _ => exact h.elim
  | halt x w' =>
    cases x with
    | panic v => exact h
    | _ => exact h.elim
theorem listWide {P : Program} {n : Nat} {ops : Array Oper} {Q : Exit → Act → World → Prop} {rest : List Oper} {o : Oper} {a : Act} {w : World} (hd : ∀ c, o.op ≠ .defer c) (hw : Region.wanted o (yielded ops a.tmps) = true)
    (h : ∀ K : Act → World → Prop, (∀ a w, wpListIn Fence.wide n P ops Q rest a w → K a w) → o.wp P a w K Q) : wpListIn Fence.wide n P ops Q (o :: rest) a w :=
  wpListIn_step fun K hK => by rw [if_pos hw]; exact opWide hd (fun _ _ h => h) (h K hK)
theorem listRound {P : Program} {l n : Nat} {ops : Array Oper} {Q : Exit → Act → World → Prop} {rest : List Oper} {o : Oper} {a : Act} {w : World} (hd : ∀ c, o.op ≠ .defer c) (hw : Region.wanted o (yielded ops a.tmps) = true)
    (h : ∀ K : Act → World → Prop, (∀ a w, wpListIn (Fence.wide.inRound l) n P ops Q rest a w → K a w) → o.wp P a w K Q) : wpListIn (Fence.wide.inRound l) n P ops Q (o :: rest) a w :=
  wpListIn_step fun K hK => by rw [if_pos hw]; exact opIn hd (fun _ _ h => h) (h K hK)
end Go.Proofs.Ytdljgifoboiaeaa
