/- Joined texts: Ports, InOut, Net, Regs. -/
import Derived.Test.YtdljgifoboiaeaaJBase
import Derived.Deep.RegionHeld3

/-! ## A port laid behind the others. -/
namespace Go.Proofs.Ytdljgifoboiaeaa
open Go.RowKit

/-- the ins' slice replaced by a grown one -/
theorem BRep.pushIns {w : World} {p : Nat} {st : BSt} (h : BRep w p st) : ∃ (vi : Value) (css : List (List Value)), w.cell? ⟨p, 1, none⟩ = some vi ∧ vi.ownBlock ≠ some p ∧ w.ownsRow 0 119 2 vi st.ins.length css.flatten ∧
    ∀ {w1 : World} {v1 : Value} {port : Port} {u : Value} {B : Nat}, w1.ownsRow 0 119 2 v1 (st.ins.length + 1) (css.flatten ++ [.string port.name, u]) → w.grownBy w1 vi.ownBlock → (v1.ownBlock = vi.ownBlock ∨ ∃ b, v1.ownBlock = some b ∧ w.heap.size ≤ b) →
      Row kInt w (fun i => foot w (some p) i) u port.bits → (∀ g, u.ownBlock = some g → B ≤ g ∧ g < w.heap.size) → B ≤ w.heap.size →
      BRep (w1.setCell ⟨p, 1, none⟩ v1) p { st with ins := st.ins ++ [port] } ∧ Kept B (some p) w (w1.setCell ⟨p, 1, none⟩ v1) ∧ Same (fun i => foot w (some p) i) w (w1.setCell ⟨p, 1, none⟩ v1) := by
  obtain ⟨vn, vi, vo, h1, h2, h3, h4, h5, h6⟩ := h
  have kn : ∀ g, vn.ownBlock = some g → foot w (some p) g := fun g hg => ⟨p, rfl, .inr (.inl (kids_cell h1 (j := 0) rfl hg))⟩
  have ki : ∀ g, vi.ownBlock = some g → foot w (some p) g := fun g hg => ⟨p, rfl, .inr (.inl (kids_cell h1 (j := 1) rfl hg))⟩
  have ko : ∀ g, vo.ownBlock = some g → foot w (some p) g := fun g hg => ⟨p, rfl, .inr (.inl (kids_cell h1 (j := 2) rfl hg))⟩
  have tn : ∀ g, vn.ownBlock = some g → ∃ cur, w.heap[g]? = some (.cells cur 117 (0, 0)) := by
    intro g hg'
    obtain ⟨css, r1, _⟩ := h2
    rcases r1.2 with ⟨rfl, _⟩ | ⟨g', cap, cur, rfl, _, hgg, _⟩
    · cases hg'
    · injection hg' with hg'; subst hg'; exact ⟨cur, hgg⟩
  have tp : ∀ (v : Value) (n : Nat) (xs : List Value), w.ownsRow 0 119 2 v n xs → ∀ g, v.ownBlock = some g → ∃ cur, w.heap[g]? = some (.cells cur 119 (0, 0)) := by
    intro v n xs r1 g hg'
    rcases r1.2 with ⟨rfl, _⟩ | ⟨g', cap, cur, rfl, _, hgg, _⟩
    · cases hg'
    · injection hg' with hg'; subst hg'; exact ⟨cur, hgg⟩
  have np : ∀ (v : Value) (n : Nat) (xs : List Value), w.ownsRow 0 119 2 v n xs → ∀ g, v.ownBlock = some g → g ≠ p ∧ vn.ownBlock ≠ some g := by
    intro v n xs r1 g hgv
    obtain ⟨cur, hgg⟩ := tp v n xs r1 g hgv
    constructor
    · intro e; rw [e, h1] at hgg; injection hgg with hgg; injection hgg with _ hgg; exact absurd hgg (by decide)
    · intro e
      obtain ⟨cur', hgg'⟩ := tn g e
      rw [hgg'] at hgg; injection hgg with hgg; injection hgg with _ hgg; exact absurd hgg (by decide)
  have nnp : ∀ g, vn.ownBlock = some g → g ≠ p := by
    intro g hgv e
    obtain ⟨cur, hgg⟩ := tn g hgv
    rw [e, h1] at hgg; injection hgg with hgg; injection hgg with _ hgg; exact absurd hgg (by decide)
  have hot : ∀ g, vo.ownBlock = some g → vi.ownBlock = some g → False := by
    have h5' : ∀ g, vi.ownBlock = some g → vo.ownBlock = some g → False := by
      rcases h5 with h | h
      · intro g h1' h2'; rw [h] at h1'; cases h1'
      · intro g h1' h2'; exact h (h1'.trans h2'.symm)
    intro g ha hb; first | exact h5' g ha hb | exact h5' g hb ha
  obtain ⟨css, r1, r2⟩ := h3
  have hmp : vi.ownBlock ≠ some p := fun e => (np _ _ _ r1 p e).1 rfl
  refine ⟨vi, css, by rw [cell_of_row w p 1 _ _ _ h1]; rfl, hmp, r1, ?_⟩
  intro w1 v1 port u B q1 hg hat hu hub hBw
  have hpl : p < w.heap.size := (Array.getElem?_eq_some_iff.1 h1).1
  have hp1 : w1.heap[p]? = some (.cells #[vn, vi, vo] 122 (0, 0)) := by rw [hg.block p hpl (fun e => hmp e.symm)]; exact h1
  have hp2 : (w1.setCell ⟨p, 1, none⟩ v1).heap[p]? = some (.cells #[vn, v1, vo] 122 (0, 0)) := by
    rw [heap_setCell_same w1 p 1 _ _ v1 hp1]; rfl
  have hpo : ∀ i, i ≠ p → (w1.setCell ⟨p, 1, none⟩ v1).heap[i]? = w1.heap[i]? := fun i hi => heap_setCell_other w1 ⟨p, 1, none⟩ i v1 hi
  have hold : ∀ i, i < w.heap.size → i ≠ p → vi.ownBlock ≠ some i → (w1.setCell ⟨p, 1, none⟩ v1).heap[i]? = w.heap[i]? := fun i hi hip hin => by
    rw [hpo i hip]; exact hg.block i hi (fun e => hin e.symm)
  have hnew : ∀ i, i < w.heap.size → v1.ownBlock = some i → vi.ownBlock = some i := by
    intro i hi he
    rcases hat with h | ⟨b, h, hb⟩
    · rw [← h]; exact he
    · rw [h] at he; injection he with he; omega
  have hsz : w.heap.size ≤ (w1.setCell ⟨p, 1, none⟩ v1).heap.size := by rw [World.size_setCell]; exact hg.size
  have ht1 : ∀ g, v1.ownBlock = some g → (∃ cur, w1.heap[g]? = some (.cells cur 119 (0, 0))) ∧ g < w1.heap.size := by
    intro g hg'
    rcases q1.2 with ⟨rfl, _⟩ | ⟨g', cap, cur, rfl, _, hgg, _⟩
    · cases hg'
    · injection hg' with hg'; subst hg'; exact ⟨⟨cur, hgg⟩, (Array.getElem?_eq_some_iff.1 hgg).1⟩
  have h1p : ∀ g, v1.ownBlock = some g → g ≠ p := by
    intro g hgv e
    obtain ⟨⟨cur, hgg⟩, _⟩ := ht1 g hgv
    rw [e, hp1] at hgg; injection hgg with hgg; injection hgg with _ hgg; exact absurd hgg (by decide)
  have hN2 : Own kNode 117 (w1.setCell ⟨p, 1, none⟩ v1) none 0 vn st.nodes := by
    obtain ⟨dss, s1, s2, s3⟩ := h2
    refine ⟨dss, ⟨s1.1, ?_⟩, ⟨s2.1, fun i x cs hx hc => s2.2 i x cs hx hc⟩, fun g hg hf => foot_none _ _ hf⟩
    rcases s1.2 with hn | ⟨g, cap, cur, rfl, hb, hgg, rest⟩
    · exact .inl hn
    · refine .inr ⟨g, cap, cur, rfl, hb, ?_, rest⟩
      rw [hold g (h6 g (kn g rfl)) (nnp g rfl) (fun e => (np _ _ _ r1 g e).2 rfl)]
      exact hgg
  have old : ∃ css, (w1.setCell ⟨p, 1, none⟩ v1).ownsRow 0 119 2 vo st.outs.length css.flatten ∧ Pairs kPort (w1.setCell ⟨p, 1, none⟩ v1) (fun i => i = p ∨ vn.ownBlock = some i ∨ v1.ownBlock = some i ∨ vo.ownBlock = some i) st.outs css := by
    obtain ⟨dss, s1, s2⟩ := h4
    refine ⟨dss, ⟨s1.1, ?_⟩, s2.keep ⟨hsz, fun i hi hn => ?_⟩ fun i hi hm => ?_⟩
    · rcases s1.2 with hn | ⟨g, cap, cur, rfl, hb, hgg, rest⟩
      · exact .inl hn
      · refine .inr ⟨g, cap, cur, rfl, hb, ?_, rest⟩
        rw [hold g (h6 g (ko g rfl)) (np _ _ _ s1 g rfl).1 (fun e => hot g rfl e)]
        exact hgg
    · rw [hpo i (fun e => hn (.inl e))]
      exact hg.block i hi (fun e => hn (.inr (.inr (.inl e.symm))))
    · rcases hm with h | h | h | h
      · exact .inl h
      · exact .inr (.inl h)
      · exact .inr (.inr (.inl (hnew i hi h)))
      · exact .inr (.inr (.inr h))
  have new : ∃ css, (w1.setCell ⟨p, 1, none⟩ v1).ownsRow 0 119 2 v1 (st.ins ++ [port]).length css.flatten ∧ Pairs kPort (w1.setCell ⟨p, 1, none⟩ v1) (fun i => i = p ∨ vn.ownBlock = some i ∨ v1.ownBlock = some i ∨ vo.ownBlock = some i) (st.ins ++ [port]) css := by
    refine ⟨css ++ [[.string port.name, u]], ?_, (r2.keep ⟨hsz, fun i hi hn => ?_⟩ fun i hi hm => ?_).snoc ⟨u, rfl, hu.keep ⟨hsz, fun i hi hn => ?_⟩ fun i hi hm => ?_⟩⟩
    · rw [List.length_append, List.flatten_append]
      simp only [List.length_cons, List.length_nil, Nat.zero_add, List.flatten_cons, List.flatten_nil, List.append_nil]
      refine ⟨q1.1, ?_⟩
      rcases q1.2 with hn | ⟨g, cap, cur, rfl, hb, hgg, rest⟩
      · exact .inl hn
      · exact .inr ⟨g, cap, cur, rfl, hb, by rw [hpo g (h1p g rfl)]; exact hgg, rest⟩
    · rw [hpo i (fun e => hn (.inl e))]
      exact hg.block i hi (fun e => hn (.inr (.inr (.inl e.symm))))
    · rcases hm with h | h | h | h
      · exact .inl h
      · exact .inr (.inl h)
      · exact .inr (.inr (.inl (hnew i hi h)))
      · exact .inr (.inr (.inr h))
    · rw [hpo i (fun e => hn ⟨p, rfl, .inl e⟩)]
      exact hg.block i hi (fun e => hn (ki i e.symm))
    · rcases hm with h | h | h | h
      · subst h; exact ⟨_, rfl, .inl rfl⟩
      · exact kn i h
      · exact ki i (hnew i hi h)
      · exact ko i h
  have hdis : v1.ownBlock = none ∨ v1.ownBlock ≠ vo.ownBlock := by
    rcases hat with h | ⟨b, h, hb⟩
    · rw [h]; exact h5
    · refine .inr fun e => ?_
      have := h6 b (ko b (by rw [← e]; exact h))
      omega
  have hfoot : ∀ i, foot (w1.setCell ⟨p, 1, none⟩ v1) (some p) i → foot w (some p) i ∨ v1.ownBlock = some i ∨ u.ownBlock = some i := by
    rintro i ⟨b, hb, hi⟩
    injection hb with hb; subst hb
    rcases hi with rfl | ⟨j, x, hc, hx⟩ | ⟨j, q, off, n, c, j', x, hc, hj, hc', hx⟩
    · exact .inl ⟨_, rfl, .inl rfl⟩
    · rw [cell_of_row _ p j _ _ _ hp2] at hc
      match j, hc with
      | 0, hc => simp at hc; subst hc; exact .inl (kn i hx)
      | 1, hc => simp at hc; subst hc; exact .inr (.inl hx)
      | 2, hc => simp at hc; subst hc; exact .inl (ko i hx)
    · rw [cell_of_row _ p j _ _ _ hp2] at hc
      match j, hc with
      | 0, hc =>
        simp at hc; subst hc
        refine .inl ⟨p, rfl, .inr (.inr ⟨0, q, off, _, c, j', x, by rw [cell_of_row w p 0 _ _ _ h1]; rfl, hj, ?_, hx⟩)⟩
        rw [← hc']; exact (World.cell?_of_block (hold q (h6 q (kn q rfl)) (nnp q rfl) (fun e => (np _ _ _ r1 q e).2 rfl))).symm
      | 2, hc =>
        simp at hc; subst hc
        obtain ⟨dss, s1, _⟩ := h4
        refine .inl ⟨p, rfl, .inr (.inr ⟨2, q, off, _, c, j', x, by rw [cell_of_row w p 2 _ _ _ h1]; rfl, hj, ?_, hx⟩)⟩
        rw [← hc']; exact (World.cell?_of_block (hold q (h6 q (ko q rfl)) (np _ _ _ s1 q rfl).1 (fun e => hot q rfl e))).symm
      | 1, hc =>
        simp at hc; subst hc
        have hqp := h1p q rfl
        have hc2 := (World.cell?_of_block (a := ⟨q, off + j', none⟩) (hpo q hqp)).symm.trans hc'
        rcases q1.2 with ⟨hv, _⟩ | ⟨g', cap, cur, hv, _, hgg, _⟩
        · cases hv
        · injection hv with hv hn; injection hv with hv; injection hv with e1 e2
          subst e1; subst e2; subst hn
          have hlen := q1.1
          have hj4 : j' < (css.flatten ++ [.string port.name, u]).length := by rw [hlen]; exact hj
          obtain ⟨y, hy⟩ : ∃ y, (css.flatten ++ [.string port.name, u])[j']? = some y := ⟨_, List.getElem?_eq_getElem hj4⟩
          have hx2 := q1.cells (g := q) rfl j' y hy
          rw [Addr.add_lit, hc2] at hx2
          injection hx2 with hx2
          subst hx2
          have hl0 := r1.1
          by_cases hjo : j' < css.flatten.length
          · rw [List.getElem?_append_left hjo] at hy
            rcases r1.2 with ⟨rfl, h0⟩ | ⟨g0, cap0, cur0, rfl, _, hgg0, _⟩
            · omega
            · have hx3 := r1.cells (g := g0) rfl j' x hy
              rw [Addr.add_lit] at hx3
              exact .inl ⟨p, rfl, .inr (.inr ⟨1, g0, 0, _, cap0, j', x, by rw [cell_of_row w p 1 _ _ _ h1]; rfl, by omega, hx3, hx⟩)⟩
          · rw [List.getElem?_append_right (by omega)] at hy
            have hcase : j' - css.flatten.length = 0 ∨ j' - css.flatten.length = 1 := by
              rw [List.length_append] at hj4
              simp only [List.length_cons, List.length_nil] at hj4
              omega
            rcases hcase with h | h
            · rw [h] at hy; simp at hy; subst hy; simp [Value.ownBlock] at hx
            · rw [h] at hy; simp at hy; subst hy; exact .inr (.inr hx)
  have hfin : FootIn (w1.setCell ⟨p, 1, none⟩ v1) (some p) := by
    intro i hi
    rcases hfoot i hi with h | h | h
    · exact Nat.lt_of_lt_of_le (h6 i h) hsz
    · rw [World.size_setCell]; exact (ht1 i h).2
    · exact Nat.lt_of_lt_of_le (hub i h).2 hsz
  refine ⟨⟨vn, v1, vo, hp2, hN2, new, old, hdis, hfin⟩, ⟨hg.os, hg.tape, hg.output, hsz, fun i hi hn => ?_, fun i hi hf => ?_⟩, hsz, fun i hi hn => hold i hi (fun e => hn ⟨p, rfl, .inl e⟩) (fun e => hn (ki i e))⟩
  · rw [hpo i (fun e => hn ⟨p, rfl, .inl e⟩)]
    exact hg.block i (by omega) (fun e => hn (ki i e.symm))
  · rcases hfoot i hf with h | h | h
    · exact h
    · exact ki i (hnew i (by omega) h)
    · have := (hub i h).1; omega

/-- the outs' slice replaced by a grown one -/
theorem BRep.pushOuts {w : World} {p : Nat} {st : BSt} (h : BRep w p st) : ∃ (vo : Value) (css : List (List Value)), w.cell? ⟨p, 2, none⟩ = some vo ∧ vo.ownBlock ≠ some p ∧ w.ownsRow 0 119 2 vo st.outs.length css.flatten ∧
    ∀ {w1 : World} {v1 : Value} {port : Port} {u : Value} {B : Nat}, w1.ownsRow 0 119 2 v1 (st.outs.length + 1) (css.flatten ++ [.string port.name, u]) → w.grownBy w1 vo.ownBlock → (v1.ownBlock = vo.ownBlock ∨ ∃ b, v1.ownBlock = some b ∧ w.heap.size ≤ b) →
      Row kInt w (fun i => foot w (some p) i) u port.bits → (∀ g, u.ownBlock = some g → B ≤ g ∧ g < w.heap.size) → B ≤ w.heap.size →
      BRep (w1.setCell ⟨p, 2, none⟩ v1) p { st with outs := st.outs ++ [port] } ∧ Kept B (some p) w (w1.setCell ⟨p, 2, none⟩ v1) ∧ Same (fun i => foot w (some p) i) w (w1.setCell ⟨p, 2, none⟩ v1) := by
  obtain ⟨vn, vi, vo, h1, h2, h3, h4, h5, h6⟩ := h
  have kn : ∀ g, vn.ownBlock = some g → foot w (some p) g := fun g hg => ⟨p, rfl, .inr (.inl (kids_cell h1 (j := 0) rfl hg))⟩
  have ki : ∀ g, vi.ownBlock = some g → foot w (some p) g := fun g hg => ⟨p, rfl, .inr (.inl (kids_cell h1 (j := 1) rfl hg))⟩
  have ko : ∀ g, vo.ownBlock = some g → foot w (some p) g := fun g hg => ⟨p, rfl, .inr (.inl (kids_cell h1 (j := 2) rfl hg))⟩
  have tn : ∀ g, vn.ownBlock = some g → ∃ cur, w.heap[g]? = some (.cells cur 117 (0, 0)) := by
    intro g hg'
    obtain ⟨css, r1, _⟩ := h2
    rcases r1.2 with ⟨rfl, _⟩ | ⟨g', cap, cur, rfl, _, hgg, _⟩
    · cases hg'
    · injection hg' with hg'; subst hg'; exact ⟨cur, hgg⟩
  have tp : ∀ (v : Value) (n : Nat) (xs : List Value), w.ownsRow 0 119 2 v n xs → ∀ g, v.ownBlock = some g → ∃ cur, w.heap[g]? = some (.cells cur 119 (0, 0)) := by
    intro v n xs r1 g hg'
    rcases r1.2 with ⟨rfl, _⟩ | ⟨g', cap, cur, rfl, _, hgg, _⟩
    · cases hg'
    · injection hg' with hg'; subst hg'; exact ⟨cur, hgg⟩
  have np : ∀ (v : Value) (n : Nat) (xs : List Value), w.ownsRow 0 119 2 v n xs → ∀ g, v.ownBlock = some g → g ≠ p ∧ vn.ownBlock ≠ some g := by
    intro v n xs r1 g hgv
    obtain ⟨cur, hgg⟩ := tp v n xs r1 g hgv
    constructor
    · intro e; rw [e, h1] at hgg; injection hgg with hgg; injection hgg with _ hgg; exact absurd hgg (by decide)
    · intro e
      obtain ⟨cur', hgg'⟩ := tn g e
      rw [hgg'] at hgg; injection hgg with hgg; injection hgg with _ hgg; exact absurd hgg (by decide)
  have nnp : ∀ g, vn.ownBlock = some g → g ≠ p := by
    intro g hgv e
    obtain ⟨cur, hgg⟩ := tn g hgv
    rw [e, h1] at hgg; injection hgg with hgg; injection hgg with _ hgg; exact absurd hgg (by decide)
  have hot : ∀ g, vi.ownBlock = some g → vo.ownBlock = some g → False := by
    have h5' : ∀ g, vi.ownBlock = some g → vo.ownBlock = some g → False := by
      rcases h5 with h | h
      · intro g h1' h2'; rw [h] at h1'; cases h1'
      · intro g h1' h2'; exact h (h1'.trans h2'.symm)
    intro g ha hb; first | exact h5' g ha hb | exact h5' g hb ha
  obtain ⟨css, r1, r2⟩ := h4
  have hmp : vo.ownBlock ≠ some p := fun e => (np _ _ _ r1 p e).1 rfl
  refine ⟨vo, css, by rw [cell_of_row w p 2 _ _ _ h1]; rfl, hmp, r1, ?_⟩
  intro w1 v1 port u B q1 hg hat hu hub hBw
  have hpl : p < w.heap.size := (Array.getElem?_eq_some_iff.1 h1).1
  have hp1 : w1.heap[p]? = some (.cells #[vn, vi, vo] 122 (0, 0)) := by rw [hg.block p hpl (fun e => hmp e.symm)]; exact h1
  have hp2 : (w1.setCell ⟨p, 2, none⟩ v1).heap[p]? = some (.cells #[vn, vi, v1] 122 (0, 0)) := by
    rw [heap_setCell_same w1 p 2 _ _ v1 hp1]; rfl
  have hpo : ∀ i, i ≠ p → (w1.setCell ⟨p, 2, none⟩ v1).heap[i]? = w1.heap[i]? := fun i hi => heap_setCell_other w1 ⟨p, 2, none⟩ i v1 hi
  have hold : ∀ i, i < w.heap.size → i ≠ p → vo.ownBlock ≠ some i → (w1.setCell ⟨p, 2, none⟩ v1).heap[i]? = w.heap[i]? := fun i hi hip hin => by
    rw [hpo i hip]; exact hg.block i hi (fun e => hin e.symm)
  have hnew : ∀ i, i < w.heap.size → v1.ownBlock = some i → vo.ownBlock = some i := by
    intro i hi he
    rcases hat with h | ⟨b, h, hb⟩
    · rw [← h]; exact he
    · rw [h] at he; injection he with he; omega
  have hsz : w.heap.size ≤ (w1.setCell ⟨p, 2, none⟩ v1).heap.size := by rw [World.size_setCell]; exact hg.size
  have ht1 : ∀ g, v1.ownBlock = some g → (∃ cur, w1.heap[g]? = some (.cells cur 119 (0, 0))) ∧ g < w1.heap.size := by
    intro g hg'
    rcases q1.2 with ⟨rfl, _⟩ | ⟨g', cap, cur, rfl, _, hgg, _⟩
    · cases hg'
    · injection hg' with hg'; subst hg'; exact ⟨⟨cur, hgg⟩, (Array.getElem?_eq_some_iff.1 hgg).1⟩
  have h1p : ∀ g, v1.ownBlock = some g → g ≠ p := by
    intro g hgv e
    obtain ⟨⟨cur, hgg⟩, _⟩ := ht1 g hgv
    rw [e, hp1] at hgg; injection hgg with hgg; injection hgg with _ hgg; exact absurd hgg (by decide)
  have hN2 : Own kNode 117 (w1.setCell ⟨p, 2, none⟩ v1) none 0 vn st.nodes := by
    obtain ⟨dss, s1, s2, s3⟩ := h2
    refine ⟨dss, ⟨s1.1, ?_⟩, ⟨s2.1, fun i x cs hx hc => s2.2 i x cs hx hc⟩, fun g hg hf => foot_none _ _ hf⟩
    rcases s1.2 with hn | ⟨g, cap, cur, rfl, hb, hgg, rest⟩
    · exact .inl hn
    · refine .inr ⟨g, cap, cur, rfl, hb, ?_, rest⟩
      rw [hold g (h6 g (kn g rfl)) (nnp g rfl) (fun e => (np _ _ _ r1 g e).2 rfl)]
      exact hgg
  have old : ∃ css, (w1.setCell ⟨p, 2, none⟩ v1).ownsRow 0 119 2 vi st.ins.length css.flatten ∧ Pairs kPort (w1.setCell ⟨p, 2, none⟩ v1) (fun i => i = p ∨ vn.ownBlock = some i ∨ vi.ownBlock = some i ∨ v1.ownBlock = some i) st.ins css := by
    obtain ⟨dss, s1, s2⟩ := h3
    refine ⟨dss, ⟨s1.1, ?_⟩, s2.keep ⟨hsz, fun i hi hn => ?_⟩ fun i hi hm => ?_⟩
    · rcases s1.2 with hn | ⟨g, cap, cur, rfl, hb, hgg, rest⟩
      · exact .inl hn
      · refine .inr ⟨g, cap, cur, rfl, hb, ?_, rest⟩
        rw [hold g (h6 g (ki g rfl)) (np _ _ _ s1 g rfl).1 (fun e => hot g rfl e)]
        exact hgg
    · rw [hpo i (fun e => hn (.inl e))]
      exact hg.block i hi (fun e => hn (.inr (.inr (.inr e.symm))))
    · rcases hm with h | h | h | h
      · exact .inl h
      · exact .inr (.inl h)
      · exact .inr (.inr (.inl h))
      · exact .inr (.inr (.inr (hnew i hi h)))
  have new : ∃ css, (w1.setCell ⟨p, 2, none⟩ v1).ownsRow 0 119 2 v1 (st.outs ++ [port]).length css.flatten ∧ Pairs kPort (w1.setCell ⟨p, 2, none⟩ v1) (fun i => i = p ∨ vn.ownBlock = some i ∨ vi.ownBlock = some i ∨ v1.ownBlock = some i) (st.outs ++ [port]) css := by
    refine ⟨css ++ [[.string port.name, u]], ?_, (r2.keep ⟨hsz, fun i hi hn => ?_⟩ fun i hi hm => ?_).snoc ⟨u, rfl, hu.keep ⟨hsz, fun i hi hn => ?_⟩ fun i hi hm => ?_⟩⟩
    · rw [List.length_append, List.flatten_append]
      simp only [List.length_cons, List.length_nil, Nat.zero_add, List.flatten_cons, List.flatten_nil, List.append_nil]
      refine ⟨q1.1, ?_⟩
      rcases q1.2 with hn | ⟨g, cap, cur, rfl, hb, hgg, rest⟩
      · exact .inl hn
      · exact .inr ⟨g, cap, cur, rfl, hb, by rw [hpo g (h1p g rfl)]; exact hgg, rest⟩
    · rw [hpo i (fun e => hn (.inl e))]
      exact hg.block i hi (fun e => hn (.inr (.inr (.inr e.symm))))
    · rcases hm with h | h | h | h
      · exact .inl h
      · exact .inr (.inl h)
      · exact .inr (.inr (.inl h))
      · exact .inr (.inr (.inr (hnew i hi h)))
    · rw [hpo i (fun e => hn ⟨p, rfl, .inl e⟩)]
      exact hg.block i hi (fun e => hn (ko i e.symm))
    · rcases hm with h | h | h | h
      · subst h; exact ⟨_, rfl, .inl rfl⟩
      · exact kn i h
      · exact ki i h
      · exact ko i (hnew i hi h)
  have hdis : vi.ownBlock = none ∨ vi.ownBlock ≠ v1.ownBlock := by
    rcases hat with h | ⟨b, h, hb⟩
    · rw [h]; exact h5
    · refine .inr fun e => ?_
      have := h6 b (ki b (by rw [e]; exact h))
      omega
  have hfoot : ∀ i, foot (w1.setCell ⟨p, 2, none⟩ v1) (some p) i → foot w (some p) i ∨ v1.ownBlock = some i ∨ u.ownBlock = some i := by
    rintro i ⟨b, hb, hi⟩
    injection hb with hb; subst hb
    rcases hi with rfl | ⟨j, x, hc, hx⟩ | ⟨j, q, off, n, c, j', x, hc, hj, hc', hx⟩
    · exact .inl ⟨_, rfl, .inl rfl⟩
    · rw [cell_of_row _ p j _ _ _ hp2] at hc
      match j, hc with
      | 0, hc => simp at hc; subst hc; exact .inl (kn i hx)
      | 2, hc => simp at hc; subst hc; exact .inr (.inl hx)
      | 1, hc => simp at hc; subst hc; exact .inl (ki i hx)
    · rw [cell_of_row _ p j _ _ _ hp2] at hc
      match j, hc with
      | 0, hc =>
        simp at hc; subst hc
        refine .inl ⟨p, rfl, .inr (.inr ⟨0, q, off, _, c, j', x, by rw [cell_of_row w p 0 _ _ _ h1]; rfl, hj, ?_, hx⟩)⟩
        rw [← hc']; exact (World.cell?_of_block (hold q (h6 q (kn q rfl)) (nnp q rfl) (fun e => (np _ _ _ r1 q e).2 rfl))).symm
      | 1, hc =>
        simp at hc; subst hc
        obtain ⟨dss, s1, _⟩ := h3
        refine .inl ⟨p, rfl, .inr (.inr ⟨1, q, off, _, c, j', x, by rw [cell_of_row w p 1 _ _ _ h1]; rfl, hj, ?_, hx⟩)⟩
        rw [← hc']; exact (World.cell?_of_block (hold q (h6 q (ki q rfl)) (np _ _ _ s1 q rfl).1 (fun e => hot q rfl e))).symm
      | 2, hc =>
        simp at hc; subst hc
        have hqp := h1p q rfl
        have hc2 := (World.cell?_of_block (a := ⟨q, off + j', none⟩) (hpo q hqp)).symm.trans hc'
        rcases q1.2 with ⟨hv, _⟩ | ⟨g', cap, cur, hv, _, hgg, _⟩
        · cases hv
        · injection hv with hv hn; injection hv with hv; injection hv with e1 e2
          subst e1; subst e2; subst hn
          have hlen := q1.1
          have hj4 : j' < (css.flatten ++ [.string port.name, u]).length := by rw [hlen]; exact hj
          obtain ⟨y, hy⟩ : ∃ y, (css.flatten ++ [.string port.name, u])[j']? = some y := ⟨_, List.getElem?_eq_getElem hj4⟩
          have hx2 := q1.cells (g := q) rfl j' y hy
          rw [Addr.add_lit, hc2] at hx2
          injection hx2 with hx2
          subst hx2
          have hl0 := r1.1
          by_cases hjo : j' < css.flatten.length
          · rw [List.getElem?_append_left hjo] at hy
            rcases r1.2 with ⟨rfl, h0⟩ | ⟨g0, cap0, cur0, rfl, _, hgg0, _⟩
            · omega
            · have hx3 := r1.cells (g := g0) rfl j' x hy
              rw [Addr.add_lit] at hx3
              exact .inl ⟨p, rfl, .inr (.inr ⟨2, g0, 0, _, cap0, j', x, by rw [cell_of_row w p 2 _ _ _ h1]; rfl, by omega, hx3, hx⟩)⟩
          · rw [List.getElem?_append_right (by omega)] at hy
            have hcase : j' - css.flatten.length = 0 ∨ j' - css.flatten.length = 1 := by
              rw [List.length_append] at hj4
              simp only [List.length_cons, List.length_nil] at hj4
              omega
            rcases hcase with h | h
            · rw [h] at hy; simp at hy; subst hy; simp [Value.ownBlock] at hx
            · rw [h] at hy; simp at hy; subst hy; exact .inr (.inr hx)
  have hfin : FootIn (w1.setCell ⟨p, 2, none⟩ v1) (some p) := by
    intro i hi
    rcases hfoot i hi with h | h | h
    · exact Nat.lt_of_lt_of_le (h6 i h) hsz
    · rw [World.size_setCell]; exact (ht1 i h).2
    · exact Nat.lt_of_lt_of_le (hub i h).2 hsz
  refine ⟨⟨vn, vi, v1, hp2, hN2, old, new, hdis, hfin⟩, ⟨hg.os, hg.tape, hg.output, hsz, fun i hi hn => ?_, fun i hi hf => ?_⟩, hsz, fun i hi hn => hold i hi (fun e => hn ⟨p, rfl, .inl e⟩) (fun e => hn (ko i e))⟩
  · rw [hpo i (fun e => hn ⟨p, rfl, .inl e⟩)]
    exact hg.block i (by omega) (fun e => hn (ko i e.symm))
  · rcases hfoot i hf with h | h | h
    · exact h
    · exact ko i (hnew i (by omega) h)
    · have := (hub i h).1; omega

end Go.Proofs.Ytdljgifoboiaeaa

/-! ## What comes in, what goes out. -/
namespace Go.Proofs.Ytdljgifoboiaeaa
open Go.RowKit

section
variable {P : Program} {o : Oper} {a : Act} {Q : Exit → Act → World → Prop}
theorem wp_app_raw (e t : TypeId) (z : Value) (size bytes : Nat) {w : World} {K : Act → World → Prop}
    (s x : Operand) (ho : o.op = .call { callee := .builtin .append, args := #[s, x], argTypes := #[t, t] })
    (ht : P.underlying t = some (.slice e)) (hinfo : (P.info? e).map (fun i => (i.zero, i.size, i.bytes)) = some (some z, size, bytes)) (hz : z.cells.size = size) (hk0 : 0 < size) (hb0 : 0 < bytes)
    (B : Nat) {v : Value} {n : Nat} {xs : List Value} (hO : w.ownsRow B e size v n xs) (hB : B ≤ w.heap.size) (hs : a.eval s = v)
    (ad : Addr) (m c : Nat) (news : List Value) (hx : a.eval x = .slice (some ad) m c) (hm : news.length = m * size) (hc : ∀ j u, news[j]? = some u → w.cell? (ad.add j) = some u) (h1 : ∀ u ∈ news, u.oneCell' = true)
    (hl : (n + m) * bytes ≤ 140737488355328)
    (hK : ∀ v' w', w'.ownsRow B e size v' (n + m) (xs ++ news) → w.grownBy w' v.ownBlock → (v'.ownBlock = v.ownBlock ∨ v'.ownBlock = some w.heap.size) → K (a.put o.dst v') w') : o.wp P a w K Q := by
  obtain ⟨i0, hi, hzz⟩ := Option.map_eq_some_iff.1 hinfo
  simp only [Prod.mk.injEq] at hzz
  obtain ⟨hz0, hz1, hz2⟩ := hzz
  obtain ⟨v', w', hr, q2, q3, _, q5⟩ := run_append_own_at (P := P) w B t o.type e i0 z size bytes ht hi hz0 hz1 hz2 hz hk0 v n xs hO ad m c news hm hc h1 (le_maxLen hb0 hl) hl hB
  unfold Oper.wp execOp
  simp only [ho, resolve, invoke, builtin, Sem.run_bind, Sem.run_pure, Result.andThen_ok, List.map_toArray, List.map_cons, List.map_nil, hs, hx, hr]
  exact hK v' w' q2 q3 q5
end

theorem port_news (W : World) (s : ByteArray) (u : Value) (t : TypeId) : ∀ j x, ([Value.string s, u] : List Value)[j]? = some x → (W.alloc (.cells #[.string s, u] t)).cell? ((⟨W.heap.size, 0, none⟩ : Addr).add j) = some x := by
  intro j x hx
  rw [Addr.add_lit, Nat.zero_add, World.cell?_alloc_new]
  simpa using hx
theorem port_one (s : ByteArray) (A : Option Addr) (n c : Nat) : ∀ x ∈ ([.string s, .slice A n c] : List Value), x.oneCell' = true := by
  intro x hx; simp at hx; rcases hx with rfl | rfl <;> rfl

theorem ownsRow_shape {w : World} {base size n : Nat} {e : TypeId} {v : Value} {xs : List Value} (h : w.ownsRow base e size v n xs) : ∃ A c, v = .slice A n c ∧ n ≤ c ∧ c ≤ maxLen := by
  rcases h.2 with ⟨rfl, rfl⟩ | ⟨g, cap, cur, rfl, _, _, hc, hm, _⟩
  · exact ⟨none, 0, rfl, Nat.le_refl _, by simp [maxLen]⟩
  · exact ⟨_, cap, rfl, hc, hm⟩
/-- all that the append to the ports' row, and the store, ask and leave -/
theorem out_ready {w w1 : World} {p : Nat} {st : BSt} {xs : List Int} {A1 : Option Addr} {cc1 : Nat} (hL : Laid w p st w1) (ho : Own kInt 3 w1 (some p) w.heap.size (.slice A1 xs.length cc1) xs) (name : ByteArray) :
    ∃ (vo : Value) (css : List (List Value)), (w1.alloc (.cells #[.string name, .slice A1 xs.length cc1] 119)).cell? ⟨p, 2, none⟩ = some vo ∧ vo.ownBlock ≠ some p ∧ (w1.alloc (.cells #[.string name, .slice A1 xs.length cc1] 119)).frozen? ⟨p, 2, none⟩ = false ∧
      (w1.alloc (.cells #[.string name, .slice A1 xs.length cc1] 119)).ownsRow 0 119 2 vo st.outs.length css.flatten ∧ p < (w1.alloc (.cells #[.string name, .slice A1 xs.length cc1] 119)).heap.size ∧
      ∀ (v' : Value) (w' : World), w'.ownsRow 0 119 2 v' (st.outs.length + 1) (css.flatten ++ [.string name, .slice A1 xs.length cc1]) → (w1.alloc (.cells #[.string name, .slice A1 xs.length cc1] 119)).grownBy w' vo.ownBlock →
        (v'.ownBlock = vo.ownBlock ∨ v'.ownBlock = some (w1.alloc (.cells #[.string name, .slice A1 xs.length cc1] 119)).heap.size) →
        BRep (w'.setCell ⟨p, 2, none⟩ v') p (bOut name xs st) ∧ Kept w.heap.size (some p) w (w'.setCell ⟨p, 2, none⟩ v') ∧ Row kInt (w'.setCell ⟨p, 2, none⟩ v') (fun _ => False) (.slice A1 xs.length cc1) xs := by
  generalize hW : w1.alloc (.cells #[.string name, .slice A1 xs.length cc1] 119) = W
  have hBW : BRep W p st := by rw [← hW]; exact hL.1.alloc _
  have hoW : Own kInt 3 W (some p) w.heap.size (.slice A1 xs.length cc1) xs := by rw [← hW]; exact ho.alloc hL.1.fin _
  have hsz : w1.heap.size ≤ W.heap.size := by rw [← hW]; simp
  have hkW : Kept w.heap.size (some p) w W := by rw [← hW]; exact hL.2.trans (Kept.of_below_all ((Below.refl _ _).alloc (Nat.le_refl _) _) hL.1.fin hL.2.size)
  obtain ⟨vo, css, e1, e2, e3, e4⟩ := hBW.pushOuts
  obtain ⟨_, _, _, _, _, _, hfz, _⟩ := hBW.cells
  refine ⟨vo, css, e1, e2, hfz 2, e3, hBW.lt, fun v' w' q1 q2 q3 => ?_⟩
  have := e4 (port := ⟨name, xs⟩) (B := w.heap.size) q1 q2 (q3.imp_right fun h => ⟨_, h, Nat.le_refl _⟩) (hoW.rowS _ fun g hg hf => hoW.off hg hf) (fun g hg => hoW.base hg) (Nat.le_trans hL.2.size hsz)
  exact ⟨this.1, hkW.trans this.2.1, (hoW.rowS _ fun g hg hf => hoW.off hg hf).keep this.2.2 fun _ _ hf => hf.elim⟩

/-- all that the append to the ports' row, and the store, ask and leave -/
theorem in_ready {w w1 : World} {p : Nat} {st : BSt} {xs : List Int} {A1 : Option Addr} {cc1 : Nat} (hL : Laid w p st w1) (ho : Own kInt 3 w1 (some p) w.heap.size (.slice A1 xs.length cc1) xs) (name : ByteArray) :
    ∃ (vo : Value) (css : List (List Value)), (w1.alloc (.cells #[.string name, .slice A1 xs.length cc1] 119)).cell? ⟨p, 1, none⟩ = some vo ∧ vo.ownBlock ≠ some p ∧ (w1.alloc (.cells #[.string name, .slice A1 xs.length cc1] 119)).frozen? ⟨p, 1, none⟩ = false ∧
      (w1.alloc (.cells #[.string name, .slice A1 xs.length cc1] 119)).ownsRow 0 119 2 vo st.ins.length css.flatten ∧ p < (w1.alloc (.cells #[.string name, .slice A1 xs.length cc1] 119)).heap.size ∧
      ∀ (v' : Value) (w' : World), w'.ownsRow 0 119 2 v' (st.ins.length + 1) (css.flatten ++ [.string name, .slice A1 xs.length cc1]) → (w1.alloc (.cells #[.string name, .slice A1 xs.length cc1] 119)).grownBy w' vo.ownBlock →
        (v'.ownBlock = vo.ownBlock ∨ v'.ownBlock = some (w1.alloc (.cells #[.string name, .slice A1 xs.length cc1] 119)).heap.size) →
        BRep (w'.setCell ⟨p, 1, none⟩ v') p { st with ins := st.ins ++ [⟨name, xs⟩] } ∧ Kept w.heap.size (some p) w (w'.setCell ⟨p, 1, none⟩ v') ∧ Row kInt (w'.setCell ⟨p, 1, none⟩ v') (fun _ => False) (.slice A1 xs.length cc1) xs := by
  generalize hW : w1.alloc (.cells #[.string name, .slice A1 xs.length cc1] 119) = W
  have hBW : BRep W p st := by rw [← hW]; exact hL.1.alloc _
  have hoW : Own kInt 3 W (some p) w.heap.size (.slice A1 xs.length cc1) xs := by rw [← hW]; exact ho.alloc hL.1.fin _
  have hsz : w1.heap.size ≤ W.heap.size := by rw [← hW]; simp
  have hkW : Kept w.heap.size (some p) w W := by rw [← hW]; exact hL.2.trans (Kept.of_below_all ((Below.refl _ _).alloc (Nat.le_refl _) _) hL.1.fin hL.2.size)
  obtain ⟨vo, css, e1, e2, e3, e4⟩ := hBW.pushIns
  obtain ⟨_, _, _, _, _, _, hfz, _⟩ := hBW.cells
  refine ⟨vo, css, e1, e2, hfz 1, e3, hBW.lt, fun v' w' q1 q2 q3 => ?_⟩
  have := e4 (port := ⟨name, xs⟩) (B := w.heap.size) q1 q2 (q3.imp_right fun h => ⟨_, h, Nat.le_refl _⟩) (hoW.rowS _ fun g hg hf => hoW.off hg hf) (fun g hg => hoW.base hg) (Nat.le_trans hL.2.size hsz)
  exact ⟨this.1, hkW.trans this.2.1, (hoW.rowS _ fun g hg hf => hoW.off hg hf).keep this.2.2 fun _ _ hf => hf.elim⟩

set_option maxHeartbeats 2000000 in
set_option maxRecDepth 100000 in
theorem out_calls (w : World) (p : Nat) (st : BSt) (S : Nat → Prop) (name : ByteArray) (v : Value) (xs : List Int) (hB : BRep w p st) (hx : Row kInt w S v xs)
    (hl : xs.length ≤ 1099511627776) (ho : st.outs.length < 1099511627776) :
    Calls Try.prog 17 #[.pointer (some ⟨p, 0, none⟩), .string name, v] w
      fun e w' => e = .returned (.tuple #[]) ∧ BRep w' p (bOut name xs st) ∧ Kept w.heap.size (some p) w w' := by
  obtain ⟨vn, vi, vo, c0, c1, c2, hfz, hO, hne⟩ := hB.cells
  have hpl := hB.lt
  have hxd : Row kInt w.drew S v xs := hx.keep ⟨Nat.le_refl _, fun _ _ _ => rfl⟩ (fun _ _ h => h)
  obtain ⟨A, c, rfl, -, -⟩ := hx.shape
  have HX := Lib.hid hxd
  have HB := Lib.hid hB
  have HO := Lib.hid ho
  clear hx hxd hO hB c0 c1 ho
  go_enter Try.func17, Try.ntmps17
  go_wp2_with fail
  go_region_law (first
    | (go_simp; go_at_call 90; refine (clone_calls _ _ xs S HX.out hl).mono ?_; rintro e w1 ⟨v1, rfl, ho, hb⟩; obtain ⟨A1, cc1, rfl, -, -⟩ := ho.shape; have hr := out_ready ((Laid.refl HB.out).quiet (w2 := w1) ((Below.refl _ _).drew.trans hb)) (ho.give HB.out.drew.fin hb) name; obtain ⟨vo', css, e1, e2, e3, e4, e5, e6⟩ := hr; have c2' : w1.cell? ⟨p, 2, none⟩ = some vo := (hb.cell (p := ⟨p, 2, none⟩) hpl).trans c2; have hpl1 : p < w1.heap.size := Nat.lt_of_lt_of_le hpl hb.size; have hvv : vo' = vo := Option.some.inj (e1.symm.trans ((World.cell?_alloc_lt _ _ _ hpl1).trans c2')); subst hvv; have HR := Lib.hid e6; have HE := Lib.hid (And.intro e1 (And.intro e2 (And.intro e3 (And.intro e4 e5)))); clear ho hb e1 e2 e3 e4 e5 e6)
    | (refine step_app rfl (wp_app_raw 119 31 (.agg #[.string ⟨#[]⟩, .slice none 0 0]) 2 40 (.tmp 10) (.tmp 15) rfl Try.underlying31 infoPort rfl (by decide) (by decide) 0 HE.out.2.2.2.1 (Nat.zero_le _) rfl ⟨w1.heap.size, 0, none⟩ 1 1 [.string name, .slice A1 xs.length cc1] rfl rfl (port_news _ _ _ _) (port_one _ _ _ _) (by have := HO.out; omega) ?_); intro v' w' q1 q2 q3; have z0 := (World.cell?_of_block (a := ⟨p, 2, none⟩) (q2.block p HE.out.2.2.2.2 (fun e => HE.out.2.1 e.symm))).trans HE.out.1; have z1 := (World.frozen?_of_block (a := ⟨p, 2, none⟩) (q2.block p HE.out.2.2.2.2 (fun e => HE.out.2.1 e.symm))).trans HE.out.2.2.1; have R := Lib.hid (HR.out v' w' q1 q2 q3); obtain ⟨A', cap', hv', -, -⟩ := ownsRow_shape q1; subst hv'; clear q1 q2 q3))
  all_goals
    go_end0
    exact ⟨rfl, R.out.1, R.out.2.1⟩

set_option maxHeartbeats 2000000 in
set_option maxRecDepth 100000 in
attribute [local go_sem] max2_int max_two in
theorem in_calls (w : World) (p : Nat) (st : BSt) (name : ByteArray) (n : Int) (hB : BRep w p st) (hn : n ≤ 1099511627776) (hi : st.ins.length < 1099511627776) (hf : (bIn name n.toNat st).2.nodes.length ≤ 1099511627776) :
    Calls Try.prog 16 #[.pointer (some ⟨p, 0, none⟩), .string name, .int .i64 n] w
      fun e w' => ∃ v, e = .returned v ∧ Own kInt 3 w' (some p) w.heap.size v (bIn name n.toNat st).1 ∧ BRep w' p (bIn name n.toNat st).2 ∧ Kept w.heap.size (some p) w w' := by
  obtain ⟨m, hm⟩ : ∃ m : Nat, (max n 0) = m := ⟨n.toNat, by omega⟩
  obtain rfl : n.toNat = m := by omega
  generalize hnm : n.toNat = m at *
  have hmm : m ≤ 1099511627776 := by omega
  have hnodes : ∀ k, (mapS bInput (List.range k) st).2.nodes.length = st.nodes.length + k ∧ (mapS bInput (List.range k) st).2.ins = st.ins := by
    intro k
    induction k with
    | zero => exact ⟨rfl, rfl⟩
    | succ k ih => rw [List.range_succ, mapS_snoc]; simp [bInput, lay, ih.1, ih.2]; omega
  have hfm : st.nodes.length + m ≤ 1099511627776 := by rw [← (hnodes m).1]; exact hf
  have hsucc : ∀ k, mapS bInput (List.range (k + 1)) st = ((mapS bInput (List.range k) st).1 ++ [(bInput k (mapS bInput (List.range k) st).2).1], (bInput k (mapS bInput (List.range k) st).2).2) := fun k => by rw [List.range_succ, mapS_snoc]
  have HN := Lib.hid hnodes
  have HS0 := Lib.hid hsucc
  clear hf hnm hnodes hsucc
  go_enter Try.func16, Try.ntmps16
  go_wp2_with fail
  go_loopw [7, 10] (fun v i wr => ∃ k : Nat, k ≤ m ∧ i = .int .i64 k ∧ Own kInt 3 wr (some p) w.heap.size v (mapS bInput (List.range k) st).1 ∧ Laid w p (mapS bInput (List.range k) st).2 wr)
    (fun _ i _ => m - (intOf i).toNat)
  case atStart => exact ⟨0, by omega, rfl, Own.nil _ _ _ _ _, Laid.refl hB⟩
  case round =>
    obtain ⟨k, hk, rfl, ho, hL⟩ := hrel
    obtain ⟨A', c', rfl, -, -⟩ := ho.shape
    have hnk := (HN.out k).1
    have hik := (HN.out k).2
    have hyl : (mapS bInput (List.range k) st).1.length = k := by rw [mapS_length]; simp
    by_cases hlt : k < m
    · have HS := Lib.hid (HS0.out k)
      have hlk : (mapS bInput (List.range k) st).2.nodes.length < lim := by show _ < 1099511627776; omega
      have hyl' : (mapS bInput (List.range k) st).1.length ≤ 1099511627776 := by omega
      clear hnk hyl hik
      generalize (mapS bInput (List.range k) st).1 = ys at ho HS hyl'
      generalize (mapS bInput (List.range k) st).2 = sk at hL HS hlk
      go_wp2_with (first
        | (go_at_call 89; refine (lay_calls _ p sk ⟨1, 0, 0, 0⟩ hL.1 hlk).mono ?_; rintro e w2 ⟨rfl, hL2⟩)
        | (at_builtin; refine app1B kInt 3 26 (.int .i64 0) 8 rfl (.tmp 12) (.tmp 16) rfl Try.underlying26 infoInt rfl (by decide) (by decide) p _ hL2.1 w.heap.size (ho.laid hL2) (by have := hL2.2.size; have := hL.2.size; omega) rfl _ _ rfl rfl (by omega) ?_; intro v' w3 ho3 hB3 hk3))
      go_roundw
      case rel => exact ⟨k + 1, by omega, by go_num, by rw [HS.out]; exact ho3, by rw [HS.out]; exact ⟨hB3, (hL.2.trans (hL2.2.mono hL.2.size)).trans hk3⟩⟩
      case measure => simp [intOf]; omega
    · obtain rfl : k = m := by omega
      have hin : bIn name k st = ((mapS bInput (List.range k) st).1, { (mapS bInput (List.range k) st).2 with ins := (mapS bInput (List.range k) st).2.ins ++ [⟨name, (mapS bInput (List.range k) st).1⟩] }) := rfl
      have HI := Lib.hid hin
      have hyk : (mapS bInput (List.range k) st).1.length ≤ 1099511627776 := by omega
      have hii : (mapS bInput (List.range k) st).2.ins.length < 1099511627776 := by rw [hik]; exact hi
      clear hin hnk hik hyl
      generalize (mapS bInput (List.range k) st).1 = ys at ho HI hyk ⊢
      generalize (mapS bInput (List.range k) st).2 = sk at hL HI hii
      obtain ⟨vo, css, e1, e2, e3, e4, e5, e6⟩ := in_ready hL ho name
      have hpl := hL.1.lt
      have c1 : wr.cell? ⟨p, 1, none⟩ = some vo := by rw [World.cell?_alloc_lt _ _ _ hpl] at e1; exact e1
      have HR := Lib.hid e6
      have HE := Lib.hid (And.intro e1 (And.intro e2 (And.intro e3 (And.intro e4 e5))))
      have HL := Lib.hid hL
      have HO := Lib.hid ho
      clear e1 e2 e3 e4 e5 e6 hL ho
      go_wp2_with (at_builtin; refine wpList_plain rfl fun K hK => wp_app_raw 119 31 (.agg #[.string ⟨#[]⟩, .slice none 0 0]) 2 40 (.tmp 23) (.tmp 27) rfl Try.underlying31 infoPort rfl (by decide) (by decide) 0 HE.out.2.2.2.1 (Nat.zero_le _) rfl ⟨wr.heap.size, 0, none⟩ 1 1 [.string name, .slice A' ys.length c'] rfl rfl (port_news _ _ _ _) (port_one _ _ _ _) (by omega) ?_; intro v' w' q1 q2 q3; have z0 := (World.cell?_of_block (a := ⟨p, 1, none⟩) (q2.block p HE.out.2.2.2.2 (fun e => HE.out.2.1 e.symm))).trans HE.out.1; have z1 := (World.frozen?_of_block (a := ⟨p, 1, none⟩) (q2.block p HE.out.2.2.2.2 (fun e => HE.out.2.1 e.symm))).trans HE.out.2.2.1; have R := Lib.hid (HR.out v' w' q1 q2 q3); have HQ := Lib.hid (And.intro q2 q3); obtain ⟨A2, cap2, hv', -, -⟩ := ownsRow_shape q1; subst hv'; clear q1 q2 q3; refine hK _ _ ?_; clear hK K)
      refine (clone_calls _ _ ys (fun _ => False) R.out.2.2 hyk).mono ?_
      rintro e w3 ⟨v3, rfl, ho3, hb3⟩
      have hsz := R.out.2.1.size
      have hfin := ho3.give R.out.1.fin hb3
      have HQ2 := Lib.hid (And.intro (hfin.lower hsz) (And.intro (R.out.1.below hb3) (R.out.2.1.trans (Kept.of_below_all hb3 R.out.1.fin hsz))))
      clear hfin ho3 hb3 hsz
      go_wp2
      go_ret
      rw [HI.out]
      exact ⟨v3, rfl, HQ2.out⟩

theorem len_calls (w : World) (p : Nat) (st : BSt) (hB : BRep w p st) : Calls Try.prog 88 #[.pointer (some ⟨p, 0, none⟩)] w
      fun e w' => e = .returned (.int .i64 st.nodes.length) ∧ w = w' := by
  obtain ⟨vn, vi, vo, c0, c1, c2, hfz, hO, hne⟩ := hB.cells
  obtain ⟨A, c, rfl, -, -⟩ := hO.shape
  clear hB hO
  go_enter Try.func88, Try.ntmps88
  go_wp2
  go_ret
  exact ⟨rfl, rfl⟩

theorem new_calls (w : World) : Calls Try.prog 15 #[] w
      fun e w' => e = .returned (.pointer (some ⟨w.heap.size, 0, none⟩)) ∧ BRep w' w.heap.size ⟨[], [], []⟩ ∧ Below w.heap.size w w' := by
  go_enter Try.func15, Try.ntmps15
  go_wp2
  go_ret
  have hh := heap_alloc_new w (.cells #[.slice none 0 0, .slice none 0 0, .slice none 0 0] 122)
  refine ⟨rfl, ⟨.slice none 0 0, .slice none 0 0, .slice none 0 0, hh, Own.nil _ _ _ _ _, ⟨[], World.ownsRow_nil _ _ _ _, Pairs.nil _ _ _⟩, ⟨[], World.ownsRow_nil _ _ _ _, Pairs.nil _ _ _⟩, .inl rfl, ?_⟩, (Below.refl _ _).alloc (Nat.le_refl _) _⟩
  rintro i ⟨b, hb, hi⟩
  injection hb with hb; subst hb
  have none_of : ∀ (j : Nat) (v : Value), (w.alloc (.cells #[.slice none 0 0, .slice none 0 0, .slice none 0 0] 122)).cell? ⟨w.heap.size, j, none⟩ = some v → v = .slice none 0 0 := by
    intro j v hc
    rw [cell_of_row _ _ j _ _ _ hh] at hc
    match j, hc with
    | 0, hc => simpa using hc.symm
    | 1, hc => simpa using hc.symm
    | 2, hc => simpa using hc.symm
  rcases hi with rfl | ⟨j, v, hc, hv⟩ | ⟨j, q, off, n, c, j', u, hc, hj, _, _⟩
  · simp
  · rw [none_of j v hc] at hv; cases hv
  · have := none_of j _ hc; cases this
end Go.Proofs.Ytdljgifoboiaeaa

/-! ## The net that is told: a copy of the builder's. -/
namespace Go.Proofs.Ytdljgifoboiaeaa
open Go.RowKit

section
variable {P : Program} {o : Oper} {a : Act} {Q : Exit → Act → World → Prop}
/-- append(v, x) of one element that lies in a new block, as one step of a region -/
theorem wp_app1 {α : Type} (k : Kd α) (e t : TypeId) (z : Value) (bytes : Nat) {W : World} {K : Act → World → Prop}
    (s x : Operand) (ho : o.op = .call { callee := .builtin .append, args := #[s, x], argTypes := #[t, t] })
    (ht : P.underlying t = some (.slice e)) (hinfo : (P.info? e).map (fun i => (i.zero, i.size, i.bytes)) = some (some z, k.size, bytes)) (hz : z.cells.size = k.size) (hk0 : 0 < k.size) (hb0 : 0 < bytes)
    (p : Option Nat) (B : Nat) {v : Value} {xs : List α} (hO : Own k e W p B v xs) (hF : FootIn W p) (hB : B ≤ W.heap.size) (hs : a.eval s = v)
    (y : α) (cs : List Value) (hx : a.eval x = .slice (some ⟨W.heap.size, 0, none⟩) 1 1)
    (hP : k.K W (fun i => foot W p i ∨ v.ownBlock = some i) y cs)
    (hl : (xs.length + 1) * bytes ≤ 140737488355328)
    (hK : ∀ v' w', Own k e w' p B v' (xs ++ [y]) → Kept B p W w' → FootIn w' p → (∀ i, foot w' p i ↔ foot W p i) → W.grownBy w' v.ownBlock → (v'.ownBlock = v.ownBlock ∨ ∃ b, v'.ownBlock = some b ∧ W.heap.size < b) → K (a.put o.dst v') w') :
    o.wp P a (W.alloc (.cells cs.toArray e)) K Q := by
  have hbel : Below W.heap.size W (W.alloc (.cells cs.toArray e)) := (Below.refl _ _).alloc (Nat.le_refl _) _
  have hk : Kept W.heap.size p W (W.alloc (.cells cs.toArray e)) := Kept.of_below_all hbel hF (Nat.le_refl _)
  have hfo : ∀ i, foot (W.alloc (.cells cs.toArray e)) p i ↔ foot W p i := foot_of_heap fun i hi => hbel.block i (hF i hi)
  have hx1 : k.K (W.alloc (.cells cs.toArray e)) (fun i => foot (W.alloc (.cells cs.toArray e)) p i ∨ v.ownBlock = some i) y cs :=
    k.keep hP ⟨hbel.size, fun i hi hn => hbel.block i hi⟩ fun i hi hm => hm.elim (fun h => .inl ((hfo i).1 h)) .inr
  refine wp_app k e t z bytes s x ho ht hinfo hz hk0 hb0 p B (hO.kept hk) (hF.iff hfo hbel.size) (by simp; omega) hs ⟨W.heap.size, 0, none⟩ 1 1 [y] [cs] hx rfl ((Pairs.nil k _ _).snoc hx1) ?_ hl ?_
  · intro j u hu
    simp only [List.flatten_cons, List.flatten_nil, List.append_nil] at hu
    rw [Addr.add_lit, Nat.zero_add]
    show (W.alloc (.cells cs.toArray e)).cell? ⟨W.heap.size, j, none⟩ = some u
    rw [World.cell?_alloc_new]
    simpa using hu
  · intro v' w' q1 q2 q3 q4 q5 q6
    refine hK v' w' q1 ((hk.mono hB).trans q2) q3 (fun i => (q4 i).trans (hfo i)) (World.grownBy.trans (World.grownBy_alloc W _ _) q5) ?_
    rcases q6 with h | h
    · exact .inl h
    · exact .inr ⟨_, h, by simp⟩
end

theorem Row.port_at {w : World} {S : Nat → Prop} {A : Option Addr} {n c : Nat} {xs : List Port} (h : Row kPort w S (.slice A n c) xs) {i : Nat} (hi : i < xs.length) :
    ∃ b off A2 c2, A = some ⟨b, off, none⟩ ∧ w.cell? ⟨b, off + i * 2, none⟩ = some (.string xs[i].name) ∧ w.cell? ⟨b, off + i * 2 + 1, none⟩ = some (.slice A2 xs[i].bits.length c2) ∧ Row kInt w S (.slice A2 xs[i].bits.length c2) xs[i].bits := by
  have hn : n = xs.length := h.len
  obtain ⟨b, off, rfl, x, cs, hx, hk, hc⟩ := h.at (i := i) (by omega)
  rw [List.getElem?_eq_getElem hi] at hx
  injection hx with hx
  subst hx
  obtain ⟨v, rfl, hr⟩ := hk
  obtain ⟨A2, c2, rfl, -, -⟩ := hr.shape
  exact ⟨b, off, A2, c2, rfl, hc 0 _ rfl, hc 1 _ rfl, hr⟩

/-- ports, no word of theirs in S0 -/
def kPortOff (S0 : Nat → Prop) : Kd Port where
  size := 2
  K := fun w S x cs => ∃ v, cs = [.string x.name, v] ∧ Row kInt w (fun i => S i ∨ S0 i) v x.bits
  len := by rintro w S x cs ⟨v, rfl, _⟩; rfl
  one := by
    rintro w S x cs ⟨v, rfl, h⟩ u hu
    obtain ⟨A, c, rfl, _⟩ := h.shape
    simp at hu; rcases hu with rfl | rfl <;> rfl
  keep := fun ⟨v, e, h⟩ hs hS => ⟨v, e, h.keep ⟨hs.1, fun i hi hn => hs.2 i hi fun h => hn (.inl h)⟩ fun i hi hm => hm.elim (fun h => .inl (hS i hi h)) .inr⟩

set_option maxHeartbeats 2000000 in
set_option maxRecDepth 100000 in
theorem copied_calls (w : World) (S : Nat → Prop) (hS : ∀ i, S i → i < w.heap.size) (v : Value) (ps : List Port) (hx : Row kPort w (may w none w.heap.size) v ps) (hl : ps.length ≤ 1099511627776) (hb : ∀ q ∈ ps, q.bits.length ≤ 1099511627776) :
    Calls Try.prog 91 #[v] w fun e w' => ∃ v', e = .returned v' ∧ Own (kPortOff S) 119 w' none w.heap.size v' ps ∧ Below w.heap.size w w' := by
  obtain ⟨A, c, rfl, hc1, hc2⟩ := hx.shape
  unfold maxLen at hc2
  have HB := Lib.hid hb
  clear hb
  go_enter Try.func91, Try.ntmps91
  go_wp2_with fail
  go_loopw [3, 8] (fun v i wr => ∃ k : Nat, k ≤ ps.length ∧ i = .int .i64 k ∧ Own (kPortOff S) 119 wr none w.heap.size v (ps.take k) ∧ Kept w.heap.size none w wr)
    (fun _ i _ => ps.length - (intOf i).toNat)
  case atStart => exact ⟨0, by omega, rfl, Own.nil _ _ _ _ _, Kept.refl _ _ _⟩
  case round =>
    obtain ⟨k, hk, rfl, ho, hK⟩ := hrel
    obtain ⟨A', c', rfl, -, -⟩ := ho.shape
    by_cases hlt : k < ps.length
    · have hxr := hx.kept hK
      obtain ⟨b, off, A2, c2, rfl, z0, z1, hbits⟩ := hxr.port_at hlt
      have hbl : ps[k].bits.length ≤ 1099511627776 := HB.out _ (List.getElem_mem hlt)
      have hto : (ps.take k).length ≤ 1099511627776 := by simp; omega
      have HT := Lib.hid (List.take_succ_eq_append_getElem hlt)
      generalize hy : ps[k] = y at z0 z1 hbits hbl HT
      generalize ps.take k = ys at ho hto HT
      have HO := Lib.hid ho
      have HBI := Lib.hid hbits
      have HK := Lib.hid hK
      have hszw := hK.size
      clear hxr hbits ho hx hK hy
      have hb0 : Below wr.heap.size wr (wr.alloc (.cells #[.string y.name, .slice A2 y.bits.length c2] 119)).drew := ((Below.refl _ _).alloc (Nat.le_refl _) _).drew
      have HX2 := Lib.hid (HBI.out.keep (S' := may wr none w.heap.size) ⟨hb0.size, fun i hi _ => hb0.block i hi⟩ fun i _ h => h)
      have HB0 := Lib.hid hb0
      clear hb0
      go_wp2_with fail
      go_region_law (first
        | (go_simp; go_at_call 90; refine (clone_calls _ _ y.bits _ HX2.out hbl).mono ?_; rintro e w1 ⟨v1, rfl, ho1, hb1⟩; obtain ⟨A3, c3, rfl, -, -⟩ := ho1.shape; have z2 : w1.cell? ⟨wr.heap.size, 0, none⟩ = some (.string y.name) := (hb1.cell (p := ⟨wr.heap.size, 0, none⟩) (by simp)).trans (by simp); have hs1 : wr.heap.size < w1.heap.size := Nat.lt_of_lt_of_le (by simp) hb1.size; have HO1 := Lib.hid ho1; have HB1 := Lib.hid (HB0.out.trans (hb1.mono (by simp))); clear ho1 hb1)
        | (refine step_app rfl (wp_app1 (kPortOff S) 119 31 (.agg #[.string ⟨#[]⟩, .slice none 0 0]) 40 (.tmp 12) (.tmp 19) rfl Try.underlying31 infoPort rfl (show 0 < 2 by decide) (by decide) none w.heap.size (HO.out.kept (Kept.of_below_all HB1.out (FootIn.none _) (Nat.le_refl _))) (FootIn.none _) (by omega) rfl y [.string y.name, .slice A3 y.bits.length c3] rfl ⟨_, rfl, HO1.out.rowS _ (fun g hg hm => hm.elim (fun hm => hm.elim (foot_none _ _) (fun hm => by have h1 := (HO1.out.base hg).1; have h2 := (HO.out.base hm).2; simp at h1; omega)) (fun hm => by have h1 := (HO1.out.base hg).1; have h2 := hS g hm; simp at h1; omega))⟩ (by omega) ?_); intro v' w' q1 q2 q3 q4 q5 q6; have HQ := Lib.hid (And.intro q1 q2); obtain ⟨A4, c4, hv', -, -⟩ := q1.shape; subst hv'; clear q1 q2 q3 q4 q5 q6))
      all_goals
        go_wp2
        go_roundw
        case rel => exact ⟨k + 1, by omega, by go_num, by rw [HT.out]; have h := HQ.out.1; rw [List.length_append] at h; exact h, (HK.out.trans (Kept.of_below_all HB1.out (FootIn.none _) hszw)).trans HQ.out.2⟩
        case measure => simp [intOf]; omega
    · obtain rfl : k = ps.length := by omega
      have hr : ps.take ps.length = ps := List.take_length
      generalize ps.take ps.length = r at hr ho ⊢
      subst hr
      go_wp2
      go_ret
      exact ⟨_, rfl, ho, hK.below⟩
theorem BRep.rows {w : World} {p : Nat} {st : BSt} (h : BRep w p st) : ∃ vn vi vo, w.cell? ⟨p, 0, none⟩ = some vn ∧ w.cell? ⟨p, 1, none⟩ = some vi ∧ w.cell? ⟨p, 2, none⟩ = some vo ∧
    Row kNode w (may w none w.heap.size) vn st.nodes ∧ Row kPort w (may w none w.heap.size) vi st.ins ∧ Row kPort w (may w none w.heap.size) vo st.outs := by
  obtain ⟨vn, vi, vo, h1, h2, h3, h4, h5, h6⟩ := h
  have ports : ∀ (v : Value) (ps : List Port), (∃ css, w.ownsRow 0 119 2 v ps.length css.flatten ∧ Pairs kPort w (fun i => i = p ∨ vn.ownBlock = some i ∨ vi.ownBlock = some i ∨ vo.ownBlock = some i) ps css) → Row kPort w (may w none w.heap.size) v ps := by
    rintro v ps ⟨css, r1, r2⟩
    have hO : Own kPort 119 w none 0 v ps → Row kPort w (may w none w.heap.size) v ps := fun h => h.row (by decide) (Nat.le_refl _)
    obtain ⟨A, c, hv, hc, hm⟩ := ownsRow_shape r1
    refine ⟨A, c, css, hv, hc, hm, ?_, r2.keep ⟨Nat.le_refl _, fun _ _ _ => rfl⟩ ?_, fun hn => ?_⟩
    · rcases r1.2 with ⟨rfl, _⟩ | ⟨g, cap, cur, rfl, _⟩
      · intro _; injection hv with _ _ e; exact e.symm
      · intro e; injection hv with e'; rw [e] at e'; cases e'
    · intro i hi hm
      rcases hm with h | h
      · omega
      · exact (foot_none _ _ h).elim
    · rcases r1.2 with ⟨_, h0⟩ | ⟨g, cap, cur, he, _, hgg, _⟩
      · omega
      · rw [hv] at he
        injection he with he
        subst he
        have hlt := (Array.getElem?_eq_some_iff.1 hgg).1
        refine ⟨g, 0, rfl, hlt, ?_, fun j u hu => ?_⟩
        · intro hm
          rcases hm with h | h
          · omega
          · exact foot_none _ _ h
        · have := r1.cells (g := g) (by rw [hv]; rfl) j u hu
          rw [Addr.add_lit] at this
          exact this
  exact ⟨vn, vi, vo, by rw [cell_of_row w p 0 _ _ _ h1]; rfl, by rw [cell_of_row w p 1 _ _ _ h1]; rfl, by rw [cell_of_row w p 2 _ _ _ h1]; rfl,
    h2.row (by decide) (Nat.le_refl _), ports vi _ h3, ports vo _ h4⟩

theorem Own.rowNodes {e : TypeId} {w : World} {B : Nat} {S : Nat → Prop} {v : Value} {ns : List Node} (h : Own kNode e w none B v ns) (hS : ∀ i, S i → i < B) : Row kNode w S v ns := by
  obtain ⟨A, c, css, rfl, r1, r2, r0, r3, r4⟩ := h.row (by decide) (Nat.le_refl _)
  refine ⟨A, c, css, rfl, r1, r2, r0, ⟨r3.1, fun i x cs hx hc => r3.2 i x cs hx hc⟩, fun hn => ?_⟩
  obtain ⟨b, off, rfl, q1, _, q3⟩ := r4 hn
  have := (h.base (g := b) rfl).1
  exact ⟨b, off, rfl, q1, fun hs => by have := hS b hs; omega, q3⟩
theorem Own.rowPorts {e : TypeId} {w : World} {B : Nat} {S : Nat → Prop} {v : Value} {ps : List Port} (h : Own (kPortOff S) e w none B v ps) (hS : ∀ i, S i → i < B) : Row kPort w S v ps := by
  obtain ⟨A, c, css, rfl, r1, r2, r0, r3, r4⟩ := h.row (show 0 < 2 by decide) (Nat.le_refl _)
  refine ⟨A, c, css, rfl, r1, r2, r0, ⟨r3.1, fun i x cs hx hc => ?_⟩, fun hn => ?_⟩
  · obtain ⟨v, rfl, hr⟩ := r3.2 i x cs hx hc
    exact ⟨v, rfl, hr.mono fun i _ h => .inr h⟩
  · obtain ⟨b, off, rfl, q1, _, q3⟩ := r4 hn
    have := (h.base (g := b) rfl).1
    exact ⟨b, off, rfl, q1, fun hs => by have := hS b hs; omega, q3⟩
theorem Row.later {α : Type} {k : Kd α} {w w' : World} {S : Nat → Prop} {v : Value} {xs : List α} (h : Row k w S v xs) (hb : Below w.heap.size w w') : Row k w' S v xs :=
  h.keep ⟨hb.size, fun i hi _ => hb.block i hi⟩ fun _ _ h => h
theorem cell_set3 {w : World} {g p j : Nat} {x y z v : Value} (h : p ≠ g) (hc : w.cell? ⟨p, j, none⟩ = some v) : (((w.setCell ⟨g, 0, none⟩ x).setCell ⟨g, 1, none⟩ y).setCell ⟨g, 2, none⟩ z).cell? ⟨p, j, none⟩ = some v := by
  rw [World.cell?_of_block (heap_setCell_other _ ⟨g, 2, none⟩ p z h), World.cell?_of_block (heap_setCell_other _ ⟨g, 1, none⟩ p y h), World.cell?_of_block (heap_setCell_other _ ⟨g, 0, none⟩ p x h)]
  exact hc
theorem heap_set3 {w : World} {g i : Nat} {x y z : Value} (h : i ≠ g) : (((w.setCell ⟨g, 0, none⟩ x).setCell ⟨g, 1, none⟩ y).setCell ⟨g, 2, none⟩ z).heap[i]? = w.heap[i]? := by
  rw [heap_setCell_other _ ⟨g, 2, none⟩ i z h, heap_setCell_other _ ⟨g, 1, none⟩ i y h, heap_setCell_other _ ⟨g, 0, none⟩ i x h]
theorem Row.bare0 {α : Type} {k : Kd α} {w : World} {S : Nat → Prop} {v : Value} {xs : List α} (h : Row k w S v xs) : Row k w (may w none w.heap.size) v xs :=
  h.mono fun i hi hm => hm.elim (fun h => by omega) (fun h => (foot_none _ _ h).elim)
theorem Row.done {α : Type} {k : Kd α} {w w' : World} {g : Nat} {S : Nat → Prop} {v : Value} {xs : List α} (h : Row k w (fun i => i = g ∨ S i) v xs) (hs : w.heap.size ≤ w'.heap.size) (hh : ∀ i, i ≠ g → w'.heap[i]? = w.heap[i]?) : Row k w' S v xs :=
  h.keep ⟨hs, fun i _ hn => hh i fun he => hn (.inl he)⟩ fun _ _ h => .inr h

set_option maxHeartbeats 2000000 in
set_option maxRecDepth 100000 in
theorem net_calls (w : World) (S : Nat → Prop) (hS : ∀ i, S i → i < w.heap.size) (p : Nat) (st : BSt) (hB : BRep w p st) (hl : st.nodes.length ≤ 1099511627776) (hi : st.ins.length ≤ 1099511627776) (ho : st.outs.length ≤ 1099511627776)
    (hbi : ∀ q ∈ st.ins, q.bits.length ≤ 1099511627776) (hbo : ∀ q ∈ st.outs, q.bits.length ≤ 1099511627776) :
    Calls Try.prog 19 #[.pointer (some ⟨p, 0, none⟩)] w fun e w' => ∃ vn vi vo, e = .returned (.agg #[vn, vi, vo]) ∧
      Row kNode w' S vn st.nodes ∧ Row kPort w' S vi st.ins ∧ Row kPort w' S vo st.outs ∧ Below w.heap.size w w' := by
  obtain ⟨vn, vi, vo, c0, c1, c2, rn, ri, ro⟩ := hB.rows
  have hpl := hB.lt
  obtain ⟨An, cn, rfl, -, -⟩ := rn.shape
  obtain ⟨Ai, ci, rfl, -, -⟩ := ri.shape
  obtain ⟨Ao, co, rfl, -, -⟩ := ro.shape
  let ob : Obj := .cells #[.slice none 0 0, .slice none 0 0, .slice none 0 0] 33
  have hb0 : Below w.heap.size w (w.alloc ob).drew := ((Below.refl _ _).alloc (Nat.le_refl _) ob).drew
  have hobj : ∀ j, (w.alloc ob).drew.cell? ⟨w.heap.size, j, none⟩ = (#[.slice none 0 0, .slice none 0 0, .slice none 0 0] : Array Value)[j]? := fun j => World.cell?_alloc_new _ _ _ j
  have hfz : ∀ j, (w.alloc ob).drew.frozen? ⟨w.heap.size, j, none⟩ = false := fun j => World.frozen?_alloc_new _ _ _ j
  have hszb : (w.alloc ob).drew.heap.size = w.heap.size + 1 := by simp
  have hp0 : p < (w.alloc ob).drew.heap.size := by rw [hszb]; omega
  have HC := Lib.hid (And.intro ((hb0.cell (p := ⟨p, 0, none⟩) hpl).trans c0) (And.intro ((hb0.cell (p := ⟨p, 1, none⟩) hpl).trans c1) ((hb0.cell (p := ⟨p, 2, none⟩) hpl).trans c2)))
  have RN := Lib.hid (rn.later (w' := (w.alloc ob).drew) hb0)
  have RI := Lib.hid (ri.later (w' := (w.alloc ob).drew) hb0)
  have RO := Lib.hid (ro.later (w' := (w.alloc ob).drew) hb0)
  have HB0 := Lib.hid hb0
  have HBI := Lib.hid hbi
  have HBO := Lib.hid hbo
  have HOB := Lib.hid (And.intro hobj (And.intro hfz hszb))
  clear rn ri ro hb0 hbi hbo hB hobj hfz hszb
  subst ob
  go_enter Try.func19, Try.ntmps19
  go_wp2_with fail
  go_region_held3 (fun W => W.cell? ⟨p, 0, none⟩ = some (.slice An st.nodes.length cn) ∧ W.cell? ⟨p, 1, none⟩ = some (.slice Ai st.ins.length ci) ∧ W.cell? ⟨p, 2, none⟩ = some (.slice Ao st.outs.length co))
    (first | exact HC.out | exact ⟨c0a, c1a, c2a⟩ | exact ⟨c0b, c1b, c2b⟩ | exact ⟨c0c, c1c, c2c⟩ | exact ⟨cell_set3 (Nat.ne_of_lt hpl) c0c, cell_set3 (Nat.ne_of_lt hpl) c1c, cell_set3 (Nat.ne_of_lt hpl) c2c⟩ | go_keep)
    (first
    | (go_simp; go_at_call 92; refine (clone_nodes_calls _ _ st.nodes _ RN.out hl).mono ?_; rintro e w1 ⟨v1, rfl, o1, b1⟩; obtain ⟨A1, d1, rfl, -, -⟩ := o1.shape; have c0a := (b1.cell (p := ⟨p, 0, none⟩) hp0).trans HC.out.1; have c1a := (b1.cell (p := ⟨p, 1, none⟩) hp0).trans HC.out.2.1; have c2a := (b1.cell (p := ⟨p, 2, none⟩) hp0).trans HC.out.2.2; have H1 := Lib.hid (And.intro o1 b1); clear o1 b1)
    | (go_simp; go_at_call 91; ((with_reducible refine (copied_calls _ (fun i => i = w.heap.size ∨ S i) (fun i hi => Nat.lt_of_lt_of_le (hi.elim (fun h => by rw [h]; simp) (fun h => by have := hS i h; simp; omega)) H1.out.2.size) _ st.ins ((RI.out.later H1.out.2).bare0) hi HBI.out).mono ?_); rintro e w2 ⟨v2, rfl, o2, b2⟩; obtain ⟨A2, d2, rfl, -, -⟩ := o2.shape; have hp1 : p < w1.heap.size := Nat.lt_of_lt_of_le (by simp; omega) H1.out.2.size; have c0b := (b2.cell (p := ⟨p, 0, none⟩) hp1).trans c0a; have c1b := (b2.cell (p := ⟨p, 1, none⟩) hp1).trans c1a; have c2b := (b2.cell (p := ⟨p, 2, none⟩) hp1).trans c2a; have H2 := Lib.hid (And.intro o2 b2); clear o2 b2))
    | (go_simp; go_at_call 91; ((with_reducible refine (copied_calls _ (fun i => i = w.heap.size ∨ S i) (fun i hi => Nat.lt_of_lt_of_le (hi.elim (fun h => by rw [h]; simp) (fun h => by have := hS i h; simp; omega)) (Nat.le_trans H1.out.2.size H2.out.2.size)) _ st.outs (((RO.out.later H1.out.2).later H2.out.2).bare0) ho HBO.out).mono ?_); rintro e w3 ⟨v3, rfl, o3, b3⟩; obtain ⟨A3, d3, rfl, -, -⟩ := o3.shape; have hp2 : p < w2.heap.size := Nat.lt_of_lt_of_le hp1 H2.out.2.size; have hg0 : w.heap.size < (w.alloc (.cells #[.slice none 0 0, .slice none 0 0, .slice none 0 0] 33)).drew.heap.size := (by simp); have hg1 := Nat.lt_of_lt_of_le hg0 H1.out.2.size; have hg2 := Nat.lt_of_lt_of_le hg1 H2.out.2.size; have z0 := (b3.cell (p := ⟨w.heap.size, 0, none⟩) hg2).trans ((H2.out.2.cell (p := ⟨w.heap.size, 0, none⟩) hg1).trans ((H1.out.2.cell (p := ⟨w.heap.size, 0, none⟩) hg0).trans (HOB.out.1 0))); have y0 := (b3.frozen (p := ⟨w.heap.size, 0, none⟩) hg2).trans ((H2.out.2.frozen (p := ⟨w.heap.size, 0, none⟩) hg1).trans ((H1.out.2.frozen (p := ⟨w.heap.size, 0, none⟩) hg0).trans (HOB.out.2.1 0))); have z1 := (b3.cell (p := ⟨w.heap.size, 1, none⟩) hg2).trans ((H2.out.2.cell (p := ⟨w.heap.size, 1, none⟩) hg1).trans ((H1.out.2.cell (p := ⟨w.heap.size, 1, none⟩) hg0).trans (HOB.out.1 1))); have y1 := (b3.frozen (p := ⟨w.heap.size, 1, none⟩) hg2).trans ((H2.out.2.frozen (p := ⟨w.heap.size, 1, none⟩) hg1).trans ((H1.out.2.frozen (p := ⟨w.heap.size, 1, none⟩) hg0).trans (HOB.out.2.1 1))); have z2 := (b3.cell (p := ⟨w.heap.size, 2, none⟩) hg2).trans ((H2.out.2.cell (p := ⟨w.heap.size, 2, none⟩) hg1).trans ((H1.out.2.cell (p := ⟨w.heap.size, 2, none⟩) hg0).trans (HOB.out.1 2))); have y2 := (b3.frozen (p := ⟨w.heap.size, 2, none⟩) hg2).trans ((H2.out.2.frozen (p := ⟨w.heap.size, 2, none⟩) hg1).trans ((H1.out.2.frozen (p := ⟨w.heap.size, 2, none⟩) hg0).trans (HOB.out.2.1 2))); have c0c := (b3.cell (p := ⟨p, 0, none⟩) hp2).trans c0b; have c1c := (b3.cell (p := ⟨p, 1, none⟩) hp2).trans c1b; have c2c := (b3.cell (p := ⟨p, 2, none⟩) hp2).trans c2b; simp only [List.getElem?_toArray, List.getElem?_cons_zero, List.getElem?_cons_succ] at z0 z1 z2; have H3 := Lib.hid (And.intro o3 b3); clear o3 b3)))
  go_wp2
  have hg3 : w.heap.size < w3.heap.size := Nat.lt_of_lt_of_le hg2 H3.out.2.size
  have hSx : ∀ i, (i = w.heap.size ∨ S i) → i < (w.alloc (.cells #[.slice none 0 0, .slice none 0 0, .slice none 0 0] 33)).drew.heap.size := fun i hi => hi.elim (fun h => by rw [h]; simp) (fun h => by have := hS i h; simp; omega)
  have R1 := (H1.out.1.rowNodes (S := fun i => i = w.heap.size ∨ S i) hSx).later H2.out.2 |>.later H3.out.2
  have R2 := (H2.out.1.rowPorts (S := fun i => i = w.heap.size ∨ S i) (fun i hi => Nat.lt_of_lt_of_le (hSx i hi) H1.out.2.size)).later H3.out.2
  have R3 := H3.out.1.rowPorts (S := fun i => i = w.heap.size ∨ S i) (fun i hi => Nat.lt_of_lt_of_le (hSx i hi) (Nat.le_trans H1.out.2.size H2.out.2.size))
  have hbel : Below w.heap.size w w3 := ((HB0.out.trans (H1.out.2.mono (by simp))).trans (H2.out.2.mono (Nat.le_of_lt hg1))).trans (H3.out.2.mono (Nat.le_of_lt hg2))
  refine bodyPost_ret (v := .agg #[.slice A1 st.nodes.length d1, .slice A2 st.ins.length d2, .slice A3 st.outs.length d3]) ?_ rfl ⟨_, _, _, rfl, R1.done (by simp) (fun i hi => heap_set3 hi), R2.done (by simp) (fun i hi => heap_set3 hi), R3.done (by simp) (fun i hi => heap_set3 hi), ?_⟩
  · simp [results, Try.results19, go_sem, z0, z1, z2]
  · exact ((hbel.setCell (Nat.le_refl _) _).setCell (Nat.le_refl _) _).setCell (Nat.le_refl _) _
end Go.Proofs.Ytdljgifoboiaeaa

/-! ## Registers in a row. -/
namespace Go.Proofs.Ytdljgifoboiaeaa
open Go.RowKit

def onePart (f : Int → BSt → Int × BSt) (X : List Int) (k : Nat) (s : BSt) : List Int := (mapS f (X.take k) s).1 ++ X.drop k
theorem onePart_zero (f : Int → BSt → Int × BSt) (X : List Int) (s : BSt) : onePart f X 0 s = X := by simp [onePart, mapS]
theorem onePart_at (f : Int → BSt → Int × BSt) (X : List Int) (k : Nat) (s : BSt) (hk : k < X.length) : (onePart f X k s)[k]? = some X[k] := by
  have hl : (mapS f (X.take k) s).1.length = k := by simp [mapS_length]; omega
  unfold onePart
  rw [List.getElem?_append_right (by omega), hl, Nat.sub_self, List.getElem?_drop, Nat.add_zero, List.getElem?_eq_getElem hk]
theorem onePart_succ (f : Int → BSt → Int × BSt) (X : List Int) (k : Nat) (s : BSt) (hk : k < X.length) :
    (onePart f X k s).set k (f X[k] (mapS f (X.take k) s).2).1 = onePart f X (k + 1) s ∧ (f X[k] (mapS f (X.take k) s).2).2 = (mapS f (X.take (k + 1)) s).2 := by
  have hl : (mapS f (X.take k) s).1.length = k := by simp [mapS_length]; omega
  have hs := mapS_take_succ f X k hk s
  refine ⟨?_, by rw [hs]⟩
  unfold onePart
  rw [hs, List.set_append_right _ _ (by omega), hl, Nat.sub_self, List.drop_eq_getElem_cons hk, List.set_cons_zero, List.append_assoc]
  rfl
theorem onePart_all (f : Int → BSt → Int × BSt) (X : List Int) (s : BSt) : onePart f X X.length s = (mapS f X s).1 := by simp [onePart]
theorem regs_length (xs : List Int) (n : Nat) (s : BSt) : (bRegs xs n s).1.length = xs.length := by
  induction n with
  | zero => rfl
  | succ n ih => rw [bRegs, mapS_length, ih]
theorem regs_mono (xs : List Int) (s : BSt) {m n : Nat} (h : m ≤ n) : Ext (bRegs xs m s).2 (bRegs xs n s).2 := by
  induction h with
  | refl => exact Ext.refl _
  | step _ ih => exact ih.trans (mapS_ext _ (fun _ s => lay_ext _ s) _ _)

attribute [local go_sem] max2_int min2_int max_two min_two in
set_option maxHeartbeats 2000000 in
theorem regs_calls (w : World) (p : Nat) (st : BSt) (S : Nat → Prop) (v : Value) (xs : List Int) (n : Nat) (hB : BRep w p st) (hx : Row kInt w S v xs) (hl : xs.length ≤ 1099511627776) (hn : n ≤ 1099511627776) (hf : (bRegs xs n st).2.nodes.length < 1099511627776) :
    Calls Try.prog 18 #[.pointer (some ⟨p, 0, none⟩), v, .int .i64 n] w
      fun e w' => ∃ v', e = .returned v' ∧ Own kInt 3 w' (some p) w.heap.size v' (bRegs xs n st).1 ∧ Laid w p (bRegs xs n st).2 w' := by
  have hle : ∀ j, j < n → ∀ k, (mapS (fun x => bReg x 0) ((bRegs xs j st).1.take k) (bRegs xs j st).2).2.nodes.length < 1099511627776 := fun j hj k =>
    Nat.lt_of_le_of_lt ((mapS_ext_le (fun x => bReg x 0) (fun _ s => lay_ext _ s) _ k _).trans (regs_mono xs st (show j + 1 ≤ n from hj))).len hf
  have HLE := Lib.hid hle
  clear hle hf
  have HBR := Lib.hid hB
  go_enter Try.func18, Try.ntmps18
  go_wp2_with fail
  refine (clone_calls w _ xs S hx hl).mono ?_
  rintro e w1 ⟨v1, rfl, ho1, hb1⟩
  have hO := ho1.give HBR.out.fin hb1
  have hL1 : Laid w p st w1 := (Laid.refl HBR.out).quiet hb1
  obtain ⟨A, c, rfl, -, -⟩ := hO.shape
  have HO := Lib.hid hO
  have HL := Lib.hid hL1
  have hmx : max (n : Int) 0 = n := by omega
  clear hO hL1 ho1 hb1 hB hx
  go_wp2_with fail
  go_loopw [13] (fun i wr => ∃ j : Nat, j ≤ n ∧ i = .int .i64 j ∧ Own kInt 3 wr (some p) w.heap.size (.slice A xs.length c) (bRegs xs j st).1 ∧ Laid w p (bRegs xs j st).2 wr) (fun i _ => n - (intOf i).toNat)
  case atStart => exact ⟨0, Nat.zero_le _, rfl, HO.out, HL.out⟩
  case round =>
    obtain ⟨wo, rfl⟩ : ∃ wo : World, wo = wr := ⟨_, rfl⟩
    obtain ⟨j, hj, rfl, ho, hL⟩ := hrel
    by_cases hlt : j < n
    · have HO := Lib.hid ho
      have HL := Lib.hid hL
      have hxl := regs_length xs j st
      have HS := Lib.hid (show bRegs xs (j + 1) st = mapS (fun x => bReg x 0) (bRegs xs j st).1 (bRegs xs j st).2 from rfl)
      have HLJ := Lib.hid (HLE.out j hlt)
      generalize (bRegs xs j st).1 = X at *
      generalize (bRegs xs j st).2 = s0 at *
      have HXL := Lib.hid hxl
      clear ho hL hxl
      go_wp2_with fail
      go_loopw [17] (fun i wr => ∃ k : Nat, k ≤ X.length ∧ i = .int .i64 k ∧ Own kInt 3 wr (some p) w.heap.size (.slice A xs.length c) (onePart (fun x => bReg x 0) X k s0) ∧ Laid w p (mapS (fun x => bReg x 0) (X.take k) s0).2 wr) (fun i _ => X.length - (intOf i).toNat)
      case atStart => exact ⟨0, Nat.zero_le _, rfl, by rw [onePart_zero]; exact HO.out, HL.out⟩
      case round =>
        obtain ⟨k, hk, rfl, hok, hLk⟩ := hrel
        by_cases hkl : k < X.length
        · have hxk : k < xs.length := by have := HXL.out; omega
          obtain ⟨g, c2, hee, -, -⟩ := hok.form (by have h := hok.shape; obtain ⟨_, _, he, _⟩ := h; injection he; omega)
          injection hee with he1 he2 he3
          subst he1
          obtain ⟨x0, x1⟩ := hok.cellAt? (onePart_at _ X k s0 hkl)
          have HSS := Lib.hid (onePart_succ (fun x => bReg x 0) X k s0 hkl)
          have hlk := HLJ.out k
          generalize (mapS (fun x => bReg x 0) (X.take k) s0).2 = sk at *
          have HOK := Lib.hid hok
          have HAT := Lib.hid (onePart_at (fun x => bReg x 0) X k s0 hkl)
          have HLK := Lib.hid hLk
          clear hok hLk he2 he3
          generalize X[k] = x at *
          go_wp2_with (go_at_call 85; refine (reg_calls _ p sk _ _ HLK.out.1 hlk).mono ?_; rintro e w2 ⟨rfl, hL2⟩; have hc2 := (HOK.out.laid hL2).cellAt? HAT.out; obtain ⟨hc2a, hc2b⟩ := hc2; have HL2 := Lib.hid hL2; clear hL2)
          go_roundw
          case rel =>
            obtain ⟨r1, r2, -⟩ := each_step (HLK.out.trans HL2.out) (HOK.out.laid HL2.out) k (bReg x 0 sk).1
            exact ⟨k + 1, by omega, by go_num, by rw [← HSS.out.1]; exact r1, by rw [← HSS.out.2]; exact r2⟩
          case measure => simp [intOf]; omega
        · obtain rfl : k = X.length := by omega
          have HH := Lib.hid (And.intro hok hLk)
          have hxk : ¬ X.length < xs.length := by have := HXL.out; omega
          have hxe := HXL.out
          clear hok hLk
          go_wp2
          go_roundw
          case rel => exact ⟨j + 1, by omega, by go_num, by rw [HS.out, ← onePart_all]; exact HH.out.1, by have h := HH.out.2; rw [List.take_length] at h; rw [HS.out]; exact h⟩
          case measure => simp [intOf]; omega
    · obtain rfl : j = n := by omega
      have HH := Lib.hid (And.intro ho hL)
      clear ho hL
      go_wp2
      go_ret
      exact ⟨_, rfl, HH.out.1, HH.out.2⟩
end Go.Proofs.Ytdljgifoboiaeaa
