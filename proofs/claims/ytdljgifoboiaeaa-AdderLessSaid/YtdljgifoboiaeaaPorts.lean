/- A port laid behind the others. -/
import Derived.Test.YtdljgifoboiaeaaGates
namespace Go.Proofs.Ytdljgifoboiaeaa
open Go.RowKit

/-- the ins' slice replaced by a grown one -/
theorem BRep.pushIns {w : World} {p : Nat} {st : BSt} (h : BRep w p st) : ∃ (vi : Value) (css : List (List Value)), w.cell? ⟨p, 1, none⟩ = some vi ∧ vi.ownBlock ≠ some p ∧ w.ownsRow 0 119 2 vi st.ins.length css.flatten ∧
    ∀ {w1 : World} {v1 : Value} {port : Port} {u : Value} {B : Nat}, w1.ownsRow 0 119 2 v1 (st.ins.length + 1) (css.flatten ++ [.string port.name, u]) → w.grownBy w1 vi.ownBlock → (v1.ownBlock = vi.ownBlock ∨ ∃ b, v1.ownBlock = some b ∧ w.heap.size ≤ b) →
      Row kInt w (fun i => foot w (some p) i) u port.bits → (∀ g, u.ownBlock = some g → B ≤ g ∧ g < w.heap.size) → B ≤ w.heap.size →
      BRep (w1.setCell ⟨p, 1, none⟩ v1) p { st with ins := st.ins ++ [port] } ∧ Kept B (some p) w (w1.setCell ⟨p, 1, none⟩ v1) ∧ Same (fun i => foot w (some p) i) w (w1.setCell ⟨p, 1, none⟩ v1) := by
  obtain ⟨vn, vi, vo, h1, h2, h3, h4, h5, h6⟩ := h
  have kn : ∀ g, vn.ownBlock = some g → foot w (some p) g := fun g hg => ⟨p, rfl, .inr (.inl (kids_cell h1 (j := 0) rfl hg))⟩
  have ki : ∀ g, vi.ownBlock = some g → foot w (some p) g := fun g hg => ⟨p, rfl, .inr (.inl (kids_cell h1 (j := 1) rfl hg))⟩
  have ko : ∀ g, vo.ownBlock = some g → foot w (some p) g := fun g hg => ⟨p, rfl, .inr (.inl (kids_cell h1 (j := 2) rfl hg))⟩
  have tn : ∀ g, vn.ownBlock = some g → ∃ cur, w.heap[g]? = some (.cells cur 117 (0, 0)) := by
    intro g hg'
    obtain ⟨css, r1, _⟩ := h2
    rcases r1.2 with ⟨rfl, _⟩ | ⟨g', cap, cur, rfl, _, hgg, _⟩
    · cases hg'
    · injection hg' with hg'; subst hg'; exact ⟨cur, hgg⟩
  have tp : ∀ (v : Value) (n : Nat) (xs : List Value), w.ownsRow 0 119 2 v n xs → ∀ g, v.ownBlock = some g → ∃ cur, w.heap[g]? = some (.cells cur 119 (0, 0)) := by
    intro v n xs r1 g hg'
    rcases r1.2 with ⟨rfl, _⟩ | ⟨g', cap, cur, rfl, _, hgg, _⟩
    · cases hg'
    · injection hg' with hg'; subst hg'; exact ⟨cur, hgg⟩
  have np : ∀ (v : Value) (n : Nat) (xs : List Value), w.ownsRow 0 119 2 v n xs → ∀ g, v.ownBlock = some g → g ≠ p ∧ vn.ownBlock ≠ some g := by
    intro v n xs r1 g hgv
    obtain ⟨cur, hgg⟩ := tp v n xs r1 g hgv
    constructor
    · intro e; rw [e, h1] at hgg; injection hgg with hgg; injection hgg with _ hgg; exact absurd hgg (by decide)
    · intro e
      obtain ⟨cur', hgg'⟩ := tn g e
      rw [hgg'] at hgg; injection hgg with hgg; injection hgg with _ hgg; exact absurd hgg (by decide)
  have nnp : ∀ g, vn.ownBlock = some g → g ≠ p := by
    intro g hgv e
    obtain ⟨cur, hgg⟩ := tn g hgv
    rw [e, h1] at hgg; injection hgg with hgg; injection hgg with _ hgg; exact absurd hgg (by decide)
  have hot : ∀ g, vo.ownBlock = some g → vi.ownBlock = some g → False := by
    have h5' : ∀ g, vi.ownBlock = some g → vo.ownBlock = some g → False := by
      rcases h5 with h | h
      · intro g h1' h2'; rw [h] at h1'; cases h1'
      · intro g h1' h2'; exact h (h1'.trans h2'.symm)
    intro g ha hb; first | exact h5' g ha hb | exact h5' g hb ha
  obtain ⟨css, r1, r2⟩ := h3
  have hmp : vi.ownBlock ≠ some p := fun e => (np _ _ _ r1 p e).1 rfl
  refine ⟨vi, css, by rw [cell_of_row w p 1 _ _ _ h1]; rfl, hmp, r1, ?_⟩
  intro w1 v1 port u B q1 hg hat hu hub hBw
  have hpl : p < w.heap.size := (Array.getElem?_eq_some_iff.1 h1).1
  have hp1 : w1.heap[p]? = some (.cells #[vn, vi, vo] 122 (0, 0)) := by rw [hg.block p hpl (fun e => hmp e.symm)]; exact h1
  have hp2 : (w1.setCell ⟨p, 1, none⟩ v1).heap[p]? = some (.cells #[vn, v1, vo] 122 (0, 0)) := by
    rw [heap_setCell_same w1 p 1 _ _ v1 hp1]; rfl
  have hpo : ∀ i, i ≠ p → (w1.setCell ⟨p, 1, none⟩ v1).heap[i]? = w1.heap[i]? := fun i hi => heap_setCell_other w1 ⟨p, 1, none⟩ i v1 hi
  have hold : ∀ i, i < w.heap.size → i ≠ p → vi.ownBlock ≠ some i → (w1.setCell ⟨p, 1, none⟩ v1).heap[i]? = w.heap[i]? := fun i hi hip hin => by
    rw [hpo i hip]; exact hg.block i hi (fun e => hin e.symm)
  have hnew : ∀ i, i < w.heap.size → v1.ownBlock = some i → vi.ownBlock = some i := by
    intro i hi he
    rcases hat with h | ⟨b, h, hb⟩
    · rw [← h]; exact he
    · rw [h] at he; injection he with he; omega
  have hsz : w.heap.size ≤ (w1.setCell ⟨p, 1, none⟩ v1).heap.size := by rw [World.size_setCell]; exact hg.size
  have ht1 : ∀ g, v1.ownBlock = some g → (∃ cur, w1.heap[g]? = some (.cells cur 119 (0, 0))) ∧ g < w1.heap.size := by
    intro g hg'
    rcases q1.2 with ⟨rfl, _⟩ | ⟨g', cap, cur, rfl, _, hgg, _⟩
    · cases hg'
    · injection hg' with hg'; subst hg'; exact ⟨⟨cur, hgg⟩, (Array.getElem?_eq_some_iff.1 hgg).1⟩
  have h1p : ∀ g, v1.ownBlock = some g → g ≠ p := by
    intro g hgv e
    obtain ⟨⟨cur, hgg⟩, _⟩ := ht1 g hgv
    rw [e, hp1] at hgg; injection hgg with hgg; injection hgg with _ hgg; exact absurd hgg (by decide)
  have hN2 : Own kNode 117 (w1.setCell ⟨p, 1, none⟩ v1) none 0 vn st.nodes := by
    obtain ⟨dss, s1, s2, s3⟩ := h2
    refine ⟨dss, ⟨s1.1, ?_⟩, ⟨s2.1, fun i x cs hx hc => s2.2 i x cs hx hc⟩, fun g hg hf => foot_none _ _ hf⟩
    rcases s1.2 with hn | ⟨g, cap, cur, rfl, hb, hgg, rest⟩
    · exact .inl hn
    · refine .inr ⟨g, cap, cur, rfl, hb, ?_, rest⟩
      rw [hold g (h6 g (kn g rfl)) (nnp g rfl) (fun e => (np _ _ _ r1 g e).2 rfl)]
      exact hgg
  have old : ∃ css, (w1.setCell ⟨p, 1, none⟩ v1).ownsRow 0 119 2 vo st.outs.length css.flatten ∧ Pairs kPort (w1.setCell ⟨p, 1, none⟩ v1) (fun i => i = p ∨ vn.ownBlock = some i ∨ v1.ownBlock = some i ∨ vo.ownBlock = some i) st.outs css := by
    obtain ⟨dss, s1, s2⟩ := h4
    refine ⟨dss, ⟨s1.1, ?_⟩, s2.keep ⟨hsz, fun i hi hn => ?_⟩ fun i hi hm => ?_⟩
    · rcases s1.2 with hn | ⟨g, cap, cur, rfl, hb, hgg, rest⟩
      · exact .inl hn
      · refine .inr ⟨g, cap, cur, rfl, hb, ?_, rest⟩
        rw [hold g (h6 g (ko g rfl)) (np _ _ _ s1 g rfl).1 (fun e => hot g rfl e)]
        exact hgg
    · rw [hpo i (fun e => hn (.inl e))]
      exact hg.block i hi (fun e => hn (.inr (.inr (.inl e.symm))))
    · rcases hm with h | h | h | h
      · exact .inl h
      · exact .inr (.inl h)
      · exact .inr (.inr (.inl (hnew i hi h)))
      · exact .inr (.inr (.inr h))
  have new : ∃ css, (w1.setCell ⟨p, 1, none⟩ v1).ownsRow 0 119 2 v1 (st.ins ++ [port]).length css.flatten ∧ Pairs kPort (w1.setCell ⟨p, 1, none⟩ v1) (fun i => i = p ∨ vn.ownBlock = some i ∨ v1.ownBlock = some i ∨ vo.ownBlock = some i) (st.ins ++ [port]) css := by
    refine ⟨css ++ [[.string port.name, u]], ?_, (r2.keep ⟨hsz, fun i hi hn => ?_⟩ fun i hi hm => ?_).snoc ⟨u, rfl, hu.keep ⟨hsz, fun i hi hn => ?_⟩ fun i hi hm => ?_⟩⟩
    · rw [List.length_append, List.flatten_append]
      simp only [List.length_cons, List.length_nil, Nat.zero_add, List.flatten_cons, List.flatten_nil, List.append_nil]
      refine ⟨q1.1, ?_⟩
      rcases q1.2 with hn | ⟨g, cap, cur, rfl, hb, hgg, rest⟩
      · exact .inl hn
      · exact .inr ⟨g, cap, cur, rfl, hb, by rw [hpo g (h1p g rfl)]; exact hgg, rest⟩
    · rw [hpo i (fun e => hn (.inl e))]
      exact hg.block i hi (fun e => hn (.inr (.inr (.inl e.symm))))
    · rcases hm with h | h | h | h
      · exact .inl h
      · exact .inr (.inl h)
      · exact .inr (.inr (.inl (hnew i hi h)))
      · exact .inr (.inr (.inr h))
    · rw [hpo i (fun e => hn ⟨p, rfl, .inl e⟩)]
      exact hg.block i hi (fun e => hn (ki i e.symm))
    · rcases hm with h | h | h | h
      · subst h; exact ⟨_, rfl, .inl rfl⟩
      · exact kn i h
      · exact ki i (hnew i hi h)
      · exact ko i h
  have hdis : v1.ownBlock = none ∨ v1.ownBlock ≠ vo.ownBlock := by
    rcases hat with h | ⟨b, h, hb⟩
    · rw [h]; exact h5
    · refine .inr fun e => ?_
      have := h6 b (ko b (by rw [← e]; exact h))
      omega
  have hfoot : ∀ i, foot (w1.setCell ⟨p, 1, none⟩ v1) (some p) i → foot w (some p) i ∨ v1.ownBlock = some i ∨ u.ownBlock = some i := by
    rintro i ⟨b, hb, hi⟩
    injection hb with hb; subst hb
    rcases hi with rfl | ⟨j, x, hc, hx⟩ | ⟨j, q, off, n, c, j', x, hc, hj, hc', hx⟩
    · exact .inl ⟨_, rfl, .inl rfl⟩
    · rw [cell_of_row _ p j _ _ _ hp2] at hc
      match j, hc with
      | 0, hc => simp at hc; subst hc; exact .inl (kn i hx)
      | 1, hc => simp at hc; subst hc; exact .inr (.inl hx)
      | 2, hc => simp at hc; subst hc; exact .inl (ko i hx)
    · rw [cell_of_row _ p j _ _ _ hp2] at hc
      match j, hc with
      | 0, hc =>
        simp at hc; subst hc
        refine .inl ⟨p, rfl, .inr (.inr ⟨0, q, off, _, c, j', x, by rw [cell_of_row w p 0 _ _ _ h1]; rfl, hj, ?_, hx⟩)⟩
        rw [← hc']; exact (World.cell?_of_block (hold q (h6 q (kn q rfl)) (nnp q rfl) (fun e => (np _ _ _ r1 q e).2 rfl))).symm
      | 2, hc =>
        simp at hc; subst hc
        obtain ⟨dss, s1, _⟩ := h4
        refine .inl ⟨p, rfl, .inr (.inr ⟨2, q, off, _, c, j', x, by rw [cell_of_row w p 2 _ _ _ h1]; rfl, hj, ?_, hx⟩)⟩
        rw [← hc']; exact (World.cell?_of_block (hold q (h6 q (ko q rfl)) (np _ _ _ s1 q rfl).1 (fun e => hot q rfl e))).symm
      | 1, hc =>
        simp at hc; subst hc
        have hqp := h1p q rfl
        have hc2 := (World.cell?_of_block (a := ⟨q, off + j', none⟩) (hpo q hqp)).symm.trans hc'
        rcases q1.2 with ⟨hv, _⟩ | ⟨g', cap, cur, hv, _, hgg, _⟩
        · cases hv
        · injection hv with hv hn; injection hv with hv; injection hv with e1 e2
          subst e1; subst e2; subst hn
          have hlen := q1.1
          have hj4 : j' < (css.flatten ++ [.string port.name, u]).length := by rw [hlen]; exact hj
          obtain ⟨y, hy⟩ : ∃ y, (css.flatten ++ [.string port.name, u])[j']? = some y := ⟨_, List.getElem?_eq_getElem hj4⟩
          have hx2 := q1.cells (g := q) rfl j' y hy
          rw [Addr.add_lit, hc2] at hx2
          injection hx2 with hx2
          subst hx2
          have hl0 := r1.1
          by_cases hjo : j' < css.flatten.length
          · rw [List.getElem?_append_left hjo] at hy
            rcases r1.2 with ⟨rfl, h0⟩ | ⟨g0, cap0, cur0, rfl, _, hgg0, _⟩
            · omega
            · have hx3 := r1.cells (g := g0) rfl j' x hy
              rw [Addr.add_lit] at hx3
              exact .inl ⟨p, rfl, .inr (.inr ⟨1, g0, 0, _, cap0, j', x, by rw [cell_of_row w p 1 _ _ _ h1]; rfl, by omega, hx3, hx⟩)⟩
          · rw [List.getElem?_append_right (by omega)] at hy
            have hcase : j' - css.flatten.length = 0 ∨ j' - css.flatten.length = 1 := by
              rw [List.length_append] at hj4
              simp only [List.length_cons, List.length_nil] at hj4
              omega
            rcases hcase with h | h
            · rw [h] at hy; simp at hy; subst hy; simp [Value.ownBlock] at hx
            · rw [h] at hy; simp at hy; subst hy; exact .inr (.inr hx)
  have hfin : FootIn (w1.setCell ⟨p, 1, none⟩ v1) (some p) := by
    intro i hi
    rcases hfoot i hi with h | h | h
    · exact Nat.lt_of_lt_of_le (h6 i h) hsz
    · rw [World.size_setCell]; exact (ht1 i h).2
    · exact Nat.lt_of_lt_of_le (hub i h).2 hsz
  refine ⟨⟨vn, v1, vo, hp2, hN2, new, old, hdis, hfin⟩, ⟨hg.os, hg.tape, hg.output, hsz, fun i hi hn => ?_, fun i hi hf => ?_⟩, hsz, fun i hi hn => hold i hi (fun e => hn ⟨p, rfl, .inl e⟩) (fun e => hn (ki i e))⟩
  · rw [hpo i (fun e => hn ⟨p, rfl, .inl e⟩)]
    exact hg.block i (by omega) (fun e => hn (ki i e.symm))
  · rcases hfoot i hf with h | h | h
    · exact h
    · exact ki i (hnew i (by omega) h)
    · have := (hub i h).1; omega

/-- the outs' slice replaced by a grown one -/
theorem BRep.pushOuts {w : World} {p : Nat} {st : BSt} (h : BRep w p st) : ∃ (vo : Value) (css : List (List Value)), w.cell? ⟨p, 2, none⟩ = some vo ∧ vo.ownBlock ≠ some p ∧ w.ownsRow 0 119 2 vo st.outs.length css.flatten ∧
    ∀ {w1 : World} {v1 : Value} {port : Port} {u : Value} {B : Nat}, w1.ownsRow 0 119 2 v1 (st.outs.length + 1) (css.flatten ++ [.string port.name, u]) → w.grownBy w1 vo.ownBlock → (v1.ownBlock = vo.ownBlock ∨ ∃ b, v1.ownBlock = some b ∧ w.heap.size ≤ b) →
      Row kInt w (fun i => foot w (some p) i) u port.bits → (∀ g, u.ownBlock = some g → B ≤ g ∧ g < w.heap.size) → B ≤ w.heap.size →
      BRep (w1.setCell ⟨p, 2, none⟩ v1) p { st with outs := st.outs ++ [port] } ∧ Kept B (some p) w (w1.setCell ⟨p, 2, none⟩ v1) ∧ Same (fun i => foot w (some p) i) w (w1.setCell ⟨p, 2, none⟩ v1) := by
  obtain ⟨vn, vi, vo, h1, h2, h3, h4, h5, h6⟩ := h
  have kn : ∀ g, vn.ownBlock = some g → foot w (some p) g := fun g hg => ⟨p, rfl, .inr (.inl (kids_cell h1 (j := 0) rfl hg))⟩
  have ki : ∀ g, vi.ownBlock = some g → foot w (some p) g := fun g hg => ⟨p, rfl, .inr (.inl (kids_cell h1 (j := 1) rfl hg))⟩
  have ko : ∀ g, vo.ownBlock = some g → foot w (some p) g := fun g hg => ⟨p, rfl, .inr (.inl (kids_cell h1 (j := 2) rfl hg))⟩
  have tn : ∀ g, vn.ownBlock = some g → ∃ cur, w.heap[g]? = some (.cells cur 117 (0, 0)) := by
    intro g hg'
    obtain ⟨css, r1, _⟩ := h2
    rcases r1.2 with ⟨rfl, _⟩ | ⟨g', cap, cur, rfl, _, hgg, _⟩
    · cases hg'
    · injection hg' with hg'; subst hg'; exact ⟨cur, hgg⟩
  have tp : ∀ (v : Value) (n : Nat) (xs : List Value), w.ownsRow 0 119 2 v n xs → ∀ g, v.ownBlock = some g → ∃ cur, w.heap[g]? = some (.cells cur 119 (0, 0)) := by
    intro v n xs r1 g hg'
    rcases r1.2 with ⟨rfl, _⟩ | ⟨g', cap, cur, rfl, _, hgg, _⟩
    · cases hg'
    · injection hg' with hg'; subst hg'; exact ⟨cur, hgg⟩
  have np : ∀ (v : Value) (n : Nat) (xs : List Value), w.ownsRow 0 119 2 v n xs → ∀ g, v.ownBlock = some g → g ≠ p ∧ vn.ownBlock ≠ some g := by
    intro v n xs r1 g hgv
    obtain ⟨cur, hgg⟩ := tp v n xs r1 g hgv
    constructor
    · intro e; rw [e, h1] at hgg; injection hgg with hgg; injection hgg with _ hgg; exact absurd hgg (by decide)
    · intro e
      obtain ⟨cur', hgg'⟩ := tn g e
      rw [hgg'] at hgg; injection hgg with hgg; injection hgg with _ hgg; exact absurd hgg (by decide)
  have nnp : ∀ g, vn.ownBlock = some g → g ≠ p := by
    intro g hgv e
    obtain ⟨cur, hgg⟩ := tn g hgv
    rw [e, h1] at hgg; injection hgg with hgg; injection hgg with _ hgg; exact absurd hgg (by decide)
  have hot : ∀ g, vi.ownBlock = some g → vo.ownBlock = some g → False := by
    have h5' : ∀ g, vi.ownBlock = some g → vo.ownBlock = some g → False := by
      rcases h5 with h | h
      · intro g h1' h2'; rw [h] at h1'; cases h1'
      · intro g h1' h2'; exact h (h1'.trans h2'.symm)
    intro g ha hb; first | exact h5' g ha hb | exact h5' g hb ha
  obtain ⟨css, r1, r2⟩ := h4
  have hmp : vo.ownBlock ≠ some p := fun e => (np _ _ _ r1 p e).1 rfl
  refine ⟨vo, css, by rw [cell_of_row w p 2 _ _ _ h1]; rfl, hmp, r1, ?_⟩
  intro w1 v1 port u B q1 hg hat hu hub hBw
  have hpl : p < w.heap.size := (Array.getElem?_eq_some_iff.1 h1).1
  have hp1 : w1.heap[p]? = some (.cells #[vn, vi, vo] 122 (0, 0)) := by rw [hg.block p hpl (fun e => hmp e.symm)]; exact h1
  have hp2 : (w1.setCell ⟨p, 2, none⟩ v1).heap[p]? = some (.cells #[vn, vi, v1] 122 (0, 0)) := by
    rw [heap_setCell_same w1 p 2 _ _ v1 hp1]; rfl
  have hpo : ∀ i, i ≠ p → (w1.setCell ⟨p, 2, none⟩ v1).heap[i]? = w1.heap[i]? := fun i hi => heap_setCell_other w1 ⟨p, 2, none⟩ i v1 hi
  have hold : ∀ i, i < w.heap.size → i ≠ p → vo.ownBlock ≠ some i → (w1.setCell ⟨p, 2, none⟩ v1).heap[i]? = w.heap[i]? := fun i hi hip hin => by
    rw [hpo i hip]; exact hg.block i hi (fun e => hin e.symm)
  have hnew : ∀ i, i < w.heap.size → v1.ownBlock = some i → vo.ownBlock = some i := by
    intro i hi he
    rcases hat with h | ⟨b, h, hb⟩
    · rw [← h]; exact he
    · rw [h] at he; injection he with he; omega
  have hsz : w.heap.size ≤ (w1.setCell ⟨p, 2, none⟩ v1).heap.size := by rw [World.size_setCell]; exact hg.size
  have ht1 : ∀ g, v1.ownBlock = some g → (∃ cur, w1.heap[g]? = some (.cells cur 119 (0, 0))) ∧ g < w1.heap.size := by
    intro g hg'
    rcases q1.2 with ⟨rfl, _⟩ | ⟨g', cap, cur, rfl, _, hgg, _⟩
    · cases hg'
    · injection hg' with hg'; subst hg'; exact ⟨⟨cur, hgg⟩, (Array.getElem?_eq_some_iff.1 hgg).1⟩
  have h1p : ∀ g, v1.ownBlock = some g → g ≠ p := by
    intro g hgv e
    obtain ⟨⟨cur, hgg⟩, _⟩ := ht1 g hgv
    rw [e, hp1] at hgg; injection hgg with hgg; injection hgg with _ hgg; exact absurd hgg (by decide)
  have hN2 : Own kNode 117 (w1.setCell ⟨p, 2, none⟩ v1) none 0 vn st.nodes := by
    obtain ⟨dss, s1, s2, s3⟩ := h2
    refine ⟨dss, ⟨s1.1, ?_⟩, ⟨s2.1, fun i x cs hx hc => s2.2 i x cs hx hc⟩, fun g hg hf => foot_none _ _ hf⟩
    rcases s1.2 with hn | ⟨g, cap, cur, rfl, hb, hgg, rest⟩
    · exact .inl hn
    · refine .inr ⟨g, cap, cur, rfl, hb, ?_, rest⟩
      rw [hold g (h6 g (kn g rfl)) (nnp g rfl) (fun e => (np _ _ _ r1 g e).2 rfl)]
      exact hgg
  have old : ∃ css, (w1.setCell ⟨p, 2, none⟩ v1).ownsRow 0 119 2 vi st.ins.length css.flatten ∧ Pairs kPort (w1.setCell ⟨p, 2, none⟩ v1) (fun i => i = p ∨ vn.ownBlock = some i ∨ vi.ownBlock = some i ∨ v1.ownBlock = some i) st.ins css := by
    obtain ⟨dss, s1, s2⟩ := h3
    refine ⟨dss, ⟨s1.1, ?_⟩, s2.keep ⟨hsz, fun i hi hn => ?_⟩ fun i hi hm => ?_⟩
    · rcases s1.2 with hn | ⟨g, cap, cur, rfl, hb, hgg, rest⟩
      · exact .inl hn
      · refine .inr ⟨g, cap, cur, rfl, hb, ?_, rest⟩
        rw [hold g (h6 g (ki g rfl)) (np _ _ _ s1 g rfl).1 (fun e => hot g rfl e)]
        exact hgg
    · rw [hpo i (fun e => hn (.inl e))]
      exact hg.block i hi (fun e => hn (.inr (.inr (.inr e.symm))))
    · rcases hm with h | h | h | h
      · exact .inl h
      · exact .inr (.inl h)
      · exact .inr (.inr (.inl h))
      · exact .inr (.inr (.inr (hnew i hi h)))
  have new : ∃ css, (w1.setCell ⟨p, 2, none⟩ v1).ownsRow 0 119 2 v1 (st.outs ++ [port]).length css.flatten ∧ Pairs kPort (w1.setCell ⟨p, 2, none⟩ v1) (fun i => i = p ∨ vn.ownBlock = some i ∨ vi.ownBlock = some i ∨ v1.ownBlock = some i) (st.outs ++ [port]) css := by
    refine ⟨css ++ [[.string port.name, u]], ?_, (r2.keep ⟨hsz, fun i hi hn => ?_⟩ fun i hi hm => ?_).snoc ⟨u, rfl, hu.keep ⟨hsz, fun i hi hn => ?_⟩ fun i hi hm => ?_⟩⟩
    · rw [List.length_append, List.flatten_append]
      simp only [List.length_cons, List.length_nil, Nat.zero_add, List.flatten_cons, List.flatten_nil, List.append_nil]
      refine ⟨q1.1, ?_⟩
      rcases q1.2 with hn | ⟨g, cap, cur, rfl, hb, hgg, rest⟩
      · exact .inl hn
      · exact .inr ⟨g, cap, cur, rfl, hb, by rw [hpo g (h1p g rfl)]; exact hgg, rest⟩
    · rw [hpo i (fun e => hn (.inl e))]
      exact hg.block i hi (fun e => hn (.inr (.inr (.inr e.symm))))
    · rcases hm with h | h | h | h
      · exact .inl h
      · exact .inr (.inl h)
      · exact .inr (.inr (.inl h))
      · exact .inr (.inr (.inr (hnew i hi h)))
    · rw [hpo i (fun e => hn ⟨p, rfl, .inl e⟩)]
      exact hg.block i hi (fun e => hn (ko i e.symm))
    · rcases hm with h | h | h | h
      · subst h; exact ⟨_, rfl, .inl rfl⟩
      · exact kn i h
      · exact ki i h
      · exact ko i (hnew i hi h)
  have hdis : vi.ownBlock = none ∨ vi.ownBlock ≠ v1.ownBlock := by
    rcases hat with h | ⟨b, h, hb⟩
    · rw [h]; exact h5
    · refine .inr fun e => ?_
      have := h6 b (ki b (by rw [e]; exact h))
      omega
  have hfoot : ∀ i, foot (w1.setCell ⟨p, 2, none⟩ v1) (some p) i → foot w (some p) i ∨ v1.ownBlock = some i ∨ u.ownBlock = some i := by
    rintro i ⟨b, hb, hi⟩
    injection hb with hb; subst hb
    rcases hi with rfl | ⟨j, x, hc, hx⟩ | ⟨j, q, off, n, c, j', x, hc, hj, hc', hx⟩
    · exact .inl ⟨_, rfl, .inl rfl⟩
    · rw [cell_of_row _ p j _ _ _ hp2] at hc
      match j, hc with
      | 0, hc => simp at hc; subst hc; exact .inl (kn i hx)
      | 2, hc => simp at hc; subst hc; exact .inr (.inl hx)
      | 1, hc => simp at hc; subst hc; exact .inl (ki i hx)
    · rw [cell_of_row _ p j _ _ _ hp2] at hc
      match j, hc with
      | 0, hc =>
        simp at hc; subst hc
        refine .inl ⟨p, rfl, .inr (.inr ⟨0, q, off, _, c, j', x, by rw [cell_of_row w p 0 _ _ _ h1]; rfl, hj, ?_, hx⟩)⟩
        rw [← hc']; exact (World.cell?_of_block (hold q (h6 q (kn q rfl)) (nnp q rfl) (fun e => (np _ _ _ r1 q e).2 rfl))).symm
      | 1, hc =>
        simp at hc; subst hc
        obtain ⟨dss, s1, _⟩ := h3
        refine .inl ⟨p, rfl, .inr (.inr ⟨1, q, off, _, c, j', x, by rw [cell_of_row w p 1 _ _ _ h1]; rfl, hj, ?_, hx⟩)⟩
        rw [← hc']; exact (World.cell?_of_block (hold q (h6 q (ki q rfl)) (np _ _ _ s1 q rfl).1 (fun e => hot q rfl e))).symm
      | 2, hc =>
        simp at hc; subst hc
        have hqp := h1p q rfl
        have hc2 := (World.cell?_of_block (a := ⟨q, off + j', none⟩) (hpo q hqp)).symm.trans hc'
        rcases q1.2 with ⟨hv, _⟩ | ⟨g', cap, cur, hv, _, hgg, _⟩
        · cases hv
        · injection hv with hv hn; injection hv with hv; injection hv with e1 e2
          subst e1; subst e2; subst hn
          have hlen := q1.1
          have hj4 : j' < (css.flatten ++ [.string port.name, u]).length := by rw [hlen]; exact hj
          obtain ⟨y, hy⟩ : ∃ y, (css.flatten ++ [.string port.name, u])[j']? = some y := ⟨_, List.getElem?_eq_getElem hj4⟩
          have hx2 := q1.cells (g := q) rfl j' y hy
          rw [Addr.add_lit, hc2] at hx2
          injection hx2 with hx2
          subst hx2
          have hl0 := r1.1
          by_cases hjo : j' < css.flatten.length
          · rw [List.getElem?_append_left hjo] at hy
            rcases r1.2 with ⟨rfl, h0⟩ | ⟨g0, cap0, cur0, rfl, _, hgg0, _⟩
            · omega
            · have hx3 := r1.cells (g := g0) rfl j' x hy
              rw [Addr.add_lit] at hx3
              exact .inl ⟨p, rfl, .inr (.inr ⟨2, g0, 0, _, cap0, j', x, by rw [cell_of_row w p 2 _ _ _ h1]; rfl, by omega, hx3, hx⟩)⟩
          · rw [List.getElem?_append_right (by omega)] at hy
            have hcase : j' - css.flatten.length = 0 ∨ j' - css.flatten.length = 1 := by
              rw [List.length_append] at hj4
              simp only [List.length_cons, List.length_nil] at hj4
              omega
            rcases hcase with h | h
            · rw [h] at hy; simp at hy; subst hy; simp [Value.ownBlock] at hx
            · rw [h] at hy; simp at hy; subst hy; exact .inr (.inr hx)
  have hfin : FootIn (w1.setCell ⟨p, 2, none⟩ v1) (some p) := by
    intro i hi
    rcases hfoot i hi with h | h | h
    · exact Nat.lt_of_lt_of_le (h6 i h) hsz
    · rw [World.size_setCell]; exact (ht1 i h).2
    · exact Nat.lt_of_lt_of_le (hub i h).2 hsz
  refine ⟨⟨vn, vi, v1, hp2, hN2, old, new, hdis, hfin⟩, ⟨hg.os, hg.tape, hg.output, hsz, fun i hi hn => ?_, fun i hi hf => ?_⟩, hsz, fun i hi hn => hold i hi (fun e => hn ⟨p, rfl, .inl e⟩) (fun e => hn (ko i e))⟩
  · rw [hpo i (fun e => hn ⟨p, rfl, .inl e⟩)]
    exact hg.block i (by omega) (fun e => hn (ko i e.symm))
  · rcases hfoot i hf with h | h | h
    · exact h
    · exact ko i (hnew i (by omega) h)
    · have := (hub i h).1; omega

end Go.Proofs.Ytdljgifoboiaeaa
