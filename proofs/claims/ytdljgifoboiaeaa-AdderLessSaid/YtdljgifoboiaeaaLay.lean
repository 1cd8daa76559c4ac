/- The builder in memory: what keeps it, and a node laid behind the others. -/
import Derived.Test.YtdljgifoboiaeaaAppend
import Derived.Test.YtdljgifoboiaeaaProg
import Derived.Deep.RegionLawGrows
import Derived.KernelRfl
import Derived.Outline
namespace Go.Proofs.Ytdljgifoboiaeaa
open Go.RowKit

theorem BRep.fin {w : World} {p : Nat} {st : BSt} (h : BRep w p st) : FootIn w (some p) := by
  obtain ⟨_, _, _, _, _, _, _, _, h⟩ := h
  exact h
theorem BRep.lt {w : World} {p : Nat} {st : BSt} (h : BRep w p st) : p < w.heap.size := h.fin p ⟨p, rfl, .inl rfl⟩

theorem kids_cell {w : World} {p i j : Nat} {cs : Array Value} {t : TypeId} {fr : Nat × Nat} {v : Value} (h : w.heap[p]? = some (.cells cs t fr)) (hv : cs[j]? = some v) (ho : v.ownBlock = some i) : kids w p i :=
  ⟨j, v, by rw [cell_of_row w p j cs t fr h]; exact hv, ho⟩

/-- ports' data stay while what is theirs stays -/
theorem ports_keep {w w' : World} {p : Nat} {vn vi vo v : Value} {n : Nat} {ps : List Port} {t : TypeId}
    (hk : ∀ i, foot w (some p) i → w'.heap[i]? = w.heap[i]?) (hs : w.heap.size ≤ w'.heap.size) (hv : ∀ g, v.ownBlock = some g → foot w (some p) g) (hv2 : ∀ g c j u i, v = .slice (some ⟨g, 0, none⟩) n c → j < n * 2 → w.cell? ⟨g, 0 + j, none⟩ = some u → u.ownBlock = some i → foot w (some p) i)
    (h : ∃ css, w.ownsRow 0 t 2 v n css.flatten ∧ Pairs kPort w (fun i => i = p ∨ vn.ownBlock = some i ∨ vi.ownBlock = some i ∨ vo.ownBlock = some i) ps css) (hn : ps.length = n) :
    ∃ css, w'.ownsRow 0 t 2 v n css.flatten ∧ Pairs kPort w' (fun i => i = p ∨ vn.ownBlock = some i ∨ vi.ownBlock = some i ∨ vo.ownBlock = some i) ps css := by
  obtain ⟨css, h1, h2⟩ := h
  have hrow : w'.ownsRow 0 t 2 v n css.flatten := by
    refine ⟨h1.1, ?_⟩
    rcases h1.2 with hn | ⟨g, cap, cur, rfl, hb, hgg, rest⟩
    · exact .inl hn
    · exact .inr ⟨g, cap, cur, rfl, hb, by rw [hk g (hv g rfl)]; exact hgg, rest⟩
  refine ⟨css, hrow, h2.1, fun i x cs hx hc => ?_⟩
  obtain ⟨u, rfl, hr⟩ := h2.2 i x cs hx hc
  refine ⟨u, rfl, ?_⟩
  obtain ⟨A, c, dss, rfl, a1, a2, a0, a3, a4⟩ := hr
  refine ⟨A, c, dss, rfl, a1, a2, a0, ⟨a3.1, fun i x cs hx hc => a3.2 i x cs hx hc⟩, fun hn0 => ?_⟩
  obtain ⟨b, off, rfl, b1, b2, b3⟩ := a4 hn0
  have hfb : foot w (some p) b := by
    have hi : i < css.length := (List.getElem?_eq_some_iff.1 hc).1
    have hu : css.flatten[i * 2 + 1]? = some (.slice (some ⟨b, off, none⟩) x.bits.length c) := flat_at css 2 (fun cs hcs => by have := Pairs.lens (k := kPort) h2 cs hcs; exact this) i _ hc 1 _ rfl
    rcases h1.2 with ⟨rfl, h0⟩ | ⟨g, cap, cur, rfl, hb, hgg, rest⟩
    · have := h2.1; omega
    · have hcell := h1.cells (g := g) rfl _ _ hu
      rw [Addr.add_lit] at hcell
      exact hv2 g _ (i * 2 + 1) _ b rfl (by have := h2.1; omega) hcell rfl
  exact ⟨b, off, rfl, Nat.lt_of_lt_of_le b1 hs, b2, fun j u hu => (World.cell?_of_block (hk b hfb)).trans (b3 j u hu)⟩

theorem BRep.keep {w w' : World} {p : Nat} {st : BSt} (h : BRep w p st) (hk : ∀ i, foot w (some p) i → w'.heap[i]? = w.heap[i]?) (hs : w.heap.size ≤ w'.heap.size) : BRep w' p st := by
  obtain ⟨vn, vi, vo, h1, h2, h3, h4, h5, h6⟩ := h
  have kn : ∀ g, vn.ownBlock = some g → foot w (some p) g := fun g hg => ⟨p, rfl, .inr (.inl (kids_cell h1 (j := 0) rfl hg))⟩
  have ki : ∀ g, vi.ownBlock = some g → foot w (some p) g := fun g hg => ⟨p, rfl, .inr (.inl (kids_cell h1 (j := 1) rfl hg))⟩
  have ko : ∀ g, vo.ownBlock = some g → foot w (some p) g := fun g hg => ⟨p, rfl, .inr (.inl (kids_cell h1 (j := 2) rfl hg))⟩
  refine ⟨vn, vi, vo, by rw [hk p ⟨p, rfl, .inl rfl⟩]; exact h1, ?_, ?_, ?_, h5, h6.iff (foot_of_heap hk) hs⟩
  · obtain ⟨css, r1, r2, r3⟩ := h2
    refine ⟨css, ⟨r1.1, ?_⟩, ⟨r2.1, fun i x cs hx hc => r2.2 i x cs hx hc⟩, fun g hg hf => foot_none _ _ hf⟩
    rcases r1.2 with hn | ⟨g, cap, cur, rfl, hb, hgg, rest⟩
    · exact .inl hn
    · exact .inr ⟨g, cap, cur, rfl, hb, by rw [hk g (kn g rfl)]; exact hgg, rest⟩
  · exact ports_keep hk hs ki (fun g c j u i hg hj hc hu => ⟨p, rfl, .inr (.inr ⟨1, g, 0, _, c, j, u, by rw [cell_of_row w p 1 _ _ _ h1, ← hg]; rfl, hj, hc, hu⟩)⟩) h3 rfl
  · exact ports_keep hk hs ko (fun g c j u i hg hj hc hu => ⟨p, rfl, .inr (.inr ⟨2, g, 0, _, c, j, u, by rw [cell_of_row w p 2 _ _ _ h1, ← hg]; rfl, hj, hc, hu⟩)⟩) h4 rfl

theorem BRep.below {w w' : World} {p : Nat} {st : BSt} (h : BRep w p st) (hb : Below w.heap.size w w') : BRep w' p st :=
  h.keep (fun i hi => hb.block i (h.fin i hi)) hb.size
theorem BRep.alloc {w : World} {p : Nat} {st : BSt} (h : BRep w p st) (o : Obj) : BRep (w.alloc o) p st := h.below ((Below.refl _ _).alloc (Nat.le_refl _) o)
theorem BRep.drew {w : World} {p : Nat} {st : BSt} (h : BRep w p st) : BRep w.drew p st := h.below (Below.refl _ _).drew
theorem BRep.grown {w w' : World} {p : Nat} {st : BSt} {row : Option Nat} (h : BRep w p st) (hg : w.grownBy w' row) (hr : ∀ g, row = some g → ¬ Go.Proofs.Ytdljgifoboiaeaa.foot w (some p) g) : BRep w' p st :=
  h.keep (fun i hi => hg.block i (h.fin i hi) fun he => hr i he.symm hi) hg.size

/-- the three slices -/
theorem BRep.cells {w : World} {p : Nat} {st : BSt} (h : BRep w p st) : ∃ vn vi vo, w.cell? ⟨p, 0, none⟩ = some vn ∧ w.cell? ⟨p, 1, none⟩ = some vi ∧ w.cell? ⟨p, 2, none⟩ = some vo ∧
    (∀ j, w.frozen? ⟨p, j, none⟩ = false) ∧ Own kNode 117 w none 0 vn st.nodes ∧ vn.ownBlock ≠ some p := by
  obtain ⟨vn, vi, vo, h1, h2, _⟩ := h
  refine ⟨vn, vi, vo, by rw [cell_of_row w p 0 _ _ _ h1]; rfl, by rw [cell_of_row w p 1 _ _ _ h1]; rfl, by rw [cell_of_row w p 2 _ _ _ h1]; rfl, fun j => frozen_of_row w p j _ _ h1, h2, fun he => ?_⟩
  obtain ⟨css, r1, _⟩ := h2
  rcases r1.2 with ⟨rfl, _⟩ | ⟨g, cap, cur, rfl, _, hgg, _⟩
  · cases he
  · injection he with he
    rw [show g = p from he, h1] at hgg
    injection hgg with hgg
    injection hgg with _ hgg
    exact absurd hgg (by decide)

theorem nodes_plain {w : World} {S : Nat → Prop} {ns : List Node} {css : List (List Value)} (h : Pairs kNode w S ns css) : ∀ u ∈ css.flatten, u.ownBlock = none := by
  intro u hu
  obtain ⟨cs, hcs, hu⟩ := List.mem_flatten.1 hu
  obtain ⟨i, hi, rfl⟩ := List.mem_iff_getElem.1 hcs
  have hx : i < ns.length := by have := h.1; omega
  have e : css[i] = (ns[i]).cells := h.2 i ns[i] css[i] (by simp [hx]) (by simp [hi])
  rw [e] at hu
  simp [Node.cells] at hu
  rcases hu with rfl | rfl | rfl | rfl <;> rfl

/-- the nodes' slice replaced by a grown one -/
theorem BRep.push {w w1 : World} {p : Nat} {st : BSt} (h : BRep w p st) {vn v1 : Value} (hc : w.cell? ⟨p, 0, none⟩ = some vn) {ns : List Node}
    (hO : Own kNode 117 w1 none 0 v1 ns) (hg : w.grownBy w1 vn.ownBlock) (hat : v1.ownBlock = vn.ownBlock ∨ ∃ b, v1.ownBlock = some b ∧ w.heap.size ≤ b) :
    BRep (w1.setCell ⟨p, 0, none⟩ v1) p { st with nodes := ns } ∧ Kept w.heap.size (some p) w (w1.setCell ⟨p, 0, none⟩ v1) := by
  obtain ⟨vn', vi, vo, h1, h2, h3, h4, h5, h6⟩ := h
  obtain rfl : vn' = vn := by rw [cell_of_row w p 0 _ _ _ h1] at hc; simpa using hc
  have hnp : vn'.ownBlock ≠ some p := by
    have hB : BRep w p st := ⟨vn', vi, vo, h1, h2, h3, h4, h5, h6⟩
    obtain ⟨a, _, _, c0, _, _, _, _, hne⟩ := hB.cells
    rw [c0] at hc; injection hc with hc; subst hc; exact hne
  have hpl : p < w.heap.size := (Array.getElem?_eq_some_iff.1 h1).1
  have hp1 : w1.heap[p]? = some (.cells #[vn', vi, vo] 122 (0, 0)) := by rw [hg.block p hpl (fun e => hnp e.symm)]; exact h1
  have hp2 : (w1.setCell ⟨p, 0, none⟩ v1).heap[p]? = some (.cells #[v1, vi, vo] 122 (0, 0)) := by
    rw [heap_setCell_same w1 p 0 _ _ v1 hp1]; rfl
  have hpo : ∀ i, i ≠ p → (w1.setCell ⟨p, 0, none⟩ v1).heap[i]? = w1.heap[i]? := fun i hi => heap_setCell_other w1 ⟨p, 0, none⟩ i v1 hi
  have kn : ∀ g, vn'.ownBlock = some g → foot w (some p) g := fun g hg => ⟨p, rfl, .inr (.inl (kids_cell h1 (j := 0) rfl hg))⟩
  have ki : ∀ g, vi.ownBlock = some g → foot w (some p) g := fun g hg => ⟨p, rfl, .inr (.inl (kids_cell h1 (j := 1) rfl hg))⟩
  have ko : ∀ g, vo.ownBlock = some g → foot w (some p) g := fun g hg => ⟨p, rfl, .inr (.inl (kids_cell h1 (j := 2) rfl hg))⟩
  have tn : ∀ g, vn'.ownBlock = some g → ∃ cur, w.heap[g]? = some (.cells cur 117 (0, 0)) := by
    intro g hg'
    obtain ⟨css, r1, _⟩ := h2
    rcases r1.2 with ⟨rfl, _⟩ | ⟨g', cap, cur, rfl, _, hgg, _⟩
    · cases hg'
    · injection hg' with hg'; subst hg'; exact ⟨cur, hgg⟩
  have tp : ∀ (v : Value) (n : Nat) (xs : List Value), w.ownsRow 0 119 2 v n xs → ∀ g, v.ownBlock = some g → ∃ cur, w.heap[g]? = some (.cells cur 119 (0, 0)) := by
    intro v n xs r1 g hg'
    rcases r1.2 with ⟨rfl, _⟩ | ⟨g', cap, cur, rfl, _, hgg, _⟩
    · cases hg'
    · injection hg' with hg'; subst hg'; exact ⟨cur, hgg⟩
  -- a block of the builder, but for its struct and its nodes, is as it was
  have hold : ∀ i, foot w (some p) i → i ≠ p → vn'.ownBlock ≠ some i → (w1.setCell ⟨p, 0, none⟩ v1).heap[i]? = w.heap[i]? := fun i hi hip hin => by
    rw [hpo i hip]; exact hg.block i (h6 i hi) (fun e => hin e.symm)
  have npi : ∀ (v : Value) (n : Nat) (xs : List Value), w.ownsRow 0 119 2 v n xs → ∀ g, v.ownBlock = some g → g ≠ p ∧ vn'.ownBlock ≠ some g := by
    intro v n xs r1 g hgv
    obtain ⟨cur, hgg⟩ := tp v n xs r1 g hgv
    constructor
    · intro e; rw [e, h1] at hgg; injection hgg with hgg; injection hgg with _ hgg; exact absurd hgg (by decide)
    · intro e
      obtain ⟨cur', hgg'⟩ := tn g e
      rw [hgg'] at hgg; injection hgg with hgg; injection hgg with _ hgg; exact absurd hgg (by decide)
  have hnew : ∀ i, i < w.heap.size → v1.ownBlock = some i → vn'.ownBlock = some i := by
    intro i hi he
    rcases hat with h | ⟨b, h, hb⟩
    · rw [← h]; exact he
    · rw [h] at he; injection he with he; omega
  have ports : ∀ (v : Value) (n : Nat) (ps : List Port), ps.length = n → (∀ g, v.ownBlock = some g → foot w (some p) g) →
      (∃ css, w.ownsRow 0 119 2 v n css.flatten ∧ Pairs kPort w (fun i => i = p ∨ vn'.ownBlock = some i ∨ vi.ownBlock = some i ∨ vo.ownBlock = some i) ps css) →
      ∃ css, (w1.setCell ⟨p, 0, none⟩ v1).ownsRow 0 119 2 v n css.flatten ∧ Pairs kPort (w1.setCell ⟨p, 0, none⟩ v1) (fun i => i = p ∨ v1.ownBlock = some i ∨ vi.ownBlock = some i ∨ vo.ownBlock = some i) ps css := by
    rintro v n ps hn hv ⟨css, r1, r2⟩
    refine ⟨css, ⟨r1.1, ?_⟩, r2.keep ⟨?_, ?_⟩ ?_⟩
    · rcases r1.2 with hn | ⟨g, cap, cur, rfl, hb, hgg, rest⟩
      · exact .inl hn
      · obtain ⟨n1, n2⟩ := npi _ _ _ r1 g rfl
        exact .inr ⟨g, cap, cur, rfl, hb, by rw [hold g (hv g rfl) n1 n2]; exact hgg, rest⟩
    · rw [World.size_setCell]; exact hg.size
    · intro i hi hn
      rw [hpo i (fun e => hn (.inl e))]
      exact hg.block i hi (fun e => hn (.inr (.inl e.symm)))
    · intro i hi hm
      rcases hm with h | h | h
      · exact .inl h
      · exact .inr (.inl (hnew i hi h))
      · exact .inr (.inr h)
  have hsz : w.heap.size ≤ (w1.setCell ⟨p, 0, none⟩ v1).heap.size := by rw [World.size_setCell]; exact hg.size
  have ht1 : ∀ g, v1.ownBlock = some g → ∃ cur, w1.heap[g]? = some (.cells cur 117 (0, 0)) := by
    intro g hg'
    obtain ⟨css, r1, _⟩ := hO
    rcases r1.2 with ⟨rfl, _⟩ | ⟨g', cap, cur, rfl, _, hgg, _⟩
    · cases hg'
    · injection hg' with hg'; subst hg'; exact ⟨cur, hgg⟩
  have h1p : ∀ g, v1.ownBlock = some g → g ≠ p := by
    intro g hgv e
    obtain ⟨cur, hgg⟩ := ht1 g hgv
    rw [e, hp1] at hgg; injection hgg with hgg; injection hgg with _ hgg; exact absurd hgg (by decide)
  -- what is the builder's then
  have hfoot : ∀ i, foot (w1.setCell ⟨p, 0, none⟩ v1) (some p) i → foot w (some p) i ∨ v1.ownBlock = some i := by
    rintro i ⟨b, hb, hi⟩
    injection hb with hb; subst hb
    rcases hi with rfl | ⟨j, u, hc, hu⟩ | ⟨j, q, off, n, c, j', u, hc, hj, hc', hu⟩
    · exact .inl ⟨_, rfl, .inl rfl⟩
    · rw [cell_of_row _ p j _ _ _ hp2] at hc
      match j, hc with
      | 0, hc => simp at hc; subst hc; exact .inr hu
      | 1, hc => simp at hc; subst hc; exact .inl (ki i hu)
      | 2, hc => simp at hc; subst hc; exact .inl (ko i hu)
    · rw [cell_of_row _ p j _ _ _ hp2] at hc
      match j, hc with
      | 0, hc =>
        exfalso
        simp at hc; subst hc
        obtain ⟨css, r1, r2, _⟩ := hO
        rcases r1.2 with ⟨hv, _⟩ | ⟨g', cap, cur, hv, _, hgg, _⟩
        · cases hv
        · have hlen := r2.flat
          injection hv with hv hn; injection hv with hv; injection hv with e1 e2
          subst e1; subst e2; subst hn
          have hc' := (World.cell?_of_block (a := ⟨q, 0 + j', none⟩) (hpo q (h1p q rfl))).symm.trans hc'
          have hj4 : j' < css.flatten.length := by rw [hlen]; show j' < ns.length * 4; omega
          have := r1.cells (g := q) rfl j' css.flatten[j'] (by simp [hj4])
          rw [Addr.add_lit, hc'] at this
          injection this with this
          have := nodes_plain r2 css.flatten[j'] (List.getElem_mem hj4)
          simp_all [Value.ownBlock]
      | 1, hc =>
        simp at hc; subst hc
        obtain ⟨css, r1, _⟩ := h3
        have n := npi _ _ _ r1 q rfl
        exact .inl ⟨p, rfl, .inr (.inr ⟨1, q, off, _, c, j', u, by rw [cell_of_row w p 1 _ _ _ h1]; rfl, hj, by rw [← hc']; exact (World.cell?_of_block (hold q (ki q rfl) n.1 n.2)).symm, hu⟩)⟩
      | 2, hc =>
        simp at hc; subst hc
        obtain ⟨css, r1, _⟩ := h4
        have n := npi _ _ _ r1 q rfl
        exact .inl ⟨p, rfl, .inr (.inr ⟨2, q, off, _, c, j', u, by rw [cell_of_row w p 2 _ _ _ h1]; rfl, hj, by rw [← hc']; exact (World.cell?_of_block (hold q (ko q rfl) n.1 n.2)).symm, hu⟩)⟩
  have hO2 : Own kNode 117 (w1.setCell ⟨p, 0, none⟩ v1) none 0 v1 ns := by
    obtain ⟨css, r1, r2, r3⟩ := hO
    refine ⟨css, ⟨r1.1, ?_⟩, ⟨r2.1, fun i x cs hx hc => r2.2 i x cs hx hc⟩, fun g hg hf => foot_none _ _ hf⟩
    rcases r1.2 with hn | ⟨g, cap, cur, rfl, hb, hgg, rest⟩
    · exact .inl hn
    · exact .inr ⟨g, cap, cur, rfl, hb, by rw [hpo g (h1p g rfl)]; exact hgg, rest⟩
  refine ⟨⟨v1, vi, vo, hp2, hO2, ports vi _ _ rfl ki h3, ports vo _ _ rfl ko h4, h5, fun i hi => ?_⟩, ⟨hg.os, hg.tape, hg.output, hsz, fun i hi hn => ?_, fun i hi hf => ?_⟩⟩
  · rcases hfoot i hi with h | h
    · exact Nat.lt_of_lt_of_le (h6 i h) hsz
    · rw [World.size_setCell]; exact (hO.base h).2
  · rw [hpo i (fun e => hn ⟨p, rfl, .inl e⟩)]
    exact hg.block i hi (fun e => hn (kn i e.symm))
  · rcases hfoot i hf with h | h
    · exact h
    · exact kn i (hnew i hi h)

theorem step_app {P : Program} {o : Oper} {a : Act} {w : World} {ops : Array Oper} {K : Act → World → Prop} {Q : Exit → Act → World → Prop} {E : Prop} (hg : o.guard = none) (h : o.wp P a w K Q) :
    if Region.wanted o (yielded ops a.tmps) = true then Oper.wp P o a w K Q else E := by
  have hw : Region.wanted o (yielded ops a.tmps) = true := by simp [Region.wanted, hg]
  rw [if_pos hw]; exact h

theorem infoNode : (Try.prog.info? 117).map (fun i => (i.zero, i.size, i.bytes)) = some (some (.agg #[.int .i64 0, .int .i64 0, .int .i64 0, .int .i64 0]), 4, 32) := by kernel_rfl
theorem infoPort : (Try.prog.info? 119).map (fun i => (i.zero, i.size, i.bytes)) = some (some (.agg #[.string ⟨#[]⟩, .slice none 0 0]), 2, 40) := by kernel_rfl
theorem infoInt : (Try.prog.info? 3).map (fun i => (i.zero, i.size, i.bytes)) = some (some (.int .i64 0), 1, 8) := by kernel_rfl

end Go.Proofs.Ytdljgifoboiaeaa
