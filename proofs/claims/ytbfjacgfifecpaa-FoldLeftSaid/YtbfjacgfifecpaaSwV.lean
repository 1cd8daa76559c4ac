/- sweep.Sweep, plain: the swept net tells the same, may be, and is swept. -/
import Derived.Test.YtbfjacgfifecpaaJSwP
import Derived.Test.YtbfjacgfifecpaaSiI
namespace Go.Proofs.Ytbfjacgfifecpaa

theorem idxT_length {l : List Bool} : ∀ i, i ≤ l.length → (idxT l i).length = plcN l i := by
  intro i
  induction i with
  | zero => intro _; simp [idxT, plcN, trues]
  | succ i ih =>
    intro hi
    rw [idxT_succ, List.length_append, ih (by omega), plcN_succ (by omega)]
    split <;> rfl
theorem idx_plc {l : List Bool} {u : Nat} (hu : l.getD u false = true) : ∀ i, i ≤ l.length → u < i → (idxT l i)[plcN l u]? = some u := by
  intro i
  induction i with
  | zero => intro _ h; omega
  | succ i ih =>
    intro hi hlt
    rw [idxT_succ]
    rcases Nat.lt_or_ge u i with h | h
    · have h1 := ih (by omega) h
      rw [List.getElem?_append_left (List.getElem?_eq_some_iff.1 h1).1]
      exact h1
    · obtain rfl : u = i := by omega
      rw [if_pos hu, List.getElem?_append_right (by rw [idxT_length u (by omega)]; exact Nat.le_refl _), idxT_length u (by omega)]
      simp
theorem idxT_mem {l : List Bool} {i u : Nat} : u ∈ idxT l i ↔ u < i ∧ l.getD u false = true := by simp [idxT]
theorem idxT_nodup (l : List Bool) (i : Nat) : (idxT l i).Nodup := List.Pairwise.filter _ List.nodup_range
theorem plc_idx {l : List Bool} {v u : Nat} (h : (idxT l l.length)[v]? = some u) : u < l.length ∧ l.getD u false = true ∧ plcN l u = v := by
  obtain ⟨h1, h2⟩ := idxT_mem.1 (List.mem_of_getElem? h)
  refine ⟨h1, h2, ?_⟩
  have h3 := idx_plc h2 l.length (Nat.le_refl _) h1
  obtain ⟨g1, e1⟩ := List.getElem?_eq_some_iff.1 h
  obtain ⟨g2, e2⟩ := List.getElem?_eq_some_iff.1 h3
  have a1 := (idxT_nodup l l.length).idxOf_getElem v g1
  have a2 := (idxT_nodup l l.length).idxOf_getElem (plcN l u) g2
  rw [e1] at a1
  rw [e2] at a2
  omega

theorem valB_ren2 {f : Nat → Nat} {x : Node} {n : Nat} {V V' st st' inn inn' : List Bool} {u u' : Nat} (hr : rightB x n = true) (h : ∀ v ∈ usesN x, V'.getD (f v) false = V.getD v false) (hs : st'.getD u' false = st.getD u false) (hi : inn'.getD u' false = inn.getD u false) : valB (renN f x) V' st' inn' u' = valB x V st inn u := by
  have hk := rightB_kind hr
  obtain ⟨k, a, b, c⟩ := x
  rcases (show k = 0 ∨ k = 1 ∨ k = 2 ∨ k = 3 ∨ k = 4 ∨ k = 5 ∨ k = 6 ∨ k = 7 by dsimp only at hk; omega) with h0 | h0 | h0 | h0 | h0 | h0 | h0 | h0 <;> subst h0
  · rfl
  · exact hi
  · have h1 := h a.toNat (by simp [usesN, usesR, many])
    show (!V'.getD (f a.toNat) false) = (!V.getD a.toNat false)
    rw [h1]
  · have h1 := h a.toNat (by simp [usesN, usesR, many])
    have h2 := h b.toNat (by simp [usesN, usesR, many])
    show (V'.getD (f a.toNat) false && V'.getD (f b.toNat) false) = (V.getD a.toNat false && V.getD b.toNat false)
    rw [h1, h2]
  · have h1 := h a.toNat (by simp [usesN, usesR, many])
    have h2 := h b.toNat (by simp [usesN, usesR, many])
    show (V'.getD (f a.toNat) false || V'.getD (f b.toNat) false) = (V.getD a.toNat false || V.getD b.toNat false)
    rw [h1, h2]
  · have h1 := h a.toNat (by simp [usesN, usesR, many])
    have h2 := h b.toNat (by simp [usesN, usesR, many])
    show (V'.getD (f a.toNat) false != V'.getD (f b.toNat) false) = (V.getD a.toNat false != V.getD b.toNat false)
    rw [h1, h2]
  · have h1 := h a.toNat (by simp [usesN, usesR, many])
    have h2 := h b.toNat (by simp [usesN, usesR, many])
    have h3 := h c.toNat (by simp [usesN, usesR, many])
    show (if V'.getD (f c.toNat) false = true then V'.getD (f b.toNat) false else V'.getD (f a.toNat) false) = (if V.getD c.toNat false = true then V.getD b.toNat false else V.getD a.toNat false)
    rw [h1, h2, h3]
  · exact hs
theorem lvl_ren2 {f : Nat → Nat} {l l' : List Int} {us : List Nat} (h : ∀ v ∈ us, l'.getD (f v) 0 = l.getD v 0) : lvl (us.map f) l' = lvl us l := by
  unfold lvl
  rw [List.foldl_map]
  have : ∀ m : Int, us.foldl (fun m u => max m (l'.getD (f u) 0 + 1)) m = us.foldl (fun m u => max m (l.getD u 0 + 1)) m := by
    induction us with
    | nil => intro m; rfl
    | cons a us ih => intro m; rw [List.foldl_cons, List.foldl_cons, h a List.mem_cons_self, ih fun v hv => h v (List.mem_cons_of_mem _ hv)]
  exact this 0
theorem usesN_ren2 {f : Nat → Nat} {x : Node} {n : Nat} (hr : rightB x n = true) : usesN (renN f x) = (usesN x).map f := by
  have hk := rightB_kind hr
  obtain ⟨k, a, b, c⟩ := x
  rcases (show k = 0 ∨ k = 1 ∨ k = 2 ∨ k = 3 ∨ k = 4 ∨ k = 5 ∨ k = 6 ∨ k = 7 by dsimp only at hk; omega) with h0 | h0 | h0 | h0 | h0 | h0 | h0 | h0 <;> subst h0 <;> rfl
theorem usesR_ren2 {f : Nat → Nat} {x : Node} {n : Nat} (hr : rightB x n = true) : (usesR (renN f x)).map Int.toNat = ((usesR x).map Int.toNat).map f := by
  have hk := rightB_kind hr
  obtain ⟨k, a, b, c⟩ := x
  rcases (show k = 0 ∨ k = 1 ∨ k = 2 ∨ k = 3 ∨ k = 4 ∨ k = 5 ∨ k = 6 ∨ k = 7 by dsimp only at hk; omega) with h0 | h0 | h0 | h0 | h0 | h0 | h0 | h0 <;> subst h0 <;> rfl
theorem rightB_ren2 {f : Nat → Nat} {x : Node} {n n' : Nat} (hr : rightB x n = true) (hf : ∀ v ∈ (usesR x).map Int.toNat, f v < n') : rightB (renN f x) n' = true := by
  have hk := rightB_kind hr
  have hu := rightB_uses hr
  obtain ⟨k, a, b, c⟩ := x
  rcases (show k = 0 ∨ k = 1 ∨ k = 2 ∨ k = 3 ∨ k = 4 ∨ k = 5 ∨ k = 6 ∨ k = 7 by dsimp only at hk; omega) with h0 | h0 | h0 | h0 | h0 | h0 | h0 | h0 <;> subst h0
  · simp [rightB, usesR, many, renN] at hr ⊢; exact hr
  · simp [rightB, usesR, many, renN] at hr ⊢; exact hr
  all_goals
    simp [usesR, many] at hf
    simp [rightB, usesR, many, renN] at hr ⊢
    simp_all
theorem renN_kind (f : Nat → Nat) (x : Node) : (renN f x).kind = x.kind := rfl
theorem renN_id {f : Nat → Nat} {x : Node} (h : ∀ z ∈ usesR x, 0 ≤ z ∧ f z.toNat = z.toNat) : renN f x = x := by
  have hb := many_bd x.kind
  obtain ⟨k, a, b, c⟩ := x
  dsimp only at hb
  rcases (show many k = -1 ∨ many k = 0 ∨ many k = 1 ∨ many k = 2 ∨ many k = 3 by omega) with e | e | e | e | e <;> simp [usesR, e] at h <;> simp [renN, e]
  · rw [h.2]; omega
  · rw [h.1.2, h.2.2]; omega
  · rw [h.1.2, h.2.1.2, h.2.2.2]; omega
theorem rpP_id {f : Nat → Nat} {p : Port} (h : ∀ z ∈ p.bits, 0 ≤ z ∧ f z.toNat = z.toNat) : rpP f p = p := by
  obtain ⟨s, bits⟩ := p
  show (⟨s, bits.map (rpB f)⟩ : Port) = ⟨s, bits⟩
  congr 1
  conv => rhs; rw [← List.map_id bits]
  refine List.map_congr_left fun z hz => ?_
  have := h z hz
  show (f z.toNat : Int) = z
  rw [this.2]; omega

/-! ### what is pulled -/
def pul {α : Type} (d : α) (l : List Bool) (X : List α) : List α := (idxT l l.length).map fun u => X.getD u d
section
variable {α : Type} {d : α} {l : List Bool}
theorem pul_at (X : List α) {v u : Nat} (h : (idxT l l.length)[v]? = some u) : (pul d l X)[v]? = some (X.getD u d) := by rw [pul, List.getElem?_map, h]; rfl
theorem pul_plc (X : List α) {u : Nat} (hu : l.getD u false = true) : (pul d l X).getD (plcN l u) d = X.getD u d := by
  have hul : u < l.length := by
    rcases Nat.lt_or_ge u l.length with h | h
    · exact h
    · rw [List.getD_eq_getElem?_getD, List.getElem?_eq_none h] at hu; simp at hu
  rw [List.getD_eq_getElem?_getD, pul_at X (idx_plc hu l.length (Nat.le_refl _) hul)]
  rfl
theorem pul_length (X : List α) : (pul d l X).length = plcN l l.length := by rw [pul, List.length_map, idxT_length l.length (Nat.le_refl _)]
theorem pul_set (X : List α) {b : Nat} {y : α} (hb : l.getD b false = true) (hX : X.length = l.length) : (pul d l X).set (plcN l b) y = pul d l (X.set b y) := by
  have hbl : b < l.length := by
    rcases Nat.lt_or_ge b l.length with h | h
    · exact h
    · rw [List.getD_eq_getElem?_getD, List.getElem?_eq_none h] at hb; simp at hb
  apply List.ext_getElem?
  intro v
  rw [List.getElem?_set]
  by_cases e : plcN l b = v
  · subst e
    have h := idx_plc hb l.length (Nat.le_refl _) hbl
    rw [if_pos rfl, if_pos (by rw [pul_length, ← idxT_length l.length (Nat.le_refl _)]; exact (List.getElem?_eq_some_iff.1 h).1), pul_at _ h, List.getD_eq_getElem?_getD, List.getElem?_set, if_pos rfl, if_pos (by omega)]
    rfl
  · rw [if_neg e]
    cases h : (idxT l l.length)[v]? with
    | none => rw [pul, pul, List.getElem?_map, List.getElem?_map, h]; rfl
    | some u =>
      have h2 := (plc_idx h).2.2
      rw [pul_at _ h, pul_at _ h, List.getD_eq_getElem?_getD, List.getD_eq_getElem?_getD, List.getElem?_set, if_neg (fun e' => e (by rw [e']; exact h2))]
end
theorem setPort_pul {l : List Bool} {bits : List Int} {m : Nat} {X : List Bool} (hb : ∀ z ∈ bits, l.getD z.toNat false = true) (hX : X.length = l.length) : ∀ k, k ≤ bits.length → setPort (bits.map (rpB (plcN l))) m k (pul false l X) = pul false l (setPort bits m k X) := by
  intro k
  induction k with
  | zero => intro _; rfl
  | succ k ih =>
    intro hk
    have hkl : k < bits.length := by omega
    show (if m.testBit k then (setPort (bits.map (rpB (plcN l))) m k (pul false l X)).set ((bits.map (rpB (plcN l))).getD k 0).toNat true else setPort (bits.map (rpB (plcN l))) m k (pul false l X)) = pul false l (if m.testBit k then (setPort bits m k X).set (bits.getD k 0).toNat true else setPort bits m k X)
    rw [ih (by omega)]
    cases m.testBit k with
    | false => rfl
    | true =>
      rw [if_pos rfl, if_pos rfl]
      have e1 : (bits.map (rpB (plcN l))).getD k 0 = rpB (plcN l) bits[k] := by rw [List.getD_eq_getElem?_getD, List.getElem?_map, List.getElem?_eq_getElem hkl]; rfl
      have e2 : bits.getD k 0 = bits[k] := by rw [List.getD_eq_getElem?_getD, List.getElem?_eq_getElem hkl]; rfl
      rw [e1, e2]
      show (pul false l (setPort bits m k X)).set ((plcN l bits[k].toNat : Nat) : Int).toNat true = _
      rw [Int.toNat_natCast]
      exact pul_set _ (hb _ (List.getElem_mem hkl)) (by rw [setPort_length]; exact hX)
theorem setPorts_pul {l : List Bool} {ins : List Port} {ms : List Nat} {X : List Bool} (hb : ∀ q ∈ ins, ∀ z ∈ q.bits, l.getD z.toNat false = true) (hX : X.length = l.length) (hfit : fitsB ins ms = true) : ∀ i, i ≤ ins.length → setPorts (ins.map (rpP (plcN l))) ms i (pul false l X) = pul false l (setPorts ins ms i X) := by
  rw [fitsB, Bool.and_eq_true, decide_eq_true_eq, List.all_eq_true] at hfit
  intro i
  induction i with
  | zero => intro _; rfl
  | succ i ih =>
    intro hi
    have hil : i < ins.length := by omega
    have him : i < ms.length := by omega
    rw [setPorts, setPorts, ih (by omega)]
    have hf := hfit.2 i (List.mem_range.2 hil)
    rw [fitAt, List.getElem?_eq_getElem hil, List.getElem?_eq_getElem him] at hf
    have hf := of_decide_eq_true hf
    simp only [List.getD_eq_getElem?_getD, List.getElem?_map, List.getElem?_eq_getElem hil, List.getElem?_eq_getElem him, Option.map_some, Option.getD_some]
    show setPort (ins[i].bits.map (rpB (plcN l))) _ _ _ = _
    exact setPort_pul (hb _ (List.getElem_mem hil)) (by rw [setPorts_length]; exact hX) _ hf
theorem count_ren {l : List Bool} {v u : Nat} (h : (idxT l l.length)[v]? = some u) : ∀ (bs : List Int), (∀ b ∈ bs, 0 ≤ b ∧ l.getD b.toNat false = true) → (bs.map (rpB (plcN l))).count (v : Int) = bs.count (u : Int)
  | [], _ => rfl
  | b :: bs, hb => by
    obtain ⟨h0, h1⟩ := hb b List.mem_cons_self
    obtain ⟨p1, p2, p3⟩ := plc_idx h
    rw [List.map_cons, List.count_cons, List.count_cons, count_ren h bs fun z hz => hb z (List.mem_cons_of_mem _ hz)]
    have hiff : rpB (plcN l) b = (v : Int) ↔ b = (u : Int) := by
      unfold rpB
      constructor
      · intro e
        have hbl : b.toNat < l.length := by
          rcases Nat.lt_or_ge b.toNat l.length with h | h
          · exact h
          · rw [List.getD_eq_getElem?_getD, List.getElem?_eq_none h] at h1; simp at h1
        have h2 := idx_plc h1 l.length (Nat.le_refl _) hbl
        rw [show plcN l b.toNat = v by omega, h] at h2
        injection h2 with h2
        omega
      · intro e
        subst e
        rw [Int.toNat_natCast, p3]
    by_cases e : b = (u : Int)
    · rw [if_pos (by simpa using hiff.2 e), if_pos (by simpa using e)]
    · rw [if_neg (by simpa using fun h => e (hiff.1 h)), if_neg (by simpa using e)]

/-- the swept net may be, tells the same, and is swept -/
theorem sweep_same {nodes : List Node} {ins outs : List Port} {lv : List Int} (hlev : LevOut nodes ins outs 0 lv) {l : List Bool} (hl : IsRch nodes (frC ins outs) l) (n' : List Node) (hn' : swT l nodes nodes.length = n') :
    n'.length = plcN l nodes.length ∧ errP n' (ins.map (rpP (plcN l))) (outs.map (rpP (plcN l))) true = 0 ∧ (∃ k, IsLev n' k) ∧ IsRch n' (frC (ins.map (rpP (plcN l))) (outs.map (rpP (plcN l)))) (List.replicate n'.length true) ∧ (∀ script, throughC nodes ins outs script = throughC n' (ins.map (rpP (plcN l))) (outs.map (rpP (plcN l))) script) := by
  have hez := errP_zero hlev.choose_spec.1.symm
  have hfo := formed_in hez.2.1
  have hf := Frm.of hez.2.1
  have hisl : IsLev nodes lv := by obtain ⟨b, h1, h2, h3, h4, h5⟩ := hlev; exact h4 rfl
  have hll : l.length = nodes.length := hl.1
  have hat : ∀ v u, (idxT l l.length)[v]? = some u → ∃ x, nodes[u]? = some x ∧ n'[v]? = some (renN (plcN l) x) := fun v u h => by
    have hul := (plc_idx h).1
    obtain ⟨x, hx⟩ : ∃ x, nodes[u]? = some x := ⟨_, List.getElem?_eq_getElem (show u < nodes.length by omega)⟩
    refine ⟨x, hx, ?_⟩
    rw [← hn', swT, List.getElem?_map, ← hll, h, Option.map_some, List.getD_eq_getElem?_getD, hx]
    rfl
  have hlen : n'.length = plcN l nodes.length := by rw [← hn', swT, List.length_map, idxT_length _ (by omega)]
  have hlen2 : n'.length = (idxT l l.length).length := by rw [← hn', swT, List.length_map, hll]
  have hinv : ∀ v y, n'[v]? = some y → ∃ u x, (idxT l l.length)[v]? = some u ∧ nodes[u]? = some x ∧ y = renN (plcN l) x := fun v y hy => by
    have hv : v < (idxT l l.length).length := by rw [← hlen2]; exact (List.getElem?_eq_some_iff.1 hy).1
    obtain ⟨x, h1, h2⟩ := hat v _ (List.getElem?_eq_getElem hv)
    rw [hy] at h2
    injection h2 with h2
    exact ⟨_, x, List.getElem?_eq_getElem hv, h1, h2⟩
  have hclo : ∀ u x, l.getD u false = true → nodes[u]? = some x → ∀ v ∈ (usesR x).map Int.toNat, l.getD v false = true := fun u x hu hx v hv => (hl.2 v).2 (((hl.2 u).1 hu).step (by rw [useI_at hx]; exact hv))
  have hcloN : ∀ u x, l.getD u false = true → nodes[u]? = some x → ∀ v ∈ usesN x, l.getD v false = true := fun u x hu hx v hv => by
    unfold usesN at hv
    split at hv
    · simp at hv
    · exact hclo u x hu hx v hv
  have hplt : ∀ u, l.getD u false = true → plcN l u < n'.length := fun u hu => by
    have hul : u < l.length := by
      rcases Nat.lt_or_ge u l.length with h | h
      · exact h
      · rw [List.getD_eq_getElem?_getD, List.getElem?_eq_none h] at hu; simp at hu
    rw [hlen2]
    exact (List.getElem?_eq_some_iff.1 (idx_plc hu l.length (Nat.le_refl _) hul)).1
  have hfr : ∀ q ∈ ins ++ outs, ∀ z ∈ q.bits, 0 ≤ z ∧ l.getD z.toNat false = true := fun q hq z hz => by
    have h0 := (hfo.2 q hq).2 z hz
    refine ⟨h0.1, (hl.2 _).2 (Rch.base ?_)⟩
    unfold frC
    refine List.mem_map.2 ⟨z, ?_, rfl⟩
    rw [List.mem_flatMap]
    exact ⟨q, by rcases List.mem_append.1 hq with h | h <;> simp [h], hz⟩
  have hf2 : Frm n' := fun y hy => by
    obtain ⟨v, hv, rfl⟩ := List.mem_iff_getElem.1 hy
    obtain ⟨u, x, h1, h2, h3⟩ := hinv v _ (List.getElem?_eq_getElem hv)
    rw [h3]
    exact rightB_ren2 (hf x (List.mem_of_getElem? h2)) fun w hw => hplt w (hclo u x (plc_idx h1).2.1 h2 w hw)
  have hl2 : IsLev n' (pul 0 l lv) := ⟨by rw [pul_length, hlen, hll], fun v y hy => by
    obtain ⟨u, x, h1, h2, rfl⟩ := hinv v y hy
    rw [List.getD_eq_getElem?_getD, pul_at lv h1, Option.getD_some, hisl.2 u x h2, usesN_ren2 (hf x (List.mem_of_getElem? h2))]
    exact (lvl_ren2 fun w hw => pul_plc lv (hcloN u x (plc_idx h1).2.1 h2 w hw)).symm⟩
  have hwide : ∀ ps : List Port, (ps.map (rpP (plcN l))).map wideP = ps.map wideP := fun ps => by
    rw [List.map_map]
    refine List.map_congr_left fun p _ => ?_
    simp [wideP, rpP]
  have hname : (ins.map (rpP (plcN l)) ++ outs.map (rpP (plcN l))).map (·.name) = (ins ++ outs).map (·.name) := by
    rw [List.map_append, List.map_append, List.map_map, List.map_map]
    rfl
  have hbad : (ins.map (rpP (plcN l)) ++ outs.map (rpP (plcN l))).any badName = (ins ++ outs).any badName := by
    rw [List.any_append, List.any_append, List.any_map, List.any_map]
    rfl
  have hform : formedB n' (ins.map (rpP (plcN l))) (outs.map (rpP (plcN l))) = true := by
    rw [formedB, Bool.and_eq_true, List.all_eq_true, List.all_eq_true]
    refine ⟨hf2, fun p hp => ?_⟩
    rw [← List.map_append] at hp
    obtain ⟨q, hq, rfl⟩ := List.mem_map.1 hp
    have h1 := (hfo.2 q hq).1
    simp only [portB, rpP, Bool.and_eq_true, List.all_eq_true]
    refine ⟨decide_eq_true fun e => h1 (List.map_eq_nil_iff.1 e), fun b hb => ?_⟩
    obtain ⟨z, hz, rfl⟩ := List.mem_map.1 hb
    have := hplt _ (hfr q hq z hz).2
    refine decide_eq_true ?_
    unfold rpB
    omega
  have hflat : ∀ ps : List Port, (ps.map (rpP (plcN l))).flatMap (·.bits) = (ps.flatMap (·.bits)).map (rpB (plcN l)) := fun ps => by
    induction ps with
    | nil => rfl
    | cons p ps ih => simp only [List.map_cons, List.flatMap_cons, List.map_append, ih]; rfl
  have hhome : homeB n' (ins.map (rpP (plcN l))) = true := by
    have h := hez.2.2.2.2.1
    rw [homeB, List.all_eq_true] at h ⊢
    intro v hv
    have hvn : v < n'.length := List.mem_range.1 hv
    obtain ⟨u, x, h1, h2, h3⟩ := hinv v _ (List.getElem?_eq_getElem hvn)
    have hh := h u (List.mem_range.2 (List.getElem?_eq_some_iff.1 h2).1)
    unfold homeAt at hh ⊢
    rw [kindAt_eq (List.getElem?_eq_getElem hvn), h3, renN_kind, hflat, count_ren h1 _ fun b hb => ?_]
    · rw [kindAt_eq h2] at hh
      exact hh
    · obtain ⟨q, hq, hbq⟩ := List.mem_flatMap.1 hb
      exact hfr q (List.mem_append_left _ hq) b hbq
  refine ⟨hlen, ?_, ⟨_, hl2⟩, ⟨by simp, fun v => ?_⟩, fun script => ?_⟩
  · have hpl := plcN_le l nodes.length
    unfold errP
    rw [if_neg (by rw [List.length_map, List.length_map]; omega), if_neg (by rw [hform]; simp), if_neg (by rw [hbad, hez.2.2.1]; simp), if_neg (by rw [hname, hez.2.2.2.1]; simp), if_neg (by rw [hhome]; simp), if_neg (by simp)]
  · have hkey : ∀ u, Rch nodes (frC ins outs) u → Rch n' (frC (ins.map (rpP (plcN l))) (outs.map (rpP (plcN l)))) (plcN l u) := fun u hu => by
      induction hu with
      | base ha =>
        refine Rch.base ?_
        unfold frC at ha ⊢
        obtain ⟨z, hz, rfl⟩ := List.mem_map.1 ha
        obtain ⟨q, hq, hzq⟩ := List.mem_flatMap.1 hz
        refine List.mem_map.2 ⟨rpB (plcN l) z, List.mem_flatMap.2 ⟨rpP (plcN l) q, ?_, List.mem_map.2 ⟨z, hzq, rfl⟩⟩, by unfold rpB; simp⟩
        rw [← List.map_append]
        exact List.mem_map.2 ⟨q, hq, rfl⟩
      | step ha hb ih =>
        rename_i a b
        refine ih.step ?_
        have hla := (hl.2 a).2 ha
        have hal : a < l.length := by
          rcases Nat.lt_or_ge a l.length with h | h
          · exact h
          · rw [List.getD_eq_getElem?_getD, List.getElem?_eq_none h] at hla; simp at hla
        obtain ⟨x, h1, h2⟩ := hat _ _ (idx_plc hla l.length (Nat.le_refl _) hal)
        rw [useI_at h1] at hb
        rw [useI_at h2, usesR_ren2 (hf x (List.mem_of_getElem? h1))]
        exact List.mem_map.2 ⟨b, hb, rfl⟩
    constructor
    · intro h
      have hvn : v < n'.length := by
        rcases Nat.lt_or_ge v n'.length with h' | h'
        · exact h'
        · rw [List.getD_eq_getElem?_getD, List.getElem?_eq_none (by simpa using h')] at h; simp at h
      obtain ⟨u, x, h1, h2, h3⟩ := hinv v _ (List.getElem?_eq_getElem hvn)
      obtain ⟨p1, p2, p3⟩ := plc_idx h1
      rw [← p3]
      exact hkey u ((hl.2 u).1 p2)
    · intro h
      have hvn : v < n'.length := by
        cases h with
        | base ha =>
          unfold frC at ha
          obtain ⟨z, hz, rfl⟩ := List.mem_map.1 ha
          rw [← List.map_append] at hz
          obtain ⟨q, hq, hzq⟩ := List.mem_flatMap.1 hz
          obtain ⟨q0, hq0, rfl⟩ := List.mem_map.1 hq
          obtain ⟨z0, hz0, rfl⟩ := List.mem_map.1 hzq
          have hq1 : q0 ∈ ins ++ outs := by
            rcases List.mem_append.1 hq0 with h | h <;> simp [h]
          have := hplt _ (hfr q0 hq1 z0 hz0).2
          unfold rpB
          omega
        | step ha hb =>
          rename_i a
          unfold useI at hb
          cases hy : n'[a]? with
          | none => rw [hy] at hb; simp at hb
          | some y =>
            rw [hy] at hb
            obtain ⟨z, hz, rfl⟩ := List.mem_map.1 hb
            have := rightB_uses (hf2 y (List.mem_of_getElem? hy)) z hz
            omega
      rw [List.getD_eq_getElem?_getD, List.getElem?_replicate, if_pos hvn]
      rfl
  · have hpV : ∀ (X : List Bool) u, l.getD u false = true → (pul false l X).getD (plcN l u) false = X.getD u false := fun X u hu => pul_plc X hu
    have hpv : ∀ (X : List Bool) v u, (idxT l l.length)[v]? = some u → (pul false l X).getD v false = X.getD u false := fun X v u h => by rw [List.getD_eq_getElem?_getD, pul_at X h]; rfl
    have hmap : ∀ (g : Node → Bool) (g2 : Node → Bool), (∀ u x, l.getD u false = true → nodes[u]? = some x → g2 (renN (plcN l) x) = g x) → n'.map g2 = pul false l (nodes.map g) := fun g g2 hg => by
      rw [← hn', swT, List.map_map, ← hll, pul]
      refine List.map_congr_left fun u hu => ?_
      obtain ⟨h1, h2⟩ := idxT_mem.1 hu
      have hx := List.getElem?_eq_getElem (show u < nodes.length by omega)
      show g2 (renN (plcN l) (nodes.getD u ⟨0, 0, 0, 0⟩)) = _
      rw [List.getD_eq_getElem?_getD, hx, List.getD_eq_getElem?_getD, List.getElem?_map, hx]
      exact hg u _ h2 hx
    refine through_same (pul false l) hf hf2 hisl hl2 (hwide ins).symm ?_ (fun ms hfit => ?_) (fun st inn V hst hin hV => ?_) (fun st inn V hV => ?_) (fun st inn V hV => ?_) script
    · refine hmap _ _ fun u x hu hx => ?_
      show (decide ((renN (plcN l) x).kind = 7) && decide ((renN (plcN l) x).b = 1)) = _
      rw [renN_kind]
      by_cases h7 : x.kind = 7
      · obtain ⟨k, a, b, c⟩ := x
        dsimp only at h7
        subst h7
        rfl
      · simp [h7]
    · unfold inputsR
      rw [List.length_map, ← setPorts_pul (fun q hq z hz => (hfr q (List.mem_append_left _ hq) z hz).2) (by simp [hll]) hfit _ (Nat.le_refl _)]
      congr 1
      rw [pul, hlen2]
      apply List.ext_getElem (by simp)
      intro i h1 h2
      rw [List.getElem_replicate, List.getElem_map, List.getD_eq_getElem?_getD, List.getElem?_replicate]
      split <;> rfl
    · refine ⟨by rw [pul_length, hlen, hll], fun v y hy => ?_⟩
      obtain ⟨u, x, h1, h2, rfl⟩ := hinv v y hy
      rw [hpv V v u h1, hV.2 u x h2]
      exact (valB_ren2 (hf x (List.mem_of_getElem? h2)) (fun w hw => hpV V w (hcloN u x (plc_idx h1).2.1 h2 w hw)) (hpv st v u h1) (hpv inn v u h1)).symm
    · refine hmap _ _ fun u x hu hx => ?_
      show (decide ((renN (plcN l) x).kind = 7) && at_ (pul false l V) (renN (plcN l) x).a) = _
      rw [renN_kind]
      by_cases h7 : x.kind = 7
      · have hc := hclo u x hu hx
        obtain ⟨k, a, b, c⟩ := x
        dsimp only at h7
        subst h7
        have := hc a.toNat (by simp [usesR, many])
        show (true && (pul false l V).getD (plcN l a.toNat) false) = (true && V.getD a.toNat false)
        rw [hpV V _ this]
      · simp [h7]
    · unfold outsR
      rw [List.map_map]
      refine List.map_congr_left fun p hp => ?_
      show parts32 (numB (p.bits.map (rpB (plcN l))) (pul false l V)) = parts32 (numB p.bits V)
      unfold numB
      rw [List.map_map]
      congr 2
      refine List.map_congr_left fun b hb => ?_
      exact hpV V b.toNat (hfr p (List.mem_append_right _ hp) b hb).2
/-- all counts: nothing is left out -/
theorem plcN_all (n i : Nat) (hi : i ≤ n) : plcN (List.replicate n true) i = i := by
  unfold plcN trues
  rw [List.take_replicate, List.countP_replicate]
  simp
  omega
theorem swT_all {nodes : List Node} (h : ∀ x ∈ nodes, ∀ z ∈ usesR x, 0 ≤ z ∧ z < nodes.length) : swT (List.replicate nodes.length true) nodes nodes.length = nodes := by
  have hi : idxT (List.replicate nodes.length true) nodes.length = List.range nodes.length := by
    unfold idxT
    refine List.filter_eq_self.2 fun u hu => ?_
    rw [List.getD_eq_getElem?_getD, List.getElem?_replicate, if_pos (List.mem_range.1 hu)]
    rfl
  rw [swT, hi]
  apply List.ext_getElem (by simp)
  intro u h1 h2
  rw [List.getElem_map, List.getElem_range, List.getD_eq_getElem?_getD, List.getElem?_eq_getElem h2]
  refine renN_id fun z hz => ?_
  have := h _ (List.getElem_mem h2) z hz
  exact ⟨this.1, plcN_all _ _ (by omega)⟩
theorem rpP_all {ps : List Port} {n : Nat} (h : ∀ q ∈ ps, ∀ z ∈ q.bits, 0 ≤ z ∧ z < n) : ps.map (rpP (plcN (List.replicate n true))) = ps := by
  conv => rhs; rw [← List.map_id ps]
  refine List.map_congr_left fun q hq => ?_
  refine rpP_id fun z hz => ?_
  have := h q hq z hz
  exact ⟨this.1, plcN_all _ _ (by omega)⟩
end Go.Proofs.Ytbfjacgfifecpaa
