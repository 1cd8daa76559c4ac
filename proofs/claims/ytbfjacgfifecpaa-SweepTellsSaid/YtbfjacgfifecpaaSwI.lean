/- sweep.Sweep: what it tells, and its state in memory. -/
import Derived.Test.YtbfjacgfifecpaaSwH
import Derived.Test.YtbfjacgfifecpaaClB
namespace Go.Proofs.Ytbfjacgfifecpaa
open Go.RowKit

def plcN (l : List Bool) (i : Nat) : Nat := trues (l.take i)
def plcT (l : List Bool) (n i : Nat) : List Int := (List.range n).map fun j => if j < i then (plcN l j : Int) else 0
theorem plcT_zero (l : List Bool) (n : Nat) : plcT l n 0 = List.replicate n 0 := by
  apply List.ext_getElem (by simp [plcT])
  intro i h1 h2
  simp [plcT]
theorem plcT_length (l : List Bool) (n i : Nat) : (plcT l n i).length = n := by simp [plcT]
theorem plcT_set {l : List Bool} {n i : Nat} : (plcT l n i).set i (plcN l i : Int) = plcT l n (i + 1) := by
  apply List.ext_getElem (by simp [plcT])
  intro j h1 h2
  rw [List.getElem_set]
  simp only [plcT, List.getElem_map, List.getElem_range]
  by_cases e : i = j
  · subst e; simp
  · rw [if_neg e]
    by_cases e2 : j < i
    · rw [if_pos e2, if_pos (by omega)]
    · rw [if_neg e2, if_neg (by omega)]
theorem plcT_at {l : List Bool} {n j : Nat} (hj : j < n) : (plcT l n n)[j]? = some (plcN l j : Int) := by
  rw [plcT, List.getElem?_map, List.getElem?_range hj]
  simp [hj]
theorem plcN_succ {l : List Bool} {i : Nat} (hi : i < l.length) : plcN l (i + 1) = plcN l i + if l.getD i false = true then 1 else 0 := by
  unfold plcN trues
  rw [List.take_succ_eq_append_getElem hi, List.countP_append, List.getD_eq_getElem?_getD, List.getElem?_eq_getElem hi]
  cases l[i] <;> simp
theorem plcN_le (l : List Bool) (i : Nat) : plcN l i ≤ i := by
  have h : plcN l i ≤ (l.take i).length := List.countP_le_length
  rw [List.length_take] at h
  omega
def renN (f : Nat → Nat) (x : Node) : Node :=
  ⟨x.kind, if 1 ≤ many x.kind then (f x.a.toNat : Int) else x.a, if 2 ≤ many x.kind then (f x.b.toNat : Int) else x.b, if 3 ≤ many x.kind then (f x.c.toNat : Int) else x.c⟩
def swT (l : List Bool) (nodes : List Node) (i : Nat) : List Node := (idxT l i).map fun j => renN (plcN l) (nodes.getD j ⟨0, 0, 0, 0⟩)
theorem swT_succ {l : List Bool} {nodes : List Node} {i : Nat} {x : Node} (hx : nodes[i]? = some x) : swT l nodes (i + 1) = swT l nodes i ++ if l.getD i false = true then [renN (plcN l) x] else [] := by
  unfold swT
  rw [idxT_succ, List.map_append]
  congr 1
  split
  · simp [List.getD_eq_getElem?_getD, hx]
  · rfl
theorem swT_len (l : List Bool) (nodes : List Node) (i : Nat) : (swT l nodes i).length ≤ i := by rw [swT, List.length_map]; exact idxT_len l i
/-- ports with other places -/
def rpB (f : Nat → Nat) (b : Int) : Int := (f b.toNat : Int)
def rpP (f : Nat → Nat) (p : Port) : Port := ⟨p.name, p.bits.map (rpB f)⟩
def stP (f : Nat → Nat) (ps : List Port) (i : Nat) : List Port := (ps.take i).map (rpP f) ++ ps.drop i
def mixB (f : Nat → Nat) (bs : List Int) (k : Nat) : List Int := (bs.take k).map (rpB f) ++ bs.drop k
theorem stP_zero (f : Nat → Nat) (ps : List Port) : stP f ps 0 = ps := by simp [stP]
theorem stP_full (f : Nat → Nat) (ps : List Port) : stP f ps ps.length = ps.map (rpP f) := by simp [stP]
theorem stP_length {f : Nat → Nat} {ps : List Port} {i : Nat} (hi : i ≤ ps.length) : (stP f ps i).length = ps.length := by simp [stP]; omega
theorem stP_at {f : Nat → Nat} {ps : List Port} {i : Nat} (hi : i < ps.length) : (stP f ps i)[i]? = some ps[i] := by
  unfold stP
  rw [List.getElem?_append_right (by simp; omega)]
  have : i - ((ps.take i).map (rpP f)).length = 0 := by simp; omega
  rw [this]; simp [hi]
theorem stP_same {f : Nat → Nat} {ps : List Port} {i : Nat} (hi : i < ps.length) : (stP f ps i).set i ps[i] = stP f ps i := by
  apply List.ext_getElem? 
  intro j
  rw [List.getElem?_set]
  split
  · rename_i e; subst e
    rw [stP_at hi]; simp [stP_length (Nat.le_of_lt hi), hi]
  · rfl
theorem stP_next {f : Nat → Nat} {ps : List Port} {i : Nat} (hi : i < ps.length) : (stP f ps i).set i (rpP f ps[i]) = stP f ps (i + 1) := by
  unfold stP
  rw [List.set_append_right _ _ (by simp; omega)]
  have : i - ((ps.take i).map (rpP f)).length = 0 := by simp; omega
  rw [this, List.drop_eq_getElem_cons hi, List.set_cons_zero, List.take_succ_eq_append_getElem hi, List.map_append, List.append_assoc]
  rfl
theorem mixB_zero (f : Nat → Nat) (bs : List Int) : mixB f bs 0 = bs := by simp [mixB]
theorem mixB_full (f : Nat → Nat) (bs : List Int) : mixB f bs bs.length = bs.map (rpB f) := by simp [mixB]
theorem mixB_length {f : Nat → Nat} {bs : List Int} {k : Nat} (hk : k ≤ bs.length) : (mixB f bs k).length = bs.length := by simp [mixB]; omega
theorem mixB_at {f : Nat → Nat} {bs : List Int} {k : Nat} (hk : k < bs.length) : (mixB f bs k)[k]? = some bs[k] := by
  unfold mixB
  rw [List.getElem?_append_right (by simp; omega)]
  have : k - ((bs.take k).map (rpB f)).length = 0 := by simp; omega
  rw [this]; simp [hk]
theorem mixB_next {f : Nat → Nat} {bs : List Int} {k : Nat} (hk : k < bs.length) : (mixB f bs k).set k (rpB f bs[k]) = mixB f bs (k + 1) := by
  unfold mixB
  rw [List.set_append_right _ _ (by simp; omega)]
  have : k - ((bs.take k).map (rpB f)).length = 0 := by simp; omega
  rw [this, List.drop_eq_getElem_cons hk, List.set_cons_zero, List.take_succ_eq_append_getElem hk, List.map_append, List.append_assoc]
  rfl

/-- what sweep.Sweep tells -/
def SwpOut (nodes : List Node) (ins outs : List Port) (e m : Int) (n' : List Node) (i' o' : List Port) : Prop :=
  (∃ k, LevOut nodes ins outs e k) ∧ (e ≠ 0 → m = 0 ∧ n' = [] ∧ i' = [] ∧ o' = []) ∧
  (e = 0 → ∃ l, IsRch nodes (frC ins outs) l ∧ m = (nodes.length : Int) - (plcN l nodes.length : Int) ∧ n' = swT l nodes nodes.length ∧ i' = ins.map (rpP (plcN l)) ∧ o' = outs.map (rpP (plcN l)))
theorem SwpOut.unique {nodes : List Node} {ins outs : List Port} {e e' m m' : Int} {n1 n2 : List Node} {i1 i2 o1 o2 : List Port} (h : SwpOut nodes ins outs e m n1 i1 o1) (h' : SwpOut nodes ins outs e' m' n2 i2 o2) : e = e' ∧ m = m' ∧ n1 = n2 ∧ i1 = i2 ∧ o1 = o2 := by
  obtain ⟨⟨k, h1⟩, h2, h3⟩ := h
  obtain ⟨⟨k', h1'⟩, h2', h3'⟩ := h'
  obtain ⟨rfl, -⟩ := h1.unique h1'
  refine ⟨rfl, ?_⟩
  by_cases h0 : e = 0
  · obtain ⟨l, r0, r1, r2, r3, r4⟩ := h3 h0
    obtain ⟨l', r0', r1', r2', r3', r4'⟩ := h3' h0
    obtain rfl := r0.unique r0'
    subst r1 r2 r3 r4 r1' r2' r3' r4'
    exact ⟨rfl, rfl, rfl, rfl⟩
  · obtain ⟨r1, r2, r3, r4⟩ := h2 h0
    obtain ⟨r1', r2', r3', r4'⟩ := h2' h0
    subst r1 r2 r3 r4 r1' r2' r3' r4'
    exact ⟨rfl, rfl, rfl, rfl⟩

/-! the state in memory -/
abbrev rwNet (g : Nat) (vn vi vo : Value) : Rw := ⟨25, 3, .slice (some ⟨g, 0, none⟩) 1 1, 1, [vn, vi, vo]⟩
theorem ptT_set {v : Value} {ps : List Port} {vs : List Value} {i : Nat} {p : Port} {u : Value} {bs : List Int} (hp : ps[i]? = some p) (hu : vs[i]? = some u) :
    (ptT v ps vs).set (i + 1) (rwInts 3 u bs) = ptT v (ps.set i ⟨p.name, bs⟩) vs := by
  have hi := (List.getElem?_eq_some_iff.1 hp).1
  have hz : (ps.set i ⟨p.name, bs⟩).zip vs = (ps.zip vs).set i (⟨p.name, bs⟩, u) := by
    rw [zip_set]
    congr 1
    apply List.ext_getElem?
    intro j
    rw [List.getElem?_set]
    split
    · rename_i e; subst e
      rw [hu, if_pos (List.getElem?_eq_some_iff.1 hu).1]
    · rfl
  have hh : hdrs (ps.set i ⟨p.name, bs⟩) vs = hdrs ps vs := by
    unfold hdrs
    rw [hz, List.map_set]
    apply List.ext_getElem?
    intro j
    rw [List.getElem?_set]
    split
    · rename_i e; subst e
      have : (ps.zip vs)[i]? = some (p, u) := List.getElem?_zip_eq_some.2 ⟨hp, hu⟩
      rw [List.getElem?_map, this]
      have h1 := (List.getElem?_eq_some_iff.1 hp).1
      have h2 := (List.getElem?_eq_some_iff.1 hu).1
      simp; omega
    · rfl
  unfold ptT
  rw [hh, hz, List.map_set, List.set_cons_succ]
theorem ptT_at {w : World} {B : Nat} {v : Value} {ps : List Port} {vs : List Value} (h : Keep w B (ptT v ps vs)) (hl : vs.length = ps.length) {i : Nat} {p : Port} (hp : ps[i]? = some p) :
    ∃ g c u, v = .slice (some ⟨g, 0, none⟩) ps.length c ∧ vs[i]? = some u ∧ w.cell? ⟨g, i * 2, none⟩ = some (.string p.name) ∧ w.cell? ⟨g, i * 2 + 1, none⟩ = some u := by
  have hi := (List.getElem?_eq_some_iff.1 hp).1
  obtain ⟨u, hu⟩ : ∃ u, vs[i]? = some u := ⟨_, List.getElem?_eq_getElem (by omega)⟩
  obtain ⟨g, c, rfl, -, -⟩ := (ptT_hdr h).form (by rw [hdrs_length hl]; omega)
  have hh : (hdrs ps vs)[i]? = some (p.name, u) := by
    unfold hdrs
    rw [List.getElem?_map, (List.getElem?_zip_eq_some (z := (p, u))).2 ⟨hp, hu⟩]
    rfl
  have hf : ∀ j, j < 2 → ((hdrs ps vs).flatMap hdrF)[i * 2 + j]? = (hdrF (p.name, u))[j]? := fun j hj => by
    obtain ⟨x, hx⟩ : ∃ x, (hdrF (p.name, u))[j]? = some x := by
      rcases (show j = 0 ∨ j = 1 by omega) with rfl | rfl <;> exact ⟨_, rfl⟩
    rw [hx, List.flatMap_def]
    exact flat_at ((hdrs ps vs).map hdrF) 2 (by intro cs hcs; obtain ⟨y, -, rfl⟩ := List.mem_map.1 hcs; rfl) i _ (by rw [List.getElem?_map, hh]; rfl) j x hx
  refine ⟨g, c, u, by rw [hdrs_length hl], hu, ?_, ?_⟩
  · exact (h.cell (i := 0) rfl rfl (j := i * 2) (u := .string p.name) (by have := hf 0 (by omega); simpa using this)).1
  · exact (h.cell (i := 0) rfl rfl (j := i * 2 + 1) (u := u) (by have := hf 1 (by omega); simpa using this)).1
theorem Keep.mid {w : World} {B : Nat} {P U Q : List Rw} (h : Keep w B (P ++ (U ++ Q))) : Keep w B U := h.right.left
/-- a bit of a port is written -/
theorem Keep.ptSet {w : World} {B : Nat} {P Q : List Rw} {v : Value} {ps : List Port} {vs : List Value} (h : Keep w B (P ++ (ptT v ps vs ++ Q))) {i : Nat} {p : Port} (hp : ps[i]? = some p) {b m c : Nat} (hu : vs[i]? = some (.slice (some ⟨b, 0, none⟩) m c)) (j : Nat) (r : Int) :
    Keep (w.setCell ⟨b, j, none⟩ (.int .i64 r)) B (P ++ (ptT v (ps.set i ⟨p.name, p.bits.set j r⟩) vs ++ Q)) := by
  have hb := ptT_bits h.mid hp hu
  have hlt : i + 1 < (ptT v ps vs).length := (List.getElem?_eq_some_iff.1 hb).1
  have h1 : (P ++ (ptT v ps vs ++ Q))[P.length + (i + 1)]? = some (rwInts 3 (.slice (some ⟨b, 0, none⟩) m c) p.bits) := by
    rw [List.getElem?_append_right (by omega), Nat.add_sub_cancel_left, List.getElem?_append_left hlt]
    exact hb
  have h2 := h.setInt h1 j r
  rw [List.set_append_right _ _ (by omega), Nat.add_sub_cancel_left, List.set_append_left _ _ hlt, ptT_set hp hu] at h2
  exact h2
/-- a row of nodes cut to none -/
theorem ownsRow_cut {w : World} {B : Nat} {e : TypeId} {size n c : Nat} {A : Option Addr} {xs : List Value} (h : w.ownsRow B e size (.slice A n c) n xs) : w.ownsRow B e size (.slice A 0 c) 0 [] := by
  refine ⟨by simp, ?_⟩
  rcases h.2 with ⟨h', -⟩ | ⟨g, cap, cur, h', hb, hg, hnc, hcm, hcs, -⟩
  · injection h' with e1 e2 e3
    subst e1 e3
    exact .inl ⟨rfl, rfl⟩
  · injection h' with e1 e2 e3
    subst e1 e3
    exact .inr ⟨g, c, cur, rfl, hb, hg, Nat.zero_le _, hcm, hcs, by simp⟩
theorem Keep.rot {w : World} {B : Nat} {a m : Rw} {U : List Rw} (h : Keep w B ((a :: U) ++ [m])) : Keep w B (a :: m :: U) := by
  refine h.pick (fun i => if i = 0 then 0 else if i = 1 then U.length + 1 else i - 1) (fun i j hi hj e => ?_) fun i r hr => ?_
  · simp only [List.length_cons] at hi hj
    split at e <;> split at e <;> (try split at e) <;> (try split at e) <;> omega
  · match i, hr with
    | 0, hr => exact hr
    | 1, hr =>
      show ((a :: U) ++ [m])[U.length + 1]? = _
      rw [List.getElem?_append_right (by simp)]
      simpa using hr
    | i + 2, hr =>
      have hl : i < U.length := (List.getElem?_eq_some_iff.1 (show U[i]? = some r from hr)).1
      show ((a :: U) ++ [m])[i + 1]? = _
      rw [List.getElem?_append_left (by simp; omega)]
      exact hr
/-- a store elsewhere -/
theorem Keep.skip {w : World} {B : Nat} {T : List Rw} (h : Keep w B T) {X : Nat} (hX : ∀ (i : Nat) (r : Rw), T[i]? = some r → r.v.ownBlock ≠ some X) (j : Nat) (u : Value) : Keep (w.setCell ⟨X, j, none⟩ u) B T :=
  h.other (row := some X) ⟨rfl, rfl, rfl, by simp, fun k _ hk => heap_setCell_other _ ⟨X, j, none⟩ k u (fun e => hk (by rw [e]))⟩ (fun i p hp => .inr (hX i p hp))
theorem usesR_len (x : Node) : (usesR x).length = (many x.kind).toNat := by
  have := many_bd x.kind
  unfold usesR
  rw [List.length_take]
  simp
  omega
theorem renN_0 {f : Nat → Nat} {x : Node} (h : (usesR x).length = 0) : renN f x = x := by
  rw [usesR_len] at h
  obtain ⟨k, a, b, c⟩ := x
  simp only [renN] at h ⊢
  rw [if_neg (by omega), if_neg (by omega), if_neg (by omega)]
theorem renN_1 {f : Nat → Nat} {x : Node} (h : (usesR x).length = 1) : renN f x = ⟨x.kind, f x.a.toNat, x.b, x.c⟩ := by
  rw [usesR_len] at h
  simp only [renN]
  rw [if_pos (by omega), if_neg (by omega), if_neg (by omega)]
theorem renN_2 {f : Nat → Nat} {x : Node} (h : (usesR x).length = 2) : renN f x = ⟨x.kind, f x.a.toNat, f x.b.toNat, x.c⟩ := by
  rw [usesR_len] at h
  simp only [renN]
  rw [if_pos (by omega), if_pos (by omega), if_neg (by omega)]
theorem renN_3 {f : Nat → Nat} {x : Node} (h : (usesR x).length = 3) : renN f x = ⟨x.kind, f x.a.toNat, f x.b.toNat, f x.c.toNat⟩ := by
  rw [usesR_len] at h
  simp only [renN]
  rw [if_pos (by omega), if_pos (by omega), if_pos (by omega)]
theorem usesR_mem {x : Node} {m : Nat} (h : (usesR x).length = m) : (1 ≤ m → x.a ∈ usesR x) ∧ (2 ≤ m → x.b ∈ usesR x) ∧ (3 ≤ m → x.c ∈ usesR x) := by
  have hb := many_bd x.kind
  rw [usesR_len] at h
  unfold usesR
  rw [h]
  rcases (show m = 0 ∨ m = 1 ∨ m = 2 ∨ m = 3 by omega) with rfl | rfl | rfl | rfl <;> simp
theorem infoNodeK : (Try.prog.info? 38).map (fun i => (i.zero, i.size, i.bytes)) = some (some (.agg #[.int .i64 0, .int .i64 0, .int .i64 0, .int .i64 0]), 4, 32) := by kernel_rfl
/-- append of one node to a row of the call's own -/
theorem appN {W : World} {ops : Array Oper} {rest : List Oper} {o : Oper} {a : Act} {Q : Exit → Act → World → Prop} (hgd : o.guard = none)
    (s x : Operand) (ho : o.op = .call { callee := .builtin .append, args := #[s, x], argTypes := #[22, 22] }) {B : Nat} {v : Value} {xs : List Node} (hO : Own kNode 38 W none B v xs) (hB : B ≤ W.heap.size) (hs : a.eval s = v)
    (y : Node) (g : Nat) (hg : W.heap.size = g) (hx : a.eval x = .slice (some ⟨g, 0, none⟩) 1 1) (hl : (xs.length + 1) * 32 ≤ 140737488355328)
    (hK : ∀ v' w', Own kNode 38 w' none B v' (xs ++ [y]) → W.grownBy w' v.ownBlock → (v'.ownBlock = v.ownBlock ∨ ∃ b, v'.ownBlock = some b ∧ W.heap.size ≤ b) → wpList Try.prog ops Q rest (a.put o.dst v') w') :
    wpList Try.prog ops Q (o :: rest) a (W.alloc (.cells #[.int .i64 y.kind, .int .i64 y.a, .int .i64 y.b, .int .i64 y.c] 38)) :=
  app1 kNode 38 22 (.agg #[.int .i64 0, .int .i64 0, .int .i64 0, .int .i64 0]) 32 hgd s x ho Try.underlying22 infoNodeK rfl (by decide) (by decide) none B hO (FootIn.none _) hB hs y y.cells (by rw [hg]; exact hx) rfl hl
    fun v' w' q1 _ _ _ q5 q6 => hK v' w' q1 q5 (q6.imp id fun ⟨b, h1, h2⟩ => ⟨b, h1, by omega⟩)
abbrev swU (vn : Value) (ns : List Node) (vi : Value) (is' : List Port) (vsi : List Value) (vo : Value) (os' : List Port) (vso : List Value) : List Rw := rwNodes vn ns :: (ptT vi is' vsi ++ ptT vo os' vso)
abbrev swV (P n G : Nat) (pl : List Int) (vn : Value) (ns : List Node) (vi : Value) (is' : List Port) (vsi : List Value) (vo : Value) (os' : List Port) (vso : List Value) : List Rw :=
  rwInts 3 (.slice (some ⟨P, 0, none⟩) n n) pl :: rwNet G vn vi vo :: swU vn ns vi is' vsi vo os' vso
theorem swV_start {w2 wr w4 : World} {n c5 : Nat} {pl : List Int} {A5 : Option Addr} {vi vo : Value} {nodes : List Node} {ins outs : List Port} {vsi vso : List Value} (hO : Own kInt 3 wr none w2.heap.size (.slice (some ⟨w2.heap.size, 0, none⟩) n n) pl) (hb : Below w2.heap.size w2 wr)
    (hk : Keep w4 wr.heap.size (netT (.slice A5 nodes.length c5) nodes vi ins vsi vo outs vso)) (hb4 : Below wr.heap.size wr w4) :
    Keep (w4.alloc (.cells #[.slice A5 0 c5, vi, vo] 25)) w2.heap.size (swV w2.heap.size n w4.heap.size pl (.slice A5 0 c5) [] vi ins vsi vo outs vso) := by
  have k0 := (Keep.nil (w := w2) (Nat.le_refl w2.heap.size)).push hb (r := rwInts 3 (.slice (some ⟨w2.heap.size, 0, none⟩) n n) pl) (rwInts_at.2 hO)
  have k4 := k0.append hb4 hk
  have k4' := k4.set (i := 1) (w' := w4) (r' := rwNodes (.slice A5 0 c5) []) rfl (ownsRow_cut (k4.own 1 (rwNodes (.slice A5 nodes.length c5) nodes) rfl)) (World.grownBy.refl _ _) (.inl (by cases A5 <;> rfl))
  have k5 := k4'.push (w' := w4.alloc (.cells #[.slice A5 0 c5, vi, vo] 25)) (r := rwNet w4.heap.size (.slice A5 0 c5) vi vo) ((Below.refl _ _).alloc (Nat.le_refl _) _) (World.ownsRow_lit w4 #[.slice A5 0 c5, vi, vo] 1 (Nat.le_refl _) (by simp [maxLen]) rfl)
  exact Keep.rot k5
section
variable {w : World} {B P n G : Nat} {pl : List Int} {vn vi vo : Value} {ns : List Node} {is' os' : List Port} {vsi vso : List Value}
theorem swV_in (h : Keep w B (swV P n G pl vn ns vi is' vsi vo os' vso)) : Keep w B (ptT vi is' vsi) := h.tail.tail.tail.left
theorem swV_out (h : Keep w B (swV P n G pl vn ns vi is' vsi vo os' vso)) : Keep w B (ptT vo os' vso) := h.tail.tail.tail.right
theorem swV_setIn (h : Keep w B (swV P n G pl vn ns vi is' vsi vo os' vso)) {i : Nat} {p : Port} (hp : is'[i]? = some p) {b m c : Nat} (hu : vsi[i]? = some (.slice (some ⟨b, 0, none⟩) m c)) (j : Nat) (r : Int) :
    Keep (w.setCell ⟨b, j, none⟩ (.int .i64 r)) B (swV P n G pl vn ns vi (is'.set i ⟨p.name, p.bits.set j r⟩) vsi vo os' vso) :=
  Keep.ptSet (P := [_, _, _]) h hp hu j r
theorem swV_setOut (h : Keep w B (swV P n G pl vn ns vi is' vsi vo os' vso)) {i : Nat} {p : Port} (hp : os'[i]? = some p) {b m c : Nat} (hu : vso[i]? = some (.slice (some ⟨b, 0, none⟩) m c)) (j : Nat) (r : Int) :
    Keep (w.setCell ⟨b, j, none⟩ (.int .i64 r)) B (swV P n G pl vn ns vi is' vsi vo (os'.set i ⟨p.name, p.bits.set j r⟩) vso) := by
  have h' : Keep w B ((rwInts 3 (.slice (some ⟨P, 0, none⟩) n n) pl :: rwNet G vn vi vo :: rwNodes vn ns :: ptT vi is' vsi) ++ (ptT vo os' vso ++ [])) := by
    rw [List.append_nil]; exact h
  have h2 := h'.ptSet hp hu j r
  rw [List.append_nil] at h2
  exact h2
theorem swV_net (h : Keep w B (swV P n G pl vn ns vi is' vsi vo os' vso)) (hi : vsi.length = is'.length) (ho : vso.length = os'.length) : NetV w (.agg #[vn, vi, vo]) ns is' os' := netT_net h.tail.tail hi ho
theorem swV_cells (h : Keep w B (swV P n G pl vn ns vi is' vsi vo os' vso)) : w.cell? ⟨G, 0, none⟩ = some vn ∧ w.cell? ⟨G, 1, none⟩ = some vi ∧ w.cell? ⟨G, 2, none⟩ = some vo :=
  ⟨(h.cell (i := 1) (r := rwNet G vn vi vo) rfl rfl (j := 0) rfl).1, (h.cell (i := 1) (r := rwNet G vn vi vo) rfl rfl (j := 1) rfl).1, (h.cell (i := 1) (r := rwNet G vn vi vo) rfl rfl (j := 2) rfl).1⟩
theorem swV_place {l : List Bool} (h : Keep w B (swV P n G (plcT l n n) vn ns vi is' vsi vo os' vso)) {a : Nat} (ha : a < n) : w.cell? ⟨P, a, none⟩ = some (.int .i64 (plcN l a : Nat)) :=
  (h.cell (i := 0) (r := rwInts 3 (.slice (some ⟨P, 0, none⟩) n n) (plcT l n n)) rfl (by show Value.slice _ n _ = Value.slice _ (plcT l n n).length _; rw [plcT_length]) (j := a) (u := .int .i64 (plcN l a : Nat)) (by rw [List.getElem?_map, plcT_at ha]; rfl)).1
end
theorem index_0 (a b : Value) (W : World) : (Instr.index 98 (.agg #[a, b]) (.int .i64 0)).run Try.prog W = .ok a W := by kernel_rfl
theorem index_1 (a b : Value) (W : World) : (Instr.index 98 (.agg #[a, b]) (.int .i64 1)).run Try.prog W = .ok b W := by kernel_rfl
/-- a node more -/
theorem swV_push {w w' : World} {B P n G : Nat} {pl : List Int} {vn v' vi vo : Value} {ns : List Node} {is' os' : List Port} {vsi vso : List Value} {y : Node} (h : Keep w B (swV P n G pl vn ns vi is' vsi vo os' vso)) (ho : Own kNode 38 w' none B v' (ns ++ [y])) (hg : w.grownBy w' vn.ownBlock)
    (hloc : v'.ownBlock = vn.ownBlock ∨ ∃ b, v'.ownBlock = some b ∧ w.heap.size ≤ b) :
    (w'.cell? ⟨G, 0, none⟩ = some vn ∧ w'.frozen? ⟨G, 0, none⟩ = false) ∧ Keep (w'.setCell ⟨G, 0, none⟩ v') B (swV P n G pl v' (ns ++ [y]) vi is' vsi vo os' vso) := by
  have h1 : Keep w' B ((swV P n G pl vn ns vi is' vsi vo os' vso).set 2 (rwNodes v' (ns ++ [y]))) := h.set (i := 2) rfl (rwNodes_at.2 ho) hg hloc
  exact ⟨h1.cell (i := 1) (r := rwNet G vn vi vo) rfl rfl rfl, h1.store (i := 1) (r := rwNet G vn vi vo) rfl rfl 0 v'⟩
end Go.Proofs.Ytbfjacgfifecpaa
