/- Joined texts: SwI, SwP. -/
import Derived.Test.YtbfjacgfifecpaaJGrow
import Derived.Test.YtbfjacgfifecpaaJClone
import Derived.Deep.AppendLies

/-! ## sweep.Sweep: what it tells, and its state in memory. -/
namespace Go.Proofs.Ytbfjacgfifecpaa
open Go.RowKit

def plcN (l : List Bool) (i : Nat) : Nat := trues (l.take i)
def plcT (l : List Bool) (n i : Nat) : List Int := (List.range n).map fun j => if j < i then (plcN l j : Int) else 0
theorem plcT_zero (l : List Bool) (n : Nat) : plcT l n 0 = List.replicate n 0 := by
  apply List.ext_getElem (by simp [plcT])
  intro i h1 h2
  simp [plcT]
theorem plcT_length (l : List Bool) (n i : Nat) : (plcT l n i).length = n := by simp [plcT]
theorem plcT_set {l : List Bool} {n i : Nat} : (plcT l n i).set i (plcN l i : Int) = plcT l n (i + 1) := by
  apply List.ext_getElem (by simp [plcT])
  intro j h1 h2
  rw [List.getElem_set]
  simp only [plcT, List.getElem_map, List.getElem_range]
  by_cases e : i = j
  · subst e; simp
  · rw [if_neg e]
    by_cases e2 : j < i
    · rw [if_pos e2, if_pos (by omega)]
    · rw [if_neg e2, if_neg (by omega)]
theorem plcT_at {l : List Bool} {n j : Nat} (hj : j < n) : (plcT l n n)[j]? = some (plcN l j : Int) := by
  rw [plcT, List.getElem?_map, List.getElem?_range hj]
  simp [hj]
theorem plcN_succ {l : List Bool} {i : Nat} (hi : i < l.length) : plcN l (i + 1) = plcN l i + if l.getD i false = true then 1 else 0 := by
  unfold plcN trues
  rw [List.take_succ_eq_append_getElem hi, List.countP_append, List.getD_eq_getElem?_getD, List.getElem?_eq_getElem hi]
  cases l[i] <;> simp
theorem plcN_le (l : List Bool) (i : Nat) : plcN l i ≤ i := by
  have h : plcN l i ≤ (l.take i).length := List.countP_le_length
  rw [List.length_take] at h
  omega
def renN (f : Nat → Nat) (x : Node) : Node :=
  ⟨x.kind, if 1 ≤ many x.kind then (f x.a.toNat : Int) else x.a, if 2 ≤ many x.kind then (f x.b.toNat : Int) else x.b, if 3 ≤ many x.kind then (f x.c.toNat : Int) else x.c⟩
def swT (l : List Bool) (nodes : List Node) (i : Nat) : List Node := (idxT l i).map fun j => renN (plcN l) (nodes.getD j ⟨0, 0, 0, 0⟩)
theorem swT_succ {l : List Bool} {nodes : List Node} {i : Nat} {x : Node} (hx : nodes[i]? = some x) : swT l nodes (i + 1) = swT l nodes i ++ if l.getD i false = true then [renN (plcN l) x] else [] := by
  unfold swT
  rw [idxT_succ, List.map_append]
  congr 1
  split
  · simp [List.getD_eq_getElem?_getD, hx]
  · rfl
theorem swT_len (l : List Bool) (nodes : List Node) (i : Nat) : (swT l nodes i).length ≤ i := by rw [swT, List.length_map]; exact idxT_len l i
/-- ports with other places -/
def rpB (f : Nat → Nat) (b : Int) : Int := (f b.toNat : Int)
def rpP (f : Nat → Nat) (p : Port) : Port := ⟨p.name, p.bits.map (rpB f)⟩
def stP (f : Nat → Nat) (ps : List Port) (i : Nat) : List Port := (ps.take i).map (rpP f) ++ ps.drop i
def mixB (f : Nat → Nat) (bs : List Int) (k : Nat) : List Int := (bs.take k).map (rpB f) ++ bs.drop k
theorem stP_zero (f : Nat → Nat) (ps : List Port) : stP f ps 0 = ps := by simp [stP]
theorem stP_full (f : Nat → Nat) (ps : List Port) : stP f ps ps.length = ps.map (rpP f) := by simp [stP]
theorem stP_length {f : Nat → Nat} {ps : List Port} {i : Nat} (hi : i ≤ ps.length) : (stP f ps i).length = ps.length := by simp [stP]; omega
theorem stP_at {f : Nat → Nat} {ps : List Port} {i : Nat} (hi : i < ps.length) : (stP f ps i)[i]? = some ps[i] := by
  unfold stP
  rw [List.getElem?_append_right (by simp; omega)]
  have : i - ((ps.take i).map (rpP f)).length = 0 := by simp; omega
  rw [this]; simp [hi]
theorem stP_same {f : Nat → Nat} {ps : List Port} {i : Nat} (hi : i < ps.length) : (stP f ps i).set i ps[i] = stP f ps i := by
  apply List.ext_getElem? 
  intro j
  rw [List.getElem?_set]
  split
  · rename_i e; subst e
    rw [stP_at hi]; simp [stP_length (Nat.le_of_lt hi), hi]
  · rfl
theorem stP_next {f : Nat → Nat} {ps : List Port} {i : Nat} (hi : i < ps.length) : (stP f ps i).set i (rpP f ps[i]) = stP f ps (i + 1) := by
  unfold stP
  rw [List.set_append_right _ _ (by simp; omega)]
  have : i - ((ps.take i).map (rpP f)).length = 0 := by simp; omega
  rw [this, List.drop_eq_getElem_cons hi, List.set_cons_zero, List.take_succ_eq_append_getElem hi, List.map_append, List.append_assoc]
  rfl
theorem mixB_zero (f : Nat → Nat) (bs : List Int) : mixB f bs 0 = bs := by simp [mixB]
theorem mixB_full (f : Nat → Nat) (bs : List Int) : mixB f bs bs.length = bs.map (rpB f) := by simp [mixB]
theorem mixB_length {f : Nat → Nat} {bs : List Int} {k : Nat} (hk : k ≤ bs.length) : (mixB f bs k).length = bs.length := by simp [mixB]; omega
theorem mixB_at {f : Nat → Nat} {bs : List Int} {k : Nat} (hk : k < bs.length) : (mixB f bs k)[k]? = some bs[k] := by
  unfold mixB
  rw [List.getElem?_append_right (by simp; omega)]
  have : k - ((bs.take k).map (rpB f)).length = 0 := by simp; omega
  rw [this]; simp [hk]
theorem mixB_next {f : Nat → Nat} {bs : List Int} {k : Nat} (hk : k < bs.length) : (mixB f bs k).set k (rpB f bs[k]) = mixB f bs (k + 1) := by
  unfold mixB
  rw [List.set_append_right _ _ (by simp; omega)]
  have : k - ((bs.take k).map (rpB f)).length = 0 := by simp; omega
  rw [this, List.drop_eq_getElem_cons hk, List.set_cons_zero, List.take_succ_eq_append_getElem hk, List.map_append, List.append_assoc]
  rfl

/-- what sweep.Sweep tells -/
def SwpOut (nodes : List Node) (ins outs : List Port) (e m : Int) (n' : List Node) (i' o' : List Port) : Prop :=
  (∃ k, LevOut nodes ins outs e k) ∧ (e ≠ 0 → m = 0 ∧ n' = [] ∧ i' = [] ∧ o' = []) ∧
  (e = 0 → ∃ l, IsRch nodes (frC ins outs) l ∧ m = (nodes.length : Int) - (plcN l nodes.length : Int) ∧ n' = swT l nodes nodes.length ∧ i' = ins.map (rpP (plcN l)) ∧ o' = outs.map (rpP (plcN l)))
theorem SwpOut.unique {nodes : List Node} {ins outs : List Port} {e e' m m' : Int} {n1 n2 : List Node} {i1 i2 o1 o2 : List Port} (h : SwpOut nodes ins outs e m n1 i1 o1) (h' : SwpOut nodes ins outs e' m' n2 i2 o2) : e = e' ∧ m = m' ∧ n1 = n2 ∧ i1 = i2 ∧ o1 = o2 := by
  obtain ⟨⟨k, h1⟩, h2, h3⟩ := h
  obtain ⟨⟨k', h1'⟩, h2', h3'⟩ := h'
  obtain ⟨rfl, -⟩ := h1.unique h1'
  refine ⟨rfl, ?_⟩
  by_cases h0 : e = 0
  · obtain ⟨l, r0, r1, r2, r3, r4⟩ := h3 h0
    obtain ⟨l', r0', r1', r2', r3', r4'⟩ := h3' h0
    obtain rfl := r0.unique r0'
    subst r1 r2 r3 r4 r1' r2' r3' r4'
    exact ⟨rfl, rfl, rfl, rfl⟩
  · obtain ⟨r1, r2, r3, r4⟩ := h2 h0
    obtain ⟨r1', r2', r3', r4'⟩ := h2' h0
    subst r1 r2 r3 r4 r1' r2' r3' r4'
    exact ⟨rfl, rfl, rfl, rfl⟩

/-! the state in memory -/
abbrev rwNet (g : Nat) (vn vi vo : Value) : Rw := ⟨25, 3, .slice (some ⟨g, 0, none⟩) 1 1, 1, [vn, vi, vo]⟩
theorem ptT_set {v : Value} {ps : List Port} {vs : List Value} {i : Nat} {p : Port} {u : Value} {bs : List Int} (hp : ps[i]? = some p) (hu : vs[i]? = some u) :
    (ptT v ps vs).set (i + 1) (rwInts 3 u bs) = ptT v (ps.set i ⟨p.name, bs⟩) vs := by
  have hi := (List.getElem?_eq_some_iff.1 hp).1
  have hz : (ps.set i ⟨p.name, bs⟩).zip vs = (ps.zip vs).set i (⟨p.name, bs⟩, u) := by
    rw [zip_set]
    congr 1
    apply List.ext_getElem?
    intro j
    rw [List.getElem?_set]
    split
    · rename_i e; subst e
      rw [hu, if_pos (List.getElem?_eq_some_iff.1 hu).1]
    · rfl
  have hh : hdrs (ps.set i ⟨p.name, bs⟩) vs = hdrs ps vs := by
    unfold hdrs
    rw [hz, List.map_set]
    apply List.ext_getElem?
    intro j
    rw [List.getElem?_set]
    split
    · rename_i e; subst e
      have : (ps.zip vs)[i]? = some (p, u) := List.getElem?_zip_eq_some.2 ⟨hp, hu⟩
      rw [List.getElem?_map, this]
      have h1 := (List.getElem?_eq_some_iff.1 hp).1
      have h2 := (List.getElem?_eq_some_iff.1 hu).1
      simp; omega
    · rfl
  unfold ptT
  rw [hh, hz, List.map_set, List.set_cons_succ]
theorem ptT_at {w : World} {B : Nat} {v : Value} {ps : List Port} {vs : List Value} (h : Keep w B (ptT v ps vs)) (hl : vs.length = ps.length) {i : Nat} {p : Port} (hp : ps[i]? = some p) :
    ∃ g c u, v = .slice (some ⟨g, 0, none⟩) ps.length c ∧ vs[i]? = some u ∧ w.cell? ⟨g, i * 2, none⟩ = some (.string p.name) ∧ w.cell? ⟨g, i * 2 + 1, none⟩ = some u := by
  have hi := (List.getElem?_eq_some_iff.1 hp).1
  obtain ⟨u, hu⟩ : ∃ u, vs[i]? = some u := ⟨_, List.getElem?_eq_getElem (by omega)⟩
  obtain ⟨g, c, rfl, -, -⟩ := (ptT_hdr h).form (by rw [hdrs_length hl]; omega)
  have hh : (hdrs ps vs)[i]? = some (p.name, u) := by
    unfold hdrs
    rw [List.getElem?_map, (List.getElem?_zip_eq_some (z := (p, u))).2 ⟨hp, hu⟩]
    rfl
  have hf : ∀ j, j < 2 → ((hdrs ps vs).flatMap hdrF)[i * 2 + j]? = (hdrF (p.name, u))[j]? := fun j hj => by
    obtain ⟨x, hx⟩ : ∃ x, (hdrF (p.name, u))[j]? = some x := by
      rcases (show j = 0 ∨ j = 1 by omega) with rfl | rfl <;> exact ⟨_, rfl⟩
    rw [hx, List.flatMap_def]
    exact flat_at ((hdrs ps vs).map hdrF) 2 (by intro cs hcs; obtain ⟨y, -, rfl⟩ := List.mem_map.1 hcs; rfl) i _ (by rw [List.getElem?_map, hh]; rfl) j x hx
  refine ⟨g, c, u, by rw [hdrs_length hl], hu, ?_, ?_⟩
  · exact (h.cell (i := 0) rfl rfl (j := i * 2) (u := .string p.name) (by have := hf 0 (by omega); simpa using this)).1
  · exact (h.cell (i := 0) rfl rfl (j := i * 2 + 1) (u := u) (by have := hf 1 (by omega); simpa using this)).1
theorem Keep.mid {w : World} {B : Nat} {P U Q : List Rw} (h : Keep w B (P ++ (U ++ Q))) : Keep w B U := h.right.left
/-- a bit of a port is written -/
theorem Keep.ptSet {w : World} {B : Nat} {P Q : List Rw} {v : Value} {ps : List Port} {vs : List Value} (h : Keep w B (P ++ (ptT v ps vs ++ Q))) {i : Nat} {p : Port} (hp : ps[i]? = some p) {b m c : Nat} (hu : vs[i]? = some (.slice (some ⟨b, 0, none⟩) m c)) (j : Nat) (r : Int) :
    Keep (w.setCell ⟨b, j, none⟩ (.int .i64 r)) B (P ++ (ptT v (ps.set i ⟨p.name, p.bits.set j r⟩) vs ++ Q)) := by
  have hb := ptT_bits h.mid hp hu
  have hlt : i + 1 < (ptT v ps vs).length := (List.getElem?_eq_some_iff.1 hb).1
  have h1 : (P ++ (ptT v ps vs ++ Q))[P.length + (i + 1)]? = some (rwInts 3 (.slice (some ⟨b, 0, none⟩) m c) p.bits) := by
    rw [List.getElem?_append_right (by omega), Nat.add_sub_cancel_left, List.getElem?_append_left hlt]
    exact hb
  have h2 := h.setInt h1 j r
  rw [List.set_append_right _ _ (by omega), Nat.add_sub_cancel_left, List.set_append_left _ _ hlt, ptT_set hp hu] at h2
  exact h2
/-- a row of nodes cut to none -/
theorem ownsRow_cut {w : World} {B : Nat} {e : TypeId} {size n c : Nat} {A : Option Addr} {xs : List Value} (h : w.ownsRow B e size (.slice A n c) n xs) : w.ownsRow B e size (.slice A 0 c) 0 [] := by
  refine ⟨by simp, ?_⟩
  rcases h.2 with ⟨h', -⟩ | ⟨g, cap, cur, h', hb, hg, hnc, hcm, hcs, -⟩
  · injection h' with e1 e2 e3
    subst e1 e3
    exact .inl ⟨rfl, rfl⟩
  · injection h' with e1 e2 e3
    subst e1 e3
    exact .inr ⟨g, c, cur, rfl, hb, hg, Nat.zero_le _, hcm, hcs, by simp⟩
theorem Keep.rot {w : World} {B : Nat} {a m : Rw} {U : List Rw} (h : Keep w B ((a :: U) ++ [m])) : Keep w B (a :: m :: U) := by
  refine h.pick (fun i => if i = 0 then 0 else if i = 1 then U.length + 1 else i - 1) (fun i j hi hj e => ?_) fun i r hr => ?_
  · simp only [List.length_cons] at hi hj
    split at e <;> split at e <;> (try split at e) <;> (try split at e) <;> omega
  · match i, hr with
    | 0, hr => exact hr
    | 1, hr =>
      show ((a :: U) ++ [m])[U.length + 1]? = _
      rw [List.getElem?_append_right (by simp)]
      simpa using hr
    | i + 2, hr =>
      have hl : i < U.length := (List.getElem?_eq_some_iff.1 (show U[i]? = some r from hr)).1
      show ((a :: U) ++ [m])[i + 1]? = _
      rw [List.getElem?_append_left (by simp; omega)]
      exact hr
/-- a store elsewhere -/
theorem Keep.skip {w : World} {B : Nat} {T : List Rw} (h : Keep w B T) {X : Nat} (hX : ∀ (i : Nat) (r : Rw), T[i]? = some r → r.v.ownBlock ≠ some X) (j : Nat) (u : Value) : Keep (w.setCell ⟨X, j, none⟩ u) B T :=
  h.other (row := some X) ⟨rfl, rfl, rfl, by simp, fun k _ hk => heap_setCell_other _ ⟨X, j, none⟩ k u (fun e => hk (by rw [e]))⟩ (fun i p hp => .inr (hX i p hp))
theorem usesR_len (x : Node) : (usesR x).length = (many x.kind).toNat := by
  have := many_bd x.kind
  unfold usesR
  rw [List.length_take]
  simp
  omega
theorem renN_0 {f : Nat → Nat} {x : Node} (h : (usesR x).length = 0) : renN f x = x := by
  rw [usesR_len] at h
  obtain ⟨k, a, b, c⟩ := x
  simp only [renN] at h ⊢
  rw [if_neg (by omega), if_neg (by omega), if_neg (by omega)]
theorem renN_1 {f : Nat → Nat} {x : Node} (h : (usesR x).length = 1) : renN f x = ⟨x.kind, f x.a.toNat, x.b, x.c⟩ := by
  rw [usesR_len] at h
  simp only [renN]
  rw [if_pos (by omega), if_neg (by omega), if_neg (by omega)]
theorem renN_2 {f : Nat → Nat} {x : Node} (h : (usesR x).length = 2) : renN f x = ⟨x.kind, f x.a.toNat, f x.b.toNat, x.c⟩ := by
  rw [usesR_len] at h
  simp only [renN]
  rw [if_pos (by omega), if_pos (by omega), if_neg (by omega)]
theorem renN_3 {f : Nat → Nat} {x : Node} (h : (usesR x).length = 3) : renN f x = ⟨x.kind, f x.a.toNat, f x.b.toNat, f x.c.toNat⟩ := by
  rw [usesR_len] at h
  simp only [renN]
  rw [if_pos (by omega), if_pos (by omega), if_pos (by omega)]
theorem usesR_mem {x : Node} {m : Nat} (h : (usesR x).length = m) : (1 ≤ m → x.a ∈ usesR x) ∧ (2 ≤ m → x.b ∈ usesR x) ∧ (3 ≤ m → x.c ∈ usesR x) := by
  have hb := many_bd x.kind
  rw [usesR_len] at h
  unfold usesR
  rw [h]
  rcases (show m = 0 ∨ m = 1 ∨ m = 2 ∨ m = 3 by omega) with rfl | rfl | rfl | rfl <;> simp
theorem infoNodeK : (Try.prog.info? 38).map (fun i => (i.zero, i.size, i.bytes)) = some (some (.agg #[.int .i64 0, .int .i64 0, .int .i64 0, .int .i64 0]), 4, 32) := by kernel_rfl
/-- append of one node to a row of the call's own -/
theorem appN {W : World} {ops : Array Oper} {rest : List Oper} {o : Oper} {a : Act} {Q : Exit → Act → World → Prop} (hgd : o.guard = none)
    (s x : Operand) (ho : o.op = .call { callee := .builtin .append, args := #[s, x], argTypes := #[22, 22] }) {B : Nat} {v : Value} {xs : List Node} (hO : Own kNode 38 W none B v xs) (hB : B ≤ W.heap.size) (hs : a.eval s = v)
    (y : Node) (g : Nat) (hg : W.heap.size = g) (hx : a.eval x = .slice (some ⟨g, 0, none⟩) 1 1) (hl : (xs.length + 1) * 32 ≤ 140737488355328)
    (hK : ∀ v' w', Own kNode 38 w' none B v' (xs ++ [y]) → W.grownBy w' v.ownBlock → (v'.ownBlock = v.ownBlock ∨ ∃ b, v'.ownBlock = some b ∧ W.heap.size ≤ b) → wpList Try.prog ops Q rest (a.put o.dst v') w') :
    wpList Try.prog ops Q (o :: rest) a (W.alloc (.cells #[.int .i64 y.kind, .int .i64 y.a, .int .i64 y.b, .int .i64 y.c] 38)) :=
  app1 kNode 38 22 (.agg #[.int .i64 0, .int .i64 0, .int .i64 0, .int .i64 0]) 32 hgd s x ho Try.underlying22 infoNodeK rfl (by decide) (by decide) none B hO (FootIn.none _) hB hs y y.cells (by rw [hg]; exact hx) rfl hl
    fun v' w' q1 _ _ _ q5 q6 => hK v' w' q1 q5 (q6.imp id fun ⟨b, h1, h2⟩ => ⟨b, h1, by omega⟩)
abbrev swU (vn : Value) (ns : List Node) (vi : Value) (is' : List Port) (vsi : List Value) (vo : Value) (os' : List Port) (vso : List Value) : List Rw := rwNodes vn ns :: (ptT vi is' vsi ++ ptT vo os' vso)
abbrev swV (P n G : Nat) (pl : List Int) (vn : Value) (ns : List Node) (vi : Value) (is' : List Port) (vsi : List Value) (vo : Value) (os' : List Port) (vso : List Value) : List Rw :=
  rwInts 3 (.slice (some ⟨P, 0, none⟩) n n) pl :: rwNet G vn vi vo :: swU vn ns vi is' vsi vo os' vso
theorem swV_start {w2 wr w4 : World} {n c5 : Nat} {pl : List Int} {A5 : Option Addr} {vi vo : Value} {nodes : List Node} {ins outs : List Port} {vsi vso : List Value} (hO : Own kInt 3 wr none w2.heap.size (.slice (some ⟨w2.heap.size, 0, none⟩) n n) pl) (hb : Below w2.heap.size w2 wr)
    (hk : Keep w4 wr.heap.size (netT (.slice A5 nodes.length c5) nodes vi ins vsi vo outs vso)) (hb4 : Below wr.heap.size wr w4) :
    Keep (w4.alloc (.cells #[.slice A5 0 c5, vi, vo] 25)) w2.heap.size (swV w2.heap.size n w4.heap.size pl (.slice A5 0 c5) [] vi ins vsi vo outs vso) := by
  have k0 := (Keep.nil (w := w2) (Nat.le_refl w2.heap.size)).push hb (r := rwInts 3 (.slice (some ⟨w2.heap.size, 0, none⟩) n n) pl) (rwInts_at.2 hO)
  have k4 := k0.append hb4 hk
  have k4' := k4.set (i := 1) (w' := w4) (r' := rwNodes (.slice A5 0 c5) []) rfl (ownsRow_cut (k4.own 1 (rwNodes (.slice A5 nodes.length c5) nodes) rfl)) (World.grownBy.refl _ _) (.inl (by cases A5 <;> rfl))
  have k5 := k4'.push (w' := w4.alloc (.cells #[.slice A5 0 c5, vi, vo] 25)) (r := rwNet w4.heap.size (.slice A5 0 c5) vi vo) ((Below.refl _ _).alloc (Nat.le_refl _) _) (World.ownsRow_lit w4 #[.slice A5 0 c5, vi, vo] 1 (Nat.le_refl _) (by simp [maxLen]) rfl)
  exact Keep.rot k5
section
variable {w : World} {B P n G : Nat} {pl : List Int} {vn vi vo : Value} {ns : List Node} {is' os' : List Port} {vsi vso : List Value}
theorem swV_in (h : Keep w B (swV P n G pl vn ns vi is' vsi vo os' vso)) : Keep w B (ptT vi is' vsi) := h.tail.tail.tail.left
theorem swV_out (h : Keep w B (swV P n G pl vn ns vi is' vsi vo os' vso)) : Keep w B (ptT vo os' vso) := h.tail.tail.tail.right
theorem swV_setIn (h : Keep w B (swV P n G pl vn ns vi is' vsi vo os' vso)) {i : Nat} {p : Port} (hp : is'[i]? = some p) {b m c : Nat} (hu : vsi[i]? = some (.slice (some ⟨b, 0, none⟩) m c)) (j : Nat) (r : Int) :
    Keep (w.setCell ⟨b, j, none⟩ (.int .i64 r)) B (swV P n G pl vn ns vi (is'.set i ⟨p.name, p.bits.set j r⟩) vsi vo os' vso) :=
  Keep.ptSet (P := [_, _, _]) h hp hu j r
theorem swV_setOut (h : Keep w B (swV P n G pl vn ns vi is' vsi vo os' vso)) {i : Nat} {p : Port} (hp : os'[i]? = some p) {b m c : Nat} (hu : vso[i]? = some (.slice (some ⟨b, 0, none⟩) m c)) (j : Nat) (r : Int) :
    Keep (w.setCell ⟨b, j, none⟩ (.int .i64 r)) B (swV P n G pl vn ns vi is' vsi vo (os'.set i ⟨p.name, p.bits.set j r⟩) vso) := by
  have h' : Keep w B ((rwInts 3 (.slice (some ⟨P, 0, none⟩) n n) pl :: rwNet G vn vi vo :: rwNodes vn ns :: ptT vi is' vsi) ++ (ptT vo os' vso ++ [])) := by
    rw [List.append_nil]; exact h
  have h2 := h'.ptSet hp hu j r
  rw [List.append_nil] at h2
  exact h2
theorem swV_net (h : Keep w B (swV P n G pl vn ns vi is' vsi vo os' vso)) (hi : vsi.length = is'.length) (ho : vso.length = os'.length) : NetV w (.agg #[vn, vi, vo]) ns is' os' := netT_net h.tail.tail hi ho
theorem swV_cells (h : Keep w B (swV P n G pl vn ns vi is' vsi vo os' vso)) : w.cell? ⟨G, 0, none⟩ = some vn ∧ w.cell? ⟨G, 1, none⟩ = some vi ∧ w.cell? ⟨G, 2, none⟩ = some vo :=
  ⟨(h.cell (i := 1) (r := rwNet G vn vi vo) rfl rfl (j := 0) rfl).1, (h.cell (i := 1) (r := rwNet G vn vi vo) rfl rfl (j := 1) rfl).1, (h.cell (i := 1) (r := rwNet G vn vi vo) rfl rfl (j := 2) rfl).1⟩
theorem swV_place {l : List Bool} (h : Keep w B (swV P n G (plcT l n n) vn ns vi is' vsi vo os' vso)) {a : Nat} (ha : a < n) : w.cell? ⟨P, a, none⟩ = some (.int .i64 (plcN l a : Nat)) :=
  (h.cell (i := 0) (r := rwInts 3 (.slice (some ⟨P, 0, none⟩) n n) (plcT l n n)) rfl (by show Value.slice _ n _ = Value.slice _ (plcT l n n).length _; rw [plcT_length]) (j := a) (u := .int .i64 (plcN l a : Nat)) (by rw [List.getElem?_map, plcT_at ha]; rfl)).1
end
theorem index_0 (a b : Value) (W : World) : (Instr.index 98 (.agg #[a, b]) (.int .i64 0)).run Try.prog W = .ok a W := by kernel_rfl
theorem index_1 (a b : Value) (W : World) : (Instr.index 98 (.agg #[a, b]) (.int .i64 1)).run Try.prog W = .ok b W := by kernel_rfl
/-- a node more -/
theorem swV_push {w w' : World} {B P n G : Nat} {pl : List Int} {vn v' vi vo : Value} {ns : List Node} {is' os' : List Port} {vsi vso : List Value} {y : Node} (h : Keep w B (swV P n G pl vn ns vi is' vsi vo os' vso)) (ho : Own kNode 38 w' none B v' (ns ++ [y])) (hg : w.grownBy w' vn.ownBlock)
    (hloc : v'.ownBlock = vn.ownBlock ∨ ∃ b, v'.ownBlock = some b ∧ w.heap.size ≤ b) :
    (w'.cell? ⟨G, 0, none⟩ = some vn ∧ w'.frozen? ⟨G, 0, none⟩ = false) ∧ Keep (w'.setCell ⟨G, 0, none⟩ v') B (swV P n G pl v' (ns ++ [y]) vi is' vsi vo os' vso) := by
  have h1 : Keep w' B ((swV P n G pl vn ns vi is' vsi vo os' vso).set 2 (rwNodes v' (ns ++ [y]))) := h.set (i := 2) rfl (rwNodes_at.2 ho) hg hloc
  exact ⟨h1.cell (i := 1) (r := rwNet G vn vi vo) rfl rfl rfl, h1.store (i := 1) (r := rwNet G vn vi vo) rfl rfl 0 v'⟩
end Go.Proofs.Ytbfjacgfifecpaa

/-! ## slipstickref09.Ports. -/
namespace Go.Proofs.Ytbfjacgfifecpaa
open Go.RowKit

abbrev rwPb (g : Nat) (s : ByteArray) (bv : Value) : Rw := ⟨53, 2, .slice (some ⟨g, 0, none⟩) 1 1, 1, [.string s, bv]⟩
theorem Keep.front2 {w : World} {B : Nat} {a b : Rw} {T : List Rw} (h : Keep w B ((T ++ [a]) ++ [b])) : Keep w B (a :: b :: T) := by
  refine h.pick (fun i => if i = 0 then T.length else if i = 1 then T.length + 1 else i - 2) (fun i j hi hj e => ?_) fun i r hr => ?_
  · simp only [List.length_cons] at hi hj
    split at e <;> split at e <;> (try split at e) <;> (try split at e) <;> omega
  · match i, hr with
    | 0, hr =>
      show ((T ++ [a]) ++ [b])[T.length]? = _
      rw [List.getElem?_append_left (by simp), List.getElem?_append_right (by omega)]
      simpa using hr
    | 1, hr =>
      show ((T ++ [a]) ++ [b])[T.length + 1]? = _
      rw [List.getElem?_append_right (by simp)]
      simpa using hr
    | i + 2, hr =>
      have hl : i < T.length := (List.getElem?_eq_some_iff.1 (show T[i]? = some r from hr)).1
      show ((T ++ [a]) ++ [b])[i]? = _
      rw [List.getElem?_append_left (by simp; omega), List.getElem?_append_left hl]
      exact hr
theorem Keep.back {w : World} {B : Nat} {a b h : Rw} {R : List Rw} (k : Keep w B (a :: b :: h :: R)) : Keep w B (h :: (R ++ [b])) := by
  refine k.pick (fun i => if i = R.length + 1 then 1 else i + 2) (fun i j hi hj e => ?_) fun i r hr => ?_
  · simp only [List.length_cons, List.length_append, List.length_nil] at hi hj
    split at e <;> split at e <;> omega
  · match i, hr with
    | 0, hr => simpa using hr
    | i + 1, hr =>
      have hr : (R ++ [b])[i]? = some r := hr
      rcases Nat.lt_or_ge i R.length with h1 | h1
      · rw [List.getElem?_append_left h1] at hr
        rw [if_neg (by omega)]
        exact hr
      · rw [List.getElem?_append_right h1] at hr
        have h2 : i - R.length = 0 := by
          have := (List.getElem?_eq_some_iff.1 hr).1
          simp only [List.length_singleton] at this
          omega
        rw [h2] at hr
        rw [if_pos (by omega)]
        exact hr
/-- what has been made of some ports -/
def PoE (w : World) (B : Nat) (ov : Value) (ps : List Port) : Prop := ∃ vs : List Value, vs.length = ps.length ∧ Keep w B (ptT ov ps vs)
/-- and a port that is being made -/
def PoI (w : World) (B : Nat) (ov : Value) (ps : List Port) (X : Nat) (s : ByteArray) (bv : Value) (bs : List Int) : Prop := ∃ vs : List Value, vs.length = ps.length ∧ Keep w B (rwPb X s bv :: rwInts 3 bv bs :: ptT ov ps vs)
theorem PoE.enter {w : World} {B : Nat} {ov : Value} {ps : List Port} (h : PoE w B ov ps) (s : ByteArray) : PoI (w.alloc (.cells #[.string s, .slice none 0 0] 53)) B ov ps w.heap.size s (.slice none 0 0) [] := by
  obtain ⟨vs, h1, h2⟩ := h
  have k1 := h2.push (w' := w.alloc (.cells #[.string s, .slice none 0 0] 53)) (r := rwPb w.heap.size s (.slice none 0 0)) ((Below.refl _ _).alloc (Nat.le_refl _) _) (World.ownsRow_lit w #[.string s, .slice none 0 0] 1 (Nat.le_refl _) (by simp [maxLen]) rfl)
  have k2 := k1.push (r := rwInts 3 (.slice none 0 0) []) (Below.refl _ _) (rwInts_at.2 (Own.nil _ _ _ _ _))
  exact ⟨vs, h1, k2.front2⟩
section
variable {w w' : World} {B : Nat} {ov : Value} {ps : List Port} {X : Nat} {s : ByteArray} {bv : Value} {bs : List Int}
theorem PoI.below (h : PoI w B ov ps X s bv bs) (hb : Below w.heap.size w w') : PoI w' B ov ps X s bv bs := by obtain ⟨vs, h1, h2⟩ := h; exact ⟨vs, h1, h2.below hb⟩
theorem PoI.own (h : PoI w B ov ps X s bv bs) : Own kInt 3 w none B bv bs := by obtain ⟨vs, h1, h2⟩ := h; exact h2.ints (i := 1) rfl
theorem PoI.box (h : PoI w B ov ps X s bv bs) : (w.cell? ⟨X, 0, none⟩ = some (.string s) ∧ w.cell? ⟨X, 1, none⟩ = some bv) ∧ w.frozen? ⟨X, 1, none⟩ = false ∧ B ≤ X ∧ X < w.heap.size := by
  obtain ⟨vs, h1, h2⟩ := h
  have k0 := h2.cell (i := 0) (r := rwPb X s bv) rfl rfl (j := 0) rfl
  have k1 := h2.cell (i := 0) (r := rwPb X s bv) rfl rfl (j := 1) rfl
  exact ⟨⟨k0.1, k1.1⟩, k1.2, h2.lt (i := 0) (r := rwPb X s bv) rfl (b := X) rfl⟩
theorem PoI.grow (h : PoI w B ov ps X s bv bs) {bv' : Value} {y : Int} (ho : Own kInt 3 w' none B bv' (bs ++ [y])) (hg : w.grownBy w' bv.ownBlock) (hloc : bv'.ownBlock = bv.ownBlock ∨ ∃ b, bv'.ownBlock = some b ∧ w.heap.size ≤ b) :
    ((w'.cell? ⟨X, 0, none⟩ = some (.string s) ∧ w'.cell? ⟨X, 1, none⟩ = some bv) ∧ w'.frozen? ⟨X, 1, none⟩ = false) ∧ PoI (w'.setCell ⟨X, 1, none⟩ bv') B ov ps X s bv' (bs ++ [y]) := by
  obtain ⟨vs, h1, h2⟩ := h
  have k1 : Keep w' B ((rwPb X s bv :: rwInts 3 bv bs :: ptT ov ps vs).set 1 (rwInts 3 bv' (bs ++ [y]))) := h2.setRow (i := 1) rfl ho hg hloc
  have c0 := k1.cell (i := 0) (r := rwPb X s bv) rfl rfl (j := 0) rfl
  have c1 := k1.cell (i := 0) (r := rwPb X s bv) rfl rfl (j := 1) rfl
  exact ⟨⟨⟨c0.1, c1.1⟩, c1.2⟩, vs, h1, k1.store (i := 0) (r := rwPb X s bv) rfl rfl 1 bv'⟩
theorem PoI.hdr (h : PoI w B ov ps X s bv bs) : ∃ hs, Own kHdr 53 w none B ov hs ∧ hs.length = ps.length ∧ ∀ {w' : World} {ov' : Value}, Own kHdr 53 w' none B ov' (hs ++ [(s, bv)]) → w.grownBy w' ov.ownBlock → (ov'.ownBlock = ov.ownBlock ∨ ∃ b, ov'.ownBlock = some b ∧ w.heap.size ≤ b) → PoE w' B ov' (ps ++ [⟨s, bs⟩]) := by
  obtain ⟨vs, h1, h2⟩ := h
  refine ⟨hdrs ps vs, ptT_hdr h2.tail.tail, hdrs_length h1, fun {w' ov'} ho hg hloc => ⟨vs ++ [bv], by simp [h1], ?_⟩⟩
  have k1 : Keep w' B ((rwPb X s bv :: rwInts 3 bv bs :: ptT ov ps vs).set 2 (rwHdr ov' (hdrs ps vs ++ [(s, bv)]))) := h2.set (i := 2) (r := rwHdr ov (hdrs ps vs)) rfl (rwHdr_own.1 ho).1 hg hloc
  have k2 := Keep.back (R := (ps.zip vs).map rwBits) k1
  rw [ptT, hdrs, List.zip_append h1.symm, List.map_append, List.map_append]
  exact k2
end
theorem ptT_rowS {w : World} {B : Nat} {v : Value} {ps : List Port} {vs : List Value} (h : Keep w B (ptT v ps vs)) (hl : vs.length = ps.length) : Row kPort w (under B) v ps := by
  have ho := ptT_hdr h
  obtain ⟨A, c, css, rfl, r1, r2, r0, r3, r4⟩ := ho.row (show 0 < 2 by decide) (Nat.le_refl _)
  have hn := hdrs_length hl
  rw [hn] at r1 r4
  refine ⟨A, c, css, by rw [hn], r1, r2, r0, ⟨by rw [r3.1, hn], fun i p cs hp hc => ?_⟩, fun h0 => ?_⟩
  · have hi := (List.getElem?_eq_some_iff.1 hp).1
    obtain ⟨u, hu⟩ : ∃ u, vs[i]? = some u := ⟨_, List.getElem?_eq_getElem (by omega)⟩
    have hh : (hdrs ps vs)[i]? = some (p.name, u) := by
      unfold hdrs
      rw [List.getElem?_map, (List.getElem?_zip_eq_some (z := (p, u))).2 ⟨hp, hu⟩]
      rfl
    obtain ⟨rfl, -⟩ := r3.2 i _ cs hh hc
    have hk := ptT_bits h hp hu
    exact ⟨u, rfl, (h.ints hk).rowS _ (fun g hg hm => by have := (h.lt hk hg).1; have : g < B := hm; omega)⟩
  · obtain ⟨b, off, rfl, q1, _, q3⟩ := r4 h0
    exact ⟨b, off, rfl, q1, fun hm => by have := (h.lt (i := 0) rfl (b := b) rfl).1; have : b < B := hm; omega, q3⟩
theorem PoE.row {w : World} {B : Nat} {ov : Value} {ps : List Port} (h : PoE w B ov ps) : Row kPort w (under B) ov ps := by obtain ⟨vs, h1, h2⟩ := h; exact ptT_rowS h2 h1

/-- append of one number that lies in a block -/
theorem wp_appG {W : World} {o : Oper} {a : Act} {K : Act → World → Prop} {Q : Exit → Act → World → Prop}
    (s x : Operand) (ho : o.op = .call { callee := .builtin .append, args := #[s, x], argTypes := #[28, 28] }) {B : Nat} {v : Value} {xs : List Int} (hO : Own kInt 3 W none B v xs) (hB : B ≤ W.heap.size) (hs : a.eval s = v)
    (y : Int) (g : Nat) (hc : W.cell? ⟨g, 0, none⟩ = some (.int .i64 y)) (hx : a.eval x = .slice (some ⟨g, 0, none⟩) 1 1) (hl : (xs.length + 1) * 8 ≤ 140737488355328)
    (hK : ∀ v' w', Own kInt 3 w' none B v' (xs ++ [y]) → W.grownBy w' v.ownBlock → (v'.ownBlock = v.ownBlock ∨ ∃ b, v'.ownBlock = some b ∧ W.heap.size ≤ b) → K (a.put o.dst v') w') : o.wp Try.prog a W K Q :=
  wp_app kInt 3 28 (.int .i64 0) 8 s x ho Try.underlying28 infoIntK rfl (by decide) (by decide) none B hO (FootIn.none _) hB hs ⟨g, 0, none⟩ 1 1 [y] [[.int .i64 y]] hx rfl ((Pairs.nil _ _ _).snoc rfl)
    (fun j u hu => by
      match j, hu with
      | 0, hu => simp at hu; subst hu; exact hc
      | j + 1, hu => simp at hu) hl fun v' w' q1 _ _ _ q5 q6 => hK v' w' q1 q5 (q6.imp id fun h => ⟨_, h, Nat.le_refl _⟩)
set_option maxHeartbeats 2000000 in
set_option maxRecDepth 4096 in
theorem portsR_ref (w : World) (v u : Value) (ps : List Port) (pl : List Int) (f : Nat → Nat) (hx : Row kPort w (fun _ => False) v ps) (hu : Row kInt w (fun _ => False) u pl) (hl : ps.length ≤ 1073741824) (hb : ∀ q ∈ ps, q.bits.length ≤ 1099511627776)
    (hpl : ∀ q ∈ ps, ∀ b ∈ q.bits, ∃ a : Nat, b = (a : Int) ∧ pl[a]? = some (f a : Int)) :
    Calls Try.prog 76 #[v, u] w fun e w' => ∃ v', e = .returned v' ∧ Row kPort w' (under w.heap.size) v' (ps.map (rpP f)) ∧ Below w.heap.size w w' := by
  obtain ⟨A, c, rfl, -, -⟩ := hx.shape
  obtain ⟨Au, cu, rfl, -, -⟩ := hu.shape
  have hb0 : Below w.heap.size w (w.alloc (.cells #[] 53)) := (Below.refl _ _).alloc (Nat.le_refl _) _
  have h0 : PoE (w.alloc (.cells #[] 53)) w.heap.size (.slice (some ⟨w.heap.size, 0, none⟩) 0 0) ((ps.take 0).map (rpP f)) := ⟨[], rfl, (Keep.nil (w := w) (Nat.le_refl _)).push hb0 (r := rwHdr (.slice (some ⟨w.heap.size, 0, none⟩) 0 0) []) (World.ownsRow_lit w #[] 0 (Nat.le_refl _) (by simp [maxLen]) rfl)⟩
  have HX := Lib.hid hx
  have HU := Lib.hid hu
  have HBL := Lib.hid hb
  have HPL := Lib.hid hpl
  have H0 := Lib.hid h0
  have HB0 := Lib.hid hb0
  clear hx hu hb hpl h0 hb0
  go_enter Try.func76, Try.ntmps76
  go_wp2_with fail
  go_loopw [5, 6] (fun ov iv wr => ∃ i : Nat, iv = .int .i64 i ∧ i ≤ ps.length ∧ Hid (PoE wr w.heap.size ov ((ps.take i).map (rpP f))) ∧ Hid (Below w.heap.size w wr)) (fun ov iv _ => ps.length - (intOf iv).toNat)
  case atStart => exact ⟨0, rfl, Nat.zero_le _, H0, HB0⟩
  case round =>
    clear H0 HB0
    obtain ⟨i, rfl, hi, HE, HB⟩ := hrel
    by_cases hlt : i < ps.length
    · obtain ⟨b, off, A3, d3, rfl, x0, x1, hxb⟩ := HX.out.port_at hlt
      have hm := List.getElem_mem hlt
      have hbl := HBL.out _ hm
      have hpb := HPL.out _ hm
      have HT := Lib.hid (show (ps.take (i + 1)).map (rpP f) = (ps.take i).map (rpP f) ++ [rpP f ps[i]] by rw [List.take_succ_eq_append_getElem hlt, List.map_append]; rfl)
      obtain ⟨x, hxx⟩ : ∃ x, ps[i] = x := ⟨_, rfl⟩
      rw [hxx] at x0 x1 hxb hbl hpb HT
      clear hxx hm
      obtain ⟨s, bs⟩ := x
      dsimp only at x0 x1 hxb hbl hpb
      have HPB := Lib.hid hpb
      have HI := Lib.hid (HE.out.enter s)
      have HBX := Lib.hid (HB.out.alloc HB.out.size (.cells #[.string s, .slice none 0 0] 53))
      have HXB := Lib.hid hxb
      have HC1 := Lib.hid (fun W (hW : Below w.heap.size w W) => cellBelow hW x1)
      replace x0 := cellBelow HB.out x0
      obtain ⟨X, hX⟩ : ∃ X, wr.heap.size = X := ⟨_, rfl⟩
      rw [hX] at HI
      clear hxb hpb HE HB x1
      go_wp2_with fail
      clear hX x0
      obtain ⟨wo, hwo⟩ : ∃ wo, wo = wr := ⟨_, rfl⟩
      subst hwo
      go_loopw [8] (fun kv wp => ∃ k : Nat, kv = .int .i64 k ∧ k ≤ bs.length ∧ Hid (∃ bv, PoI wp w.heap.size u5 ((ps.take i).map (rpP f)) X s bv ((bs.take k).map (rpB f))) ∧ Hid (Below w.heap.size w wp)) (fun kv _ => bs.length - (intOf kv).toNat)
      case atStart => exact ⟨0, rfl, Nat.zero_le _, Lib.hid ⟨_, HI.out⟩, HBX⟩
      case round =>
        clear HI HBX
        obtain ⟨k, rfl, hk, HE, HBW⟩ := hrel
        obtain ⟨bv, hp⟩ := HE.out
        have HP := Lib.hid hp
        have x1 := HC1.out _ HBW.out
        obtain ⟨⟨y0, y1⟩, y2, y3, y4⟩ := hp.box
        clear hp HE
        by_cases hkt : k < bs.length
        · obtain ⟨b2, off2, rfl, x2⟩ := HXB.out.int_at hkt
          have HT2 := Lib.hid (show (bs.take (k + 1)).map (rpB f) = (bs.take k).map (rpB f) ++ [rpB f bs[k]] by rw [List.take_succ_eq_append_getElem hkt, List.map_append]; rfl)
          obtain ⟨a, ha, hpa⟩ := HPB.out _ (List.getElem_mem hkt)
          rw [ha] at x2 HT2
          have hal := (List.getElem?_eq_some_iff.1 hpa).1
          have hpa2 := (List.getElem?_eq_some_iff.1 hpa).2
          obtain ⟨b3, off3, rfl, x3⟩ := HU.out.int_at hal
          rw [hpa2] at x3
          obtain ⟨A8, c8, he8, -, -⟩ := HP.out.own.shape
          have hl8 : ((bs.take k).map (rpB f)).length = k := by simp; omega
          rw [hl8] at he8
          subst he8
          have hall : ∀ W, Below w.heap.size w W → W.cell? ⟨X, 1, none⟩ = some (.slice A8 k c8) → (fun W => W.cell? ⟨b, off + i * 2 + 1, none⟩ = some (.slice (some ⟨b2, off2, none⟩) bs.length d3) ∧ W.cell? ⟨b2, off2 + k, none⟩ = some (.int .i64 (a : Int)) ∧ W.cell? ⟨b3, off3 + a, none⟩ = some (.int .i64 (f a : Int)) ∧ W.cell? ⟨X, 1, none⟩ = some (.slice A8 k c8)) W := fun W hW hx => ⟨HC1.out W hW, cellBelow hW x2, cellBelow hW x3, hx⟩
          have hba : Below wr.heap.size wr (wr.alloc (.cells #[.int .i64 (f a : Int)] 3)).drew := ((Below.refl _ _).alloc (Nat.le_refl _) _).drew
          obtain ⟨wa, hwa⟩ : ∃ wa, wa = (wr.alloc (.cells #[.int .i64 (f a : Int)] 3)).drew := ⟨_, rfl⟩
          have HCA := Lib.hid (show wa.cell? ⟨wr.heap.size, 0, none⟩ = some (.int .i64 (f a : Int)) by rw [hwa]; exact World.cell?_alloc_new _ _ _ 0)
          rw [← hwa] at hba
          have HWA := Lib.hid hwa
          have HBA := Lib.hid (HBW.out.trans (hba.mono HBW.out.size))
          have HPA := Lib.hid (HP.out.below hba)
          have HOA := Lib.hid HPA.out.own
          have HLEN := Lib.hid (show ((((bs.take k).map (rpB f)).length) + 1) * 8 ≤ 140737488355328 by rw [hl8]; omega)
          have HWB := Lib.hid (show w.heap.size ≤ wa.heap.size from HBA.out.size)
          have HL8 := Lib.hid (fun y : Int => (show ((bs.take k).map (rpB f) ++ [y]).length = k + 1 by rw [List.length_append, hl8]; rfl))
          have HALL := Lib.hid hall
          have HX0 := Lib.hid (hall wr HBW.out y1)
          have HXD := Lib.hid (show (fun W => W.cell? ⟨b, off + i * 2 + 1, none⟩ = some (.slice (some ⟨b2, off2, none⟩) bs.length d3) ∧ W.cell? ⟨b2, off2 + k, none⟩ = some (.int .i64 (a : Int)) ∧ W.cell? ⟨b3, off3 + a, none⟩ = some (.int .i64 (f a : Int)) ∧ W.cell? ⟨X, 1, none⟩ = some (.slice A8 k c8)) wr.drew from hall wr HBW.out y1)
          have HXA := Lib.hid (show (fun W => W.cell? ⟨b, off + i * 2 + 1, none⟩ = some (.slice (some ⟨b2, off2, none⟩) bs.length d3) ∧ W.cell? ⟨b2, off2 + k, none⟩ = some (.int .i64 (a : Int)) ∧ W.cell? ⟨b3, off3 + a, none⟩ = some (.int .i64 (f a : Int)) ∧ W.cell? ⟨X, 1, none⟩ = some (.slice A8 k c8)) (wr.alloc (.cells #[.int .i64 (f a : Int)] 3)).drew by rw [← hwa]; exact hall wa HBA.out HPA.out.box.1.2)
          have HXA2 := Lib.hid (show (fun W => W.cell? ⟨b, off + i * 2 + 1, none⟩ = some (.slice (some ⟨b2, off2, none⟩) bs.length d3) ∧ W.cell? ⟨b2, off2 + k, none⟩ = some (.int .i64 (a : Int)) ∧ W.cell? ⟨b3, off3 + a, none⟩ = some (.int .i64 (f a : Int)) ∧ W.cell? ⟨X, 1, none⟩ = some (.slice A8 k c8)) (wr.alloc (.cells #[.int .i64 (f a : Int)] 3)) from HXA.out)
          have hal2 : (a : Int) < (pl.length : Int) := by omega
          have hkt2 : (k : Int) < (bs.length : Int) := by omega
          replace x2 := cellBelow HBW.out x2
          replace x3 := cellBelow HBW.out x3
          have x1d : wr.drew.cell? _ = _ := x1
          have x2d : wr.drew.cell? _ = _ := x2
          have x3d : wr.drew.cell? _ = _ := x3
          have y1d : wr.drew.cell? _ = _ := y1
          clear hba hwa hall hpa hpa2 ha y0 y2
          go_wp2_with fail
          go_region_law (
              (rw [← HWA.out]; refine step_app rfl (wp_appG (.tmp 33) (.tmp 45) rfl HOA.out HWB.out rfl (f a : Int) wr.heap.size HCA.out rfl HLEN.out ?_); intro v5 w5 q1 q5 q6; obtain ⟨⟨⟨p0, p1⟩, p2⟩, hp5⟩ := HPA.out.grow q1 q5 q6; have HP5 := Lib.hid hp5; obtain ⟨A6, c6, he6, -, -⟩ := q1.shape; rw [HL8.out] at he6; have HB5 := Lib.hid (HBA.out.grown q5 HWB.out (fun g hg => (HOA.out.base hg).1)); obtain ⟨l1, l2, l3, -⟩ := HALL.out w5 HB5.out p1; subst he6; clear q1 q5 q6 hp5))
          all_goals
            go_wp2_with fail
            refine ⟨⟨k + 1, by go_num, by omega, Lib.hid ⟨_, by rw [HT2.out]; exact HP5.out⟩, Lib.hid (HB5.out.setCell (p := ⟨X, 1, none⟩) y3 _)⟩, ?_⟩
            simp [intOf]; omega
        · obtain rfl : k = bs.length := by omega
          obtain ⟨A8, c8, he8, -, -⟩ := HP.out.own.shape
          rw [List.length_map, List.length_take, Nat.min_self] at he8
          subst he8
          obtain ⟨hs, ho, hhl, hnext⟩ := HP.out.hdr
          have HO := Lib.hid ho
          have HNX := Lib.hid (fun w' ov' => hnext (w' := w') (ov' := ov'))
          have HHL := Lib.hid (show (hs.length + 1) * 40 ≤ 140737488355328 by rw [hhl, List.length_map, List.length_take]; omega)
          have hbs := HBW.out.size
          clear ho hhl hnext
          go_wp2_with (at_builtin; go_loud (refine app1 kHdr 53 23 (.agg #[.string ⟨#[]⟩, .slice none 0 0]) 40 rfl (.tmp 48) (.tmp 50) rfl Try.underlying23 infoPort rfl Nat.two_pos (by decide) none w.heap.size HO.out (FootIn.none _) hbs rfl (s, .slice A8 bs.length c8) [.string s, .slice A8 bs.length c8] rfl ⟨rfl, rfl⟩ HHL.out ?_; intro v5 w5 q1 q2 q3 q4 q5 q6; have HQ := Lib.hid (HNX.out w5 v5 q1 q5 (q6.imp id fun ⟨b, h1, h2⟩ => ⟨b, h1, by omega⟩)); have HB5 := Lib.hid (HBW.out.grown q5 hbs (fun g hg => (HO.out.base hg).1)); clear q1 q2 q3 q4 q5 q6))
          have HQ2 : Hid (PoE w5 w.heap.size v5 ((ps.take (i + 1)).map (rpP f))) := by
            have h := HQ.out
            rw [List.take_length] at h
            rw [HT.out]
            exact Lib.hid h
          refine ⟨⟨i + 1, by go_num, by omega, HQ2, HB5⟩, ?_⟩
          simp [intOf]; omega
    · obtain rfl : i = ps.length := by omega
      have h := HE.out
      rw [List.take_length] at h
      have HR := Lib.hid h.row
      clear h
      go_wp2
      go_ret
      exact ⟨_, rfl, HR.out, HB.out⟩
end Go.Proofs.Ytbfjacgfifecpaa
