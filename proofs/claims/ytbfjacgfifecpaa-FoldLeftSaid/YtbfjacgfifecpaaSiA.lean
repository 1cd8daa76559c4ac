/- Any net, cycle by cycle, plain: orders, values, the way down from a node. -/
import Derived.Test.YtbfjacgfifecpaaJReach
namespace Go.Proofs.Ytbfjacgfifecpaa

def Frm (nodes : List Node) : Prop := ∀ x ∈ nodes, rightB x nodes.length = true
theorem Frm.of {nodes : List Node} {ins outs : List Port} (h : formedB nodes ins outs = true) : Frm nodes := by
  rw [formedB, Bool.and_eq_true, List.all_eq_true] at h
  exact h.1
theorem useAt_at {nodes : List Node} {u : Nat} {x : Node} (h : nodes[u]? = some x) : useAt nodes u = usesN x := by rw [useAt, h]
theorem Frm.uses {nodes : List Node} (h : Frm nodes) {u v : Nat} (hv : v ∈ useAt nodes u) : v < nodes.length := by
  unfold useAt at hv
  cases hx : nodes[u]? with
  | none => rw [hx] at hv; simp at hv
  | some x =>
    rw [hx] at hv
    dsimp only at hv
    unfold usesN at hv
    split at hv
    · simp at hv
    · obtain ⟨z, hz, rfl⟩ := List.mem_map.1 hv
      have := rightB_uses (h x (List.mem_of_getElem? hx)) z hz
      omega

/-- each place once, behind those it uses -/
structure Beh (nodes : List Node) (o : List Nat) : Prop where
  at_ : ∀ j (h : j < o.length), o[j] < nodes.length ∧ o[j] ∉ o.take j ∧ ∀ v ∈ useAt nodes o[j], v ∈ o.take j
theorem Beh.nil (nodes : List Node) : Beh nodes [] := ⟨fun j h => by simp at h⟩
theorem Beh.snoc {nodes : List Node} {o : List Nat} (h : Beh nodes o) {u : Nat} (hu : u < nodes.length) (hn : u ∉ o) (hv : ∀ v ∈ useAt nodes u, v ∈ o) : Beh nodes (o ++ [u]) := ⟨fun j hj => by
  rw [List.length_append, List.length_singleton] at hj
  rcases Nat.lt_or_ge j o.length with h' | h'
  · rw [List.getElem_append_left h', List.take_append_of_le_length (by omega)]
    exact h.at_ j h'
  · obtain rfl : j = o.length := by omega
    rw [List.getElem_append_right (Nat.le_refl _), List.take_left' rfl]
    simp only [Nat.sub_self, List.getElem_cons_zero]
    exact ⟨hu, hn, hv⟩⟩
theorem Beh.mem {nodes : List Node} {o : List Nat} (h : Beh nodes o) {u : Nat} (hu : u ∈ o) : u < nodes.length := by
  obtain ⟨j, hj, rfl⟩ := List.mem_iff_getElem.1 hu
  exact (h.at_ j hj).1
theorem Beh.nodup {nodes : List Node} {o : List Nat} (h : Beh nodes o) : o.Nodup := by
  rw [List.nodup_iff_pairwise_ne, List.pairwise_iff_getElem]
  intro i j hi hj hij e
  refine (h.at_ j hj).2.1 ?_
  rw [← e]
  exact List.mem_take_iff_getElem.2 ⟨i, by omega, rfl⟩
theorem nodup_len {n : Nat} {o : List Nat} (hd : o.Nodup) (h : ∀ u ∈ o, u < n) : o.length ≤ n := nodup_le n o hd h
theorem Beh.length {nodes : List Node} {o : List Nat} (h : Beh nodes o) : o.length ≤ nodes.length := nodup_len h.nodup fun _ hu => h.mem hu

/-! ### values -/
def IsVal (nodes : List Node) (st inn V : List Bool) : Prop := V.length = nodes.length ∧ ∀ u x, nodes[u]? = some x → V.getD u false = valB x V st inn u
theorem gateB_congr {x : Node} {vs vs' : List Bool} (h : ∀ v ∈ (usesR x).map Int.toNat, vs.getD v false = vs'.getD v false) (hk : 2 ≤ x.kind ∧ x.kind ≤ 6) : gateB x vs = gateB x vs' := by
  obtain ⟨k, a, b, c⟩ := x
  dsimp only at hk
  have ha : ∀ z ∈ usesR ⟨k, a, b, c⟩, at_ vs z = at_ vs' z := fun z hz => h z.toNat (List.mem_map.2 ⟨z, hz, rfl⟩)
  rcases (show k = 2 ∨ k = 3 ∨ k = 4 ∨ k = 5 ∨ k = 6 by omega) with rfl | rfl | rfl | rfl | rfl <;> simp [usesR, many] at ha <;> simp [gateB, ha]
theorem valB_congr {x : Node} {vs vs' st inn : List Bool} {u n : Nat} (hr : rightB x n = true) (h : ∀ v ∈ usesN x, vs.getD v false = vs'.getD v false) : valB x vs st inn u = valB x vs' st inn u := by
  have hk := rightB_kind hr
  unfold valB
  split
  · rfl
  · split
    · rfl
    · split
      · rfl
      · rename_i h0 h1 h7
        exact gateB_congr (fun v hv => h v (by unfold usesN; rw [if_neg h7]; exact hv)) (by omega)
def valStep (nodes : List Node) (st inn vs : List Bool) (u : Nat) : List Bool := match nodes[u]? with | some x => vs.set u (valB x vs st inn u) | none => vs
def valsO (nodes : List Node) (st inn : List Bool) (o : List Nat) : List Bool := o.foldl (valStep nodes st inn) (List.replicate nodes.length false)
theorem valsO_snoc (nodes : List Node) (st inn : List Bool) (o : List Nat) (u : Nat) : valsO nodes st inn (o ++ [u]) = valStep nodes st inn (valsO nodes st inn o) u := by simp [valsO]
theorem valStep_length (nodes : List Node) (st inn vs : List Bool) (u : Nat) : (valStep nodes st inn vs u).length = vs.length := by
  unfold valStep
  split <;> simp
theorem valsO_length (nodes : List Node) (st inn : List Bool) (o : List Nat) : (valsO nodes st inn o).length = nodes.length := by
  unfold valsO
  generalize h : List.replicate nodes.length false = vs
  have hl : vs.length = nodes.length := by rw [← h]; simp
  clear h
  induction o generalizing vs with
  | nil => exact hl
  | cons u o ih => rw [List.foldl_cons]; exact ih _ (by rw [valStep_length]; exact hl)
theorem getDB_setN {l : List Bool} {i j : Nat} {b : Bool} (h : i < l.length) : (l.set i b).getD j false = if i = j then b else l.getD j false := by
  rw [List.getD_eq_getElem?_getD, List.getElem?_set, List.getD_eq_getElem?_getD]
  by_cases e : i = j
  · subst e; simp [h]
  · rw [if_neg e, if_neg e]
theorem valsO_done {nodes : List Node} (hf : Frm nodes) {o : List Nat} (hb : Beh nodes o) (st inn : List Bool) : ∀ j, j ≤ o.length → ∀ u ∈ o.take j, ∀ x, nodes[u]? = some x → (valsO nodes st inn (o.take j)).getD u false = valB x (valsO nodes st inn (o.take j)) st inn u ∧ ∀ v ∈ useAt nodes u, v ∈ o.take j := by
  intro j
  induction j with
  | zero => intro _ u hu; simp at hu
  | succ j ih =>
    intro hj u hu x hx
    have hlt : j < o.length := by omega
    obtain ⟨a1, a2, a3⟩ := hb.at_ j hlt
    have hT := List.take_succ_eq_append_getElem hlt
    have hxj := List.getElem?_eq_getElem a1
    have hl := valsO_length nodes st inn (o.take j)
    have hs : ∀ v, (valsO nodes st inn (o.take (j + 1))).getD v false = if o[j] = v then valB nodes[o[j]] (valsO nodes st inn (o.take j)) st inn o[j] else (valsO nodes st inn (o.take j)).getD v false := fun v => by
      rw [hT, valsO_snoc, valStep, hxj]
      exact getDB_setN (by omega)
    have hr := hf x (List.mem_of_getElem? hx)
    have hne : ∀ v ∈ o.take j, o[j] ≠ v := fun v hv e => a2 (e ▸ hv)
    rw [hT] at hu
    rcases List.mem_append.1 hu with hu | hu
    · obtain ⟨i1, i2⟩ := ih (by omega) u hu x hx
      refine ⟨?_, fun v hv => by rw [hT]; exact List.mem_append_left _ (i2 v hv)⟩
      rw [hs, if_neg (hne u hu), i1]
      refine valB_congr hr fun v hv => ?_
      rw [hs, if_neg (hne v (i2 v (by rw [useAt_at hx]; exact hv)))]
    · obtain rfl : u = o[j] := by simpa using hu
      rw [hxj] at hx
      injection hx with hx
      refine ⟨?_, fun v hv => by rw [hT]; exact List.mem_append_left _ (a3 v hv)⟩
      rw [hs, if_pos rfl, hx]
      refine valB_congr hr fun v hv => ?_
      rw [hs, if_neg (hne v (a3 v (by rw [useAt_at hxj, hx]; exact hv)))]
theorem valsO_is {nodes : List Node} (hf : Frm nodes) {o : List Nat} (hb : Beh nodes o) (ha : ∀ u, u < nodes.length → u ∈ o) (st inn : List Bool) : IsVal nodes st inn (valsO nodes st inn o) := by
  refine ⟨valsO_length _ _ _ _, fun u x hx => ?_⟩
  have h := valsO_done hf hb st inn o.length (Nat.le_refl _) u (by rw [List.take_length]; exact ha u (List.getElem?_eq_some_iff.1 hx).1) x hx
  rw [List.take_length] at h
  exact h.1
theorem list_getDB_ext {l l' : List Bool} (hl : l.length = l'.length) (h : ∀ i, i < l.length → l.getD i false = l'.getD i false) : l = l' := by
  apply List.ext_getElem hl
  intro i h1 h2
  have := h i h1
  rwa [List.getD_eq_getElem?_getD, List.getD_eq_getElem?_getD, List.getElem?_eq_getElem h1, List.getElem?_eq_getElem h2] at this
theorem IsVal.unique {nodes : List Node} {l : List Int} {st inn V V' : List Bool} (hf : Frm nodes) (hl : IsLev nodes l) (h : IsVal nodes st inn V) (h' : IsVal nodes st inn V') : V = V' := by
  have key : ∀ (d : Nat) (u : Nat), u < nodes.length → (l.getD u 0).toNat = d → V.getD u false = V'.getD u false := by
    intro d
    induction d using Nat.strongRecOn with
    | _ d ih =>
      intro u hu hd
      have hx := List.getElem?_eq_getElem hu
      have e := hl.2 u nodes[u] hx
      rw [h.2 u _ hx, h'.2 u _ hx]
      refine valB_congr (hf _ (List.getElem_mem hu)) fun v hv => ?_
      have := lvl_ge (l := l) hv
      have := hl.nonneg v
      exact ih (l.getD v 0).toNat (by omega) v (hf.uses (u := u) (by rw [useAt_at hx]; exact hv)) rfl
  exact list_getDB_ext (h.1.trans h'.1.symm) fun u hu => key _ u (by rw [← h.1]; exact hu) rfl
/-- the values -/
noncomputable def valsC (nodes : List Node) (st inn : List Bool) : List Bool := by
  classical
  exact if h : ∃ V, IsVal nodes st inn V then h.choose else []
theorem valsC_eq {nodes : List Node} {l : List Int} {st inn V : List Bool} (hf : Frm nodes) (hl : IsLev nodes l) (h : IsVal nodes st inn V) : valsC nodes st inn = V := by
  have he : ∃ V, IsVal nodes st inn V := ⟨V, h⟩
  unfold valsC
  rw [dif_pos he]
  exact IsVal.unique hf hl he.choose_spec h

/-! ### the way down from a node -/
/-- which one it waits for -/
def waitI (st : List Int) (us : List Nat) : Int := us.foldl (fun wt u => if st.getD u 0 < 2 then (u : Int) else wt) (-1)
theorem waitI_snoc (st : List Int) (us : List Nat) (u : Nat) : waitI st (us ++ [u]) = if st.getD u 0 < 2 then (u : Int) else waitI st us := by simp [waitI]
theorem waitI_is (st : List Int) (us : List Nat) : (waitI st us = -1 ∧ ∀ u ∈ us, ¬ st.getD u 0 < 2) ∨ ∃ u ∈ us, waitI st us = (u : Int) ∧ st.getD u 0 < 2 := by
  rcases List.eq_nil_or_concat us with rfl | ⟨us, u, rfl⟩
  · exact .inl ⟨rfl, by simp⟩
  · rw [List.concat_eq_append, waitI_snoc]
    by_cases h : st.getD u 0 < 2
    · rw [if_pos h]; exact .inr ⟨u, by simp, rfl, h⟩
    · rw [if_neg h]
      rcases waitI_is st us with ⟨h1, h2⟩ | ⟨v, h1, h2, h3⟩
      · exact .inl ⟨h1, fun v hv => by
          rcases List.mem_append.1 hv with hv | hv
          · exact h2 v hv
          · obtain rfl : v = u := by simpa using hv
            exact h⟩
      · exact .inr ⟨v, List.mem_append_left _ h1, h2, h3⟩
termination_by us.length
decreasing_by simp_all
/-- s: the way; o: what is done -/
structure FI (nodes : List Node) (l : List Int) (i : Nat) (st : List Int) (o s : List Nat) : Prop where
  len : st.length = nodes.length
  beh : Beh nodes o
  val : ∀ u, u < nodes.length → st.getD u 0 = 0 ∨ st.getD u 0 = 1 ∨ st.getD u 0 = 2
  two : ∀ u, u < nodes.length → (st.getD u 0 = 2 ↔ u ∈ o)
  one : ∀ u, u < nodes.length → st.getD u 0 = 1 → u ∈ s
  inn : ∀ u ∈ s, u < nodes.length ∧ st.getD u 0 < 2
  fall : s.Pairwise (fun a b => l.getD b 0 < l.getD a 0)
  low : ∀ u, u < i → u ∈ o
theorem FI.init (nodes : List Node) (l : List Int) : FI nodes l 0 (List.replicate nodes.length 0) [] [] :=
  ⟨by simp, Beh.nil _, fun u hu => .inl (by rw [List.getD_eq_getElem?_getD, List.getElem?_replicate]; simp [hu]), fun u hu => by rw [List.getD_eq_getElem?_getD, List.getElem?_replicate]; simp [hu], fun u hu h => by rw [List.getD_eq_getElem?_getD, List.getElem?_replicate] at h; simp [hu] at h, fun u hu => by simp at hu, List.Pairwise.nil, fun u hu => by omega⟩
theorem getDI_set {l : List Int} {i j : Nat} {b : Int} (h : i < l.length) : (l.set i b).getD j 0 = if i = j then b else l.getD j 0 := by
  rw [List.getD_eq_getElem?_getD, List.getElem?_set, List.getD_eq_getElem?_getD]
  by_cases e : i = j
  · subst e; simp [h]
  · rw [if_neg e, if_neg e]
theorem FI.nodup {nodes : List Node} {l : List Int} {i : Nat} {st : List Int} {o s : List Nat} (h : FI nodes l i st o s) : s.Nodup := by
  rw [List.nodup_iff_pairwise_ne]
  exact h.fall.imp fun {a b} hab e => by subst e; omega
theorem FI.slen {nodes : List Node} {l : List Int} {i : Nat} {st : List Int} {o s : List Nat} (h : FI nodes l i st o s) : s.length ≤ nodes.length := nodup_len h.nodup fun u hu => (h.inn u hu).1
/-- the outer loop lays a node -/
theorem FI.lay {nodes : List Node} {l : List Int} {i : Nat} {st : List Int} {o : List Nat} (h : FI nodes l i st o []) (hi : i < nodes.length) (h0 : st.getD i 0 = 0) : FI nodes l i st o [i] :=
  ⟨h.len, h.beh, h.val, h.two, fun u hu h1 => by have := h.one u hu h1; simp at this, fun u hu => (List.mem_singleton.1 hu) ▸ ⟨hi, by omega⟩, List.pairwise_singleton _ _, h.low⟩
theorem FI.succ {nodes : List Node} {l : List Int} {i : Nat} {st : List Int} {o : List Nat} (h : FI nodes l i st o []) (hi : i < nodes.length) (h0 : st.getD i 0 ≠ 0) : FI nodes l (i + 1) st o [] :=
  ⟨h.len, h.beh, h.val, h.two, h.one, h.inn, h.fall, fun u hu => by
    rcases Nat.lt_or_ge u i with h' | h'
    · exact h.low u h'
    · obtain rfl : u = i := by omega
      rcases h.val u hi with e | e | e
      · exact absurd e h0
      · have := h.one u hi e; simp at this
      · exact (h.two u hi).1 e⟩
/-- what is waited for is not on the way; it is laid -/
theorem FI.push {nodes : List Node} {l : List Int} (hf : Frm nodes) (hl : IsLev nodes l) {i : Nat} {st : List Int} {o s : List Nat} {a u : Nat} (h : FI nodes l i st o (s ++ [a])) (hu : u ∈ useAt nodes a) (h2 : st.getD u 0 < 2) :
    st.getD u 0 = 0 ∧ u ≠ a ∧ FI nodes l i (st.set a (max (st.getD a 0) 1)) o (s ++ [a] ++ [u]) := by
  have ha := h.inn a (by simp)
  have hal : a < st.length := by rw [h.len]; exact ha.1
  have hun := hf.uses hu
  have hlev : l.getD u 0 < l.getD a 0 := by
    have hx := List.getElem?_eq_getElem ha.1
    rw [useAt_at hx] at hu
    rw [hl.2 a _ hx]
    have := lvl_ge (l := l) hu
    omega
  have hall : ∀ b ∈ s ++ [a], l.getD u 0 < l.getD b 0 := fun b hb => by
    rcases List.mem_append.1 hb with hb | hb
    · have := (List.pairwise_append.1 h.fall).2.2 b hb a (by simp)
      omega
    · obtain rfl : b = a := by simpa using hb
      exact hlev
  have hns : u ∉ s ++ [a] := fun hm => by have := hall u hm; omega
  have h0 : st.getD u 0 = 0 := by
    rcases h.val u hun with e | e | e
    · exact e
    · exact absurd (h.one u hun e) hns
    · omega
  have hua : u ≠ a := fun e => hns (by rw [e]; simp)
  refine ⟨h0, hua, by rw [List.length_set]; exact h.len, h.beh, fun v hv => ?_, fun v hv => ?_, fun v hv h1 => ?_, fun v hv => ?_, ?_, h.low⟩
  · rw [getDI_set hal]
    split
    · rcases h.val a ha.1 with e | e | e <;> rw [e] <;> decide
    · exact h.val v hv
  · rw [getDI_set hal]
    split
    · rename_i e; subst e
      rw [← h.two a hv]
      constructor
      · intro h'; omega
      · intro h'; omega
    · exact h.two v hv
  · rw [getDI_set hal] at h1
    split at h1
    · rename_i e; subst e; simp
    · exact List.mem_append_left _ (h.one v hv h1)
  · rw [getDI_set hal]
    rcases List.mem_append.1 hv with hv | hv
    · have := h.inn v hv
      split
      · exact ⟨this.1, by omega⟩
      · exact this
    · obtain rfl : v = u := by simpa using hv
      rw [if_neg (fun e => hua e.symm)]
      exact ⟨hun, h2⟩
  · rw [List.pairwise_append]
    exact ⟨h.fall, List.pairwise_singleton _ _, fun b hb c hc => by
      obtain rfl : c = u := by simpa using hc
      exact hall b hb⟩
/-- all it uses is done: it is -/
theorem FI.pop {nodes : List Node} {l : List Int} {i : Nat} {st : List Int} {o s : List Nat} {a : Nat} (h : FI nodes l i st o (s ++ [a])) (hu : ∀ u ∈ useAt nodes a, u < nodes.length ∧ ¬ st.getD u 0 < 2) :
    max (st.getD a 0) 1 = 1 ∧ FI nodes l i ((st.set a (max (st.getD a 0) 1)).set a 2) (o ++ [a]) s := by
  have ha := h.inn a (by simp)
  have hal : a < st.length := by rw [h.len]; exact ha.1
  have hns : a ∉ s := fun hm => by
    have := (List.pairwise_append.1 h.fall).2.2 a hm a (by simp)
    omega
  have hno : a ∉ o := fun hm => by have := (h.two a ha.1).2 hm; omega
  have hs : ∀ v, ((st.set a (max (st.getD a 0) 1)).set a 2).getD v 0 = if a = v then 2 else st.getD v 0 := fun v => by
    rw [getDI_set (by rw [List.length_set]; exact hal)]
    split
    · rfl
    · rename_i e; rw [getDI_set hal, if_neg e]
  refine ⟨?_, by simp [h.len], h.beh.snoc ha.1 hno fun v hv => ?_, fun v hv => ?_, fun v hv => ?_, fun v hv h1 => ?_, fun v hv => ?_, (List.pairwise_append.1 h.fall).1, fun v hv => List.mem_append_left _ (h.low v hv)⟩
  · rcases h.val a ha.1 with e | e | e
    · rw [e]; rfl
    · rw [e]; rfl
    · omega
  · obtain ⟨h1, h2⟩ := hu v hv
    refine (h.two v h1).1 ?_
    rcases h.val v h1 with e | e | e
    · exact absurd (by omega) h2
    · exact absurd (by omega) h2
    · exact e
  · rw [hs]
    split
    · exact .inr (.inr rfl)
    · exact h.val v hv
  · rw [hs, List.mem_append, List.mem_singleton]
    split
    · rename_i e; subst e; simp
    · rename_i e
      rw [h.two v hv]
      exact ⟨.inl, fun h => h.resolve_right fun e' => e e'.symm⟩
  · rw [hs] at h1
    split at h1
    · omega
    · rename_i e
      rcases List.mem_append.1 (h.one v hv h1) with h' | h'
      · exact h'
      · exact absurd (List.mem_singleton.1 h').symm e
  · have := h.inn v (List.mem_append_left _ hv)
    rw [hs, if_neg (fun e => hns (by rw [e]; exact hv))]
    exact this
/-- how many are not done -/
def undone (st : List Int) : Nat := st.countP fun x => decide (x < 2)
theorem undone_set {st : List Int} {a : Nat} {x : Int} (ha : a < st.length) : undone (st.set a x) + (if st.getD a 0 < 2 then 1 else 0) = undone st + (if x < 2 then 1 else 0) := by
  induction st generalizing a with
  | nil => simp at ha
  | cons y st ih =>
    cases a with
    | zero =>
      simp only [List.set_cons_zero, undone, List.countP_cons, List.getD_cons_zero, decide_eq_true_eq]
      omega
    | succ a =>
      have := ih (a := a) (by simpa using ha)
      simp only [List.set_cons_succ, undone, List.countP_cons, List.getD_cons_succ] at this ⊢
      omega
end Go.Proofs.Ytbfjacgfifecpaa
