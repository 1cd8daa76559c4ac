/- Levels of nodes: what they are; what is told by working off what is ready. Plain. -/
import Derived.Test.YtbfjacgfifecpaaKR07
namespace Go.Proofs.Ytbfjacgfifecpaa

/-- the places that a node's level hangs on -/
def usesN (x : Node) : List Nat := if x.kind = 7 then [] else (usesR x).map Int.toNat
def lvl (us : List Nat) (l : List Int) : Int := us.foldl (fun m u => max m (l.getD u 0 + 1)) 0
def IsLev (nodes : List Node) (l : List Int) : Prop := l.length = nodes.length ∧ ∀ (i : Nat) (x : Node), nodes[i]? = some x → l.getD i 0 = lvl (usesN x) l
def InN (nodes : List Node) : Prop := ∀ x ∈ nodes, ∀ u ∈ usesN x, u < nodes.length

theorem lvl_from (us : List Nat) (l : List Int) : ∀ m : Int, us.foldl (fun m u => max m (l.getD u 0 + 1)) m = max m (us.foldl (fun m u => max m (l.getD u 0 + 1)) m) := by
  induction us with
  | nil => intro m; simp
  | cons a us ih =>
    intro m
    rw [List.foldl_cons, ih]
    omega
theorem fold_le (us : List Nat) (l : List Int) : ∀ m : Int, m ≤ us.foldl (fun m u => max m (l.getD u 0 + 1)) m := fun m => by have := lvl_from us l m; omega
theorem lvl_nonneg (us : List Nat) (l : List Int) : 0 ≤ lvl us l := fold_le us l 0
theorem fold_ge (us : List Nat) (l : List Int) : ∀ (m : Int) (u : Nat), u ∈ us → l.getD u 0 + 1 ≤ us.foldl (fun m u => max m (l.getD u 0 + 1)) m := by
  induction us with
  | nil => intro m u h; simp at h
  | cons a us ih =>
    intro m u h
    rw [List.foldl_cons]
    rcases List.mem_cons.1 h with rfl | h
    · have := fold_le us l (max m (l.getD u 0 + 1)); omega
    · exact ih _ u h
theorem lvl_ge {us : List Nat} {l : List Int} {u : Nat} (h : u ∈ us) : l.getD u 0 + 1 ≤ lvl us l := fold_ge us l 0 u h
theorem fold_is (us : List Nat) (l : List Int) : ∀ m : Int, us.foldl (fun m u => max m (l.getD u 0 + 1)) m = m ∨ ∃ u ∈ us, us.foldl (fun m u => max m (l.getD u 0 + 1)) m = l.getD u 0 + 1 := by
  induction us with
  | nil => intro m; exact .inl rfl
  | cons a us ih =>
    intro m
    rw [List.foldl_cons]
    rcases ih (max m (l.getD a 0 + 1)) with h | ⟨u, hu, h⟩
    · rcases Int.le_total m (l.getD a 0 + 1) with h1 | h1
      · exact .inr ⟨a, List.mem_cons_self, by rw [h]; omega⟩
      · exact .inl (by rw [h]; omega)
    · exact .inr ⟨u, List.mem_cons_of_mem _ hu, h⟩
theorem lvl_is (us : List Nat) (l : List Int) : lvl us l = 0 ∨ ∃ u ∈ us, lvl us l = l.getD u 0 + 1 := fold_is us l 0
theorem lvl_congr {us : List Nat} {l l' : List Int} (h : ∀ u ∈ us, l.getD u 0 = l'.getD u 0) : lvl us l = lvl us l' := by
  unfold lvl
  have : ∀ m : Int, us.foldl (fun m u => max m (l.getD u 0 + 1)) m = us.foldl (fun m u => max m (l'.getD u 0 + 1)) m := by
    induction us with
    | nil => intro m; rfl
    | cons a us ih => intro m; rw [List.foldl_cons, List.foldl_cons, h a List.mem_cons_self, ih fun u hu => h u (List.mem_cons_of_mem _ hu)]
  exact this 0
/-- the greatest of what is told -/
theorem lvl_eq {us : List Nat} {l : List Int} {v : Int} (h0 : 0 ≤ v) (h1 : ∀ u ∈ us, l.getD u 0 + 1 ≤ v) (h2 : v = 0 ∨ ∃ u ∈ us, v = l.getD u 0 + 1) : lvl us l = v := by
  have a1 := lvl_nonneg us l
  rcases h2 with rfl | ⟨u, hu, rfl⟩
  · rcases lvl_is us l with h | ⟨u, hu, h⟩
    · exact h
    · have := h1 u hu; omega
  · have := lvl_ge (l := l) hu
    rcases lvl_is us l with h | ⟨u', hu', h⟩
    · omega
    · have := h1 u' hu'; omega
theorem IsLev.nonneg {nodes : List Node} {l : List Int} (h : IsLev nodes l) (i : Nat) : 0 ≤ l.getD i 0 := by
  by_cases hi : i < nodes.length
  · rw [h.2 i nodes[i] (List.getElem?_eq_getElem hi)]; exact lvl_nonneg _ _
  · rw [List.getD_eq_getElem?_getD, List.getElem?_eq_none (by rw [h.1]; omega)]; simp
theorem list_getD_ext {l l' : List Int} (hl : l.length = l'.length) (h : ∀ i, i < l.length → l.getD i 0 = l'.getD i 0) : l = l' := by
  apply List.ext_getElem hl
  intro i h1 h2
  have := h i h1
  rwa [List.getD_eq_getElem?_getD, List.getD_eq_getElem?_getD, List.getElem?_eq_getElem h1, List.getElem?_eq_getElem h2] at this
theorem IsLev.unique {nodes : List Node} {l l' : List Int} (hN : InN nodes) (h : IsLev nodes l) (h' : IsLev nodes l') : l = l' := by
  have key : ∀ (v : Nat) (i : Nat), i < nodes.length → (l.getD i 0).toNat = v → l'.getD i 0 = l.getD i 0 := by
    intro v
    induction v using Nat.strongRecOn with
    | _ v ih =>
      intro i hi hv
      have e1 := h.2 i nodes[i] (List.getElem?_eq_getElem hi)
      have e2 := h'.2 i nodes[i] (List.getElem?_eq_getElem hi)
      rw [e1, e2]
      refine lvl_congr fun u hu => ?_
      have := lvl_ge (l := l) hu
      have := h.nonneg u
      exact ih (l.getD u 0).toNat (by omega) u (hN _ (List.getElem_mem hi) u hu) rfl
  exact list_getD_ext (h.1.trans h'.1.symm) fun i hi => (key _ i (by rw [← h.1]; exact hi) rfl).symm
/-- where nothing that is left hangs on what is told alone, there are no levels -/
theorem no_lev {nodes : List Node} (hN : InN nodes) (P : Nat → Prop) (h : ∀ i x, nodes[i]? = some x → ¬ P i → ∃ u ∈ usesN x, ¬ P u) {i : Nat} (hi : i < nodes.length) (hP : ¬ P i) : ¬ ∃ l, IsLev nodes l := by
  rintro ⟨l, hl⟩
  have key : ∀ (v : Nat) (i : Nat), i < nodes.length → ¬ P i → (l.getD i 0).toNat = v → False := by
    intro v
    induction v using Nat.strongRecOn with
    | _ v ih =>
      intro i hi hP hv
      have e1 := hl.2 i nodes[i] (List.getElem?_eq_getElem hi)
      obtain ⟨u, hu, hPu⟩ := h i nodes[i] (List.getElem?_eq_getElem hi) hP
      have := lvl_ge (l := l) hu
      have := hl.nonneg u
      exact ih (l.getD u 0).toNat (by omega) u (hN _ (List.getElem_mem hi) u hu) hPu rfl
  exact key _ i hi hP rfl

/-! ### working off what is ready -/
def useAt (nodes : List Node) (i : Nat) : List Nat := match nodes[i]? with | some x => usesN x | none => []
/-- one user's turn -/
structure KS where
  lv : List Int
  left : List Int
  ready : List Nat
def kStep (at_ u : Nat) (s : KS) : KS :=
  ⟨s.lv.set u (max (s.lv.getD u 0) (s.lv.getD at_ 0 + 1)), s.left.set u (s.left.getD u 0 - 1), if s.left.getD u 0 - 1 = 0 then s.ready ++ [u] else s.ready⟩
/-- rem i: what of i's uses is still to come; at cur so many users are still to come: todo -/
structure KInv (nodes : List Node) (users : Nat → List Nat) (d : Nat) (cur : Nat) (todo : List Nat) (s : KS) (rem : Nat → List Nat) : Prop where
  llv : s.lv.length = nodes.length
  lleft : s.left.length = nodes.length
  nodup : s.ready.Nodup
  inn : ∀ i ∈ s.ready, i < nodes.length
  left : ∀ i, i < nodes.length → s.left.getD i 0 = ((rem i).length : Int)
  rdy : ∀ i, i < nodes.length → (i ∈ s.ready ↔ rem i = [])
  sub : ∀ i a, i < nodes.length → a ∈ rem i → a ∈ useAt nodes i
  ge : ∀ i a, i < nodes.length → a ∈ useAt nodes i → a ∈ rem i ∨ s.lv.getD a 0 + 1 ≤ s.lv.getD i 0
  is : ∀ i, i < nodes.length → s.lv.getD i 0 = 0 ∨ ∃ a ∈ useAt nodes i, a ∈ s.ready ∧ s.lv.getD i 0 = s.lv.getD a 0 + 1
  nn : ∀ i, 0 ≤ s.lv.getD i 0
  gone : ∀ i a, i < nodes.length → a ∈ useAt nodes i → a ∉ rem i → a ∈ s.ready
  cnt : ∀ a i, i < nodes.length → (rem i).count a = if a ∈ s.ready.take d then 0 else if a = cur then todo.count i else (useAt nodes i).count a
  dle : d ≤ s.ready.length

theorem getD_set {l : List Int} {i j : Nat} {v : Int} (hi : i < l.length) : (l.set i v).getD j 0 = if j = i then v else l.getD j 0 := by
  rw [List.getD_eq_getElem?_getD, List.getD_eq_getElem?_getD, List.getElem?_set]
  by_cases h : j = i
  · subst h; rw [if_pos rfl, if_pos hi, if_pos rfl]; rfl
  · rw [if_neg (fun e => h e.symm), if_neg h]
theorem count_erase_ne {a b : Nat} {l : List Nat} (h : b ≠ a) : (l.erase a).count b = l.count b := List.count_erase_of_ne h

theorem KInv.step {nodes : List Node} {users : Nat → List Nat} {d cur u : Nat} {todo : List Nat} {s : KS} {rem : Nat → List Nat} (h : KInv nodes users d cur (u :: todo) s rem) (hu : u < nodes.length) (hcur : s.ready[d]? = some cur) :
    KInv nodes users d cur todo (kStep cur u s) (fun i => if i = u then (rem i).erase cur else rem i) := by
  have hnt : cur ∉ s.ready.take d := by
    intro hm
    obtain ⟨k, hk, he⟩ := List.mem_iff_getElem.1 hm
    rw [List.getElem_take] at he
    rw [List.length_take] at hk
    have hd := (List.getElem?_eq_some_iff.1 hcur)
    obtain ⟨hd1, hd2⟩ := hd
    have hpw := List.pairwise_iff_getElem.1 h.nodup k d (by omega) hd1 (by omega)
    exact hpw (he.trans hd2.symm)
  have hcm : cur ∈ s.ready := List.mem_of_getElem? hcur
  have hcnt := h.cnt cur u hu
  rw [if_neg hnt, if_pos rfl, List.count_cons_self] at hcnt
  have hin : cur ∈ rem u := List.count_pos_iff.1 (by omega)
  have hlen : ((rem u).erase cur).length + 1 = (rem u).length := by rw [List.length_erase_of_mem hin]; have := List.length_pos_of_mem hin; omega
  have hune : rem u ≠ [] := List.ne_nil_of_mem hin
  have hunr : u ∉ s.ready := fun hm => hune ((h.rdy u hu).1 hm)
  have hleft := h.left u hu
  have hz : (s.left.getD u 0 - 1 = 0) ↔ (rem u).erase cur = [] := by
    rw [hleft, ← List.length_eq_zero_iff]
    omega
  have hcu : cur ≠ u := fun e => hunr (e ▸ hcm)
  have lvc : ∀ a, a ≠ u → (kStep cur u s).lv.getD a 0 = s.lv.getD a 0 := fun a ha => by
    show (s.lv.set u _).getD a 0 = _
    rw [getD_set (by rw [h.llv]; exact hu), if_neg ha]
  have lvu : (kStep cur u s).lv.getD u 0 = max (s.lv.getD u 0) (s.lv.getD cur 0 + 1) := by
    show (s.lv.set u _).getD u 0 = _
    rw [getD_set (by rw [h.llv]; exact hu), if_pos rfl]
  have hrd : ∀ i, i ∈ (kStep cur u s).ready ↔ i ∈ s.ready ∨ (i = u ∧ (rem u).erase cur = []) := fun i => by
    show i ∈ (if s.left.getD u 0 - 1 = 0 then s.ready ++ [u] else s.ready) ↔ _
    by_cases hq : s.left.getD u 0 - 1 = 0
    · rw [if_pos hq]; simp [hz.1 hq]
    · rw [if_neg hq]
      exact ⟨.inl, fun h => h.elim id fun h => absurd (hz.2 h.2) hq⟩
  have htk : (kStep cur u s).ready.take d = s.ready.take d := by
    show (if s.left.getD u 0 - 1 = 0 then s.ready ++ [u] else s.ready).take d = _
    split
    · rw [List.take_append_of_le_length h.dle]
    · rfl
  have huse : u ∉ useAt nodes u ∨ True := .inr trivial
  refine ⟨by simp [kStep, h.llv], by simp [kStep, h.lleft], ?_, ?_, ?_, ?_, ?_, ?_, ?_, ?_, ?_, ?_, ?_⟩
  · show (if s.left.getD u 0 - 1 = 0 then s.ready ++ [u] else s.ready).Nodup
    split
    · rw [List.nodup_append]
      exact ⟨h.nodup, by simp, fun a ha b hb => by simp at hb; subst hb; exact fun e => hunr (e ▸ ha)⟩
    · exact h.nodup
  · intro i hi
    rcases (hrd i).1 hi with hi | ⟨rfl, _⟩
    · exact h.inn i hi
    · exact hu
  · intro i hi
    show (s.left.set u _).getD i 0 = _
    rw [getD_set (by rw [h.lleft]; exact hu)]
    by_cases hiu : i = u
    · rw [if_pos hiu, hleft, if_pos hiu]; subst hiu; omega
    · rw [if_neg hiu, if_neg hiu]; exact h.left i hi
  · intro i hi
    rw [hrd i]
    by_cases hiu : i = u
    · subst hiu; rw [if_pos rfl]; simp [hunr]
    · rw [if_neg hiu, ← h.rdy i hi]; simp [hiu]
  · intro i a hi ha
    by_cases hiu : i = u
    · rw [if_pos hiu] at ha; exact h.sub i a hi (List.mem_of_mem_erase ha)
    · rw [if_neg hiu] at ha; exact h.sub i a hi ha
  · intro i a hi ha
    by_cases hiu : i = u
    · subst hiu
      rw [if_pos rfl, lvu]
      by_cases hac : a = cur
      · subst hac
        by_cases hm : a ∈ (rem i).erase a
        · exact .inl hm
        · right; rw [lvc a hcu]; omega
      · rcases h.ge i a hi ha with hm | hm
        · exact .inl ((List.mem_erase_of_ne hac).2 hm)
        · by_cases hau : a = i
          · subst hau; omega
          · right; rw [lvc a hau]; omega
    · rw [if_neg hiu, lvc i hiu]
      rcases h.ge i a hi ha with hm | hm
      · exact .inl hm
      · by_cases hau : a = u
        · subst hau
          by_cases hm2 : a ∈ rem i
          · exact .inl hm2
          · exact absurd (h.gone i a hi ha hm2) hunr
        · right; rw [lvc a hau]; exact hm
  · intro i hi
    by_cases hiu : i = u
    · subst hiu
      rw [lvu]
      rcases Int.le_total (s.lv.getD i 0) (s.lv.getD cur 0 + 1) with hle | hle
      · exact .inr ⟨cur, h.sub i cur hi hin, (hrd cur).2 (.inl hcm), by rw [lvc cur hcu]; omega⟩
      · rcases h.is i hi with hm | ⟨a, ha, har, hm⟩
        · have := h.nn cur; omega
        · exact .inr ⟨a, ha, (hrd a).2 (.inl har), by rw [lvc a (fun e => hunr (e ▸ har))]; omega⟩
    · rw [lvc i hiu]
      rcases h.is i hi with hm | ⟨a, ha, har, hm⟩
      · exact .inl hm
      · exact .inr ⟨a, ha, (hrd a).2 (.inl har), by rw [lvc a (fun e => hunr (e ▸ har))]; exact hm⟩
  · intro i
    by_cases hiu : i = u
    · subst hiu; rw [lvu]; have := h.nn i; omega
    · rw [lvc i hiu]; exact h.nn i
  · intro i a hi ha hnr
    rw [hrd a]
    left
    by_cases hiu : i = u
    · rw [if_pos hiu] at hnr
      subst hiu
      by_cases hac : a = cur
      · exact hac ▸ hcm
      · exact h.gone i a hi ha fun hm => hnr ((List.mem_erase_of_ne hac).2 hm)
    · rw [if_neg hiu] at hnr
      exact h.gone i a hi ha hnr
  · intro a i hi
    rw [htk]
    have h0 := h.cnt a i hi
    by_cases hiu : i = u
    · subst hiu
      rw [if_pos rfl]
      by_cases hac : a = cur
      · subst hac
        rw [if_neg hnt, if_pos rfl] at h0 ⊢
        rw [List.count_cons_self] at h0
        rw [List.count_erase_self]
        omega
      · rw [count_erase_ne hac, h0]
        simp [hac]
    · rw [if_neg hiu, h0, List.count_cons_of_ne (fun e => hiu e.symm)]
  · have h1 := h.dle
    show d ≤ (if s.left.getD u 0 - 1 = 0 then s.ready ++ [u] else s.ready).length
    split
    · rw [List.length_append]; omega
    · exact h1

theorem KInv.other {nodes : List Node} {users : Nat → List Nat} {d cur cur' : Nat} {s : KS} {rem : Nat → List Nat} (hus : ∀ a i, i < nodes.length → (users a).count i = (useAt nodes i).count a) (h : KInv nodes users d cur (users cur) s rem) : KInv nodes users d cur' (users cur') s rem :=
  have hc : ∀ a i, i < nodes.length → (rem i).count a = if a ∈ s.ready.take d then 0 else if a = cur' then (users cur').count i else (useAt nodes i).count a := fun a i hi => by
    rw [h.cnt a i hi]
    split
    · rfl
    · have e : ∀ c : Nat, (if a = c then (users c).count i else (useAt nodes i).count a) = (useAt nodes i).count a := fun c => by
        by_cases h1 : a = c
        · subst h1; rw [if_pos rfl, hus a i hi]
        · rw [if_neg h1]
      rw [e, e]
  { h with cnt := hc }
theorem KInv.next {nodes : List Node} {users : Nat → List Nat} {d cur cur' : Nat} {s : KS} {rem : Nat → List Nat} (hus : ∀ a i, i < nodes.length → (users a).count i = (useAt nodes i).count a) (h : KInv nodes users d cur [] s rem) (hcur : s.ready[d]? = some cur) : KInv nodes users (d + 1) cur' (users cur') s rem :=
  { h with
    cnt := fun a i hi => by
      have hd := (List.getElem?_eq_some_iff.1 hcur)
      obtain ⟨hd1, hd2⟩ := hd
      rw [h.cnt a i hi, List.take_succ_eq_append_getElem hd1, hd2]
      by_cases h1 : a ∈ s.ready.take d
      · rw [if_pos h1, if_pos (List.mem_append.2 (.inl h1))]
      · rw [if_neg h1]
        by_cases h2 : a = cur
        · subst h2
          rw [if_pos rfl, if_pos (by simp)]
          rfl
        · rw [if_neg h2, if_neg (by simp [h1, h2])]
          by_cases h3 : a = cur'
          · subst h3; rw [if_pos rfl, hus a i hi]
          · rw [if_neg h3]
    dle := by have := (List.getElem?_eq_some_iff.1 hcur).1; omega }
theorem nodup_le : ∀ (n : Nat) (l : List Nat), l.Nodup → (∀ x ∈ l, x < n) → l.length ≤ n
  | 0, l, _, h => by
    match l, h with
    | [], _ => exact Nat.le_refl _
    | a :: l, h => have := h a List.mem_cons_self; omega
  | n + 1, l, hn, h => by
    by_cases hm : n ∈ l
    · have h1 := nodup_le n (l.erase n) (hn.erase n) fun x hx => by
        have h2 := h x (List.mem_of_mem_erase hx)
        have h3 : x ≠ n := (List.Nodup.mem_erase_iff hn).1 hx |>.1
        omega
      rw [List.length_erase_of_mem hm] at h1
      omega
    · have := nodup_le n l hn fun x hx => by
        have h2 := h x hx
        have h3 : x ≠ n := fun e => hm (e ▸ hx)
        omega
      omega
theorem all_le : ∀ (n : Nat) (l : List Nat), (∀ i, i < n → i ∈ l) → n ≤ l.length
  | 0, _, _ => Nat.zero_le _
  | n + 1, l, h => by
    have h1 := all_le n (l.erase n) fun i hi => (List.mem_erase_of_ne (by omega)).2 (h i (by omega))
    have hm := h n (by omega)
    rw [List.length_erase_of_mem hm] at h1
    have := List.length_pos_of_mem hm
    omega
theorem useAt_eq {nodes : List Node} {i : Nat} {x : Node} (h : nodes[i]? = some x) : useAt nodes i = usesN x := by rw [useAt, h]
theorem KInv.done {nodes : List Node} {users : Nat → List Nat} {cur : Nat} {todo : List Nat} {s : KS} {rem : Nat → List Nat} (hN : InN nodes) (h : KInv nodes users s.ready.length cur todo s rem) :
    (s.ready.length = nodes.length → IsLev nodes s.lv) ∧ (s.ready.length ≠ nodes.length → ¬ ∃ l, IsLev nodes l) := by
  have hle := nodup_le nodes.length s.ready h.nodup h.inn
  constructor
  · intro hl
    have hall : ∀ i, i < nodes.length → i ∈ s.ready := fun i hi => by
      rcases Decidable.em (i ∈ s.ready) with hm | hm
      · exact hm
      · have := nodup_le nodes.length (i :: s.ready) (List.nodup_cons.2 ⟨hm, h.nodup⟩) fun x hx => by
          rcases List.mem_cons.1 hx with rfl | hx
          · exact hi
          · exact h.inn x hx
        rw [List.length_cons] at this
        omega
    refine ⟨h.llv, fun i x hx => ?_⟩
    have hi := (List.getElem?_eq_some_iff.1 hx).1
    have hr := (h.rdy i hi).1 (hall i hi)
    refine (lvl_eq (h.nn i) (fun u hu => ?_) ?_).symm
    · rcases h.ge i u hi (by rw [useAt_eq hx]; exact hu) with hm | hm
      · rw [hr] at hm; simp at hm
      · exact hm
    · rcases h.is i hi with hm | ⟨a, ha, _, hm⟩
      · exact .inl hm
      · exact .inr ⟨a, by rw [← useAt_eq hx]; exact ha, hm⟩
  · intro hl
    have : ∃ i, i < nodes.length ∧ i ∉ s.ready := by
      rcases Decidable.em (∃ i, i < nodes.length ∧ i ∉ s.ready) with hm | hm
      · exact hm
      · have := all_le nodes.length s.ready fun i hi => by
          rcases Decidable.em (i ∈ s.ready) with h1 | h1
          · exact h1
          · exact absurd ⟨i, hi, h1⟩ hm
        omega
    obtain ⟨i, hi, hni⟩ := this
    refine no_lev hN (fun i => i ∈ s.ready) (fun i x hx hnr => ?_) hi hni
    have hi := (List.getElem?_eq_some_iff.1 hx).1
    have hne : rem i ≠ [] := fun e => hnr ((h.rdy i hi).2 e)
    obtain ⟨a, ha⟩ := List.exists_mem_of_ne_nil _ hne
    refine ⟨a, by rw [← useAt_eq hx]; exact h.sub i a hi ha, fun har => ?_⟩
    have := h.cnt a i hi
    rw [List.take_length, if_pos har] at this
    have := List.count_pos_iff.2 ha
    omega
/-- at first -/
theorem KInv.init {nodes : List Node} {users : Nat → List Nat} (hus : ∀ a i, i < nodes.length → (users a).count i = (useAt nodes i).count a) (cur : Nat) {s : KS} (h1 : s.lv.length = nodes.length) (h2 : ∀ i, s.lv.getD i 0 = 0) (h3 : s.left.length = nodes.length)
    (h4 : ∀ i, i < nodes.length → s.left.getD i 0 = ((useAt nodes i).length : Int)) (h5 : s.ready.Nodup) (h6 : ∀ i, i ∈ s.ready ↔ i < nodes.length ∧ useAt nodes i = []) : KInv nodes users 0 cur (users cur) s (useAt nodes) where
  llv := h1
  lleft := h3
  nodup := h5
  inn := fun i hi => ((h6 i).1 hi).1
  left := h4
  rdy := fun i hi => ⟨fun h => ((h6 i).1 h).2, fun h => (h6 i).2 ⟨hi, h⟩⟩
  sub := fun _ _ _ h => h
  ge := fun _ _ _ h => .inl h
  is := fun i _ => .inl (h2 i)
  nn := fun i => by rw [h2 i]; exact Int.le_refl _
  gone := fun _ _ _ h hn => absurd h hn
  cnt := fun a i hi => by
    rw [List.take_zero, if_neg (by simp)]
    by_cases h : a = cur
    · subst h; rw [if_pos rfl, hus a i hi]
    · rw [if_neg h]
  dle := Nat.zero_le _

/-! ### round by round -/
def rKnown (us : List Nat) (out : List Int) : Bool := us.all fun u => decide (0 ≤ out.getD u 0)
def rStep (nodes : List Node) (i : Nat) (out : List Int) : List Int := if rKnown (useAt nodes i) out then out.set i (lvl (useAt nodes i) out) else out
structure RInv (nodes : List Node) (out : List Int) : Prop where
  len : out.length = nodes.length
  low : ∀ i, i < nodes.length → -1 ≤ out.getD i 0
  is : ∀ i, i < nodes.length → 0 ≤ out.getD i 0 → rKnown (useAt nodes i) out = true ∧ out.getD i 0 = lvl (useAt nodes i) out
theorem rKnown_mem {us : List Nat} {out : List Int} (h : rKnown us out = true) {u : Nat} (hu : u ∈ us) : 0 ≤ out.getD u 0 := by
  have := (List.all_eq_true.1 h) u hu
  simpa using this
theorem set_same {l : List Int} {i : Nat} (hi : i < l.length) : l.set i (l.getD i 0) = l := by
  rw [List.getD_eq_getElem?_getD, List.getElem?_eq_getElem hi]
  exact List.set_getElem_self hi
/-- either nothing turns, or one more is known -/
theorem RInv.step {nodes : List Node} {out : List Int} (h : RInv nodes out) {i : Nat} (hi : i < nodes.length) :
    RInv nodes (rStep nodes i out) ∧ (rStep nodes i out = out ∨ (out.getD i 0 = -1 ∧ 0 ≤ (rStep nodes i out).getD i 0 ∧ ∀ j, j ≠ i → (rStep nodes i out).getD j 0 = out.getD j 0)) ∧ (rStep nodes i out = out → rKnown (useAt nodes i) out = true → 0 ≤ out.getD i 0) := by
  unfold rStep
  by_cases hk : rKnown (useAt nodes i) out = true
  · rw [if_pos hk]
    have hl := h.len
    have hnn := lvl_nonneg (useAt nodes i) out
    by_cases h0 : 0 ≤ out.getD i 0
    · have e : out.set i (lvl (useAt nodes i) out) = out := by rw [← (h.is i hi h0).2]; exact set_same (by omega)
      rw [e]
      exact ⟨h, .inl rfl, fun _ _ => h0⟩
    · have hm : out.getD i 0 = -1 := by have := h.low i hi; omega
      have hni : ∀ us : List Nat, rKnown us out = true → i ∉ us := fun us hus hm' => h0 (rKnown_mem hus hm')
      have hkeep : ∀ us : List Nat, rKnown us out = true → rKnown us (out.set i (lvl (useAt nodes i) out)) = true ∧ lvl us (out.set i (lvl (useAt nodes i) out)) = lvl us out := fun us hus => by
        have hc : ∀ u ∈ us, (out.set i (lvl (useAt nodes i) out)).getD u 0 = out.getD u 0 := fun u hu => by
          rw [getD_set (by omega), if_neg (fun e : u = i => hni us hus (by rw [← e]; exact hu))]
        exact ⟨List.all_eq_true.2 fun u hu => by rw [hc u hu]; exact (List.all_eq_true.1 hus) u hu, lvl_congr hc⟩
      refine ⟨⟨by rw [List.length_set]; exact hl, fun j hj => ?_, fun j hj h1 => ?_⟩, .inr ⟨hm, by rw [getD_set (by omega), if_pos rfl]; exact hnn, fun j hj => by rw [getD_set (by omega), if_neg hj]⟩, fun e _ => ?_⟩
      · rw [getD_set (by omega)]; split
        · omega
        · exact h.low j hj
      · rw [getD_set (by omega)] at h1 ⊢
        by_cases hji : j = i
        · subst hji
          rw [if_pos rfl]
          exact ⟨(hkeep _ hk).1, (hkeep _ hk).2.symm⟩
        · rw [if_neg hji] at h1 ⊢
          obtain ⟨q1, q2⟩ := h.is j hj h1
          exact ⟨(hkeep _ q1).1, by rw [(hkeep _ q1).2]; exact q2⟩
      · rw [← e, getD_set (by omega), if_pos rfl]; exact hnn
  · rw [if_neg hk]
    exact ⟨h, .inl rfl, fun _ hk' => absurd hk' hk⟩
def known (out : List Int) : Nat := out.countP fun v => decide (0 ≤ v)
theorem known_le (out : List Int) : known out ≤ out.length := List.countP_le_length
theorem known_step : ∀ {out out' : List Int} {i : Nat}, out.length = out'.length → i < out.length → out.getD i 0 = -1 → 0 ≤ out'.getD i 0 → (∀ j, j ≠ i → out'.getD j 0 = out.getD j 0) → known out' = known out + 1
  | [], _, _, _, hi, _, _, _ => by simp at hi
  | a :: l, [], _, hl, _, _, _, _ => by simp at hl
  | a :: l, b :: l', 0, hl, _, h1, h2, h3 => by
    have e : l' = l := list_getD_ext (by simpa using hl.symm) fun j _ => by have := h3 (j + 1) (by omega); simpa using this
    subst e
    simp at h1 h2
    subst h1
    rw [known, known, List.countP_cons, List.countP_cons]
    simp [h2]
  | a :: l, b :: l', i + 1, hl, hi, h1, h2, h3 => by
    have e : b = a := by have := h3 0 (by omega); simpa using this
    subst e
    have := known_step (out := l) (out' := l') (i := i) (by simpa using hl) (by simpa using hi) (by simpa using h1) (by simpa using h2) fun j hj => by have := h3 (j + 1) (by omega); simpa using this
    rw [known, known] at this ⊢
    rw [List.countP_cons, List.countP_cons, this]
    omega
/-- the first k nodes in turn -/
def rTurn (nodes : List Node) : Nat → List Int → List Int
  | 0, out => out
  | k + 1, out => rStep nodes k (rTurn nodes k out)
theorem rTurn_inv {nodes : List Node} {out : List Int} (h : RInv nodes out) : ∀ k, k ≤ nodes.length → RInv nodes (rTurn nodes k out) ∧ known out ≤ known (rTurn nodes k out) ∧ (known (rTurn nodes k out) = known out → rTurn nodes k out = out ∧ ∀ i, i < k → rKnown (useAt nodes i) out = true → 0 ≤ out.getD i 0)
  | 0, _ => ⟨h, Nat.le_refl _, fun _ => ⟨rfl, fun i hi => by omega⟩⟩
  | k + 1, hk => by
    obtain ⟨h1, h2, h3⟩ := rTurn_inv h k (by omega)
    obtain ⟨q1, q2, q3⟩ := h1.step (i := k) (by omega)
    rw [rTurn]
    rcases q2 with q2 | ⟨a1, a2, a3⟩
    · refine ⟨q1, by rw [q2]; exact h2, fun he => ?_⟩
      rw [q2] at he
      obtain ⟨e1, e2⟩ := h3 he
      refine ⟨q2.trans e1, fun i hi hki => ?_⟩
      rcases Nat.lt_or_ge i k with hlt | hge
      · exact e2 i hlt hki
      · obtain rfl : i = k := by omega
        rw [e1] at q2 q3
        exact q3 q2 hki
    · have := known_step (out := rTurn nodes k out) (out' := rStep nodes k (rTurn nodes k out)) (by rw [h1.len, q1.len]) (by rw [h1.len]; omega) a1 a2 a3
      exact ⟨q1, by omega, fun he => by omega⟩
def rRounds (nodes : List Node) : Nat → List Int → List Int
  | 0, out => out
  | r + 1, out => rTurn nodes nodes.length (rRounds nodes r out)
theorem rRounds_inv {nodes : List Node} {out : List Int} (h : RInv nodes out) : ∀ r, RInv nodes (rRounds nodes r out) ∧ (r ≤ known (rRounds nodes r out) ∨ ∀ i, i < nodes.length → rKnown (useAt nodes i) (rRounds nodes r out) = true → 0 ≤ (rRounds nodes r out).getD i 0)
  | 0 => ⟨h, .inl (Nat.zero_le _)⟩
  | r + 1 => by
    obtain ⟨h1, h2⟩ := rRounds_inv h r
    obtain ⟨q1, q2, q3⟩ := rTurn_inv h1 nodes.length (Nat.le_refl _)
    rw [rRounds]
    refine ⟨q1, ?_⟩
    by_cases he : known (rTurn nodes nodes.length (rRounds nodes r out)) = known (rRounds nodes r out)
    · obtain ⟨e1, e2⟩ := q3 he
      rw [e1]
      exact .inr e2
    · rcases h2 with h2 | h2
      · exact .inl (by omega)
      · by_cases hs : rTurn nodes nodes.length (rRounds nodes r out) = rRounds nodes r out
        · rw [hs]; exact .inr h2
        · exact absurd (rTurn_stable h1 h2 nodes.length (Nat.le_refl _)) hs
where
  rTurn_stable {nodes : List Node} {out : List Int} (h : RInv nodes out) (hs : ∀ i, i < nodes.length → rKnown (useAt nodes i) out = true → 0 ≤ out.getD i 0) : ∀ k, k ≤ nodes.length → rTurn nodes k out = out
    | 0, _ => rfl
    | k + 1, hk => by
      rw [rTurn, rTurn_stable h hs k (by omega), rStep]
      split
      · rename_i hkn
        have h0 := hs k (by omega) hkn
        rw [← (h.is k (by omega) h0).2]
        exact set_same (by rw [h.len]; omega)
      · rfl
theorem RInv.first (nodes : List Node) : RInv nodes (List.replicate nodes.length (-1)) where
  len := by simp
  low := fun i hi => by rw [List.getD_eq_getElem?_getD, List.getElem?_replicate, if_pos hi]; simp
  is := fun i hi h => by rw [List.getD_eq_getElem?_getD, List.getElem?_replicate, if_pos hi] at h; simp at h
theorem rounds_done {nodes : List Node} (hN : InN nodes) {out : List Int} (he : out = rRounds nodes (nodes.length + 1) (List.replicate nodes.length (-1))) :
    ((∀ i, i < nodes.length → 0 ≤ out.getD i 0) → IsLev nodes out) ∧ ((∃ i, i < nodes.length ∧ out.getD i 0 < 0) → ¬ ∃ l, IsLev nodes l) := by
  obtain ⟨h1, h2⟩ := rRounds_inv (RInv.first nodes) (nodes.length + 1)
  rw [← he] at h1 h2
  have hst : ∀ i, i < nodes.length → rKnown (useAt nodes i) out = true → 0 ≤ out.getD i 0 := by
    rcases h2 with h2 | h2
    · have := known_le out; rw [h1.len] at this; omega
    · exact h2
  constructor
  · intro hall
    refine ⟨h1.len, fun i x hx => ?_⟩
    have hi := (List.getElem?_eq_some_iff.1 hx).1
    rw [(h1.is i hi (hall i hi)).2, useAt_eq hx]
  · rintro ⟨i, hi, hneg⟩
    refine no_lev hN (fun i => 0 ≤ out.getD i 0) (fun j x hx hnj => ?_) hi (by omega)
    have hj := (List.getElem?_eq_some_iff.1 hx).1
    have hnk : ¬ rKnown (useAt nodes j) out = true := fun hk => hnj (hst j hj hk)
    rw [rKnown, Bool.not_eq_true, List.all_eq_false] at hnk
    obtain ⟨u, hu, hn⟩ := hnk
    exact ⟨u, by rw [← useAt_eq hx]; exact hu, by simpa using hn⟩
end Go.Proofs.Ytbfjacgfifecpaa
