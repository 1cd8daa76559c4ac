/- What places hang on: the closure, found by a stack (sweep.reached) and by rounds (slipstickref11.grow). Plain law. -/
import Derived.Test.YtbfjacgfifecpaaLev
namespace Go.Proofs.Ytbfjacgfifecpaa
open Go.RowKit

def useI (nodes : List Node) (i : Nat) : List Nat := match nodes[i]? with | some x => (usesR x).map Int.toNat | none => []
theorem useI_at {nodes : List Node} {i : Nat} {x : Node} (h : nodes[i]? = some x) : useI nodes i = (usesR x).map Int.toNat := by rw [useI, h]
inductive Rch (nodes : List Node) (fr : List Nat) : Nat → Prop
  | base {a : Nat} : a ∈ fr → Rch nodes fr a
  | step {a b : Nat} : Rch nodes fr a → b ∈ useI nodes a → Rch nodes fr b
def IsRch (nodes : List Node) (fr : List Nat) (l : List Bool) : Prop := l.length = nodes.length ∧ ∀ i, l.getD i false = true ↔ Rch nodes fr i
theorem IsRch.unique {nodes : List Node} {fr : List Nat} {l l' : List Bool} (h : IsRch nodes fr l) (h' : IsRch nodes fr l') : l = l' := by
  apply List.ext_getElem (by rw [h.1, h'.1])
  intro i h1 h2
  have e1 := h.2 i
  have e2 := h'.2 i
  rw [List.getD_eq_getElem?_getD, List.getElem?_eq_getElem h1, Option.getD_some] at e1
  rw [List.getD_eq_getElem?_getD, List.getElem?_eq_getElem h2, Option.getD_some] at e2
  exact Bool.eq_iff_iff.2 (e1.trans e2.symm)
theorem Rch.mono {nodes : List Node} {fr fr' : List Nat} (hs : ∀ a ∈ fr, Rch nodes fr' a) {i : Nat} (h : Rch nodes fr i) : Rch nodes fr' i := by
  induction h with
  | base ha => exact hs _ ha
  | step _ hb ih => exact .step ih hb
theorem IsRch.congr {nodes : List Node} {fr fr' : List Nat} (hs : ∀ a, a ∈ fr ↔ a ∈ fr') {l : List Bool} (h : IsRch nodes fr l) : IsRch nodes fr' l :=
  ⟨h.1, fun i => (h.2 i).trans ⟨Rch.mono fun a ha => .base ((hs a).1 ha), Rch.mono fun a ha => .base ((hs a).2 ha)⟩⟩
def InU (nodes : List Node) : Prop := ∀ i, ∀ u ∈ useI nodes i, u < nodes.length
theorem Rch.lt {nodes : List Node} {fr : List Nat} (hU : InU nodes) (hf : ∀ a ∈ fr, a < nodes.length) {i : Nat} (h : Rch nodes fr i) : i < nodes.length := by
  cases h with
  | base ha => exact hf _ ha
  | step _ hb => exact hU _ _ hb

theorem getDB_set (l : List Bool) (a i : Nat) (h : a < l.length) : (l.set a true).getD i false = if i = a then true else l.getD i false := by
  rw [List.getD_eq_getElem?_getD, List.getElem?_set, List.getD_eq_getElem?_getD]
  by_cases e : a = i
  · subst e; simp [h]
  · rw [if_neg e, if_neg (fun h => e h.symm)]
def lay1 (s : List Bool × List Nat) (a : Nat) : List Bool × List Nat := if s.1.getD a false = true then s else (s.1.set a true, s.2 ++ [a])
def layL (l : List Nat) (s : List Bool × List Nat) : List Bool × List Nat := l.foldl lay1 s
theorem layL_snoc (l : List Nat) (a : Nat) (s : List Bool × List Nat) : layL (l ++ [a]) s = lay1 (layL l s) a := by simp [layL]
def unseen (l : List Bool) : Nat := l.countP fun b => !b
theorem unseen_set {l : List Bool} {a : Nat} (ha : a < l.length) (h : l.getD a false = false) : unseen (l.set a true) + 1 = unseen l := by
  unfold unseen
  induction l generalizing a with
  | nil => simp at ha
  | cons x l ih =>
    cases a with
    | zero =>
      obtain rfl : x = false := by simpa using h
      simp
    | succ a =>
      have := ih (a := a) (by simpa using ha) (by simpa using h)
      rw [List.set_cons_succ, List.countP_cons, List.countP_cons]
      omega
structure Laid (s s' : List Bool × List Nat) (l : List Nat) : Prop where
  len : s'.1.length = s.1.length
  mono : ∀ i, s.1.getD i false = true → s'.1.getD i false = true
  all : ∀ a ∈ l, s'.1.getD a false = true
  only : ∀ i, s'.1.getD i false = true → s.1.getD i false = true ∨ (i ∈ l ∧ i ∈ s'.2)
  todo : ∀ i ∈ s.2, i ∈ s'.2
  fresh : ∀ i ∈ s'.2, i ∈ s.2 ∨ s'.1.getD i false = true
  cnt : s'.2.length + unseen s'.1 = s.2.length + unseen s.1
theorem Laid.nil (s : List Bool × List Nat) : Laid s s [] := ⟨rfl, fun _ h => h, fun a ha => by simp at ha, fun _ h => .inl h, fun _ h => h, fun _ h => .inl h, rfl⟩
theorem Laid.snoc {s s' : List Bool × List Nat} {l : List Nat} (h : Laid s s' l) {a : Nat} (ha : a < s.1.length) : Laid s (lay1 s' a) (l ++ [a]) := by
  unfold lay1
  by_cases hc : s'.1.getD a false = true
  · rw [if_pos hc]
    exact ⟨h.len, h.mono, fun b hb => (List.mem_append.1 hb).elim (h.all b) fun hb => by simp at hb; subst hb; exact hc, fun i hi => (h.only i hi).imp id fun q => ⟨List.mem_append_left _ q.1, q.2⟩, h.todo, h.fresh, h.cnt⟩
  · rw [if_neg hc]
    have ha' : a < s'.1.length := by rw [h.len]; exact ha
    have hf : s'.1.getD a false = false := by simpa using hc
    refine ⟨by rw [List.length_set, h.len], fun i hi => ?_, fun b hb => ?_, fun i hi => ?_, fun i hi => List.mem_append_left _ (h.todo i hi), fun i hi => ?_, ?_⟩
    · show (s'.1.set a true).getD i false = true
      rw [getDB_set _ _ _ ha']; split
      · rfl
      · exact h.mono i hi
    · show (s'.1.set a true).getD b false = true
      rw [getDB_set _ _ _ ha']; split
      · rfl
      · rename_i hne
        rcases List.mem_append.1 hb with hb | hb
        · exact h.all b hb
        · exact absurd (by simpa using hb) hne
    · change (s'.1.set a true).getD i false = true at hi
      rw [getDB_set _ _ _ ha'] at hi
      by_cases e : i = a
      · subst e; exact .inr ⟨by simp, by simp⟩
      · rw [if_neg e] at hi
        exact (h.only i hi).imp id fun q => ⟨List.mem_append_left _ q.1, List.mem_append_left _ q.2⟩
    · show i ∈ s.2 ∨ (s'.1.set a true).getD i false = true
      rw [getDB_set _ _ _ ha']
      rcases List.mem_append.1 hi with hi | hi
      · rcases h.fresh i hi with q | q
        · exact .inl q
        · right; split
          · rfl
          · exact q
      · right; rw [if_pos (by simpa using hi)]
    · show (s'.2 ++ [a]).length + unseen (s'.1.set a true) = _
      have := unseen_set ha' hf
      have := h.cnt
      rw [List.length_append, List.length_singleton]
      omega
theorem laid (s : List Bool × List Nat) (l : List Nat) (hl : ∀ a ∈ l, a < s.1.length) : Laid s (layL l s) l := by
  have : ∀ m l0, l0.length = m → (∀ a ∈ l0, a < s.1.length) → Laid s (layL l0 s) l0 := by
    intro m
    induction m with
    | zero => intro l0 h0 _; obtain rfl := List.length_eq_zero_iff.1 h0; exact Laid.nil s
    | succ m ih =>
      intro l0 h0 hl0
      have hne : l0 ≠ [] := by rintro rfl; simp at h0
      have e := (List.dropLast_concat_getLast hne).symm
      rw [e, layL_snoc]
      exact (ih l0.dropLast (by simp [h0]) fun a ha => hl0 a (List.dropLast_subset _ ha)).snoc (hl0 _ (List.getLast_mem hne))
  exact this _ l rfl hl

structure SInv (nodes : List Node) (fr : List Nat) (seen : List Bool) (todo : List Nat) : Prop where
  len : seen.length = nodes.length
  sound : ∀ i, seen.getD i false = true → Rch nodes fr i
  base : ∀ a ∈ fr, seen.getD a false = true
  todoSeen : ∀ x ∈ todo, seen.getD x false = true
  closed : ∀ i, seen.getD i false = true → i ∈ todo ∨ ∀ u ∈ useI nodes i, seen.getD u false = true
  cnt : todo.length + unseen seen ≤ nodes.length
theorem SInv.init {nodes : List Node} {fr : List Nat} (hf : ∀ a ∈ fr, a < nodes.length) : SInv nodes fr (layL fr (List.replicate nodes.length false, [])).1 (layL fr (List.replicate nodes.length false, [])).2 := by
  have h := laid (List.replicate nodes.length false, []) fr (by simpa using hf)
  have h0 : ∀ i, ((List.replicate nodes.length false, ([] : List Nat)) : List Bool × List Nat).1.getD i false ≠ true := fun i => by
    show (List.replicate nodes.length false).getD i false ≠ true
    rw [List.getD_eq_getElem?_getD, List.getElem?_replicate]
    split <;> simp
  refine ⟨by rw [h.len]; simp, fun i hi => .base ((h.only i hi).elim (fun q => absurd q (h0 i)) And.left), h.all, fun x hx => (h.fresh x hx).elim (fun q => by simp at q) id, fun i hi => .inl ((h.only i hi).elim (fun q => absurd q (h0 i)) And.right), ?_⟩
  rw [h.cnt]
  show ([] : List Nat).length + unseen (List.replicate nodes.length false) ≤ _
  have : unseen (List.replicate nodes.length false) ≤ nodes.length := by
    have := List.countP_le_length (p := fun b => !b) (l := List.replicate nodes.length false)
    rw [List.length_replicate] at this
    exact this
  simpa using this
theorem SInv.next {nodes : List Node} {fr : List Nat} (hU : InU nodes) {seen : List Bool} {todo : List Nat} {a : Nat} (h : SInv nodes fr seen (todo ++ [a])) :
    SInv nodes fr (layL (useI nodes a) (seen, todo)).1 (layL (useI nodes a) (seen, todo)).2 ∧ (layL (useI nodes a) (seen, todo)).2.length + unseen (layL (useI nodes a) (seen, todo)).1 < (todo ++ [a]).length + unseen seen := by
  have hl := laid (seen, todo) (useI nodes a) (fun u hu => by have := hU a u hu; rw [← h.len] at this; exact this)
  obtain ⟨s, hs⟩ : ∃ s, layL (useI nodes a) (seen, todo) = s := ⟨_, rfl⟩
  rw [hs] at hl ⊢
  have hc : s.2.length + unseen s.1 = todo.length + unseen seen := hl.cnt
  have hcn := h.cnt
  rw [List.length_append, List.length_singleton] at hcn ⊢
  refine ⟨⟨by rw [hl.len]; exact h.len, fun i hi => ?_, fun b hb => hl.mono b (h.base b hb), fun x hx => (hl.fresh x hx).elim (fun q => hl.mono x (h.todoSeen x (List.mem_append_left _ q))) id, fun i hi => ?_, by omega⟩, by omega⟩
  · rcases hl.only i hi with q | q
    · exact h.sound i q
    · exact .step (h.sound a (h.todoSeen a (by simp))) q.1
  · rcases hl.only i hi with q | q
    · rcases h.closed i q with r | r
      · rcases List.mem_append.1 r with r | r
        · exact .inl (hl.todo i r)
        · right; obtain rfl : i = a := by simpa using r
          exact hl.all
      · exact .inr fun u hu => hl.mono u (r u hu)
    · exact .inl q.2
theorem SInv.done {nodes : List Node} {fr : List Nat} {seen : List Bool} (h : SInv nodes fr seen []) : IsRch nodes fr seen := by
  refine ⟨h.len, fun i => ⟨h.sound i, fun hr => ?_⟩⟩
  induction hr with
  | base ha => exact h.base _ ha
  | step _ hb ih =>
    rcases h.closed _ ih with r | r
    · simp at r
    · exact r _ hb

/-! by rounds -/
def Lt (n : Nat) (l : List Bool) (a : Nat) : Prop := l.length = n ∧ a < n
def setU (l : List Bool) (us : List Nat) : List Bool := us.foldl (fun l a => l.set a true) l
theorem setU_length (us : List Nat) (l : List Bool) : (setU l us).length = l.length := by
  induction us generalizing l with
  | nil => rfl
  | cons a us ih => show (setU (l.set a true) us).length = _; rw [ih, List.length_set]
theorem setU_at (us : List Nat) : ∀ (l : List Bool), (∀ a ∈ us, a < l.length) → ∀ i, (setU l us).getD i false = (l.getD i false || decide (i ∈ us)) := by
  induction us with
  | nil => intro l _ i; simp [setU]
  | cons a us ih =>
    intro l hl i
    show (setU (l.set a true) us).getD i false = _
    rw [ih _ (fun b hb => by rw [List.length_set]; exact hl b (List.mem_cons_of_mem _ hb)), getDB_set _ _ _ (hl a (by simp))]
    by_cases e : i = a
    · subst e; simp
    · simp [e]
def gr1 (nodes : List Node) (l : List Bool) (i : Nat) : List Bool := if l.getD i false = true then setU l (useI nodes i) else l
def grU (nodes : List Node) (k : Nat) (l : List Bool) : List Bool := (List.range k).foldl (gr1 nodes) l
def grow (nodes : List Node) (r : Nat) (l : List Bool) : List Bool := Nat.repeat (grU nodes nodes.length) r l
theorem grU_succ (nodes : List Node) (k : Nat) (l : List Bool) : grU nodes (k + 1) l = gr1 nodes (grU nodes k l) k := by simp [grU, List.range_succ]
theorem grow_succ (nodes : List Node) (r : Nat) (l : List Bool) : grow nodes (r + 1) l = grU nodes nodes.length (grow nodes r l) := rfl
theorem gr1_length (nodes : List Node) (l : List Bool) (i : Nat) : (gr1 nodes l i).length = l.length := by
  unfold gr1; split
  · exact setU_length _ _
  · rfl
theorem grU_length (nodes : List Node) (k : Nat) (l : List Bool) : (grU nodes k l).length = l.length := by
  induction k with
  | zero => rfl
  | succ k ih => rw [grU_succ, gr1_length, ih]
theorem grow_length (nodes : List Node) (r : Nat) (l : List Bool) : (grow nodes r l).length = l.length := by
  induction r with
  | zero => rfl
  | succ r ih => rw [grow_succ, grU_length, ih]
theorem gr1_at {nodes : List Node} (hU : InU nodes) {l : List Bool} (hl : l.length = nodes.length) (k i : Nat) : (gr1 nodes l k).getD i false = (l.getD i false || (l.getD k false && decide (i ∈ useI nodes k))) := by
  unfold gr1
  cases h : l.getD k false with
  | true => rw [if_pos rfl, setU_at _ _ (fun a ha => by rw [hl]; exact hU k a ha), Bool.true_and]
  | false => rw [if_neg (by simp), Bool.false_and, Bool.or_false]
/-- l is below l' -/
def LeB (l l' : List Bool) : Prop := ∀ i, l.getD i false = true → l'.getD i false = true
theorem gr1_le {nodes : List Node} (hU : InU nodes) {l : List Bool} (hl : l.length = nodes.length) (k : Nat) : LeB l (gr1 nodes l k) := fun i hi => by rw [gr1_at hU hl, hi]; rfl
theorem grU_le {nodes : List Node} (hU : InU nodes) {l : List Bool} (hl : l.length = nodes.length) {k m : Nat} (h : k ≤ m) : LeB (grU nodes k l) (grU nodes m l) := by
  induction m with
  | zero => obtain rfl : k = 0 := by omega
            exact fun _ h => h
  | succ m ih =>
    rcases Nat.lt_or_ge m k with h' | h'
    · obtain rfl : k = m + 1 := by omega
      exact fun _ h => h
    · intro i hi
      rw [grU_succ]
      exact gr1_le hU (by rw [grU_length, hl]) m i (ih h' i hi)
theorem grow_le {nodes : List Node} (hU : InU nodes) {l : List Bool} (hl : l.length = nodes.length) (r : Nat) : LeB l (grow nodes r l) := by
  induction r with
  | zero => exact fun _ h => h
  | succ r ih => exact fun i hi => grU_le (l := grow nodes r l) hU (by rw [grow_length, hl]) (Nat.zero_le _) i (ih i hi)
theorem grU_sound {nodes : List Node} (hU : InU nodes) {fr : List Nat} {l : List Bool} (hl : l.length = nodes.length) (h : ∀ i, l.getD i false = true → Rch nodes fr i) (k : Nat) : ∀ i, (grU nodes k l).getD i false = true → Rch nodes fr i := by
  induction k with
  | zero => exact h
  | succ k ih =>
    intro i hi
    rw [grU_succ, gr1_at hU (by rw [grU_length, hl]), Bool.or_eq_true, Bool.and_eq_true] at hi
    rcases hi with hi | ⟨h1, h2⟩
    · exact ih i hi
    · exact .step (ih k h1) (by simpa using h2)
theorem grow_sound {nodes : List Node} (hU : InU nodes) {fr : List Nat} {l : List Bool} (hl : l.length = nodes.length) (h : ∀ i, l.getD i false = true → Rch nodes fr i) (r : Nat) : ∀ i, (grow nodes r l).getD i false = true → Rch nodes fr i := by
  induction r with
  | zero => exact h
  | succ r ih => exact grU_sound hU (by rw [grow_length, hl]) ih _
def ClosedB (nodes : List Node) (l : List Bool) : Prop := ∀ k, l.getD k false = true → ∀ u ∈ useI nodes k, l.getD u false = true
def trues (l : List Bool) : Nat := l.countP id
theorem trues_le : ∀ {l l' : List Bool}, l.length = l'.length → LeB l l' → trues l ≤ trues l' ∧ (trues l = trues l' → l = l')
  | [], [], _, _ => by simp [trues]
  | [], _ :: _, h, _ => by simp at h
  | _ :: _, [], h, _ => by simp at h
  | x :: l, y :: l', h, hle => by
    obtain ⟨h1, h2⟩ := trues_le (l := l) (l' := l') (by simpa using h) (fun i hi => by have := hle (i + 1); simpa using this (by simpa using hi))
    have h0 : x = true → y = true := fun hx => by have := hle 0; simpa using this (by simpa using hx)
    unfold trues at *
    rw [List.countP_cons, List.countP_cons]
    cases x <;> cases y <;> simp at h0 ⊢
    · exact ⟨h1, h2⟩
    · exact ⟨by omega, by omega⟩
    · exact ⟨h1, h2⟩
theorem grU_closed {nodes : List Node} (hU : InU nodes) {l : List Bool} (hl : l.length = nodes.length) (he : grU nodes nodes.length l = l) : ClosedB nodes l := by
  intro k hk u hu
  have hkl : k < nodes.length := by
    rcases Nat.lt_or_ge k nodes.length with h | h
    · exact h
    · rw [List.getD_eq_getElem?_getD, List.getElem?_eq_none (by omega)] at hk; simp at hk
  have h1 : (grU nodes (k + 1) l).getD u false = true := by
    rw [grU_succ, gr1_at hU (by rw [grU_length, hl]), grU_le hU hl (Nat.zero_le k) k hk]
    simp [hu]
  rw [← he]
  exact grU_le hU hl (by omega) u h1
theorem grU_fix {nodes : List Node} (hU : InU nodes) {l : List Bool} (hl : l.length = nodes.length) (hc : ClosedB nodes l) (k : Nat) : grU nodes k l = l := by
  induction k with
  | zero => rfl
  | succ k ih =>
    rw [grU_succ, ih]
    refine ((trues_le (by rw [gr1_length]) (gr1_le hU hl k)).2 ?_).symm
    refine Nat.le_antisymm (trues_le (by rw [gr1_length]) (gr1_le hU hl k)).1 (trues_le (by rw [gr1_length]) fun i hi => ?_).1
    rw [gr1_at hU hl, Bool.or_eq_true, Bool.and_eq_true] at hi
    rcases hi with hi | ⟨h1, h2⟩
    · exact hi
    · exact hc k h1 i (by simpa using h2)
theorem grow_closed {nodes : List Node} (hU : InU nodes) {l : List Bool} (hl : l.length = nodes.length) (r : Nat) : ClosedB nodes (grow nodes r l) ∨ r ≤ trues (grow nodes r l) := by
  induction r with
  | zero => exact .inr (Nat.zero_le _)
  | succ r ih =>
    have hgl : (grow nodes r l).length = nodes.length := by rw [grow_length, hl]
    rcases ih with ih | ih
    · left; rw [grow_succ, grU_fix hU hgl ih]; exact ih
    · by_cases he : grU nodes nodes.length (grow nodes r l) = grow nodes r l
      · left; rw [grow_succ, he]; exact grU_closed hU hgl he
      · right
        rw [grow_succ]
        have h := trues_le (l := grow nodes r l) (l' := grU nodes nodes.length (grow nodes r l)) (by rw [grU_length]) (grU_le hU hgl (k := 0) (Nat.zero_le _))
        have : trues (grow nodes r l) ≠ trues (grU nodes nodes.length (grow nodes r l)) := fun e => he (h.2 e).symm
        omega
theorem grow_is {nodes : List Node} (hU : InU nodes) {fr : List Nat} {l : List Bool} (hl : l.length = nodes.length) (hfr : ∀ i, l.getD i false = true ↔ i ∈ fr) : IsRch nodes fr (grow nodes (nodes.length + 1) l) := by
  have hgl : (grow nodes (nodes.length + 1) l).length = nodes.length := by rw [grow_length, hl]
  refine ⟨hgl, fun i => ⟨grow_sound hU hl (fun i hi => .base ((hfr i).1 hi)) _ i, fun hr => ?_⟩⟩
  have hc : ClosedB nodes (grow nodes (nodes.length + 1) l) := by
    rcases grow_closed hU hl (nodes.length + 1) with h | h
    · exact h
    · have : trues (grow nodes (nodes.length + 1) l) ≤ (grow nodes (nodes.length + 1) l).length := List.countP_le_length
      omega
  induction hr with
  | base ha => exact grow_le hU hl _ _ ((hfr _).2 ha)
  | step _ hb ih => exact hc _ ih _ hb
theorem IsRch.of (nodes : List Node) (fr : List Nat) (hU : InU nodes) (hf : ∀ a ∈ fr, a < nodes.length) : ∃ l, IsRch nodes fr l := by
  refine ⟨_, grow_is hU (fr := fr) (l := setU (List.replicate nodes.length false) fr) (by rw [setU_length]; simp) fun i => ?_⟩
  rw [setU_at _ _ (by simpa using hf)]
  have : (List.replicate nodes.length false).getD i false = false := by
    rw [List.getD_eq_getElem?_getD, List.getElem?_replicate]
    split <;> rfl
  rw [this]; simp
end Go.Proofs.Ytbfjacgfifecpaa
