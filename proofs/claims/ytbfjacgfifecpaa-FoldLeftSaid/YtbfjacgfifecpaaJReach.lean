/- Joined texts: Reach, Keep, SwA, SwB, SwC, SwD. -/
import Derived.Test.YtbfjacgfifecpaaLev
import Derived.Test.YtbfjacgfifecpaaJNB
import Derived.Test.YtbfjacgfifecpaaJNC

/-! ## What places hang on: the closure, found by a stack (sweep.reached) and by rounds (slipstickref11.grow). Plain law. -/
namespace Go.Proofs.Ytbfjacgfifecpaa
open Go.RowKit

def useI (nodes : List Node) (i : Nat) : List Nat := match nodes[i]? with | some x => (usesR x).map Int.toNat | none => []
theorem useI_at {nodes : List Node} {i : Nat} {x : Node} (h : nodes[i]? = some x) : useI nodes i = (usesR x).map Int.toNat := by rw [useI, h]
inductive Rch (nodes : List Node) (fr : List Nat) : Nat → Prop
  | base {a : Nat} : a ∈ fr → Rch nodes fr a
  | step {a b : Nat} : Rch nodes fr a → b ∈ useI nodes a → Rch nodes fr b
def IsRch (nodes : List Node) (fr : List Nat) (l : List Bool) : Prop := l.length = nodes.length ∧ ∀ i, l.getD i false = true ↔ Rch nodes fr i
theorem IsRch.unique {nodes : List Node} {fr : List Nat} {l l' : List Bool} (h : IsRch nodes fr l) (h' : IsRch nodes fr l') : l = l' := by
  apply List.ext_getElem (by rw [h.1, h'.1])
  intro i h1 h2
  have e1 := h.2 i
  have e2 := h'.2 i
  rw [List.getD_eq_getElem?_getD, List.getElem?_eq_getElem h1, Option.getD_some] at e1
  rw [List.getD_eq_getElem?_getD, List.getElem?_eq_getElem h2, Option.getD_some] at e2
  exact Bool.eq_iff_iff.2 (e1.trans e2.symm)
theorem Rch.mono {nodes : List Node} {fr fr' : List Nat} (hs : ∀ a ∈ fr, Rch nodes fr' a) {i : Nat} (h : Rch nodes fr i) : Rch nodes fr' i := by
  induction h with
  | base ha => exact hs _ ha
  | step _ hb ih => exact .step ih hb
theorem IsRch.congr {nodes : List Node} {fr fr' : List Nat} (hs : ∀ a, a ∈ fr ↔ a ∈ fr') {l : List Bool} (h : IsRch nodes fr l) : IsRch nodes fr' l :=
  ⟨h.1, fun i => (h.2 i).trans ⟨Rch.mono fun a ha => .base ((hs a).1 ha), Rch.mono fun a ha => .base ((hs a).2 ha)⟩⟩
def InU (nodes : List Node) : Prop := ∀ i, ∀ u ∈ useI nodes i, u < nodes.length
theorem Rch.lt {nodes : List Node} {fr : List Nat} (hU : InU nodes) (hf : ∀ a ∈ fr, a < nodes.length) {i : Nat} (h : Rch nodes fr i) : i < nodes.length := by
  cases h with
  | base ha => exact hf _ ha
  | step _ hb => exact hU _ _ hb

theorem getDB_set (l : List Bool) (a i : Nat) (h : a < l.length) : (l.set a true).getD i false = if i = a then true else l.getD i false := by
  rw [List.getD_eq_getElem?_getD, List.getElem?_set, List.getD_eq_getElem?_getD]
  by_cases e : a = i
  · subst e; simp [h]
  · rw [if_neg e, if_neg (fun h => e h.symm)]
def lay1 (s : List Bool × List Nat) (a : Nat) : List Bool × List Nat := if s.1.getD a false = true then s else (s.1.set a true, s.2 ++ [a])
def layL (l : List Nat) (s : List Bool × List Nat) : List Bool × List Nat := l.foldl lay1 s
theorem layL_snoc (l : List Nat) (a : Nat) (s : List Bool × List Nat) : layL (l ++ [a]) s = lay1 (layL l s) a := by simp [layL]
def unseen (l : List Bool) : Nat := l.countP fun b => !b
theorem unseen_set {l : List Bool} {a : Nat} (ha : a < l.length) (h : l.getD a false = false) : unseen (l.set a true) + 1 = unseen l := by
  unfold unseen
  induction l generalizing a with
  | nil => simp at ha
  | cons x l ih =>
    cases a with
    | zero =>
      obtain rfl : x = false := by simpa using h
      simp
    | succ a =>
      have := ih (a := a) (by simpa using ha) (by simpa using h)
      rw [List.set_cons_succ, List.countP_cons, List.countP_cons]
      omega
structure Laid (s s' : List Bool × List Nat) (l : List Nat) : Prop where
  len : s'.1.length = s.1.length
  mono : ∀ i, s.1.getD i false = true → s'.1.getD i false = true
  all : ∀ a ∈ l, s'.1.getD a false = true
  only : ∀ i, s'.1.getD i false = true → s.1.getD i false = true ∨ (i ∈ l ∧ i ∈ s'.2)
  todo : ∀ i ∈ s.2, i ∈ s'.2
  fresh : ∀ i ∈ s'.2, i ∈ s.2 ∨ s'.1.getD i false = true
  cnt : s'.2.length + unseen s'.1 = s.2.length + unseen s.1
theorem Laid.nil (s : List Bool × List Nat) : Laid s s [] := ⟨rfl, fun _ h => h, fun a ha => by simp at ha, fun _ h => .inl h, fun _ h => h, fun _ h => .inl h, rfl⟩
theorem Laid.snoc {s s' : List Bool × List Nat} {l : List Nat} (h : Laid s s' l) {a : Nat} (ha : a < s.1.length) : Laid s (lay1 s' a) (l ++ [a]) := by
  unfold lay1
  by_cases hc : s'.1.getD a false = true
  · rw [if_pos hc]
    exact ⟨h.len, h.mono, fun b hb => (List.mem_append.1 hb).elim (h.all b) fun hb => by simp at hb; subst hb; exact hc, fun i hi => (h.only i hi).imp id fun q => ⟨List.mem_append_left _ q.1, q.2⟩, h.todo, h.fresh, h.cnt⟩
  · rw [if_neg hc]
    have ha' : a < s'.1.length := by rw [h.len]; exact ha
    have hf : s'.1.getD a false = false := by simpa using hc
    refine ⟨by rw [List.length_set, h.len], fun i hi => ?_, fun b hb => ?_, fun i hi => ?_, fun i hi => List.mem_append_left _ (h.todo i hi), fun i hi => ?_, ?_⟩
    · show (s'.1.set a true).getD i false = true
      rw [getDB_set _ _ _ ha']; split
      · rfl
      · exact h.mono i hi
    · show (s'.1.set a true).getD b false = true
      rw [getDB_set _ _ _ ha']; split
      · rfl
      · rename_i hne
        rcases List.mem_append.1 hb with hb | hb
        · exact h.all b hb
        · exact absurd (by simpa using hb) hne
    · change (s'.1.set a true).getD i false = true at hi
      rw [getDB_set _ _ _ ha'] at hi
      by_cases e : i = a
      · subst e; exact .inr ⟨by simp, by simp⟩
      · rw [if_neg e] at hi
        exact (h.only i hi).imp id fun q => ⟨List.mem_append_left _ q.1, List.mem_append_left _ q.2⟩
    · show i ∈ s.2 ∨ (s'.1.set a true).getD i false = true
      rw [getDB_set _ _ _ ha']
      rcases List.mem_append.1 hi with hi | hi
      · rcases h.fresh i hi with q | q
        · exact .inl q
        · right; split
          · rfl
          · exact q
      · right; rw [if_pos (by simpa using hi)]
    · show (s'.2 ++ [a]).length + unseen (s'.1.set a true) = _
      have := unseen_set ha' hf
      have := h.cnt
      rw [List.length_append, List.length_singleton]
      omega
theorem laid (s : List Bool × List Nat) (l : List Nat) (hl : ∀ a ∈ l, a < s.1.length) : Laid s (layL l s) l := by
  have : ∀ m l0, l0.length = m → (∀ a ∈ l0, a < s.1.length) → Laid s (layL l0 s) l0 := by
    intro m
    induction m with
    | zero => intro l0 h0 _; obtain rfl := List.length_eq_zero_iff.1 h0; exact Laid.nil s
    | succ m ih =>
      intro l0 h0 hl0
      have hne : l0 ≠ [] := by rintro rfl; simp at h0
      have e := (List.dropLast_concat_getLast hne).symm
      rw [e, layL_snoc]
      exact (ih l0.dropLast (by simp [h0]) fun a ha => hl0 a (List.dropLast_subset _ ha)).snoc (hl0 _ (List.getLast_mem hne))
  exact this _ l rfl hl

structure SInv (nodes : List Node) (fr : List Nat) (seen : List Bool) (todo : List Nat) : Prop where
  len : seen.length = nodes.length
  sound : ∀ i, seen.getD i false = true → Rch nodes fr i
  base : ∀ a ∈ fr, seen.getD a false = true
  todoSeen : ∀ x ∈ todo, seen.getD x false = true
  closed : ∀ i, seen.getD i false = true → i ∈ todo ∨ ∀ u ∈ useI nodes i, seen.getD u false = true
  cnt : todo.length + unseen seen ≤ nodes.length
theorem SInv.init {nodes : List Node} {fr : List Nat} (hf : ∀ a ∈ fr, a < nodes.length) : SInv nodes fr (layL fr (List.replicate nodes.length false, [])).1 (layL fr (List.replicate nodes.length false, [])).2 := by
  have h := laid (List.replicate nodes.length false, []) fr (by simpa using hf)
  have h0 : ∀ i, ((List.replicate nodes.length false, ([] : List Nat)) : List Bool × List Nat).1.getD i false ≠ true := fun i => by
    show (List.replicate nodes.length false).getD i false ≠ true
    rw [List.getD_eq_getElem?_getD, List.getElem?_replicate]
    split <;> simp
  refine ⟨by rw [h.len]; simp, fun i hi => .base ((h.only i hi).elim (fun q => absurd q (h0 i)) And.left), h.all, fun x hx => (h.fresh x hx).elim (fun q => by simp at q) id, fun i hi => .inl ((h.only i hi).elim (fun q => absurd q (h0 i)) And.right), ?_⟩
  rw [h.cnt]
  show ([] : List Nat).length + unseen (List.replicate nodes.length false) ≤ _
  have : unseen (List.replicate nodes.length false) ≤ nodes.length := by
    have := List.countP_le_length (p := fun b => !b) (l := List.replicate nodes.length false)
    rw [List.length_replicate] at this
    exact this
  simpa using this
theorem SInv.next {nodes : List Node} {fr : List Nat} (hU : InU nodes) {seen : List Bool} {todo : List Nat} {a : Nat} (h : SInv nodes fr seen (todo ++ [a])) :
    SInv nodes fr (layL (useI nodes a) (seen, todo)).1 (layL (useI nodes a) (seen, todo)).2 ∧ (layL (useI nodes a) (seen, todo)).2.length + unseen (layL (useI nodes a) (seen, todo)).1 < (todo ++ [a]).length + unseen seen := by
  have hl := laid (seen, todo) (useI nodes a) (fun u hu => by have := hU a u hu; rw [← h.len] at this; exact this)
  obtain ⟨s, hs⟩ : ∃ s, layL (useI nodes a) (seen, todo) = s := ⟨_, rfl⟩
  rw [hs] at hl ⊢
  have hc : s.2.length + unseen s.1 = todo.length + unseen seen := hl.cnt
  have hcn := h.cnt
  rw [List.length_append, List.length_singleton] at hcn ⊢
  refine ⟨⟨by rw [hl.len]; exact h.len, fun i hi => ?_, fun b hb => hl.mono b (h.base b hb), fun x hx => (hl.fresh x hx).elim (fun q => hl.mono x (h.todoSeen x (List.mem_append_left _ q))) id, fun i hi => ?_, by omega⟩, by omega⟩
  · rcases hl.only i hi with q | q
    · exact h.sound i q
    · exact .step (h.sound a (h.todoSeen a (by simp))) q.1
  · rcases hl.only i hi with q | q
    · rcases h.closed i q with r | r
      · rcases List.mem_append.1 r with r | r
        · exact .inl (hl.todo i r)
        · right; obtain rfl : i = a := by simpa using r
          exact hl.all
      · exact .inr fun u hu => hl.mono u (r u hu)
    · exact .inl q.2
theorem SInv.done {nodes : List Node} {fr : List Nat} {seen : List Bool} (h : SInv nodes fr seen []) : IsRch nodes fr seen := by
  refine ⟨h.len, fun i => ⟨h.sound i, fun hr => ?_⟩⟩
  induction hr with
  | base ha => exact h.base _ ha
  | step _ hb ih =>
    rcases h.closed _ ih with r | r
    · simp at r
    · exact r _ hb

/-! by rounds -/
def Lt (n : Nat) (l : List Bool) (a : Nat) : Prop := l.length = n ∧ a < n
def setU (l : List Bool) (us : List Nat) : List Bool := us.foldl (fun l a => l.set a true) l
theorem setU_length (us : List Nat) (l : List Bool) : (setU l us).length = l.length := by
  induction us generalizing l with
  | nil => rfl
  | cons a us ih => show (setU (l.set a true) us).length = _; rw [ih, List.length_set]
theorem setU_at (us : List Nat) : ∀ (l : List Bool), (∀ a ∈ us, a < l.length) → ∀ i, (setU l us).getD i false = (l.getD i false || decide (i ∈ us)) := by
  induction us with
  | nil => intro l _ i; simp [setU]
  | cons a us ih =>
    intro l hl i
    show (setU (l.set a true) us).getD i false = _
    rw [ih _ (fun b hb => by rw [List.length_set]; exact hl b (List.mem_cons_of_mem _ hb)), getDB_set _ _ _ (hl a (by simp))]
    by_cases e : i = a
    · subst e; simp
    · simp [e]
def gr1 (nodes : List Node) (l : List Bool) (i : Nat) : List Bool := if l.getD i false = true then setU l (useI nodes i) else l
def grU (nodes : List Node) (k : Nat) (l : List Bool) : List Bool := (List.range k).foldl (gr1 nodes) l
def grow (nodes : List Node) (r : Nat) (l : List Bool) : List Bool := Nat.repeat (grU nodes nodes.length) r l
theorem grU_succ (nodes : List Node) (k : Nat) (l : List Bool) : grU nodes (k + 1) l = gr1 nodes (grU nodes k l) k := by simp [grU, List.range_succ]
theorem grow_succ (nodes : List Node) (r : Nat) (l : List Bool) : grow nodes (r + 1) l = grU nodes nodes.length (grow nodes r l) := rfl
theorem gr1_length (nodes : List Node) (l : List Bool) (i : Nat) : (gr1 nodes l i).length = l.length := by
  unfold gr1; split
  · exact setU_length _ _
  · rfl
theorem grU_length (nodes : List Node) (k : Nat) (l : List Bool) : (grU nodes k l).length = l.length := by
  induction k with
  | zero => rfl
  | succ k ih => rw [grU_succ, gr1_length, ih]
theorem grow_length (nodes : List Node) (r : Nat) (l : List Bool) : (grow nodes r l).length = l.length := by
  induction r with
  | zero => rfl
  | succ r ih => rw [grow_succ, grU_length, ih]
theorem gr1_at {nodes : List Node} (hU : InU nodes) {l : List Bool} (hl : l.length = nodes.length) (k i : Nat) : (gr1 nodes l k).getD i false = (l.getD i false || (l.getD k false && decide (i ∈ useI nodes k))) := by
  unfold gr1
  cases h : l.getD k false with
  | true => rw [if_pos rfl, setU_at _ _ (fun a ha => by rw [hl]; exact hU k a ha), Bool.true_and]
  | false => rw [if_neg (by simp), Bool.false_and, Bool.or_false]
/-- l is below l' -/
def LeB (l l' : List Bool) : Prop := ∀ i, l.getD i false = true → l'.getD i false = true
theorem gr1_le {nodes : List Node} (hU : InU nodes) {l : List Bool} (hl : l.length = nodes.length) (k : Nat) : LeB l (gr1 nodes l k) := fun i hi => by rw [gr1_at hU hl, hi]; rfl
theorem grU_le {nodes : List Node} (hU : InU nodes) {l : List Bool} (hl : l.length = nodes.length) {k m : Nat} (h : k ≤ m) : LeB (grU nodes k l) (grU nodes m l) := by
  induction m with
  | zero => obtain rfl : k = 0 := by omega
            exact fun _ h => h
  | succ m ih =>
    rcases Nat.lt_or_ge m k with h' | h'
    · obtain rfl : k = m + 1 := by omega
      exact fun _ h => h
    · intro i hi
      rw [grU_succ]
      exact gr1_le hU (by rw [grU_length, hl]) m i (ih h' i hi)
theorem grow_le {nodes : List Node} (hU : InU nodes) {l : List Bool} (hl : l.length = nodes.length) (r : Nat) : LeB l (grow nodes r l) := by
  induction r with
  | zero => exact fun _ h => h
  | succ r ih => exact fun i hi => grU_le (l := grow nodes r l) hU (by rw [grow_length, hl]) (Nat.zero_le _) i (ih i hi)
theorem grU_sound {nodes : List Node} (hU : InU nodes) {fr : List Nat} {l : List Bool} (hl : l.length = nodes.length) (h : ∀ i, l.getD i false = true → Rch nodes fr i) (k : Nat) : ∀ i, (grU nodes k l).getD i false = true → Rch nodes fr i := by
  induction k with
  | zero => exact h
  | succ k ih =>
    intro i hi
    rw [grU_succ, gr1_at hU (by rw [grU_length, hl]), Bool.or_eq_true, Bool.and_eq_true] at hi
    rcases hi with hi | ⟨h1, h2⟩
    · exact ih i hi
    · exact .step (ih k h1) (by simpa using h2)
theorem grow_sound {nodes : List Node} (hU : InU nodes) {fr : List Nat} {l : List Bool} (hl : l.length = nodes.length) (h : ∀ i, l.getD i false = true → Rch nodes fr i) (r : Nat) : ∀ i, (grow nodes r l).getD i false = true → Rch nodes fr i := by
  induction r with
  | zero => exact h
  | succ r ih => exact grU_sound hU (by rw [grow_length, hl]) ih _
def ClosedB (nodes : List Node) (l : List Bool) : Prop := ∀ k, l.getD k false = true → ∀ u ∈ useI nodes k, l.getD u false = true
def trues (l : List Bool) : Nat := l.countP id
theorem trues_le : ∀ {l l' : List Bool}, l.length = l'.length → LeB l l' → trues l ≤ trues l' ∧ (trues l = trues l' → l = l')
  | [], [], _, _ => by simp [trues]
  | [], _ :: _, h, _ => by simp at h
  | _ :: _, [], h, _ => by simp at h
  | x :: l, y :: l', h, hle => by
    obtain ⟨h1, h2⟩ := trues_le (l := l) (l' := l') (by simpa using h) (fun i hi => by have := hle (i + 1); simpa using this (by simpa using hi))
    have h0 : x = true → y = true := fun hx => by have := hle 0; simpa using this (by simpa using hx)
    unfold trues at *
    rw [List.countP_cons, List.countP_cons]
    cases x <;> cases y <;> simp at h0 ⊢
    · exact ⟨h1, h2⟩
    · exact ⟨by omega, by omega⟩
    · exact ⟨h1, h2⟩
theorem grU_closed {nodes : List Node} (hU : InU nodes) {l : List Bool} (hl : l.length = nodes.length) (he : grU nodes nodes.length l = l) : ClosedB nodes l := by
  intro k hk u hu
  have hkl : k < nodes.length := by
    rcases Nat.lt_or_ge k nodes.length with h | h
    · exact h
    · rw [List.getD_eq_getElem?_getD, List.getElem?_eq_none (by omega)] at hk; simp at hk
  have h1 : (grU nodes (k + 1) l).getD u false = true := by
    rw [grU_succ, gr1_at hU (by rw [grU_length, hl]), grU_le hU hl (Nat.zero_le k) k hk]
    simp [hu]
  rw [← he]
  exact grU_le hU hl (by omega) u h1
theorem grU_fix {nodes : List Node} (hU : InU nodes) {l : List Bool} (hl : l.length = nodes.length) (hc : ClosedB nodes l) (k : Nat) : grU nodes k l = l := by
  induction k with
  | zero => rfl
  | succ k ih =>
    rw [grU_succ, ih]
    refine ((trues_le (by rw [gr1_length]) (gr1_le hU hl k)).2 ?_).symm
    refine Nat.le_antisymm (trues_le (by rw [gr1_length]) (gr1_le hU hl k)).1 (trues_le (by rw [gr1_length]) fun i hi => ?_).1
    rw [gr1_at hU hl, Bool.or_eq_true, Bool.and_eq_true] at hi
    rcases hi with hi | ⟨h1, h2⟩
    · exact hi
    · exact hc k h1 i (by simpa using h2)
theorem grow_closed {nodes : List Node} (hU : InU nodes) {l : List Bool} (hl : l.length = nodes.length) (r : Nat) : ClosedB nodes (grow nodes r l) ∨ r ≤ trues (grow nodes r l) := by
  induction r with
  | zero => exact .inr (Nat.zero_le _)
  | succ r ih =>
    have hgl : (grow nodes r l).length = nodes.length := by rw [grow_length, hl]
    rcases ih with ih | ih
    · left; rw [grow_succ, grU_fix hU hgl ih]; exact ih
    · by_cases he : grU nodes nodes.length (grow nodes r l) = grow nodes r l
      · left; rw [grow_succ, he]; exact grU_closed hU hgl he
      · right
        rw [grow_succ]
        have h := trues_le (l := grow nodes r l) (l' := grU nodes nodes.length (grow nodes r l)) (by rw [grU_length]) (grU_le hU hgl (k := 0) (Nat.zero_le _))
        have : trues (grow nodes r l) ≠ trues (grU nodes nodes.length (grow nodes r l)) := fun e => he (h.2 e).symm
        omega
theorem grow_is {nodes : List Node} (hU : InU nodes) {fr : List Nat} {l : List Bool} (hl : l.length = nodes.length) (hfr : ∀ i, l.getD i false = true ↔ i ∈ fr) : IsRch nodes fr (grow nodes (nodes.length + 1) l) := by
  have hgl : (grow nodes (nodes.length + 1) l).length = nodes.length := by rw [grow_length, hl]
  refine ⟨hgl, fun i => ⟨grow_sound hU hl (fun i hi => .base ((hfr i).1 hi)) _ i, fun hr => ?_⟩⟩
  have hc : ClosedB nodes (grow nodes (nodes.length + 1) l) := by
    rcases grow_closed hU hl (nodes.length + 1) with h | h
    · exact h
    · have : trues (grow nodes (nodes.length + 1) l) ≤ (grow nodes (nodes.length + 1) l).length := List.countP_le_length
      omega
  induction hr with
  | base ha => exact grow_le hU hl _ _ ((hfr _).2 ha)
  | step _ hb ih => exact hc _ ih _ hb
theorem IsRch.of (nodes : List Node) (fr : List Nat) (hU : InU nodes) (hf : ∀ a ∈ fr, a < nodes.length) : ∃ l, IsRch nodes fr l := by
  refine ⟨_, grow_is hU (fr := fr) (l := setU (List.replicate nodes.length false) fr) (by rw [setU_length]; simp) fun i => ?_⟩
  rw [setU_at _ _ (by simpa using hf)]
  have : (List.replicate nodes.length false).getD i false = false := by
    rw [List.getD_eq_getElem?_getD, List.getElem?_replicate]
    split <;> rfl
  rw [this]; simp
end Go.Proofs.Ytbfjacgfifecpaa

/-! ## Rows of the call's own, of any kinds, each in a block of its own: what is kept of them when one is written, or grows. -/
namespace Go.Proofs.Ytbfjacgfifecpaa
open Go.RowKit

structure Rw where
  e : TypeId
  size : Nat
  v : Value
  n : Nat
  cs : List Value
abbrev Rw.at (r : Rw) (w : World) (B : Nat) : Prop := w.ownsRow B r.e r.size r.v r.n r.cs
structure Keep (w : World) (B : Nat) (T : List Rw) : Prop where
  own : ∀ (i : Nat) (r : Rw), T[i]? = some r → r.at w B
  apart : ∀ (i j : Nat) (p q : Rw), T[i]? = some p → T[j]? = some q → i ≠ j → ∀ b, p.v.ownBlock = some b → q.v.ownBlock ≠ some b
  base : B ≤ w.heap.size

theorem Keep.nil {w : World} {B : Nat} (h : B ≤ w.heap.size) : Keep w B [] := ⟨fun i r h => by simp at h, fun i j p q h => by simp at h, h⟩
theorem Keep.other {w w' : World} {B : Nat} {T : List Rw} {row : Option Nat} (h : Keep w B T) (hg : w.grownBy w' row) (hr : ∀ (i : Nat) (p : Rw), T[i]? = some p → p.v.ownBlock = none ∨ p.v.ownBlock ≠ row) : Keep w' B T where
  own i p hp := (h.own i p hp).kept hg (hr i p hp)
  apart := h.apart
  base := Nat.le_trans h.base hg.size
theorem Keep.below {w w' : World} {B : Nat} {T : List Rw} (h : Keep w B T) (hb : Below w.heap.size w w') : Keep w' B T :=
  h.other (row := none) ⟨hb.os, hb.tape, hb.output, hb.size, fun k hk _ => hb.block k hk⟩ (fun i p _ => by cases p.v.ownBlock <;> simp)
theorem Keep.alloc {w : World} {B : Nat} {T : List Rw} (h : Keep w B T) (o : Obj) : Keep (w.alloc o) B T := h.below ((Below.refl _ _).alloc (Nat.le_refl _) o)
theorem Keep.drew {w : World} {B : Nat} {T : List Rw} (h : Keep w B T) : Keep w.drew B T := h.below (Below.refl _ _).drew
theorem Keep.lower {w : World} {B B' : Nat} {T : List Rw} (h : Keep w B T) (hB : B' ≤ B) : Keep w B' T := ⟨fun i r hr => ownsRow_base (h.own i r hr) hB, h.apart, Nat.le_trans hB h.base⟩
theorem Keep.lt {w : World} {B : Nat} {T : List Rw} (h : Keep w B T) {i : Nat} {r : Rw} (hi : T[i]? = some r) {b : Nat} (hb : r.v.ownBlock = some b) : B ≤ b ∧ b < w.heap.size := (h.own i r hi).lt b hb
/-- one row more, made later -/
theorem Keep.push {w w' : World} {B : Nat} {T : List Rw} (h : Keep w B T) (hb : Below w.heap.size w w') {r : Rw} (hr : r.at w' w.heap.size) : Keep w' B (T ++ [r]) := by
  have h' := h.below hb
  have hat : ∀ (i : Nat) (p : Rw), (T ++ [r])[i]? = some p → T[i]? = some p ∨ (i = T.length ∧ p = r) := fun i p hp => by
    rcases Nat.lt_or_ge i T.length with hi | hi
    · rw [List.getElem?_append_left hi] at hp; exact .inl hp
    · rw [List.getElem?_append_right hi] at hp
      have : i - T.length = 0 := by
        rcases Nat.eq_zero_or_pos (i - T.length) with e | e
        · exact e
        · rw [List.getElem?_eq_none (by simp only [List.length_singleton]; omega)] at hp; exact absurd hp (by simp)
      rw [this] at hp
      exact .inr ⟨by omega, by simpa using hp.symm⟩
  refine ⟨fun i p hp => ?_, fun i j p q hp hq hij b hb1 hb2 => ?_, h'.base⟩
  · rcases hat i p hp with e | ⟨-, rfl⟩
    · exact h'.own i p e
    · exact ownsRow_base hr h.base
  · rcases hat i p hp with e | ⟨e1, rfl⟩
    · rcases hat j q hq with e' | ⟨e1', rfl⟩
      · exact h.apart i j p q e e' hij b hb1 hb2
      · have := (h.own i p e).lt b hb1
        have := hr.lt b hb2
        omega
    · rcases hat j q hq with e' | ⟨e1', rfl⟩
      · have := (h.own j q e').lt b hb2
        have := hr.lt b hb1
        omega
      · omega
/-- one row is written, or grows -/
theorem Keep.set {w w' : World} {B : Nat} {T : List Rw} (h : Keep w B T) {i : Nat} {r r' : Rw} (hi : T[i]? = some r) (ho : r'.at w' B) (hg : w.grownBy w' r.v.ownBlock)
    (hloc : r'.v.ownBlock = r.v.ownBlock ∨ ∃ b, r'.v.ownBlock = some b ∧ w.heap.size ≤ b) : Keep w' B (T.set i r') := by
  have hlt : i < T.length := (List.getElem?_eq_some_iff.1 hi).1
  have hsplit : ∀ (j : Nat) (p : Rw), (T.set i r')[j]? = some p → (j = i ∧ p = r') ∨ (j ≠ i ∧ T[j]? = some p) := fun j p hp => by
    rw [List.getElem?_set] at hp
    split at hp
    · rename_i e; subst e
      try rw [if_pos hlt] at hp
      injection hp with hp
      exact .inl ⟨rfl, hp.symm⟩
    · rename_i e
      exact .inr ⟨fun h => e h.symm, hp⟩
  have hothers : ∀ (j : Nat) (p : Rw), j ≠ i → T[j]? = some p → p.v.ownBlock = none ∨ p.v.ownBlock ≠ r.v.ownBlock := fun j p hj hp => by
    cases hb : p.v.ownBlock with
    | none => exact .inl rfl
    | some b => exact .inr fun e => h.apart j i p _ hp hi hj b hb e.symm
  refine ⟨fun j p hp => ?_, fun j k p q hp hq hjk b hb => ?_, Nat.le_trans h.base hg.size⟩
  · rcases hsplit j p hp with ⟨rfl, rfl⟩ | ⟨hj, hp⟩
    · exact ho
    · exact (h.own j p hp).kept hg (hothers j p hj hp)
  · rcases hsplit j p hp with ⟨rfl, rfl⟩ | ⟨hj, hp2⟩
    · rcases hsplit k q hq with ⟨rfl, rfl⟩ | ⟨hk, hq2⟩
      · exact absurd rfl hjk
      · intro hqb
        rcases hloc with e | ⟨b', hb', hsz⟩
        · exact h.apart j k _ _ hi hq2 hjk b (by rw [← e]; exact hb) hqb
        · have e : b' = b := by rw [hb'] at hb; injection hb
          have := (h.own k q hq2).lt b hqb
          omega
    · rcases hsplit k q hq with ⟨rfl, rfl⟩ | ⟨hk, hq2⟩
      · intro hqb
        rcases hloc with e | ⟨b', hb', hsz⟩
        · exact h.apart j k _ _ hp2 hi hj b hb (by rw [← e]; exact hqb)
        · have e : b' = b := by rw [hb'] at hqb; injection hqb
          have := (h.own j p hp2).lt b hb
          omega
      · exact h.apart j k p q hp2 hq2 hjk b hb
/-- a store into a row -/
theorem Keep.store {w : World} {B : Nat} {T : List Rw} (h : Keep w B T) {i : Nat} {r : Rw} (hi : T[i]? = some r) {g c : Nat} (hv : r.v = .slice (some ⟨g, 0, none⟩) r.n c) (j : Nat) (u : Value) :
    Keep (w.setCell ⟨g, j, none⟩ u) B (T.set i { r with cs := r.cs.set j u }) := by
  have ho := h.own i r hi
  obtain ⟨e, size, v, n, cs⟩ := r
  dsimp only at hv
  subst hv
  have hs := World.ownsRow.stored ho j u
  exact h.set hi hs.1 hs.2 (.inl rfl)
theorem Keep.cell {w : World} {B : Nat} {T : List Rw} (h : Keep w B T) {i : Nat} {r : Rw} (hi : T[i]? = some r) {g c : Nat} (hv : r.v = .slice (some ⟨g, 0, none⟩) r.n c) {j : Nat} {u : Value} (hu : r.cs[j]? = some u) :
    w.cell? ⟨g, j, none⟩ = some u ∧ w.frozen? ⟨g, j, none⟩ = false := by
  have ho := h.own i r hi
  obtain ⟨e, size, v, n, cs⟩ := r
  dsimp only at hv
  subst hv
  have hj : j < n * size := by have := (List.getElem?_eq_some_iff.1 hu).1; have := ho.1; dsimp only at *; omega
  exact ⟨(World.ownsRow.cellAt ho j hj).trans hu, World.ownsRow.frozenAt ho j⟩
/-- rows of a part of the list -/
theorem Keep.pick {w : World} {B : Nat} {T U : List Rw} (h : Keep w B T) (f : Nat → Nat) (hf : ∀ i j, i < U.length → j < U.length → f i = f j → i = j) (hU : ∀ (i : Nat) (r : Rw), U[i]? = some r → T[f i]? = some r) : Keep w B U :=
  ⟨fun i r hr => h.own (f i) r (hU i r hr), fun i j p q hp hq hij => h.apart (f i) (f j) p q (hU i p hp) (hU j q hq) (fun e => hij (hf i j (List.getElem?_eq_some_iff.1 hp).1 (List.getElem?_eq_some_iff.1 hq).1 e)), h.base⟩

abbrev rwInts (e : TypeId) (v : Value) (xs : List Int) : Rw := ⟨e, 1, v, xs.length, xs.map fun x => Value.int .i64 x⟩
abbrev rwBools (e : TypeId) (v : Value) (xs : List Bool) : Rw := ⟨e, 1, v, xs.length, xs.map fun x => Value.bool x⟩
/-- a cell of its own -/
abbrev rwBox (e : TypeId) (g : Nat) (u : Value) : Rw := ⟨e, 1, .slice (some ⟨g, 0, none⟩) 1 1, 1, [u]⟩
theorem rwInts_at {e : TypeId} {w : World} {B : Nat} {v : Value} {xs : List Int} : (rwInts e v xs).at w B ↔ Own kInt e w none B v xs :=
  ⟨fun h => Own.of_ints h fun _ _ => foot_none _ _, fun h => h.ints⟩
theorem rwBools_at {e : TypeId} {w : World} {B : Nat} {v : Value} {xs : List Bool} : (rwBools e v xs).at w B ↔ Own kBool e w none B v xs :=
  ⟨fun h => Own.of_bools h fun _ _ => foot_none _ _, fun h => h.boolsRow⟩
theorem rwBox_alloc (w : World) (e : TypeId) (u : Value) : (rwBox e w.heap.size u).at (w.alloc (.cells #[u] e)) w.heap.size :=
  World.ownsRow_lit w #[u] 1 (Nat.le_refl _) (by simp [maxLen]) rfl
section
variable {w w' : World} {B : Nat} {T : List Rw} {i : Nat} {e : TypeId} {v : Value} {xs : List Int} {bs : List Bool} {g c n : Nat} {u : Value}
theorem Keep.ints (h : Keep w B T) (hi : T[i]? = some (rwInts e v xs)) : Own kInt e w none B v xs := rwInts_at.1 (h.own i _ hi)
theorem Keep.bools (h : Keep w B T) (hi : T[i]? = some (rwBools e v bs)) : Own kBool e w none B v bs := rwBools_at.1 (h.own i _ hi)
theorem Keep.box (h : Keep w B T) (hi : T[i]? = some (rwBox e g u)) : w.cell? ⟨g, 0, none⟩ = some u ∧ w.frozen? ⟨g, 0, none⟩ = false := h.cell hi rfl rfl
theorem Keep.setBox (h : Keep w B T) (hi : T[i]? = some (rwBox e g u)) (u' : Value) : Keep (w.setCell ⟨g, 0, none⟩ u') B (T.set i (rwBox e g u')) := h.store hi rfl 0 u'
theorem Keep.setInt (h : Keep w B T) (hi : T[i]? = some (rwInts e (.slice (some ⟨g, 0, none⟩) n c) xs)) (j : Nat) (r : Int) : Keep (w.setCell ⟨g, j, none⟩ (.int .i64 r)) B (T.set i (rwInts e (.slice (some ⟨g, 0, none⟩) n c) (xs.set j r))) := by
  have hO := h.ints hi
  have hs := hO.store (FootIn.none _) h.base j r
  exact h.set hi (rwInts_at.2 hs.1) hs.2.1 (.inl rfl)
theorem Keep.setBool (h : Keep w B T) (hi : T[i]? = some (rwBools e (.slice (some ⟨g, 0, none⟩) n c) bs)) (j : Nat) (r : Bool) : Keep (w.setCell ⟨g, j, none⟩ (.bool r)) B (T.set i (rwBools e (.slice (some ⟨g, 0, none⟩) n c) (bs.set j r))) := by
  have hO := h.bools hi
  have hn : n = bs.length := by obtain ⟨_, _, he, _⟩ := hO.shape; injection he
  have hg : w.grownBy (w.setCell ⟨g, j, none⟩ (.bool r)) (some g) := by subst hn; exact (hO.boolsRow.stored j (.bool r)).2
  exact h.set hi (rwBools_at.2 (hO.storeBool j r)) hg (.inl rfl)
theorem Keep.setRow (h : Keep w B T) (hi : T[i]? = some (rwInts e v xs)) {v' : Value} {ys : List Int} (ho : Own kInt e w' none B v' ys) (hg : w.grownBy w' v.ownBlock) (hloc : v'.ownBlock = v.ownBlock ∨ ∃ b, v'.ownBlock = some b ∧ w.heap.size ≤ b) : Keep w' B (T.set i (rwInts e v' ys)) :=
  h.set hi (rwInts_at.2 ho) hg hloc
/-- a box is not in the block of a row -/
theorem Keep.ne (h : Keep w B T) {j : Nat} {p q : Rw} (hi : T[i]? = some p) (hj : T[j]? = some q) (hij : i ≠ j) {b : Nat} (hb : p.v.ownBlock = some b) : some b ≠ q.v.ownBlock := fun e => h.apart i j p q hi hj hij b hb e.symm
end
end Go.Proofs.Ytbfjacgfifecpaa

/-! ## sweep.reached: the closure that lays places. -/
namespace Go.Proofs.Ytbfjacgfifecpaa
open Go.RowKit

/-- the state of sweep.reached: what was seen, its box, what is to do, its box -/
abbrev SwT (B n : Nat) (seen : List Bool) (tv : Value) (todo : List Nat) : List Rw :=
  [rwBools 4 (.slice (some ⟨B, 0, none⟩) n n) seen, rwBox 61 (B + 1) (.slice (some ⟨B, 0, none⟩) n n), rwInts 3 tv (nats todo), rwBox 28 (B + 1 + 1) tv]
def SwE (w : World) (B n : Nat) (s : List Bool × List Nat) (tv : Value) : Prop := Keep w B (SwT B n s.1 tv s.2)
def swS (B : Nat) (tv : Value) (i : Nat) : Prop := (i = B ∨ i = B + 1 ∨ i = B + 1 + 1) ∨ tv.ownBlock = some i
theorem SwE.lt {w : World} {B n : Nat} {s : List Bool × List Nat} {tv : Value} (h : SwE w B n s tv) : B + 1 + 1 < w.heap.size := (Keep.lt h (i := 3) rfl (b := B + 1 + 1) rfl).2
theorem SwE.there {w : World} {B n : Nat} {s : List Bool × List Nat} {tv : Value} (h : SwE w B n s tv) : There (swS B tv) w := fun i hi => by
  have := h.lt
  rcases hi with (e | e | e) | e
  · omega
  · omega
  · omega
  · exact (Keep.lt h (i := 2) rfl e).2
theorem SwE.below {w w' : World} {B n : Nat} {s : List Bool × List Nat} {tv : Value} (h : SwE w B n s tv) (hb : Below w.heap.size w w') : SwE w' B n s tv := Keep.below h hb
theorem SwE.boxes {w : World} {B n : Nat} {s : List Bool × List Nat} {tv : Value} (h : SwE w B n s tv) : (w.cell? ⟨B + 1, 0, none⟩ = some (.slice (some ⟨B, 0, none⟩) n n) ∧ w.frozen? ⟨B + 1, 0, none⟩ = false) ∧ (w.cell? ⟨B + 1 + 1, 0, none⟩ = some tv ∧ w.frozen? ⟨B + 1 + 1, 0, none⟩ = false) := ⟨Keep.box h (i := 1) rfl, Keep.box h (i := 3) rfl⟩
theorem SwE.len {w : World} {B n : Nat} {s : List Bool × List Nat} {tv : Value} (h : SwE w B n s tv) : s.1.length = n := by
  have := Keep.bools h (i := 0) rfl
  obtain ⟨_, _, he, _⟩ := this.shape
  injection he with _ e _
  exact e.symm
theorem SwE.at {w : World} {B n : Nat} {s : List Bool × List Nat} {tv : Value} (h : SwE w B n s tv) {a : Nat} (ha : a < s.1.length) : w.cell? ⟨B, a, none⟩ = some (.bool (s.1.getD a false)) ∧ w.frozen? ⟨B, a, none⟩ = false :=
  Keep.cell h (i := 0) rfl (c := n) (by show Value.slice _ n n = Value.slice _ s.1.length n; rw [h.len]) (u := .bool (s.1.getD a false)) (by simp [List.getD_eq_getElem?_getD, List.getElem?_eq_getElem ha])
theorem SwE.todo {w : World} {B n : Nat} {s : List Bool × List Nat} {tv : Value} (h : SwE w B n s tv) : Own kInt 3 w none B tv (nats s.2) := Keep.ints h (i := 2) rfl
/-- one place is laid -/
theorem SwE.seeBool {w : World} {B n : Nat} {seen : List Bool} {todo : List Nat} {tv : Value} (h : SwE w B n (seen, todo) tv) (a : Nat) : SwE (w.setCell ⟨B, a, none⟩ (.bool true)) B n (seen.set a true, todo) tv := Keep.setBool h (i := 0) rfl a true
theorem SwE.push {w w' : World} {B n : Nat} {seen : List Bool} {todo : List Nat} {tv tv' : Value} {a : Nat} (h : SwE w B n (seen, todo) tv) (ho : Own kInt 3 w' none B tv' (nats todo ++ [(a : Int)])) (hg : w.grownBy w' tv.ownBlock)
    (hloc : tv'.ownBlock = tv.ownBlock ∨ ∃ b, tv'.ownBlock = some b ∧ w.heap.size ≤ b) :
    (w'.cell? ⟨B + 1 + 1, 0, none⟩ = some tv ∧ w'.frozen? ⟨B + 1 + 1, 0, none⟩ = false) ∧ SwE (w'.setCell ⟨B + 1 + 1, 0, none⟩ tv') B n (seen, todo ++ [a]) tv' := by
  have e : nats (todo ++ [a]) = nats todo ++ [(a : Int)] := by simp
  have h1 : Keep w' B (SwT B n seen tv todo |>.set 2 (rwInts 3 tv' (nats (todo ++ [a])))) := Keep.setRow h (i := 2) rfl (by rw [e]; exact ho) hg hloc
  have hb := Keep.box h1 (i := 3) rfl
  exact ⟨hb, Keep.setBox h1 (i := 3) rfl tv'⟩

theorem enter_lay (args : Array Value) (W : World) : (callFunc 96 args).run Try.prog W = .ok (.enter 96 args) W := by kernel_rfl
set_option maxHeartbeats 2000000 in
theorem lay_net (w : World) (B n : Nat) (s : List Bool × List Nat) (tv v : Value) (l : List Nat) (hK : SwE w B n s tv) (hx : Row kInt w (swS B tv) v (nats l)) (hl : ∀ a ∈ l, a < n) (hll : l.length ≤ 1099511627776) (hsz : s.2.length + unseen s.1 ≤ 1099511627776) :
    Calls Try.prog 96 #[v, .pointer (some ⟨B + 1, 0, none⟩), .pointer (some ⟨B + 1 + 1, 0, none⟩)] w fun e w' => ∃ tv', e = .returned (.tuple #[]) ∧ SwE w' B n (layL l s) tv' ∧ Below B w w' := by
  have hl0 : (nats l).length = l.length := by simp
  obtain ⟨A, c, he, -, -⟩ := hx.shape
  rw [hl0] at he
  subst he
  have HX := Lib.hid hx
  have HL := Lib.hid hl
  have HK := Lib.hid hK
  have HLAID := Lib.hid (fun i => laid s (l.take i) (fun a ha => by rw [hK.len]; exact hl a (List.mem_of_mem_take ha)))
  have HSZ := Lib.hid hsz
  clear hx hl hK hl0 hsz
  go_enter Try.func96, Try.ntmps96
  go_wp2_with fail
  go_loopw [8] (fun iv wr => ∃ i : Nat, iv = .int .i64 i ∧ i ≤ l.length ∧ Hid (∃ tr, SwE wr B n (layL (l.take i) s) tr ∧ (tr.ownBlock = tv.ownBlock ∨ ∃ b, tr.ownBlock = some b ∧ w.heap.size ≤ b)) ∧ Hid (Same (swS B tv) w wr) ∧ Hid (Below B w wr)) (fun iv _ => l.length - (intOf iv).toNat)
  case atStart => exact ⟨0, rfl, Nat.zero_le _, Lib.hid ⟨tv, HK.out, .inl rfl⟩, Lib.hid ⟨Nat.le_refl _, fun _ _ _ => rfl⟩, Lib.hid (Below.refl _ _)⟩
  case round =>
    obtain ⟨i, rfl, hi, HE, HS, HB⟩ := hrel
    obtain ⟨tr, hE, htr⟩ := HE.out
    have HE2 := Lib.hid hE
    have HTR := Lib.hid htr
    clear hE htr HE
    by_cases hlt : i < l.length
    · have hrow := HX.out.keep (S' := fun _ => False) HS.out (fun _ _ h => h.elim)
      obtain ⟨b, off, rfl, x0⟩ := hrow.int_at (by simpa using hlt)
      have hm := HL.out _ (List.getElem_mem hlt)
      have HT := Lib.hid (List.take_succ_eq_append_getElem hlt)
      have x0' : wr.cell? ⟨b, off + i, none⟩ = some (.int .i64 ((l[i] : Nat) : Int)) := by simpa using x0
      obtain ⟨a, ha⟩ : ∃ a, l[i] = a := ⟨_, rfl⟩
      rw [ha] at hm HT x0'
      clear ha x0 hrow
      have HLD := Lib.hid (HLAID.out i)
      obtain ⟨⟨seen, todo⟩, hs⟩ : ∃ q, layL (l.take i) s = q := ⟨_, rfl⟩
      have HT2 := Lib.hid (show layL (l.take (i + 1)) s = lay1 (seen, todo) a by rw [HT.out, layL_snoc, hs])
      rw [hs] at HE2 HLD
      clear hs
      have hal : a < seen.length := by rw [HE2.out.len]; exact hm
      obtain ⟨⟨b0, b1⟩, b2, b3⟩ := HE2.out.boxes
      obtain ⟨c0, c1⟩ := HE2.out.at hal
      have hBl := HE2.out.lt
      dsimp only at c0
      cases hsa : seen.getD a false with
      | true =>
        rw [hsa] at c0
        have HN : Hid (layL (l.take (i + 1)) s = (seen, todo)) := by
          have h := HT2.out
          rw [lay1, if_pos hsa] at h
          exact Lib.hid h
        clear hsa
        go_wp2_with fail
        refine ⟨⟨i + 1, by go_num, by omega, Lib.hid ⟨tr, by rw [HN.out]; exact HE2.out, HTR.out⟩, HS, HB⟩, ?_⟩
        simp [intOf]; omega
      | false =>
        rw [hsa] at c0
        have HN : Hid (layL (l.take (i + 1)) s = (seen.set a true, todo ++ [a])) := by
          have h := HT2.out
          rw [lay1, if_neg (by rw [hsa]; simp)] at h
          exact Lib.hid h
        have HE3 := Lib.hid (HE2.out.seeBool a)
        have HO3 : Hid (Own kInt 3 (wr.setCell ⟨B, a, none⟩ (.bool true)) none B tr (nats todo)) := Lib.hid HE3.out.todo
        have HL6L := Lib.hid (show (nats todo ++ [(a : Int)]).length = todo.length + 1 by simp)
        have hlen : ((nats todo).length + 1) * 8 ≤ 140737488355328 := by
          have h1 := HLD.out.cnt
          have h2 := HSZ.out
          dsimp only at h1
          rw [List.length_map]
          omega
        have hb1 : B ≤ (wr.setCell ⟨B, a, none⟩ (.bool true)).heap.size := by simp; omega
        have hsx : (wr.setCell ⟨B, a, none⟩ (.bool true)).heap.size = wr.heap.size := by simp
        have HSX := Lib.hid hsx
        clear hsa hsx
        go_wp2_with (at_builtin; go_loud (refine appI rfl (.tmp 20) (.tmp 22) rfl HO3.out hb1 rfl (a : Int) _ HSX.out rfl hlen ?_; intro v' w5 q1 q5 q6; obtain ⟨⟨t0, t1⟩, h6⟩ := HE3.out.push q1 q5 q6; have HE6 := Lib.hid h6; obtain ⟨A6, c6, he6, -, -⟩ := q1.shape; rw [HL6L.out] at he6; have HQ5 := Lib.hid q5; have HQ6 := Lib.hid q6; subst he6; clear q1 q5 q6 h6))
        refine ⟨⟨i + 1, by go_num, by omega, Lib.hid ⟨_, by rw [HN.out]; exact HE6.out, ?_⟩, Lib.hid ?_, Lib.hid ?_⟩, ?_⟩
        · rcases HQ6.out with e | ⟨b, e, hb⟩
          · rw [e]; exact HTR.out
          · exact .inr ⟨b, e, by have := HSX.out; have := HS.out.1; omega⟩
        · have h1 := HS.out
          have h2 := HTR.out
          refine ⟨?_, fun j hj hn => ?_⟩
          · have := HQ5.out.size; have := h1.1; have := HSX.out; simp only [World.size_setCell]; omega
          · have e0 : j ≠ B := fun e => hn (.inl (.inl e))
            have e2 : j ≠ B + 1 + 1 := fun e => hn (.inl (.inr (.inr e)))
            rw [heap_setCell_other _ ⟨B + 1 + 1, 0, none⟩ j _ e2, HQ5.out.block j (by have := h1.1; have := HSX.out; omega) (fun e => ?_), heap_setCell_other _ ⟨B, a, none⟩ j _ e0, h1.2 j hj hn]
            rcases h2 with q | ⟨b, q, hb⟩
            · exact hn (.inr (by rw [← q]; exact e.symm))
            · rw [q] at e; injection e with e; omega
        · exact ((HB.out.setCell (p := ⟨B, a, none⟩) (Nat.le_refl _) _).grown HQ5.out hb1 (fun g hg => (HO3.out.base hg).1)).setCell (p := ⟨B + 1 + 1, 0, none⟩) (by simp; omega) _
        · simp [intOf]; omega
    · obtain rfl : i = l.length := by omega
      have HE3 := HE2
      rw [List.take_length] at HE3
      clear HE2
      go_wp2
      go_end0
      exact ⟨tr, rfl, HE3.out, HB.out⟩
end Go.Proofs.Ytbfjacgfifecpaa

/-! ## sweep.reached: on what some places hang. -/
namespace Go.Proofs.Ytbfjacgfifecpaa
open Go.RowKit

theorem nats_toNat {xs : List Int} (h : ∀ u ∈ xs, 0 ≤ u) : nats (xs.map Int.toNat) = xs := by
  induction xs with
  | nil => rfl
  | cons x xs ih =>
    have h0 := h x (by simp)
    have h1 := ih fun u hu => h u (List.mem_cons_of_mem _ hu)
    simp only [List.map_cons, h1, List.cons.injEq, and_true]
    omega
theorem inU_of {nodes : List Node} (hin : ∀ x ∈ nodes, ∀ u ∈ usesR x, 0 ≤ u ∧ u < nodes.length) : InU nodes := fun i u hu => by
  unfold useI at hu
  cases hx : nodes[i]? with
  | none => rw [hx] at hu; simp at hu
  | some x =>
    rw [hx] at hu
    obtain ⟨z, hz, rfl⟩ := List.mem_map.1 hu
    have := hin x (List.mem_of_getElem? hx) z hz
    omega
theorem Own.popLast {e : TypeId} {w : World} {B g n c : Nat} {xs : List Int} {a : Int} (h : Own kInt e w none B (.slice (some ⟨g, 0, none⟩) (n + 1) c) (xs ++ [a])) : Own kInt e w none B (.slice (some ⟨g, 0, none⟩) n c) xs := by
  have hn : n = xs.length := by obtain ⟨_, _, he, _⟩ := h.shape; injection he with _ e2 _; simp at e2; omega
  subst hn
  have h1 := h.ints
  refine Own.of_ints ?_ (fun _ _ => foot_none _ _)
  rcases h1.2 with ⟨h', _⟩ | ⟨g', cap, cur, h', hb, hg, hnc, hcm, hcs, ht⟩
  · simp at h'
  · simp only [Value.slice.injEq, Option.some.injEq, Addr.mk.injEq, and_true] at h'
    obtain ⟨rfl, -, rfl⟩ := h'
    refine ⟨by simp, .inr ⟨g, c, cur, rfl, hb, hg, by simp at hnc; omega, hcm, hcs, ?_⟩⟩
    have h2 := congrArg (List.take xs.length) ht
    rw [List.take_take, List.map_append, List.take_left' (by simp)] at h2
    rw [← h2]
    congr 1
    simp

def boolAt (w : World) (b i : Nat) : Bool := match w.cell? ⟨b, i, none⟩ with | some (.bool true) => false | _ => true
def tvAt (w : World) (b : Nat) : Nat := match w.cell? ⟨b, 0, none⟩ with | some v => lenOf v | none => 0
/-- how much there is to do yet -/
def swM (w : World) (B n : Nat) : Nat := tvAt w (B + 1 + 1) + (List.range n).countP (boolAt w B)
theorem unseen_range (l : List Bool) : (List.range l.length).countP (fun i => !l.getD i false) = unseen l := by
  have e : (List.range l.length).map (fun i => l.getD i false) = l := by
    apply List.ext_getElem (by simp)
    intro i h1 h2
    simp [List.getD_eq_getElem?_getD, List.getElem?_eq_getElem h2]
  conv => rhs; rw [unseen, ← e, List.countP_map]
  rfl
theorem SwE.measure {w : World} {B n : Nat} {s : List Bool × List Nat} {tv : Value} (h : SwE w B n s tv) : swM w B n = s.2.length + unseen s.1 := by
  have h1 : tvAt w (B + 1 + 1) = s.2.length := by
    rw [tvAt, h.boxes.2.1]
    obtain ⟨A, c, e, -, -⟩ := h.todo.shape
    rw [e]
    simp [lenOf]
  rw [swM, h1, ← unseen_range, h.len]
  congr 1
  apply List.countP_congr
  intro i hi
  have hi : i < s.1.length := by rw [h.len]; simpa using hi
  rw [boolAt, (h.at hi).1]
  cases s.1.getD i false <;> simp

theorem make_bools2 (n : Nat) (hn : n ≤ 1099511627776) (W : World) : (Instr.makeSlice 61 (.int .i64 (n : Int)) (.int .i64 (n : Int))).run Try.prog W = .ok (.slice (some ⟨W.heap.size, 0, none⟩) n n) (W.alloc (.cells (madeCells #[.bool false] n) 4)) := by
  obtain ⟨i0, hi, hz0, hz1, hz2⟩ := info_parts infoBool
  have hr := run_make (P := Try.prog) W 61 4 i0 (.bool false) Try.underlying61 hi hz0 .i64 .i64 n n (by omega) (Int.le_refl _) (by rw [hz2]; omega) (by omega)
  rw [hz1] at hr
  simp only [Int.toNat_natCast, Nat.mul_one] at hr
  exact hr
theorem SwE.init (w : World) (n : Nat) (hn : n ≤ 1099511627776) : SwE (((w.alloc (.cells (madeCells #[.bool false] n) 4)).alloc (.cells #[.slice (some ⟨w.heap.size, 0, none⟩) n n] 61)).alloc (.cells #[nilS] 28)) w.heap.size n (List.replicate n false, []) nilS := by
  have k0 := Keep.nil (w := w) (Nat.le_refl w.heap.size)
  have k1 := k0.push (r := rwBools 4 (.slice (some ⟨w.heap.size, 0, none⟩) n n) (List.replicate n false)) ((Below.refl _ _).alloc (Nat.le_refl _) (.cells (madeCells #[.bool false] n) 4)) (rwBools_at.2 (made_bools n hn w))
  obtain ⟨w1, hw1⟩ : ∃ w1, w1 = w.alloc (.cells (madeCells #[.bool false] n) 4) := ⟨_, rfl⟩
  have hs1 : w1.heap.size = w.heap.size + 1 := by rw [hw1]; simp
  rw [← hw1] at k1 ⊢
  have k2 := k1.push ((Below.refl _ _).alloc (Nat.le_refl _) (.cells #[.slice (some ⟨w.heap.size, 0, none⟩) n n] 61)) (rwBox_alloc w1 61 (.slice (some ⟨w.heap.size, 0, none⟩) n n))
  obtain ⟨w2, hw2⟩ : ∃ w2, w2 = w1.alloc (.cells #[.slice (some ⟨w.heap.size, 0, none⟩) n n] 61) := ⟨_, rfl⟩
  have hs2 : w2.heap.size = w.heap.size + 1 + 1 := by rw [hw2]; simp [hs1]
  rw [← hw2] at k2 ⊢
  have k3 := k2.push (r := rwInts 3 nilS []) (Below.refl _ _) (rwInts_at.2 (Own.nil _ _ _ _ _))
  have k4 := k3.push ((Below.refl _ _).alloc (Nat.le_refl _) (.cells #[nilS] 28)) (rwBox_alloc w2 28 nilS)
  rw [hs1, hs2] at k4
  exact k4
theorem SwE.pop {w : World} {B n g m c : Nat} {seen : List Bool} {todo : List Nat} {a : Nat} (h : SwE w B n (seen, todo ++ [a]) (.slice (some ⟨g, 0, none⟩) (m + 1) c)) : SwE (w.setCell ⟨B + 1 + 1, 0, none⟩ (.slice (some ⟨g, 0, none⟩) m c)) B n (seen, todo) (.slice (some ⟨g, 0, none⟩) m c) := by
  have ho := h.todo
  have e : nats (todo ++ [a]) = nats todo ++ [(a : Int)] := by simp
  dsimp only at ho
  rw [e] at ho
  have h1 : Keep w B ((SwT B n seen (.slice (some ⟨g, 0, none⟩) (m + 1) c) (todo ++ [a])).set 2 (rwInts 3 (.slice (some ⟨g, 0, none⟩) m c) (nats todo))) := Keep.setRow h (i := 2) rfl ho.popLast (World.grownBy.refl _ _) (.inl rfl)
  exact Keep.setBox h1 (i := 3) rfl _
theorem Own.boolsFree {e : TypeId} {w : World} {p : Option Nat} {B : Nat} {v : Value} {xs : List Bool} (h : Own kBool e w p B v xs) : Row kBool w (fun _ => False) v xs := (h.row (by decide) (Nat.le_refl _)).mono fun _ _ h => h.elim

set_option maxHeartbeats 2000000 in
set_option maxRecDepth 4096 in
theorem reached_net (w : World) (v : Value) (nodes : List Node) (ins outs : List Port) (hN : NetV w v nodes ins outs) (u : Value) (fr : List Nat) (hu : Row kInt w (fun _ => False) u (nats fr)) (hin : ∀ x ∈ nodes, ∀ u ∈ usesR x, 0 ≤ u ∧ u < nodes.length)
    (hf : ∀ a ∈ fr, a < nodes.length) (hnl : nodes.length ≤ 1073741824) (hfl : fr.length ≤ 1099511627776) :
    Calls Try.prog 77 #[v, u] w fun e w' => ∃ v' l, e = .returned v' ∧ Row kBool w' (fun _ => False) v' l ∧ IsRch nodes fr l ∧ Below w.heap.size w w' := by
  obtain ⟨An, cn, Ai, ci, Ao, co, rfl, hbox⟩ := hN.box
  let ob := netBox (.slice An nodes.length cn) (.slice Ai ins.length ci) (.slice Ao outs.length co)
  obtain ⟨w1, hw1⟩ : ∃ w1, w1 = w.alloc ob := ⟨_, rfl⟩
  have hs1 : w1.heap.size = w.heap.size + 1 := by rw [hw1]; simp
  rw [← hw1, ← hs1] at hbox
  have hmk := make_bools2 nodes.length (by omega)
  have hk := SwE.init w1 nodes.length (by omega)
  have hb3 : Below w1.heap.size w1 (((w1.alloc (.cells (madeCells #[.bool false] nodes.length) 4)).alloc (.cells #[.slice (some ⟨w1.heap.size, 0, none⟩) nodes.length nodes.length] 61)).alloc (.cells #[nilS] 28)) :=
    (((Below.refl _ _).alloc (Nat.le_refl _) _).alloc (by simp) _).alloc (by simp; omega) _
  obtain ⟨z0, -, -, -, -, -, -⟩ := hbox w1 (Below.refl _ _)
  have hb01 : Below w.heap.size w w1 := by rw [hw1]; exact (Below.refl _ _).alloc (Nat.le_refl _) _
  have hu1 := hu.later hb01
  have hx : Row kInt (((w1.alloc (.cells (madeCells #[.bool false] nodes.length) 4)).alloc (.cells #[.slice (some ⟨w1.heap.size, 0, none⟩) nodes.length nodes.length] 61)).alloc (.cells #[nilS] 28)) (swS w1.heap.size nilS) u (nats fr) :=
    hu1.keep ⟨hb3.size, fun i hi _ => hb3.block i hi⟩ fun i hi h => by
      rcases h with (h | h | h) | h
      · omega
      · omega
      · omega
      · simp [Value.ownBlock] at h
  have hun : unseen (List.replicate nodes.length false) ≤ 1099511627776 := by
    have := List.countP_le_length (p := fun b => !b) (l := List.replicate nodes.length false)
    rw [List.length_replicate] at this
    unfold unseen
    omega
  have hc := lay_net _ _ _ _ _ _ _ hk hx hf hfl (by simpa using hun)
  have hsi := SInv.init hf
  rw [hs1] at hc hk hb3 hbox
  obtain ⟨w2, hw2⟩ : ∃ w2, w2 = (((w1.alloc (.cells (madeCells #[.bool false] nodes.length) 4)).alloc (.cells #[.slice (some ⟨w.heap.size + 1, 0, none⟩) nodes.length nodes.length] 61)).alloc (.cells #[nilS] 28)) := ⟨_, rfl⟩
  rw [← hw2] at hc hk hb3
  have HSI := Lib.hid hsi
  have HC := Lib.hid hc
  have HB3 := Lib.hid hb3
  have HBOX := Lib.hid hbox
  have HINU := Lib.hid (inU_of hin)
  have HINN := Lib.hid hin
  have HW1 := Lib.hid hw1
  have HW2 := Lib.hid hw2
  have HB01 := Lib.hid hb01
  have HS1 := Lib.hid hs1
  clear hN hbox hk hb3 hb01 hu hu1 hin hw1 hf hs1 hx hun hc hsi hw2
  go_enter Try.func77, Try.ntmps77
  go_wp2_with fail
  rw [← HW1.out, ← HW2.out]
  refine HC.out.mono ?_
  rintro e w3 ⟨tv, rfl, hK3, hb3⟩
  have HK3 := Lib.hid hK3
  have HB13 := Lib.hid (HB3.out.trans (hb3.mono (Nat.le_refl _)))
  clear hK3 hb3 HC HW2 HB3 HW1
  clear z0
  go_wp2_with fail
  go_loopw [8] (fun av wr => Hid (∃ seen todo tr, SwE wr (w.heap.size + 1) nodes.length (seen, todo) tr ∧ SInv nodes fr seen todo) ∧ Hid (Below (w.heap.size + 1) w1 wr)) (fun _ wr => swM wr (w.heap.size + 1) nodes.length)
  case atStart => exact ⟨Lib.hid ⟨_, _, _, HK3.out, HSI.out⟩, HB13⟩
  case round =>
    clear HK3 HSI HB13
    obtain ⟨HE, HB⟩ := hrel
    obtain ⟨seen, todo, tr, hE, hsi⟩ := HE.out
    obtain ⟨z0, -, -, hrn, -, -, hbw⟩ := HBOX.out _ HB.out
    have HE2 := Lib.hid hE
    have HSI := Lib.hid hsi
    have HBW := Lib.hid hbw
    obtain ⟨⟨b0, b1⟩, b2, b3⟩ := hE.boxes
    have hm0 := hE.measure
    have ho := hE.todo
    have hln := hE.len
    clear hE hsi HE hbw
    rcases List.eq_nil_or_concat todo with rfl | ⟨todo, a, rfl⟩
    · obtain ⟨A4, c4, e4, -, -⟩ := ho.shape
      subst e4
      have HR := Lib.hid (Keep.bools HE2.out (i := 0) rfl).boolsFree
      clear ho hm0 hrn hln
      go_wp2
      go_ret
      exact ⟨_, rfl, _, HR.out, HSI.out.done, HBW.out⟩
    · rw [List.concat_eq_append] at *
      have hal : a < nodes.length := by
        have h1 := HSI.out.todoSeen a (by simp)
        rcases Nat.lt_or_ge a nodes.length with h | h
        · exact h
        · have h2 : seen.length ≤ a := by rw [HSI.out.len]; exact h
          rw [List.getD_eq_getElem?_getD, List.getElem?_eq_none h2] at h1; simp at h1
      obtain ⟨g, c, he, hcap, hcm⟩ := ho.form (by simp)
      have e1 : (nats (todo ++ [a])).length = todo.length + 1 := by simp
      dsimp only at he
      rw [e1] at he hcap
      subst he
      have ho' : Own kInt 3 wr none (w.heap.size + 1) (.slice (some ⟨g, 0, none⟩) (todo.length + 1) c) (nats (todo ++ [a])) := ho
      obtain ⟨x0, -⟩ := ho'.cellAt? (i := todo.length) (r := (a : Int)) (by simp)
      have HBS := Lib.hid (HB.out.setCell (p := ⟨w.heap.size + 1 + 1 + 1, 0, none⟩) (by simp) (.slice (some ⟨g, 0, none⟩) todo.length c))
      obtain ⟨z0', -, -, hrn', -, -, -⟩ := HBOX.out _ HBS.out
      obtain ⟨b, off, rfl, y0, y1, y2, y3⟩ := hrn'.node_at hal
      have hua : useI nodes a = (usesR nodes[a]).map Int.toNat := useI_at (List.getElem?_eq_getElem hal)
      have hiu := HINN.out _ (List.getElem_mem hal)
      have hul : (usesR nodes[a]).length ≤ 3 := by simp [usesR]; omega
      obtain ⟨x, hxx⟩ : ∃ x, nodes[a] = x := ⟨_, rfl⟩
      rw [hxx] at y0 y1 y2 y3 hua hiu hul
      clear hxx
      have HE3 := Lib.hid (HE2.out.pop)
      have HU := Lib.hid (uses_net _ _ HE3.out.there x)
      obtain ⟨xk, xa, xb, xc⟩ := x
      dsimp only at y0 y1 y2 y3
      have HUA := Lib.hid hua
      have HIU := Lib.hid hiu
      have HUL := Lib.hid hul
      have HM0 := Lib.hid hm0
      have hBl := HE2.out.lt
      have hml : todo.length + 1 ≤ 1099511627776 := by have := HSI.out.cnt; simp at this; omega
      obtain ⟨tl, htl⟩ : ∃ tl, todo.length = tl := ⟨_, rfl⟩
      have HTL := Lib.hid htl
      rw [htl] at x0 b2 HBS HE3 HU hml hcap y0 y1 y2 y3 z0'
      clear hua hiu hul hm0 ho ho' htl hrn hln e1 hrn'
      go_wp2_with fail
      refine HU.out.mono ?_
      rintro e w4 ⟨v4, rfl, hr4, hb4⟩
      have hcnt := HSI.out.cnt
      rw [List.length_append, List.length_singleton] at hcnt
      have HC := Lib.hid (lay_net w4 _ _ (seen, todo) _ v4 (useI nodes a) (HE3.out.below hb4) (by rw [HUA.out, nats_toNat (fun u hu => (HIU.out u hu).1)]; exact hr4) (HINU.out a) (by rw [HUA.out, List.length_map]; have := HUL.out; omega) (by dsimp only; omega))
      have hbss := HBS.out.size
      rw [HS1.out] at hbss
      have HB4 := Lib.hid (HBS.out.trans (hb4.mono hbss))
      have HNX := Lib.hid (SInv.next HINU.out HSI.out)
      have HS4 := Lib.hid (show w.heap.size + 1 ≤ w4.heap.size by have := hb4.size; omega)
      clear hbss hr4 hb4 HU b0 b1 b2 b3 x0 y0 y1 y2 y3 z0 z0' hcnt
      go_wp2_with fail
      refine HC.out.mono ?_
      rintro e w5 ⟨tv5, rfl, hK5, hb5⟩
      have HK5 := Lib.hid hK5
      have HB5 := Lib.hid (HB4.out.trans hb5)
      clear hK5 hb5 HC
      go_wp2
      refine ⟨⟨Lib.hid ⟨_, _, _, HK5.out, HNX.out.1⟩, HB5⟩, ?_⟩
      have h1 := HK5.out.measure
      have h2 := HNX.out.2
      have h3 := HM0.out
      omega
end Go.Proofs.Ytbfjacgfifecpaa

/-! ## sweep.Count, sweep.Cone. -/
namespace Go.Proofs.Ytbfjacgfifecpaa
open Go.RowKit

/-- append of numbers that are read to a row of the call's own -/
theorem appIs {W : World} {ops : Array Oper} {rest : List Oper} {o : Oper} {a : Act} {Q : Exit → Act → World → Prop} (hgd : o.guard = none)
    (s x : Operand) (ho : o.op = .call { callee := .builtin .append, args := #[s, x], argTypes := #[28, 28] }) {B : Nat} {v : Value} {xs : List Int} (hO : Own kInt 3 W none B v xs) (hB : B ≤ W.heap.size) (hs : a.eval s = v)
    (u : Value) (ys : List Int) (hu : Row kInt W (fun _ => False) u ys) (hn : 0 < ys.length) (hx : a.eval x = u) (hl : (xs.length + ys.length) * 8 ≤ 140737488355328)
    (hK : ∀ v' w', Own kInt 3 w' none B v' (xs ++ ys) → W.grownBy w' v.ownBlock → (v'.ownBlock = v.ownBlock ∨ ∃ b, v'.ownBlock = some b ∧ W.heap.size ≤ b) → wpList Try.prog ops Q rest (a.put o.dst v') w') :
    wpList Try.prog ops Q (o :: rest) a W := by
  obtain ⟨A, c, css, rfl, h1, h2, h0, h3, h4⟩ := hu
  obtain ⟨b, off, rfl, hb, -, hc⟩ := h4 hn
  refine app kInt 3 28 (.int .i64 0) 8 hgd s x ho Try.underlying28 infoIntK rfl (by decide) (by decide) none B hO (FootIn.none _) hB hs ⟨b, off, none⟩ ys.length c ys css hx rfl ⟨h3.1, fun i x cs hx hc => h3.2 i x cs hx hc⟩ (fun j u hu => ?_) hl
    fun v' w' q1 _ _ _ q5 q6 => hK v' w' q1 q5 (q6.imp id fun h => ⟨_, h, Nat.le_refl _⟩)
  rw [Addr.add_lit]
  exact hc j u hu

def frC (ins outs : List Port) : List Nat := ((outs ++ ins).flatMap (·.bits)).map Int.toNat
def CntOut (nodes : List Node) (ins outs : List Port) (e : Int) (l : List Bool) : Prop := (∃ k, LevOut nodes ins outs e k) ∧ (e = 0 → IsRch nodes (frC ins outs) l) ∧ (e ≠ 0 → l = [])
theorem CntOut.unique {nodes : List Node} {ins outs : List Port} {e e' : Int} {l l' : List Bool} (h : CntOut nodes ins outs e l) (h' : CntOut nodes ins outs e' l') : e = e' ∧ l = l' := by
  obtain ⟨⟨k, h1⟩, h2, h3⟩ := h
  obtain ⟨⟨k', h1'⟩, h2', h3'⟩ := h'
  obtain ⟨rfl, -⟩ := h1.unique h1'
  refine ⟨rfl, ?_⟩
  by_cases h0 : e = 0
  · exact (h2 h0).unique (h2' h0)
  · rw [h3 h0, h3' h0]
theorem LevOut.formed {nodes : List Node} {ins outs : List Port} {e : Int} {l : List Int} (h : LevOut nodes ins outs e l) (h0 : e = 0) : formedB nodes ins outs = true := by
  obtain ⟨b, h1, -⟩ := h
  exact (errP_zero (h1.symm.trans h0)).2.1
def idxs (b : List Bool) : List Int := nats ((List.range b.length).filter fun i => b.getD i false)
def ConOut (nodes : List Node) (ins outs : List Port) (a e : Int) (l : List Int) : Prop :=
  ∃ e0, (∃ k, LevOut nodes ins outs e0 k) ∧ (e0 ≠ 0 → e = e0 ∧ l = []) ∧ (e0 = 0 → ¬ (0 ≤ a ∧ a < nodes.length) → e = 3 ∧ l = []) ∧ (e0 = 0 → 0 ≤ a ∧ a < nodes.length → e = 0 ∧ ∃ b, IsRch nodes [a.toNat] b ∧ l = idxs b)
theorem ConOut.unique {nodes : List Node} {ins outs : List Port} {a e e' : Int} {l l' : List Int} (h : ConOut nodes ins outs a e l) (h' : ConOut nodes ins outs a e' l') : e = e' ∧ l = l' := by
  obtain ⟨e0, ⟨k, h1⟩, h2, h3, h4⟩ := h
  obtain ⟨e0', ⟨k', h1'⟩, h2', h3', h4'⟩ := h'
  obtain ⟨rfl, -⟩ := h1.unique h1'
  by_cases h0 : e0 = 0
  · by_cases ha : 0 ≤ a ∧ a < nodes.length
    · obtain ⟨r1, b, r2, r3⟩ := h4 h0 ha
      obtain ⟨r1', b', r2', r3'⟩ := h4' h0 ha
      rw [r1, r1', r3, r3', r2.unique r2']
      exact ⟨rfl, rfl⟩
    · obtain ⟨r1, r2⟩ := h3 h0 ha
      obtain ⟨r1', r2'⟩ := h3' h0 ha
      rw [r1, r1', r2, r2']
      exact ⟨rfl, rfl⟩
  · obtain ⟨r1, r2⟩ := h2 h0
    obtain ⟨r1', r2'⟩ := h2' h0
    rw [r1, r1', r2, r2']
    exact ⟨rfl, rfl⟩
theorem flatMap_take {ps : List Port} {j : Nat} (hj : j < ps.length) : (ps.take (j + 1)).flatMap (·.bits) = (ps.take j).flatMap (·.bits) ++ ps[j].bits := flat_take hj
theorem flat_le {ps : List Port} {j : Nat} (hj : j < ps.length) : ((ps.take j).flatMap (·.bits)).length + ps[j].bits.length ≤ (ps.flatMap (·.bits)).length := by
  have h := flat_len (k := ps[j].bits.length) hj
  rw [List.take_length, List.length_append] at h
  exact h

theorem nilRowBool (w : World) (S : Nat → Prop) : Row kBool w S (.slice none 0 0) [] := ⟨none, 0, [], rfl, Nat.le_refl _, by simp [maxLen], fun _ => rfl, Pairs.nil _ _ _, fun h => by simp at h⟩
set_option maxHeartbeats 2000000 in
set_option maxRecDepth 4096 in
theorem count_net (w : World) (v : Value) (nodes : List Node) (ins outs : List Port) (hN : NetV w v nodes ins outs) (hF : Fits nodes ins outs) (hS : ((outs ++ ins).flatMap (·.bits)).length ≤ 1099511627776) :
    Calls Try.prog 40 #[v] w fun e w' => ∃ v' l x, e = .returned (.tuple #[v', .int .i64 x]) ∧ Row kBool w' (fun _ => False) v' l ∧ CntOut nodes ins outs x l ∧ Below w.heap.size w w' := by
  obtain ⟨An, cn, Ai, ci, Ao, co, rfl, hbox⟩ := hN.box
  let ob := netBox (.slice An nodes.length cn) (.slice Ai ins.length ci) (.slice Ao outs.length co)
  obtain ⟨w1, hw1⟩ : ∃ w1, w1 = w.alloc ob := ⟨_, rfl⟩
  have hs1 : w1.heap.size = w.heap.size + 1 := by rw [hw1]; simp
  have hb01 : Below w.heap.size w w1 := by rw [hw1]; exact (Below.refl _ _).alloc (Nat.le_refl _) _
  rw [← hw1, ← hs1] at hbox
  obtain ⟨z0, z1, z2, -, -, -, -⟩ := hbox w1 (Below.refl _ _)
  have HC := Lib.hid (check_net w1 _ nodes ins outs (hN.later hb01) hF)
  have HBOX := Lib.hid hbox
  have HS1 := Lib.hid hs1
  have HW1 := Lib.hid hw1
  have HF := Lib.hid hF
  have HS := Lib.hid (show (outs.flatMap (·.bits)).length + (ins.flatMap (·.bits)).length ≤ 1099511627776 by rw [List.flatMap_append, List.length_append] at hS; exact hS)
  have HN := Lib.hid (fun W (hW : Below w.heap.size w W) => hN.later hW)
  have hil := hF.il
  have hol := hF.ol
  clear hN hbox hs1 hb01 hw1 hF hS
  go_enter Try.func40, Try.ntmps40
  go_wp2_with fail
  rw [← HW1.out]
  go_wp2_with fail
  refine HC.out.mono ?_
  rintro e w2 ⟨k, x, rfl, hl, hb2⟩
  have HL := Lib.hid hl
  have HB2 := Lib.hid hb2
  obtain ⟨y0, y1, y2, -, -, -, hbw⟩ := HBOX.out _ hb2
  have HBW2 := Lib.hid hbw
  clear hl hb2 HC z0 z1 z2 hbw
  by_cases hx : x = 0
  · subst hx
    have HFB := Lib.hid (formed_in (HL.out.formed rfl))
    have HO0 := Lib.hid (Own.nil kInt 3 w2 none w1.heap.size)
    clear y0 y1
    go_wp2_with fail
    go_loopw [5, 18] (fun fv iv wr => ∃ i : Nat, iv = .int .i64 i ∧ i ≤ outs.length ∧ Hid (Own kInt 3 wr none w1.heap.size fv ((outs.take i).flatMap (·.bits))) ∧ Hid (Below w1.heap.size w1 wr)) (fun fv iv _ => outs.length - (intOf iv).toNat)
    case atStart => exact ⟨0, rfl, Nat.zero_le _, HO0, HB2⟩
    case round =>
      obtain ⟨i, rfl, hi, HO, HB⟩ := hrel
      obtain ⟨z0, z1, z2, -, -, hro, -⟩ := HBOX.out _ HB.out
      by_cases hlt : i < outs.length
      · obtain ⟨b, off, A3, d3, rfl, y0, y1, hxb⟩ := hro.port_at hlt
        have HFT := Lib.hid (flatMap_take hlt)
        have hq := HFB.out.2 _ (List.mem_append_right _ (List.getElem_mem hlt))
        have hfl := flat_le hlt
        obtain ⟨x, hxx⟩ : ∃ x, outs[i] = x := ⟨_, rfl⟩
        rw [hxx] at y0 y1 hxb HFT hq hfl
        clear hxx
        obtain ⟨s, bs⟩ := x
        dsimp only at y0 y1 hxb HFT hq hfl
        have hbp : Below wr.heap.size wr (wr.alloc (.cells #[.string s, .slice A3 bs.length d3] 53)) := (Below.refl _ _).alloc (Nat.le_refl _) _
        have HOX := Lib.hid (HO.out.kept (Kept.of_below_all hbp (FootIn.none _) (Nat.le_refl _)))
        have HBX := Lib.hid (HB.out.trans (hbp.mono HB.out.size))
        have HXB := Lib.hid (hxb.later hbp)
        have hlen : 0 < bs.length := List.length_pos_iff.2 hq.1
        have hle : (((outs.take i).flatMap (·.bits)).length + bs.length) * 8 ≤ 140737488355328 := by have := HS.out; omega
        have hbs := HBX.out.size
        clear hro hxb hbp hq hfl
        go_wp2_with (at_builtin; go_loud (refine appIs rfl (.tmp 22) (.tmp 24) rfl HOX.out hbs rfl _ bs HXB.out hlen rfl hle ?_; intro v' w5 q1 q5 q6))
        have hbn := HBX.out.grown q5 hbs (fun g hg => (HOX.out.base hg).1)
        refine ⟨⟨i + 1, by go_num, by omega, by rw [HFT.out]; exact Lib.hid q1, Lib.hid hbn⟩, ?_⟩
        simp [intOf]; omega
      · obtain rfl : i = outs.length := by omega
        rw [List.take_length] at HO
        clear hro z2
        go_wp2_with fail
        go_loopw [5, 30] (fun fv iv wr => ∃ i : Nat, iv = .int .i64 i ∧ i ≤ ins.length ∧ Hid (Own kInt 3 wr none w1.heap.size fv ((outs.flatMap (·.bits)) ++ (ins.take i).flatMap (·.bits))) ∧ Hid (Below w1.heap.size w1 wr)) (fun fv iv _ => ins.length - (intOf iv).toNat)
        case atStart => exact ⟨0, rfl, Nat.zero_le _, by simpa using HO, HB⟩
        case round =>
          clear HO HB z0 z1 hlt hi
          obtain ⟨i, rfl, hi, HO, HB⟩ := hrel
          obtain ⟨z0, z1, z2, -, hri, -, hbw⟩ := HBOX.out _ HB.out
          have HBW := Lib.hid hbw
          clear hbw
          by_cases hlt : i < ins.length
          · obtain ⟨b, off, A3, d3, rfl, y0, y1, hxb⟩ := hri.port_at hlt
            have HFT := Lib.hid (flatMap_take hlt)
            have hq := HFB.out.2 _ (List.mem_append_left _ (List.getElem_mem hlt))
            have hfl := flat_le hlt
            obtain ⟨x, hxx⟩ : ∃ x, ins[i] = x := ⟨_, rfl⟩
            rw [hxx] at y0 y1 hxb HFT hq hfl
            clear hxx
            obtain ⟨s, bs⟩ := x
            dsimp only at y0 y1 hxb HFT hq hfl
            have hbp : Below wr.heap.size wr (wr.alloc (.cells #[.string s, .slice A3 bs.length d3] 53)) := (Below.refl _ _).alloc (Nat.le_refl _) _
            have HOX := Lib.hid (HO.out.kept (Kept.of_below_all hbp (FootIn.none _) (Nat.le_refl _)))
            have HBX := Lib.hid (HB.out.trans (hbp.mono HB.out.size))
            have HXB := Lib.hid (hxb.later hbp)
            have hlen : 0 < bs.length := List.length_pos_iff.2 hq.1
            have hle : ((outs.flatMap (·.bits) ++ (ins.take i).flatMap (·.bits)).length + bs.length) * 8 ≤ 140737488355328 := by have := HS.out; rw [List.length_append]; omega
            have hbs := HBX.out.size
            clear hri hxb hbp hq hfl
            go_wp2_with (at_builtin; go_loud (refine appIs rfl (.tmp 34) (.tmp 36) rfl HOX.out hbs rfl _ bs HXB.out hlen rfl hle ?_; intro v' w5 q1 q5 q6))
            have hbn := HBX.out.grown q5 hbs (fun g hg => (HOX.out.base hg).1)
            refine ⟨⟨i + 1, by go_num, by omega, by rw [HFT.out, ← List.append_assoc]; exact Lib.hid q1, Lib.hid hbn⟩, ?_⟩
            simp [intOf]; omega
          · obtain rfl : i = ins.length := by omega
            rw [List.take_length] at HO
            have hnn : ∀ b ∈ outs.flatMap (·.bits) ++ ins.flatMap (·.bits), 0 ≤ b ∧ b < nodes.length := fun b hb => by
              rw [← List.flatMap_append] at hb
              obtain ⟨q, hq, hb⟩ := List.mem_flatMap.1 hb
              exact (HFB.out.2 q (by simp only [List.mem_append] at hq ⊢; exact hq.symm)).2 b hb
            have hrow := HO.out.rowS (fun _ => False) (fun _ _ h => h)
            have hfr : nats (frC ins outs) = outs.flatMap (·.bits) ++ ins.flatMap (·.bits) := by
              unfold frC
              rw [List.flatMap_append]
              exact nats_toNat fun b hb => (hnn b hb).1
            have hfl : (frC ins outs).length ≤ 1099511627776 := by
              unfold frC
              rw [List.length_map, List.flatMap_append, List.length_append]
              exact HS.out
            have hf : ∀ a ∈ frC ins outs, a < nodes.length := fun a ha => by
              unfold frC at ha
              obtain ⟨z, hz, rfl⟩ := List.mem_map.1 ha
              have := hnn z (by rwa [List.flatMap_append] at hz)
              omega
            have HC := Lib.hid (reached_net wr _ nodes ins outs (HN.out wr HBW.out) _ (frC ins outs) (by rw [hfr]; exact hrow) HFB.out.1 hf (by have := (errP_zero (HL.out.choose_spec.1.symm)).1; omega) hfl)
            clear hnn hrow hfr hfl hf hri hlt hi
            go_wp2_with fail
            refine HC.out.mono ?_
            rintro e w6 ⟨v6, l6, rfl, hr6, hl6, hb6⟩
            have HR6 := Lib.hid hr6
            have HL6 := Lib.hid hl6
            have HB6 := Lib.hid (HBW.out.trans (hb6.mono HBW.out.size))
            clear hr6 hl6 hb6 HC
            go_wp2
            go_ret2
            exact ⟨_, l6, 0, rfl, HR6.out, ⟨⟨_, HL.out⟩, fun _ => HL6.out, fun h => absurd rfl h⟩, HB6.out⟩
  · go_wp2
    go_ret2
    exact ⟨_, [], x, rfl, nilRowBool _ _, ⟨⟨_, HL.out⟩, fun h => absurd h hx, fun _ => rfl⟩, HBW2.out⟩
end Go.Proofs.Ytbfjacgfifecpaa

/-! ## sweep.Cone. -/
namespace Go.Proofs.Ytbfjacgfifecpaa
open Go.RowKit

def idxT (b : List Bool) (i : Nat) : List Nat := (List.range i).filter fun i => b.getD i false
theorem idxT_succ (b : List Bool) (i : Nat) : idxT b (i + 1) = idxT b i ++ if b.getD i false = true then [i] else [] := by
  unfold idxT
  rw [List.range_succ, List.filter_append, List.filter_cons, List.filter_nil]
theorem idxT_len (b : List Bool) (i : Nat) : (idxT b i).length ≤ i := by
  have := List.length_filter_le (fun i => b.getD i false) (List.range i)
  rw [List.length_range] at this
  exact this

set_option maxHeartbeats 2000000 in
set_option maxRecDepth 4096 in
theorem cone_net (w : World) (v : Value) (nodes : List Node) (ins outs : List Port) (hN : NetV w v nodes ins outs) (hF : Fits nodes ins outs) (a : Int) (ha : -9223372036854775808 ≤ a ∧ a < 9223372036854775808) :
    Calls Try.prog 42 #[v, .int .i64 a] w fun e w' => ∃ v' l x, e = .returned (.tuple #[v', .int .i64 x]) ∧ Row kInt w' (fun _ => False) v' l ∧ ConOut nodes ins outs a x l ∧ Below w.heap.size w w' := by
  obtain ⟨An, cn, Ai, ci, Ao, co, rfl, hbox⟩ := hN.box
  let ob := netBox (.slice An nodes.length cn) (.slice Ai ins.length ci) (.slice Ao outs.length co)
  obtain ⟨w1, hw1⟩ : ∃ w1, w1 = w.alloc ob := ⟨_, rfl⟩
  have hs1 : w1.heap.size = w.heap.size + 1 := by rw [hw1]; simp
  have hb01 : Below w.heap.size w w1 := by rw [hw1]; exact (Below.refl _ _).alloc (Nat.le_refl _) _
  rw [← hw1, ← hs1] at hbox
  obtain ⟨z0, z1, z2, -, -, -, -⟩ := hbox w1 (Below.refl _ _)
  have HC := Lib.hid (check_net w1 _ nodes ins outs (hN.later hb01) hF)
  have HBOX := Lib.hid hbox
  have HS1 := Lib.hid hs1
  have HW1 := Lib.hid hw1
  have HN := Lib.hid (fun W (hW : Below w.heap.size w W) => hN.later hW)
  have hnl := hF.nl
  clear hN hbox hs1 hb01 hw1 hF
  go_enter Try.func42, Try.ntmps42
  go_wp2_with fail
  rw [← HW1.out]
  go_wp2_with fail
  refine HC.out.mono ?_
  rintro e w2 ⟨k, x, rfl, hl, hb2⟩
  have HL := Lib.hid hl
  have HB2 := Lib.hid hb2
  obtain ⟨y0, y1, y2, -, -, -, hbw⟩ := HBOX.out _ hb2
  have HBW2 := Lib.hid hbw
  clear hl hb2 HC z0 z1 z2 hbw
  by_cases hx : x = 0
  · subst hx
    have HFB := Lib.hid (formed_in (HL.out.formed rfl))
    have hn62 : nodes.length ≤ 1073741824 := by have := (errP_zero (HL.out.choose_spec.1.symm)).1; omega
    have HO0 := Lib.hid (fun W => Own.nil kInt 3 W none w1.heap.size)
    by_cases hneg : a < 0
    · have hd1 : decide (a < 0) = true := decide_eq_true hneg
      have HNG := Lib.hid hneg
      clear hneg
      go_wp2
      go_ret2
      exact ⟨_, [], 3, rfl, nilRowInt _ _, ⟨0, ⟨_, HL.out⟩, fun h => absurd rfl h, fun _ _ => ⟨rfl, rfl⟩, fun _ h => by have := HNG.out; omega⟩, HBW2.out⟩
    · obtain ⟨k, rfl⟩ := Int.eq_ofNat_of_zero_le (Int.not_lt.1 hneg)
      have hd1 : decide ((k : Int) < 0) = false := decide_eq_false (by omega)
      by_cases hk : k < nodes.length
      · have hd2 : decide ((nodes.length : Int) ≤ (k : Int)) = false := decide_eq_false (by omega)
        have hlit : Row kInt (w2.alloc (.cells #[.int .i64 (k : Int)] 3)) (fun _ => False) (.slice (some ⟨w2.heap.size, 0, none⟩) 1 1) (nats [k]) := (lit_ints w2 [(k : Int)] (by simp)).rowS _ (fun _ _ h => h)
        have hb3 : Below w.heap.size w (w2.alloc (.cells #[.int .i64 (k : Int)] 3)) := HBW2.out.alloc HBW2.out.size _
        have HB3 := Lib.hid hb3
        have HC := Lib.hid (reached_net _ _ nodes ins outs (HN.out _ hb3) _ [k] hlit HFB.out.1 (by simpa using hk) hn62 (by simp))
        clear hneg hlit hb3
        go_wp2_with fail
        refine HC.out.mono ?_
        rintro e w4 ⟨v4, b4, rfl, hr4, hl4, hb4⟩
        have HR4 := Lib.hid hr4
        have HL4 := Lib.hid hl4
        have HB4 := Lib.hid (HB3.out.trans (hb4.mono HB3.out.size))
        have HBL := Lib.hid hl4.1
        obtain ⟨A4, c4, rfl, -, -⟩ := hr4.shape
        have hbl : b4.length ≤ 1073741824 := by rw [hl4.1]; exact hn62
        have HO4 := Lib.hid (Own.nil kInt 3 w4 none w4.heap.size)
        clear hr4 hl4 hb4 HC y0 y1 y2
        go_wp2_with fail
        go_loopw [7, 29] (fun fv iv wr => ∃ i : Nat, iv = .int .i64 i ∧ i ≤ b4.length ∧ Hid (Own kInt 3 wr none w4.heap.size fv (nats (idxT b4 i))) ∧ Hid (Below w4.heap.size w4 wr)) (fun fv iv _ => b4.length - (intOf iv).toNat)
        case atStart => exact ⟨0, rfl, Nat.zero_le _, HO4, Lib.hid (Below.refl _ _)⟩
        case round =>
          clear HO4
          obtain ⟨i, rfl, hi, HO, HBB⟩ := hrel
          have HB := Lib.hid (HB4.out.trans (HBB.out.mono HB4.out.size))
          by_cases hlt : i < b4.length
          · obtain ⟨b, off, rfl, x0⟩ := (HR4.out.later HBB.out).bool_at hlt
            have HT := Lib.hid (idxT_succ b4 i)
            have hget : b4.getD i false = b4[i] := by rw [List.getD_eq_getElem?_getD, List.getElem?_eq_getElem hlt]; rfl
            rw [← hget] at x0
            have hle := idxT_len b4 i
            clear hget
            cases hg : b4.getD i false with
            | true =>
              rw [hg] at x0
              have HN2 : Hid (nats (idxT b4 (i + 1)) = nats (idxT b4 i) ++ [(i : Int)]) := Lib.hid (by rw [HT.out, hg]; simp)
              have hlen : ((nats (idxT b4 i)).length + 1) * 8 ≤ 140737488355328 := by rw [List.length_map]; omega
              have hbs := HBB.out.size
              clear hg
              go_wp2_with (at_builtin; go_loud (refine appI rfl (.tmp 35) (.tmp 37) rfl HO.out hbs rfl (i : Int) _ rfl rfl hlen ?_; intro v' w5 q1 q5 q6))
              refine ⟨⟨i + 1, by go_num, by omega, by rw [HN2.out]; exact Lib.hid q1, Lib.hid (HBB.out.grown q5 hbs (fun g hg => (HO.out.base hg).1))⟩, ?_⟩
              simp [intOf]; omega
            | false =>
              rw [hg] at x0
              have HN2 : Hid (nats (idxT b4 (i + 1)) = nats (idxT b4 i)) := Lib.hid (by rw [HT.out, hg]; simp)
              clear hg
              go_wp2_with fail
              refine ⟨⟨i + 1, by go_num, by omega, by rw [HN2.out]; exact HO, HBB⟩, ?_⟩
              simp [intOf]; omega
          · obtain rfl : i = b4.length := by omega
            have HR := Lib.hid (HO.out.rowS (fun _ => False) (fun _ _ h => h))
            go_wp2
            go_ret2
            refine ⟨_, _, 0, rfl, HR.out, ⟨0, ⟨_, HL.out⟩, fun h => absurd rfl h, fun _ h => absurd ⟨Int.natCast_nonneg _, by omega⟩ h, fun _ _ => ⟨rfl, b4, HL4.out, rfl⟩⟩, HB.out⟩
      · have hd2 : decide ((nodes.length : Int) ≤ (k : Int)) = true := decide_eq_true (by omega)
        clear hneg
        go_wp2
        go_ret2
        exact ⟨_, [], 3, rfl, nilRowInt _ _, ⟨0, ⟨_, HL.out⟩, fun h => absurd rfl h, fun _ _ => ⟨rfl, rfl⟩, fun _ h => by omega⟩, HBW2.out⟩
  · go_wp2
    go_ret2
    exact ⟨_, [], x, rfl, nilRowInt _ _, ⟨x, ⟨_, HL.out⟩, fun _ => ⟨rfl, rfl⟩, fun h => absurd h hx, fun h => absurd h hx⟩, HBW2.out⟩
end Go.Proofs.Ytbfjacgfifecpaa
