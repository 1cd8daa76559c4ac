/- The first half of net.levels: who uses whom. -/
import Derived.Test.YtbfjacgfifecpaaNj
namespace Go.Proofs.Ytbfjacgfifecpaa
open Go.RowKit

structure P1 (nodes : List Node) (i k : Nat) (left : List Int) (ready : List Nat) (us : List (List Nat)) : Prop where
  lleft : left.length = nodes.length
  lus : us.length = nodes.length
  kle : k ≤ (useAt nodes i).length
  cnt : ∀ a m, a < nodes.length → (us.getD a []).count m = if m < i then (useAt nodes m).count a else if m = i then ((useAt nodes i).take k).count a else 0
  left : ∀ m, m < nodes.length → left.getD m 0 = if m < i then ((useAt nodes m).length : Int) else if m = i then (k : Int) else 0
  rdy : ready = (List.range i).filter fun m => (useAt nodes m).isEmpty

theorem P1.first (nodes : List Node) : P1 nodes 0 0 (List.replicate nodes.length 0) [] (List.replicate nodes.length []) where
  lleft := by simp
  lus := by simp
  kle := Nat.zero_le _
  cnt a m ha := by
    rw [List.getD_eq_getElem?_getD, List.getElem?_replicate, if_pos ha, if_neg (by omega)]
    simp
  left m hm := by
    rw [List.getD_eq_getElem?_getD, List.getElem?_replicate, if_pos hm, if_neg (by omega)]
    simp
  rdy := rfl

theorem getD_setL {l : List (List Nat)} {i j : Nat} {v : List Nat} (hi : i < l.length) : (l.set i v).getD j [] = if j = i then v else l.getD j [] := by
  rw [List.getD_eq_getElem?_getD, List.getD_eq_getElem?_getD, List.getElem?_set]
  by_cases h : j = i
  · subst h; rw [if_pos rfl, if_pos hi, if_pos rfl]; rfl
  · rw [if_neg (fun e => h e.symm), if_neg h]

theorem P1.use {nodes : List Node} {i k a : Nat} {left : List Int} {ready : List Nat} {us : List (List Nat)} (h : P1 nodes i k left ready us) (hi : i < nodes.length) (hk : (useAt nodes i)[k]? = some a) (ha : a < nodes.length) :
    P1 nodes i (k + 1) (left.set i (left.getD i 0 + 1)) ready (us.set a (us.getD a [] ++ [i])) := by
  have hkl := (List.getElem?_eq_some_iff.1 hk).1
  have hka := (List.getElem?_eq_some_iff.1 hk).2
  refine ⟨by rw [List.length_set, h.lleft], by rw [List.length_set, h.lus], hkl, fun c m hc => ?_, fun m hm => ?_, h.rdy⟩
  · rw [getD_setL (by rw [h.lus]; exact ha), List.take_succ_eq_append_getElem hkl, hka, List.count_append, List.count_cons, List.count_nil]
    have h1 := h.cnt c m hc
    by_cases e : c = a
    · subst e
      rw [if_pos rfl, List.count_append, List.count_cons, List.count_nil, h1]
      by_cases e1 : m < i
      · rw [if_pos e1, if_pos e1]
        have : (i == m) = false := by simp; omega
        simp [this]
      · rw [if_neg e1, if_neg e1]
        by_cases e2 : m = i
        · subst e2; simp
        · rw [if_neg e2, if_neg e2]
          have : (i == m) = false := by simp; omega
          simp [this]
    · rw [if_neg e, h1]
      have : (a == c) = false := by simp; omega
      simp [this]
  · rw [getD_set (by rw [h.lleft]; exact hi), h.left m hm, h.left i hi]
    by_cases e : m = i
    · subst e; rw [if_pos rfl, if_neg (by omega), if_pos rfl, if_neg (by omega), if_pos rfl]; omega
    · rw [if_neg e]
      by_cases e1 : m < i
      · rw [if_pos e1, if_pos e1]
      · rw [if_neg e1, if_neg e1, if_neg e, if_neg e]

theorem P1.next {nodes : List Node} {i : Nat} {left : List Int} {ready : List Nat} {us : List (List Nat)} (h : P1 nodes i (useAt nodes i).length left ready us) (hi : i < nodes.length) :
    P1 nodes (i + 1) 0 left (if left.getD i 0 = 0 then ready ++ [i] else ready) us := by
  refine ⟨h.lleft, h.lus, Nat.zero_le _, fun a m ha => ?_, fun m hm => ?_, ?_⟩
  · rw [h.cnt a m ha]
    by_cases e1 : m < i
    · rw [if_pos e1, if_pos (by omega)]
    · rw [if_neg e1]
      by_cases e2 : m = i
      · subst e2; rw [if_pos rfl, if_pos (by omega), List.take_length]
      · rw [if_neg e2, if_neg (by omega)]
        simp
  · rw [h.left m hm]
    by_cases e1 : m < i
    · rw [if_pos e1, if_pos (by omega)]
    · rw [if_neg e1]
      by_cases e2 : m = i
      · subst e2; rw [if_pos rfl, if_pos (by omega)]
      · rw [if_neg e2, if_neg (by omega)]
        simp
  · have e : left.getD i 0 = ((useAt nodes i).length : Int) := by rw [h.left i hi, if_neg (by omega), if_pos rfl]
    rw [List.range_succ, List.filter_append, e, ← h.rdy]
    cases hu : useAt nodes i with
    | nil => simp [hu]
    | cons x l =>
      rw [if_neg (by simp; omega)]
      simp [hu]

theorem useAt_in {nodes : List Node} (hN : InN nodes) {i a : Nat} (ha : a ∈ useAt nodes i) : a < nodes.length := by
  unfold useAt at ha
  split at ha
  · rename_i x hx
    exact hN x (List.mem_of_getElem? hx) a ha
  · simp at ha
theorem P1.users {nodes : List Node} (hN : InN nodes) {left : List Int} {ready : List Nat} {us : List (List Nat)} (h : P1 nodes nodes.length 0 left ready us) (a i : Nat) (hi : i < nodes.length) : (us.getD a []).count i = (useAt nodes i).count a := by
  by_cases ha : a < nodes.length
  · rw [h.cnt a i ha, if_pos hi]
  · rw [List.getD_eq_getElem?_getD, List.getElem?_eq_none (by rw [h.lus]; omega)]
    symm
    rw [Option.getD_none, List.count_nil, List.count_eq_zero]
    exact fun hm => ha (useAt_in hN hm)
theorem P1.userIn {nodes : List Node} {left : List Int} {ready : List Nat} {us : List (List Nat)} (h : P1 nodes nodes.length 0 left ready us) {a m : Nat} (hm : m ∈ us.getD a []) : m < nodes.length := by
  by_cases ha : a < nodes.length
  · rcases Nat.lt_or_ge m nodes.length with h1 | h1
    · exact h1
    · have h2 := h.cnt a m ha
      have h3 := List.count_pos_iff.2 hm
      have h4 : (us.getD a []).count m = 0 := by rw [h2, if_neg (by omega)]; split <;> simp
      omega
  · rw [List.getD_eq_getElem?_getD, List.getElem?_eq_none (by rw [h.lus]; omega)] at hm
    simp at hm
theorem P1.done {nodes : List Node} (hN : InN nodes) {left : List Int} {ready : List Nat} {us : List (List Nat)} (h : P1 nodes nodes.length 0 left ready us) (cur : Nat) :
    KInv nodes (fun a => us.getD a []) 0 cur (us.getD cur []) ⟨List.replicate nodes.length 0, left, ready⟩ (useAt nodes) := by
  refine KInv.init (users := fun a => us.getD a []) (fun a i hi => h.users hN a i hi) cur (by simp) (fun i => ?_) h.lleft (fun i hi => by rw [h.left i hi, if_pos hi]) ?_ (fun i => ?_)
  · rw [List.getD_eq_getElem?_getD, List.getElem?_replicate]
    split <;> rfl
  · show ready.Nodup
    rw [h.rdy]
    exact List.nodup_range.filter _
  · show i ∈ ready ↔ _
    rw [h.rdy, List.mem_filter, List.mem_range, List.isEmpty_iff]
end Go.Proofs.Ytbfjacgfifecpaa
