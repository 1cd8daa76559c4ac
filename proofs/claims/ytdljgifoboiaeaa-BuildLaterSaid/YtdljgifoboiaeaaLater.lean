/- Registers in a row: what goes out, cycle by cycle. Plain. -/
import Derived.Test.YtdljgifoboiaeaaSem
namespace Go.Proofs.Ytdljgifoboiaeaa

theorem mapS_lay {α : Type} (g : α → Node) (X : List α) (s : BSt) : mapS (fun x => lay (g x)) X s = ((List.range X.length).map (fun i : Nat => ((s.nodes.length + i : Nat) : Int)), { s with nodes := s.nodes ++ X.map g }) := by
  induction X generalizing s with
  | nil => simp [mapS]
  | cons x X ih =>
    simp only [mapS, ih, lay, List.length_cons, List.range_succ_eq_map, List.map_cons, List.map_map, List.length_append, List.length_nil, List.append_assoc]
    have e : List.map (fun i : Nat => ((s.nodes.length + (0 + 1) + i : Nat) : Int)) (List.range X.length) = List.map ((fun i : Nat => ((s.nodes.length + i : Nat) : Int)) ∘ Nat.succ) (List.range X.length) :=
      List.map_congr_left fun i _ => by simp only [Function.comp]; congr 1; omega
    rw [e]
    rfl

def laterNodes (n k : Nat) : List Node := List.replicate n ⟨1, 0, 0, 0⟩ ++ (List.range (n * k)).map fun i : Nat => (⟨7, i, 0, 0⟩ : Node)
theorem laterNodes_length (n k : Nat) : (laterNodes n k).length = n + n * k := by simp [laterNodes]
def laterPlaces (n k : Nat) : List Int := (List.range n).map fun t : Nat => ((n * k + t : Nat) : Int)
theorem later_in (name : ByteArray) (n : Nat) : bIn name n ⟨[], [], []⟩ = (placesOf n, ⟨laterNodes n 0, [⟨name, placesOf n⟩], []⟩) := by
  have h := mapS_lay (fun _ : Nat => (⟨1, 0, 0, 0⟩ : Node)) (List.range n) ⟨[], [], []⟩
  have h2 : mapS bInput (List.range n) ⟨[], [], []⟩ = mapS (fun x => lay ((fun _ : Nat => (⟨1, 0, 0, 0⟩ : Node)) x)) (List.range n) ⟨[], [], []⟩ := rfl
  rw [bIn, h2, h]
  have e1 : (List.range (List.range n).length).map (fun i : Nat => (((⟨[], [], []⟩ : BSt).nodes.length + i : Nat) : Int)) = placesOf n := by simp [placesOf]
  have e2 : (List.range n).map (fun _ : Nat => (⟨1, 0, 0, 0⟩ : Node)) = List.replicate n ⟨1, 0, 0, 0⟩ := by rw [List.map_const', List.length_range]
  simp only [e1, e2, laterNodes, Nat.mul_zero, List.range_zero, List.map_nil, List.append_nil, List.nil_append]
theorem later_regs (n k : Nat) (ins : List Port) : bRegs (placesOf n) k ⟨laterNodes n 0, ins, []⟩ = (laterPlaces n k, ⟨laterNodes n k, ins, []⟩) := by
  induction k with
  | zero => simp [bRegs, laterPlaces, placesOf]
  | succ k ih =>
    have h := mapS_lay (fun x : Int => (⟨7, x, 0, 0⟩ : Node)) (laterPlaces n k) ⟨laterNodes n k, ins, []⟩
    have h2 : mapS (fun x => bReg x 0) (laterPlaces n k) ⟨laterNodes n k, ins, []⟩ = mapS (fun x => lay ((fun x : Int => (⟨7, x, 0, 0⟩ : Node)) x)) (laterPlaces n k) ⟨laterNodes n k, ins, []⟩ := rfl
    rw [bRegs, ih]
    simp only
    rw [h2, h]
    refine Prod.ext ?_ ?_
    · simp only [laterNodes_length, laterPlaces, List.length_map, List.length_range]
      refine List.map_congr_left fun i _ => ?_
      rw [Nat.mul_succ]
      congr 1; omega
    · show (⟨laterNodes n k ++ (laterPlaces n k).map _, ins, []⟩ : BSt) = ⟨laterNodes n (k + 1), ins, []⟩
      congr 1
      rw [laterNodes, laterNodes, List.append_assoc]
      congr 1
      rw [Nat.mul_succ, List.range_add, List.map_append]
      congr 1
      simp only [laterPlaces, List.map_map]
      rfl

theorem later_at (n k p : Nat) (hp : p < n + n * k) : (laterNodes n k)[p]? = some (if p < n then ⟨1, 0, 0, 0⟩ else ⟨7, ((p - n : Nat) : Int), 0, 0⟩) := by
  rw [laterNodes, List.getElem?_append]
  by_cases h : p < n
  · rw [if_pos (by simpa using h), if_pos h, List.getElem?_replicate, if_pos h]
  · rw [if_neg (by simpa using h), if_neg h, List.length_replicate, List.getElem?_map, List.getElem?_range (by omega)]
    rfl
theorem later_ordered (n k : Nat) : Ordered (laterNodes n k) := by
  intro i x hx
  have hi := (List.getElem?_eq_some_iff.1 hx).1
  rw [laterNodes_length] at hi
  rw [later_at n k i hi] at hx
  injection hx with hx
  subst hx
  split
  · rfl
  · rename_i h
    rcases Nat.eq_zero_or_pos n with h0 | h0
    · subst h0; simp at hi
    · simp [rightB, many, usesR, bitB]; omega

theorem at_map {α : Type} (f : α → Bool) (xs : List α) (i : Nat) (x : α) (h : xs[i]? = some x) : at_ (xs.map f) i = f x := by
  unfold at_
  rw [List.getD_eq_getElem?_getD, Int.toNat_natCast, List.getElem?_map, h]; rfl

theorem later_value (n k : Nat) (hn : 0 < n) (name : ByteArray) (ms : List Nat) (hm : ∀ m ∈ ms, m < 2 ^ n) : ∀ (i : Nat), i < ms.length → ∀ p, p < n + n * k →
    at_ (cycleR (laterNodes n k) [⟨name, placesOf n⟩] (ms.map fun m => [m]) i) p = (decide (p / n ≤ i) && (ms.getD (i - p / n) 0).testBit (p % n)) := by
  intro i
  induction i with
  | zero =>
    intro hi p hp
    rw [cycleR_eq, vals_eq _ (later_ordered n k) _ _ p _ (later_at n k p hp)]
    by_cases h : p < n
    · rw [if_pos h, valB, if_neg (by decide), if_pos rfl]
      have hg : (ms.map fun m => [m]).getD 0 [] = [ms.getD 0 0] := by simp [List.getD_eq_getElem?_getD, hi]
      have hmm : ms.getD 0 0 < 2 ^ n := hm _ (by rw [List.getD_eq_getElem?_getD, List.getElem?_eq_getElem hi]; exact List.getElem_mem hi)
      rw [hg, inputs_one _ _ _ _ hmm (by rw [laterNodes_length]; omega) p h, Nat.div_eq_of_lt h, Nat.mod_eq_of_lt h]
      simp
    · rw [if_neg h, valB, if_neg (by simp), if_neg (by simp), if_pos rfl]
      have hd : ¬ p / n ≤ 0 := by have := Nat.div_pos (show n ≤ p by omega) hn; omega
      rw [decide_eq_false hd, Bool.false_and]
      have : stateR (laterNodes n k) [⟨name, placesOf n⟩] (ms.map fun m => [m]) 0 = startR (laterNodes n k) := by rw [stateR]
      rw [this, startR, at_map _ _ p _ (later_at n k p hp), if_neg h]
      simp
  | succ i ih =>
    intro hi p hp
    rw [cycleR_eq, vals_eq _ (later_ordered n k) _ _ p _ (later_at n k p hp)]
    by_cases h : p < n
    · rw [if_pos h, valB, if_neg (by decide), if_pos rfl]
      have hg : (ms.map fun m => [m]).getD (i + 1) [] = [ms.getD (i + 1) 0] := by simp [List.getD_eq_getElem?_getD, hi]
      have hmm : ms.getD (i + 1) 0 < 2 ^ n := hm _ (by rw [List.getD_eq_getElem?_getD, List.getElem?_eq_getElem hi]; exact List.getElem_mem hi)
      rw [hg, inputs_one _ _ _ _ hmm (by rw [laterNodes_length]; omega) p h, Nat.div_eq_of_lt h, Nat.mod_eq_of_lt h]
      simp
    · rw [if_neg h, valB, if_neg (by simp), if_neg (by simp), if_pos rfl, stateR_succ, nextR, at_map _ _ p _ (later_at n k p hp), if_neg h]
      have e1 : p / n = (p - n) / n + 1 := by rw [Nat.div_eq_sub_div hn (by omega)]
      have e2 : p % n = (p - n) % n := by rw [Nat.mod_eq_sub_mod (by omega)]
      have hih := ih (by omega) (p - n) (by omega)
      simp only [decide_eq_true, Bool.true_and]
      rw [hih, e1, e2]
      congr 1
      · by_cases h2 : (p - n) / n ≤ i
        · rw [decide_eq_true h2, decide_eq_true (by omega)]
        · rw [decide_eq_false h2, decide_eq_false (by omega)]
      · congr 2; omega

theorem later_out (n k : Nat) (hn : 0 < n) (name : ByteArray) (ms : List Nat) (hm : ∀ m ∈ ms, m < 2 ^ n) (i : Nat) (hi : i < ms.length) :
    numB (laterPlaces n k) (cycleR (laterNodes n k) [⟨name, placesOf n⟩] (ms.map fun m => [m]) i) = if k ≤ i then ms.getD (i - k) 0 else 0 := by
  have hl : (laterPlaces n k).length = n := by simp [laterPlaces]
  apply Nat.eq_of_testBit_eq
  intro t
  rcases Nat.lt_or_ge t n with ht | ht
  · rw [numB_testBit _ _ t (by omega)]
    have hp : (laterPlaces n k)[t]'(by omega) = ((n * k + t : Nat) : Int) := by simp [laterPlaces]
    rw [hp, later_value n k hn name ms hm i hi (n * k + t) (by omega)]
    have e1 : (n * k + t) / n = k := by rw [Nat.mul_add_div hn, Nat.div_eq_of_lt ht, Nat.add_zero]
    have e2 : (n * k + t) % n = t := by rw [Nat.mul_add_mod, Nat.mod_eq_of_lt ht]
    rw [e1, e2]
    split
    · rename_i h; simp [h]
    · rename_i h; simp [h]
  · rw [Nat.testBit_lt_two_pow (Nat.lt_of_lt_of_le (numB_lt _ _) (Nat.pow_le_pow_right (by omega) (by omega)))]
    split
    · have hmm : ms.getD (i - k) 0 < 2 ^ n := hm _ (by rw [List.getD_eq_getElem?_getD, List.getElem?_eq_getElem (by omega)]; exact List.getElem_mem _)
      rw [Nat.testBit_lt_two_pow (Nat.lt_of_lt_of_le hmm (Nat.pow_le_pow_right (by omega) ht))]
    · rw [Nat.zero_testBit]
end Go.Proofs.Ytdljgifoboiaeaa
