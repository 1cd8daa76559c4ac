/- Values of a net by places: plain. -/
import Derived.Test.YtdljgifoboiaeaaJR07
import Derived.Test.YtdljgifoboiaeaaJNet
namespace Go.Proofs.Ytdljgifoboiaeaa

theorem at_append_lt (vs ys : List Bool) (i : Int) (h : i.toNat < vs.length) : at_ (vs ++ ys) i = at_ vs i := by
  unfold at_
  rw [List.getD_eq_getElem?_getD, List.getD_eq_getElem?_getD, List.getElem?_append_left h]
theorem valsK_prefix (nodes : List Node) (st inn : List Bool) (k m : Nat) (h : k ≤ m) : ∃ ys, valsK nodes st inn m = valsK nodes st inn k ++ ys := by
  induction h with
  | refl => exact ⟨[], by simp⟩
  | step _ ih => obtain ⟨ys, ih⟩ := ih; exact ⟨ys ++ [_], by rw [valsK, ih, List.append_assoc]⟩
theorem valsK_at (nodes : List Node) (st inn : List Bool) (i : Nat) (x : Node) (hx : nodes[i]? = some x) (m : Nat) (h : i < m) : at_ (valsK nodes st inn m) i = valB x (valsK nodes st inn i) st inn i := by
  obtain ⟨ys, hy⟩ := valsK_prefix nodes st inn (i + 1) m h
  rw [hy, at_append_lt _ _ _ (by rw [valsK_length]; simp), valsK]
  unfold at_
  rw [List.getD_eq_getElem?_getD, Int.toNat_natCast, List.getElem?_append_right (by rw [valsK_length]; exact Nat.le_refl _), valsK_length, Nat.sub_self, List.getD_eq_getElem?_getD, hx]
  rfl
theorem gateB_congr (x : Node) (vs us : List Bool) (hk : 2 ≤ x.kind ∧ x.kind ≤ 6) (h : ∀ u ∈ usesR x, at_ vs u = at_ us u) : gateB x vs = gateB x us := by
  have hc : x.kind = 2 ∨ x.kind = 3 ∨ x.kind = 4 ∨ x.kind = 5 ∨ x.kind = 6 := by omega
  obtain ⟨kind, a, b, c⟩ := x
  simp only at hc hk
  rcases hc with rfl | rfl | rfl | rfl | rfl <;> simp [usesR, many] at h <;> simp [gateB, h]
/-- a place's value, of those it uses -/
theorem vals_eq (nodes : List Node) (hk : Ordered nodes) (st inn : List Bool) (i : Nat) (x : Node) (hx : nodes[i]? = some x) :
    at_ (valsK nodes st inn nodes.length) i = valB x (valsK nodes st inn nodes.length) st inn i := by
  have hi : i < nodes.length := (List.getElem?_eq_some_iff.1 hx).1
  rw [valsK_at nodes st inn i x hx _ hi]
  have hr := hk i x hx
  have hkk := rightB_kind hr
  unfold valB
  by_cases h0 : x.kind = 0
  · simp [h0]
  by_cases h1 : x.kind = 1
  · simp [h1]
  by_cases h7 : x.kind = 7
  · simp [h7]
  rw [if_neg h0, if_neg h1, if_neg h7, if_neg h0, if_neg h1, if_neg h7]
  refine gateB_congr x _ _ (by omega) fun u hu => ?_
  have hub := rightB_uses hr u hu
  obtain ⟨ys, hy⟩ := valsK_prefix nodes st inn i nodes.length (by omega)
  rw [hy, at_append_lt _ _ _ (by rw [valsK_length]; omega)]

theorem at_set (vs : List Bool) (j : Nat) (hj : j < vs.length) (i : Nat) : at_ (vs.set j true) i = if i = j then true else at_ vs i := by
  unfold at_
  rw [List.getD_eq_getElem?_getD, List.getD_eq_getElem?_getD, Int.toNat_natCast, List.getElem?_set]
  by_cases h : j = i
  · subst h; simp [hj]
  · rw [if_neg h, if_neg (fun e => h e.symm)]
theorem setPort_other (bits : List Int) (m : Nat) (vs : List Bool) (hb : ∀ b ∈ bits, 0 ≤ b ∧ b < vs.length) (i : Nat) : ∀ k, k ≤ bits.length → (∀ q (h : q < bits.length), q < k → bits[q] ≠ (i : Int)) → at_ (setPort bits m k vs) i = at_ vs i
  | 0, _, _ => rfl
  | k + 1, hk, h => by
    have ih := setPort_other bits m vs hb i k (by omega) (fun q hq hqk => h q hq (by omega))
    unfold setPort
    split
    · have hbk := hb bits[k] (List.getElem_mem (by omega))
      rw [List.getD_eq_getElem?_getD, List.getElem?_eq_getElem (by omega), Option.getD_some, at_set _ _ (by rw [setPort_length]; omega), if_neg (fun e => h k (by omega) (by omega) (by omega)), ih]
    · exact ih
theorem setPort_at (bits : List Int) (m : Nat) (vs : List Bool) (hb : ∀ b ∈ bits, 0 ≤ b ∧ b < vs.length) (i q : Nat) (hq : q < bits.length) (hi : bits[q] = (i : Int)) (hd : ∀ r (h : r < bits.length), bits[r] = (i : Int) → r = q) (h0 : at_ vs i = false) :
    ∀ k, k ≤ bits.length → at_ (setPort bits m k vs) i = (decide (q < k) && m.testBit q)
  | 0, _ => by simp [setPort, h0]
  | k + 1, hk => by
    have ih := setPort_at bits m vs hb i q hq hi hd h0 k (by omega)
    have hbk := hb bits[k] (List.getElem_mem (by omega))
    unfold setPort
    by_cases hqk : q = k
    · subst hqk
      rw [decide_eq_false (by omega), Bool.false_and] at ih
      cases hb2 : m.testBit q with
      | true =>
        rw [if_pos rfl, List.getD_eq_getElem?_getD, List.getElem?_eq_getElem (by omega), Option.getD_some, at_set _ _ (by rw [setPort_length]; omega), if_pos (by omega)]
        simp
      | false => rw [if_neg (by simp), ih]; simp
    · have hne : bits[k] ≠ (i : Int) := fun e => hqk (hd k (by omega) e).symm
      have hdec : decide (q < k + 1) = decide (q < k) := by
        by_cases h : q < k
        · rw [decide_eq_true h, decide_eq_true (by omega)]
        · rw [decide_eq_false h, decide_eq_false (by omega)]
      rw [hdec]
      split
      · rw [List.getD_eq_getElem?_getD, List.getElem?_eq_getElem (by omega), Option.getD_some, at_set _ _ (by rw [setPort_length]; omega), if_neg (fun e => hne (by omega)), ih]
      · exact ih
theorem at_nil (n : Nat) (i : Int) : at_ (List.replicate n false) i = false := by
  have := at_pad [] n i
  simpa [at_] using this
/-- one port: its bits -/
theorem inputs_one (N n : Nat) (name : ByteArray) (m : Nat) (hm : m < 2 ^ n) (hn : n ≤ N) (t : Nat) (ht : t < n) : at_ (inputsR N [⟨name, placesOf n⟩] [m]) t = m.testBit t := by
  have hl := places_length n
  have hnb : nbits m ≤ n := nbits_le hm
  rw [inputsR]
  show at_ (setPort (placesOf n) m (nbits m) (List.replicate N false)) t = _
  rw [setPort_at (placesOf n) m (List.replicate N false) (fun b hb => by
    obtain ⟨i, hi, rfl⟩ := List.mem_iff_getElem.1 hb
    rw [places_at]; rw [hl] at hi; simp; omega) t t (by omega) (places_at n t (by omega)) (fun r hr he => by rw [places_at] at he; omega) (at_nil N t) (nbits m) (by omega)]
  by_cases h : t < nbits m
  · simp [h]
  · rw [decide_eq_false h, testBit_ge_nbits (by omega)]; rfl

/-- nets that are laid by way of the builder -/
def Good (s : BSt) (xs : List Int) : Prop := Ordered s.nodes ∧ ∀ x ∈ xs, 0 ≤ x ∧ x < s.nodes.length
theorem lay_good (x : Node) (s : BSt) (h : Ordered s.nodes) (hx : rightB x s.nodes.length = true) : Ordered (lay x s).2.nodes := h.snoc hx
end Go.Proofs.Ytdljgifoboiaeaa
