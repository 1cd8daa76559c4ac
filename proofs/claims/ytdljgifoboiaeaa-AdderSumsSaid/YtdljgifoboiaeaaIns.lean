/- What comes in and what goes out of a net that was built: plain. -/
import Derived.Test.YtdljgifoboiaeaaSat
namespace Go.Proofs.Ytdljgifoboiaeaa

/-- no place is of two bits -/
def Dist (ins : List Port) : Prop := ∀ (i i' : Nat) (q q' : Port) (j j' : Nat) (b : Int), ins[i]? = some q → q.bits[j]? = some b → ins[i']? = some q' → q'.bits[j']? = some b → i = i' ∧ j = j'

theorem setPorts_at (ins : List Port) (ms : List Nat) (N : Nat) (hd : Dist ins) (hb : ∀ q ∈ ins, ∀ b ∈ q.bits, 0 ≤ b ∧ b < N) (hfit : ∀ i q, ins[i]? = some q → nbits (ms.getD i 0) ≤ q.bits.length)
    {i : Nat} {q : Port} {j : Nat} {b : Int} (hq : ins[i]? = some q) (hj : q.bits[j]? = some b) : ∀ k, k ≤ ins.length → at_ (setPorts ins ms k (List.replicate N false)) b = (decide (i < k) && (ms.getD i 0).testBit j) := by
  have hbn := hb q (List.mem_of_getElem? hq) b (List.mem_of_getElem? hj)
  obtain ⟨n, rfl⟩ := Int.eq_ofNat_of_zero_le hbn.1
  intro k
  induction k with
  | zero => intro _; simp [setPorts, at_nil]
  | succ k ih =>
    intro hk
    have ihk := ih (by omega)
    obtain ⟨r, hr⟩ : ∃ r, ins[k]? = some r := ⟨ins[k]'(by omega), List.getElem?_eq_getElem _⟩
    have hg : ins.getD k ⟨⟨#[]⟩, []⟩ = r := by rw [List.getD_eq_getElem?_getD, hr]; rfl
    have hrb : ∀ b ∈ r.bits, 0 ≤ b ∧ b < (setPorts ins ms k (List.replicate N false)).length := by
      rw [setPorts_length, List.length_replicate]; exact hb r (List.mem_of_getElem? hr)
    rw [setPorts, hg]
    by_cases hik : i = k
    · subst hik
      rw [hr] at hq; injection hq with hq; subst hq
      obtain ⟨hjl, hje⟩ := List.getElem?_eq_some_iff.1 hj
      rw [setPort_at r.bits _ _ hrb n j hjl hje (fun t ht he => (hd i i r r t j (n : Int) hr (by rw [List.getElem?_eq_getElem ht, he]) hr hj).2) (by rw [ihk]; simp) _ (hfit i r hr)]
      rw [decide_eq_true (show i < i + 1 by omega), Bool.true_and]
      by_cases h : j < nbits (ms.getD i 0)
      · rw [decide_eq_true h, Bool.true_and]
      · rw [decide_eq_false h, Bool.false_and, testBit_ge_nbits (by omega)]
    · rw [setPort_other r.bits _ _ hrb n _ (hfit k r hr) (fun t ht _ he => hik (hd i k q r j t (n : Int) hq hj hr (by rw [List.getElem?_eq_getElem ht, he])).1), ihk]
      congr 1
      by_cases h : i < k
      · rw [decide_eq_true h, decide_eq_true (by omega)]
      · rw [decide_eq_false h, decide_eq_false (by omega)]

/-- ports as they must be: inputs apart, outs of places that are there -/
structure PortsOk (st : BSt) : Prop where
  dist : Dist st.ins
  inp : ∀ q ∈ st.ins, q.bits ≠ [] ∧ q.bits.length ≤ 1024 ∧ ∀ b ∈ q.bits, At st b ∧ st.nodes[b.toNat]? = some ⟨1, 0, 0, 0⟩
  outs : ∀ q ∈ st.outs, q.bits ≠ [] ∧ q.bits.length ≤ 1024 ∧ Okay st q.bits
  many : st.ins.length ≤ 100 ∧ st.outs.length ≤ 100
theorem PortsOk.none : PortsOk ⟨[], [], []⟩ := ⟨fun i i' q q' j j' b h => by simp at h, fun q h => by simp at h, fun q h => by simp at h, by simp⟩
theorem PortsOk.ext {a b : BSt} (h : PortsOk a) (he : Ext a b) : PortsOk b := by
  obtain ⟨l, rfl⟩ := he
  refine ⟨h.dist, fun q hq => ⟨(h.inp q hq).1, (h.inp q hq).2.1, fun b hb => ?_⟩, fun q hq => ⟨(h.outs q hq).1, (h.outs q hq).2.1, (h.outs q hq).2.2.ext ⟨l, rfl⟩⟩, h.many⟩
  obtain ⟨h1, h2⟩ := (h.inp q hq).2.2 b hb
  exact ⟨h1.ext ⟨l, rfl⟩, by rw [List.getElem?_append_left (List.getElem?_eq_some_iff.1 h2).1]; exact h2⟩
theorem PortsOk.out {st : BSt} (h : PortsOk st) (name : ByteArray) {xs : List Int} (h0 : xs ≠ []) (hl : xs.length ≤ 1024) (ho : Okay st xs) (hm : st.outs.length < 100) : PortsOk (bOut name xs st) :=
  ⟨h.dist, h.inp, fun q hq => by
    rcases List.mem_append.1 hq with hq | hq
    · exact h.outs q hq
    · simp at hq; subst hq; exact ⟨h0, hl, ho⟩, ⟨h.many.1, by simp [bOut]; omega⟩⟩
theorem in_shape (name : ByteArray) (n : Nat) (st : BSt) : bIn name n st = ((List.range n).map (fun i : Nat => ((st.nodes.length + i : Nat) : Int)), ⟨st.nodes ++ List.replicate n ⟨1, 0, 0, 0⟩, st.ins ++ [⟨name, (List.range n).map fun i : Nat => ((st.nodes.length + i : Nat) : Int)⟩], st.outs⟩) := by
  have h : ∀ (l : List Nat) (s : BSt), mapS bInput l s = ((List.range l.length).map (fun i : Nat => ((s.nodes.length + i : Nat) : Int)), { s with nodes := s.nodes ++ List.replicate l.length ⟨1, 0, 0, 0⟩ }) := by
    intro l
    induction l with
    | nil => intro s; simp [mapS]
    | cons a l ih =>
      intro s
      simp only [mapS, ih, bInput, lay, List.length_cons, List.range_succ_eq_map, List.map_cons, List.map_map, List.length_append, List.length_nil, List.append_assoc]
      have e : List.map (fun i : Nat => ((s.nodes.length + (0 + 1) + i : Nat) : Int)) (List.range l.length) = List.map ((fun i : Nat => ((s.nodes.length + i : Nat) : Int)) ∘ Nat.succ) (List.range l.length) :=
        List.map_congr_left fun i _ => by simp only [Function.comp]; congr 1; omega
      rw [e]
      rfl
  rw [bIn, h, List.length_range]
theorem PortsOk.in_ {st : BSt} (h : PortsOk st) (name : ByteArray) {n : Nat} (h0 : 0 < n) (hl : n ≤ 1024) (hm : st.ins.length < 100) : PortsOk (bIn name n st).2 ∧ Okay (bIn name n st).2 (bIn name n st).1 := by
  rw [in_shape]
  have old : ∀ {i : Nat} {q : Port}, (st.ins ++ [⟨name, (List.range n).map fun i : Nat => ((st.nodes.length + i : Nat) : Int)⟩])[i]? = some q → (st.ins[i]? = some q ∧ ∀ b ∈ q.bits, b < st.nodes.length) ∨ (i = st.ins.length ∧ q = ⟨name, (List.range n).map fun i : Nat => ((st.nodes.length + i : Nat) : Int)⟩) := by
    intro i q hq
    rw [List.getElem?_append] at hq
    split at hq
    · exact .inl ⟨hq, fun b hb => ((h.inp q (List.mem_of_getElem? hq)).2.2 b hb).1.2⟩
    · have := (List.getElem?_eq_some_iff.1 hq).1
      simp at this
      have hi : i = st.ins.length := by omega
      subst hi
      simp at hq
      exact .inr ⟨rfl, hq.symm⟩
  have bits : ∀ {j : Nat} {b : Int}, ((List.range n).map fun i : Nat => ((st.nodes.length + i : Nat) : Int))[j]? = some b → b = ((st.nodes.length + j : Nat) : Int) ∧ j < n := by
    intro j b hb
    obtain ⟨hj, he⟩ := List.getElem?_eq_some_iff.1 hb
    simp at hj
    simp at he
    exact ⟨by omega, hj⟩
  refine ⟨⟨fun i i' q q' j j' b hq hj hq' hj' => ?_, fun q hq => ?_, fun q hq => ⟨(h.outs q hq).1, (h.outs q hq).2.1, (h.outs q hq).2.2.grow (by simp)⟩, ⟨by simp; omega, h.many.2⟩⟩, fun x hx => ?_⟩
  · rcases old hq with ⟨o1, l1⟩ | ⟨rfl, rfl⟩ <;> rcases old hq' with ⟨o2, l2⟩ | ⟨rfl, rfl⟩
    · exact h.dist i i' q q' j j' b o1 hj o2 hj'
    · have := l1 b (List.mem_of_getElem? hj); have := (bits hj').1; omega
    · have := l2 b (List.mem_of_getElem? hj'); have := (bits hj).1; omega
    · have := (bits hj).1; have := (bits hj').1; exact ⟨rfl, by omega⟩
  · rcases List.mem_append.1 hq with hq | hq
    · refine ⟨(h.inp q hq).1, (h.inp q hq).2.1, fun b hb => ?_⟩
      obtain ⟨h1, h2⟩ := (h.inp q hq).2.2 b hb
      exact ⟨h1.grow (by simp), by rw [List.getElem?_append_left (List.getElem?_eq_some_iff.1 h2).1]; exact h2⟩
    · simp at hq; subst hq
      refine ⟨by simp; omega, by simp; exact hl, fun b hb => ?_⟩
      simp only [List.mem_map, List.mem_range] at hb
      obtain ⟨i, hi, rfl⟩ := hb
      refine ⟨⟨by omega, by simp; omega⟩, ?_⟩
      have e : ((st.nodes.length : Int) + (i : Int)).toNat = st.nodes.length + i := by omega
      dsimp only
      rw [e, List.getElem?_append_right (by omega), List.getElem?_replicate, if_pos (by omega)]
  · simp only [List.mem_map, List.mem_range] at hx
    obtain ⟨i, hi, rfl⟩ := hx
    exact ⟨by omega, by simp; omega⟩

theorem formed_of {st : BSt} (hO : Ordered st.nodes) (h : PortsOk st) : formedB st.nodes st.ins st.outs = true := by
  simp only [formedB, Bool.and_eq_true, List.all_append]
  refine ⟨hO.all, ?_, ?_⟩
  · rw [List.all_eq_true]
    intro q hq
    simp only [portB, Bool.and_eq_true, decide_eq_true_eq, List.all_eq_true]
    exact ⟨(h.inp q hq).1, fun b hb => ((h.inp q hq).2.2 b hb).1⟩
  · rw [List.all_eq_true]
    intro q hq
    simp only [portB, Bool.and_eq_true, decide_eq_true_eq, List.all_eq_true]
    exact ⟨(h.outs q hq).1, (h.outs q hq).2.2⟩

theorem gateV_of (x : Node) (vs : List Bool) (hk : 2 ≤ x.kind ∧ x.kind ≤ 6) : gateB x vs = gateV x (at_ vs) := by
  obtain ⟨kind, a, b, c⟩ := x
  simp only at hk
  have hc : kind = 2 ∨ kind = 3 ∨ kind = 4 ∨ kind = 5 ∨ kind = 6 := by omega
  rcases hc with rfl | rfl | rfl | rfl | rfl <;> simp [gateB, gateV]

/-- one cycle of a net: values that fit it, of what comes in -/
theorem eval_sem {st : BSt} (hO : Ordered st.nodes) (h : PortsOk st) (nums : List (List Int)) (hlen : nums.length = st.ins.length) (hfit : ∀ i q, st.ins[i]? = some q → partsVal (nums.getD i []) < 2 ^ q.bits.length) :
    ∃ V, Sat V st.nodes ∧ (∀ i q, st.ins[i]? = some q → numV V q.bits = partsVal (nums.getD i [])) ∧ evalR st.nodes st.ins st.outs nums = st.outs.map fun q => parts32 (numV V q.bits) := by
  obtain ⟨vs, hvs⟩ : ∃ vs, vs = valsK st.nodes (startR st.nodes) (inputsR st.nodes.length st.ins (nums.map partsVal)) st.nodes.length := ⟨_, rfl⟩
  have hgd : ∀ i, (nums.map partsVal).getD i 0 = partsVal (nums.getD i []) := by
    intro i
    rw [List.getD_eq_getElem?_getD, List.getElem?_map, List.getD_eq_getElem?_getD]
    cases nums[i]? <;> rfl
  refine ⟨at_ vs, fun i x hx => ?_, fun i q hq => ?_, ?_⟩
  · have hv := vals_eq st.nodes hO (startR st.nodes) (inputsR st.nodes.length st.ins (nums.map partsVal)) i x hx
    rw [← hvs] at hv
    have hr := hO i x hx
    refine ⟨fun h0 => ?_, fun hk => ?_⟩
    · rw [hv, valB, if_pos h0]
    · rw [hv, valB, if_neg (by omega), if_neg (by omega), if_neg (by omega), gateV_of x vs hk]
  · refine numV_ext (hfit i q hq) fun j hj => ?_
    obtain ⟨⟨hb1, hb2⟩, hb3⟩ := (h.inp q (List.mem_of_getElem? hq)).2.2 q.bits[j] (List.getElem_mem hj)
    have hin := setPorts_at st.ins (nums.map partsVal) st.nodes.length h.dist (fun q hq b hb => ((h.inp q hq).2.2 b hb).1) (fun i q hq => by rw [hgd]; exact nbits_le (hfit i q hq)) hq (List.getElem?_eq_getElem hj) st.ins.length (Nat.le_refl _)
    rw [decide_eq_true (List.getElem?_eq_some_iff.1 hq).1, Bool.true_and, hgd] at hin
    have hv := vals_eq st.nodes hO (startR st.nodes) (inputsR st.nodes.length st.ins (nums.map partsVal)) q.bits[j].toNat _ hb3
    rw [← hvs, valB, if_neg (by decide), if_pos rfl, Int.toNat_of_nonneg hb1] at hv
    rw [hv]
    exact hin
  · rw [evalR, ← hvs]; rfl
end Go.Proofs.Ytdljgifoboiaeaa
