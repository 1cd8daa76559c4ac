/- Values that fit a net; words as numbers. Plain. -/
import Derived.Test.YtdljgifoboiaeaaSem
import Derived.Test.YtdljgifoboiaeaaR08
import Derived.Test.YtdljgifoboiaeaaJFresh
namespace Go.Proofs.Ytdljgifoboiaeaa

def gateV (x : Node) (V : Int → Bool) : Bool :=
  if x.kind = 2 then !V x.a else if x.kind = 3 then V x.a && V x.b else if x.kind = 4 then V x.a || V x.b
  else if x.kind = 5 then V x.a != V x.b else if V x.c then V x.b else V x.a
/-- values that fit all constants and gates (whatever comes in, whatever registers hold) -/
def Sat (V : Int → Bool) (nodes : List Node) : Prop :=
  ∀ (i : Nat) (x : Node), nodes[i]? = some x → (x.kind = 0 → V i = decide (x.a = 1)) ∧ (2 ≤ x.kind ∧ x.kind ≤ 6 → V i = gateV x V)
theorem Sat.prefix {V : Int → Bool} {a b : List Node} (h : Sat V (a ++ b)) : Sat V a := fun i x hx => h i x (by
  rw [List.getElem?_append_left (List.getElem?_eq_some_iff.1 hx).1]; exact hx)
theorem Sat.ext {V : Int → Bool} {s s' : BSt} (h : Sat V s'.nodes) (he : Ext s s') : Sat V s.nodes := by
  obtain ⟨l, rfl⟩ := he; exact Sat.prefix h
theorem Sat.lay {V : Int → Bool} {x : Node} {s : BSt} (h : Sat V (lay x s).2.nodes) : (x.kind = 0 → V (lay x s).1 = decide (x.a = 1)) ∧ (2 ≤ x.kind ∧ x.kind ≤ 6 → V (lay x s).1 = gateV x V) :=
  h s.nodes.length x (by simp [Go.Proofs.Ytdljgifoboiaeaa.lay])
theorem sat_bit {V : Int → Bool} {v : Int} {s : BSt} (h : Sat V (bBit v s).2.nodes) : V (bBit v s).1 = decide (v ≠ 0) := by
  rw [bBit, (Sat.lay h).1 rfl]
  by_cases hv : v = 0 <;> simp [flag, hv]
theorem sat_not {V : Int → Bool} {x : Int} {s : BSt} (h : Sat V (bNot x s).2.nodes) : V (bNot x s).1 = !V x := by rw [bNot, (Sat.lay h).2 (by simp)]; simp [gateV]
theorem sat_and {V : Int → Bool} {x y : Int} {s : BSt} (h : Sat V (bAnd x y s).2.nodes) : V (bAnd x y s).1 = (V x && V y) := by rw [bAnd, (Sat.lay h).2 (by simp)]; simp [gateV]
theorem sat_or {V : Int → Bool} {x y : Int} {s : BSt} (h : Sat V (bOr x y s).2.nodes) : V (bOr x y s).1 = (V x || V y) := by rw [bOr, (Sat.lay h).2 (by simp)]; simp [gateV]
theorem sat_xor {V : Int → Bool} {x y : Int} {s : BSt} (h : Sat V (bXor x y s).2.nodes) : V (bXor x y s).1 = (V x != V y) := by rw [bXor, (Sat.lay h).2 (by simp)]; simp [gateV]
theorem sat_mux {V : Int → Bool} {x y c : Int} {s : BSt} (h : Sat V (bMux x y c s).2.nodes) : V (bMux x y c s).1 = if V c then V y else V x := by rw [bMux, (Sat.lay h).2 (by simp)]; simp [gateV]
theorem sat_gate {V : Int → Bool} {kind x y : Int} {s : BSt} (h : Sat V (bGate kind x y s).2.nodes) : V (bGate kind x y s).1 = gateK kind (V x) (V y) := by
  unfold bGate at h ⊢; unfold gateK
  by_cases h3 : kind = 3
  · simp only [if_pos h3] at h ⊢; exact sat_and h
  · simp only [if_neg h3] at h ⊢
    by_cases h4 : kind = 4
    · simp only [if_pos h4] at h ⊢; exact sat_or h
    · simp only [if_neg h4] at h ⊢; exact sat_xor h
/-- a loop that lays: each value -/
theorem sat_mapS {α : Type} {V : Int → Bool} (f : α → BSt → Int × BSt) (g : α → Bool) (hf : ∀ x s, Ext s (f x s).2) (hg : ∀ x s, Sat V (f x s).2.nodes → V (f x s).1 = g x) : ∀ (xs : List α) (s : BSt), Sat V (mapS f xs s).2.nodes → (mapS f xs s).1.map V = xs.map g
  | [], s, _ => rfl
  | x :: xs, s, h => by
    simp only [mapS, List.map_cons] at h ⊢
    rw [hg x s (h.ext (mapS_ext f hf xs _)), sat_mapS f g hf hg xs _ h]
theorem sat_pad {V : Int → Bool} {xs : List Int} {n : Nat} {s : BSt} (h : Sat V (bPad xs n s).2.nodes) : (bPad xs n s).1.map V = (xs.take n).map V ++ List.replicate (n - xs.length) false := by
  have h1 := sat_mapS (V := V) (fun _ : Unit => bBit 0) (fun _ => false) (fun _ s => lay_ext _ s) (fun _ s hs => by rw [sat_bit hs]; rfl) (List.replicate (n - xs.length) ()) s h
  simp only [bPad, List.map_append, h1]
  simp

/-! ### a word's number -/
def numV (V : Int → Bool) (xs : List Int) : Nat := ofBits (xs.map V)
theorem numV_lt (V : Int → Bool) (xs : List Int) : numV V xs < 2 ^ xs.length := by have := ofBits_lt (xs.map V); simpa [numV] using this
theorem numV_testBit (V : Int → Bool) (xs : List Int) (i : Nat) : (numV V xs).testBit i = (xs.map V).getD i false := testBit_ofBits _ _
theorem numV_at {V : Int → Bool} {xs : List Int} {i : Nat} (h : i < xs.length) : (numV V xs).testBit i = V xs[i] := by
  rw [numV_testBit, List.getD_eq_getElem?_getD, List.getElem?_map, List.getElem?_eq_getElem h]; rfl
theorem numV_beyond {V : Int → Bool} {xs : List Int} {i : Nat} (h : xs.length ≤ i) : (numV V xs).testBit i = false := by
  rw [numV_testBit, List.getD_eq_getElem?_getD, List.getElem?_eq_none (by simpa using h)]; rfl
theorem numV_nil (V : Int → Bool) : numV V [] = 0 := rfl
theorem numV_cons (V : Int → Bool) (x : Int) (xs : List Int) : numV V (x :: xs) = (V x).toNat + 2 * numV V xs := by
  simp only [numV, List.map_cons, ofBits]; cases V x <;> rfl
theorem numV_one (V : Int → Bool) (x : Int) : numV V [x] = (V x).toNat := by rw [numV_cons, numV_nil]; omega
theorem numV_append (V : Int → Bool) (xs ys : List Int) : numV V (xs ++ ys) = numV V xs + 2 ^ xs.length * numV V ys := by
  induction xs with
  | nil => simp [numV_nil]
  | cons x xs ih => rw [List.cons_append, numV_cons, ih, numV_cons, List.length_cons, Nat.pow_succ, Nat.mul_comm (2 ^ xs.length) 2, Nat.mul_assoc, Nat.mul_add, Nat.add_assoc]
theorem numV_snoc (V : Int → Bool) (xs : List Int) (x : Int) : numV V (xs ++ [x]) = numV V xs + 2 ^ xs.length * (V x).toNat := by rw [numV_append, numV_one]
theorem ofBits_take (bs : List Bool) (n : Nat) : ofBits (bs.take n) = ofBits bs % 2 ^ n := by
  apply Nat.eq_of_testBit_eq
  intro i
  rw [testBit_ofBits, Nat.testBit_mod_two_pow, testBit_ofBits, List.getD_eq_getElem?_getD, List.getD_eq_getElem?_getD, List.getElem?_take]
  by_cases h : i < n <;> simp [h]
theorem numV_take (V : Int → Bool) (xs : List Int) (n : Nat) : numV V (xs.take n) = numV V xs % 2 ^ n := by
  rw [numV, List.map_take, ofBits_take]; rfl
theorem numV_drop (V : Int → Bool) (xs : List Int) (n : Nat) : numV V (xs.drop n) = numV V xs / 2 ^ n := by
  apply Nat.eq_of_testBit_eq
  intro i
  rw [Nat.testBit_div_two_pow, numV_testBit, numV_testBit, List.getD_eq_getElem?_getD, List.getD_eq_getElem?_getD, List.map_drop, List.getElem?_drop, Nat.add_comm]
theorem ofBits_pad (bs : List Bool) (k : Nat) : ofBits (bs ++ List.replicate k false) = ofBits bs := by
  apply Nat.eq_of_testBit_eq
  intro i
  rw [testBit_ofBits, testBit_ofBits]
  have h := at_pad bs k i
  simpa [at_] using h
/-- words of one width, bit by bit -/
theorem numV_ext {V : Int → Bool} {xs : List Int} {n : Nat} (hn : n < 2 ^ xs.length) (h : ∀ i (hi : i < xs.length), V xs[i] = n.testBit i) : numV V xs = n := by
  apply Nat.eq_of_testBit_eq
  intro i
  rcases Nat.lt_or_ge i xs.length with hi | hi
  · rw [numV_at hi, h i hi]
  · rw [numV_beyond hi, Nat.testBit_lt_two_pow (Nat.lt_of_lt_of_le hn (Nat.pow_le_pow_right (by omega) hi))]
theorem num_pad {V : Int → Bool} {xs : List Int} {n : Nat} {s : BSt} (h : Sat V (bPad xs n s).2.nodes) : numV V (bPad xs n s).1 = numV V xs % 2 ^ n := by
  rw [numV, sat_pad h, ofBits_pad, List.map_take, ofBits_take]; rfl
theorem zip_at {α : Type} (xs ys : List α) (i : Nat) (h : i < (xs.zip ys).length) : (xs.zip ys)[i] = (xs[i]'(by simp at h; omega), ys[i]'(by simp at h; omega)) := by simp
/-- pair by pair -/
theorem sat_zip {V : Int → Bool} (f : Int × Int → BSt → Int × BSt) (g : Bool → Bool → Bool) (hf : ∀ x s, Ext s (f x s).2) (hg : ∀ x s, Sat V (f x s).2.nodes → V (f x s).1 = g (V x.1) (V x.2)) (xs ys : List Int) (hl : xs.length = ys.length) (s : BSt) (h : Sat V (mapS f (xs.zip ys) s).2.nodes) (i : Nat) (hi : i < xs.length) :
    (numV V (mapS f (xs.zip ys) s).1).testBit i = g ((numV V xs).testBit i) ((numV V ys).testBit i) := by
  have h1 := sat_mapS f (fun q => g (V q.1) (V q.2)) hf hg (xs.zip ys) s h
  have hz : i < (xs.zip ys).length := by simp; omega
  rw [numV, h1, testBit_ofBits, List.getD_eq_getElem?_getD, List.getElem?_map, List.getElem?_eq_getElem hz, zip_at, numV_at hi, numV_at (by omega)]
  rfl
theorem sat_both {V : Int → Bool} {xs ys : List Int} {s : BSt} (h : Sat V (bBoth xs ys s).2.nodes) : numV V (bBoth xs ys s).1.1 = numV V xs ∧ numV V (bBoth xs ys s).1.2 = numV V ys := by
  have h1 := num_pad (h.ext (pad_ext _ _ _))
  have h2 := num_pad h
  constructor
  · refine h1.trans (Nat.mod_eq_of_lt (Nat.lt_of_lt_of_le (numV_lt V xs) (Nat.pow_le_pow_right (by omega) (by omega))))
  · refine h2.trans (Nat.mod_eq_of_lt (Nat.lt_of_lt_of_le (numV_lt V ys) (Nat.pow_le_pow_right (by omega) (by omega))))
theorem both_lens (xs ys : List Int) (s : BSt) : (bBoth xs ys s).1.1.length = max xs.length ys.length ∧ (bBoth xs ys s).1.2.length = max xs.length ys.length := ⟨pad_length _ _ _, pad_length _ _ _⟩
theorem sat_each {V : Int → Bool} {kind : Int} {xs ys : List Int} {s : BSt} (h : Sat V (bEach kind xs ys s).2.nodes) (i : Nat) (hi : i < max xs.length ys.length) :
    (numV V (bEach kind xs ys s).1).testBit i = gateK kind ((numV V xs).testBit i) ((numV V ys).testBit i) := by
  obtain ⟨l1, l2⟩ := both_lens xs ys s
  have hb := sat_both (h.ext (mapS_ext _ (fun _ s => gate_ext _ _ _ s) _ _))
  have := sat_zip (V := V) (fun q : Int × Int => bGate kind q.1 q.2) (gateK kind) (fun _ s => gate_ext _ _ _ s) (fun x s hs => sat_gate hs) _ _ (l1.trans l2.symm) _ h i (by omega)
  rw [hb.1, hb.2] at this
  exact this
theorem sat_pick {V : Int → Bool} {c : Int} {xs ys : List Int} {s : BSt} (h : Sat V (bPick xs ys c s).2.nodes) : numV V (bPick xs ys c s).1 = if V c then numV V ys else numV V xs := by
  obtain ⟨l1, l2⟩ := both_lens xs ys s
  have hb := sat_both (h.ext (mapS_ext _ (fun _ s => lay_ext _ s) _ _))
  have hl := pick_length xs ys c s
  have hx := numV_lt V xs
  have hy := numV_lt V ys
  have ex : 2 ^ xs.length ≤ 2 ^ (max xs.length ys.length) := Nat.pow_le_pow_right (by omega) (by omega)
  have ey : 2 ^ ys.length ≤ 2 ^ (max xs.length ys.length) := Nat.pow_le_pow_right (by omega) (by omega)
  refine numV_ext (by rw [hl]; split <;> omega) fun i hi => ?_
  have := sat_zip (V := V) (fun q : Int × Int => bMux q.1 q.2 c) (fun a b => if V c then b else a) (fun _ s => lay_ext _ s) (fun x s hs => sat_mux hs) _ _ (l1.trans l2.symm) _ h i (by omega)
  rw [hb.1, hb.2] at this
  rw [← numV_at (V := V) hi]
  refine this.trans ?_
  split <;> rfl
theorem sat_nots {V : Int → Bool} {xs : List Int} {s : BSt} (h : Sat V (bNots xs s).2.nodes) : numV V (bNots xs s).1 + numV V xs + 1 = 2 ^ xs.length := by
  have h1 := sat_mapS (V := V) bNot (fun x => !V x) (fun _ s => lay_ext _ s) (fun x s hs => sat_not hs) xs s h
  rw [numV, bNots, h1]
  clear h1 h
  induction xs with
  | nil => simp [ofBits, numV_nil]
  | cons x xs ih =>
    simp only [List.map_cons, ofBits, numV_cons, List.length_cons, Nat.pow_succ]
    cases V x <;> simp <;> omega
theorem sat_word {V : Int → Bool} {m n : Nat} {s : BSt} (h : Sat V (bWord m n s).2.nodes) : numV V (bWord m n s).1 = m % 2 ^ n := by
  have h1 := sat_mapS (V := V) (fun k => bBit (b2i (m.testBit k))) (fun k => m.testBit k) (fun _ s => lay_ext _ s) (fun k s hs => by rw [sat_bit hs]; cases m.testBit k <;> rfl) (List.range n) s h
  rw [numV, bWord, h1]
  apply Nat.eq_of_testBit_eq
  intro i
  rw [testBit_ofBits, Nat.testBit_mod_two_pow, List.getD_eq_getElem?_getD, List.getElem?_map]
  by_cases hi : i < n
  · rw [List.getElem?_range hi]; simp [hi]
  · rw [List.getElem?_eq_none (by simp; omega)]; simp [hi]

theorem numV_wide (V : Int → Bool) {xs : List Int} {n : Nat} (h : xs.length ≤ n) : numV V xs % 2 ^ n = numV V xs := Nat.mod_eq_of_lt (Nat.lt_of_lt_of_le (numV_lt V xs) (Nat.pow_le_pow_right (by omega) h))

theorem numV_set {V : Int → Bool} {xs : List Int} {k : Nat} (hk : k < xs.length) (g : Int) (i : Nat) : (numV V (xs.set k g)).testBit i = if i = k then V g else (numV V xs).testBit i := by
  rw [numV_testBit, numV_testBit, List.getD_eq_getElem?_getD, List.getD_eq_getElem?_getD, List.getElem?_map, List.getElem?_map, List.getElem?_set]
  by_cases h : i = k
  · subst h; rw [if_pos rfl, if_pos hk, if_pos rfl]; rfl
  · rw [if_neg (fun e => h e.symm), if_neg h]

/-! ### places that are there; nets in order -/
def Okay (st : BSt) (xs : List Int) : Prop := ∀ x ∈ xs, 0 ≤ x ∧ x < st.nodes.length
theorem Okay.ext {a b : BSt} {xs : List Int} (h : Okay a xs) (he : Ext a b) : Okay b xs := fun x hx => ⟨(h x hx).1, by have := (h x hx).2; have := he.len; omega⟩
theorem Okay.grow {a b : BSt} {xs : List Int} (h : Okay a xs) (he : a.nodes.length ≤ b.nodes.length) : Okay b xs := fun x hx => ⟨(h x hx).1, by have := (h x hx).2; omega⟩
theorem Okay.nil (st : BSt) : Okay st [] := fun _ h => by simp at h
theorem Okay.append {st : BSt} {xs ys : List Int} (h : Okay st xs) (k : Okay st ys) : Okay st (xs ++ ys) := fun x hx => (List.mem_append.1 hx).elim (h x) (k x)
theorem Okay.one {st : BSt} {x : Int} (h : 0 ≤ x ∧ x < st.nodes.length) : Okay st [x] := fun y hy => by simp at hy; subst hy; exact h
theorem Okay.take {st : BSt} {xs : List Int} (h : Okay st xs) (n : Nat) : Okay st (xs.take n) := fun x hx => h x (List.mem_of_mem_take hx)
theorem Okay.drop {st : BSt} {xs : List Int} (h : Okay st xs) (n : Nat) : Okay st (xs.drop n) := fun x hx => h x (List.mem_of_mem_drop hx)
theorem Okay.at {st : BSt} {xs : List Int} (h : Okay st xs) {i : Nat} (hi : i < xs.length) : 0 ≤ xs[i] ∧ xs[i] < st.nodes.length := h _ (List.getElem_mem hi)
theorem Okay.set {st : BSt} {xs : List Int} (h : Okay st xs) {r : Int} (hr : 0 ≤ r ∧ r < st.nodes.length) (i : Nat) : Okay st (xs.set i r) := fun x hx => by
  rcases List.mem_or_eq_of_mem_set hx with h' | h'
  · exact h x h'
  · rw [h']; exact hr

/-- from a state to a later one: at most n nodes more, in order -/
structure Went (st st' : BSt) (n : Nat) : Prop where
  ext : Ext st st'
  cnt : st'.nodes.length ≤ st.nodes.length + n
  ord : Ordered st.nodes → Ordered st'.nodes
theorem Went.refl (st : BSt) : Went st st 0 := ⟨Ext.refl _, Nat.le_refl _, id⟩
theorem Went.trans {a b c : BSt} {n m : Nat} (h : Went a b n) (k : Went b c m) : Went a c (n + m) := ⟨h.ext.trans k.ext, by have := h.cnt; have := k.cnt; omega, fun o => k.ord (h.ord o)⟩
theorem Went.mono {a b : BSt} {n m : Nat} (h : Went a b n) (hm : n ≤ m) : Went a b m := ⟨h.ext, by have := h.cnt; omega, h.ord⟩
theorem lay_went {x : Node} {st : BSt} (h : rightB x st.nodes.length = true) : Went st (lay x st).2 1 := ⟨lay_ext _ _, by simp [lay], fun o => o.snoc h⟩
theorem lay_there (x : Node) (st : BSt) : 0 ≤ (lay x st).1 ∧ (lay x st).1 < (lay x st).2.nodes.length := by simp [lay]; omega
def At (st : BSt) (x : Int) : Prop := 0 ≤ x ∧ x < st.nodes.length
theorem At.ext {a b : BSt} {x : Int} (h : At a x) (he : Ext a b) : At b x := ⟨h.1, by have := h.2; have := he.len; omega⟩
theorem At.grow {a b : BSt} {x : Int} (h : At a x) (he : a.nodes.length ≤ b.nodes.length) : At b x := ⟨h.1, by have := h.2; omega⟩
theorem right_bit (v : Int) (n : Nat) : rightB ⟨0, flag v, 0, 0⟩ n = true := by
  by_cases h : v = 0 <;> simp [rightB, many, usesR, bitB, flag, h]
theorem right_not {x : Int} {st : BSt} (h : At st x) : rightB ⟨2, x, 0, 0⟩ st.nodes.length = true := by simp [rightB, many, usesR, bitB]; exact h
theorem right_two {k x y : Int} {st : BSt} (hk : k = 3 ∨ k = 4 ∨ k = 5) (h : At st x) (h' : At st y) : rightB ⟨k, x, y, 0⟩ st.nodes.length = true := by
  rcases hk with rfl | rfl | rfl <;> (simp [rightB, many, usesR, bitB]; exact ⟨h, h'⟩)
theorem right_mux {x y c : Int} {st : BSt} (h : At st x) (h' : At st y) (hc : At st c) : rightB ⟨6, x, y, c⟩ st.nodes.length = true := by simp [rightB, many, usesR, bitB]; exact ⟨h, h', hc⟩
theorem gate_went {kind x y : Int} {st : BSt} (h : At st x) (h' : At st y) : Went st (bGate kind x y st).2 1 ∧ At (bGate kind x y st).2 (bGate kind x y st).1 := by
  unfold bGate
  split
  · exact ⟨lay_went (right_two (.inl rfl) h h'), lay_there _ _⟩
  · split
    · exact ⟨lay_went (right_two (.inr (.inl rfl)) h h'), lay_there _ _⟩
    · exact ⟨lay_went (right_two (.inr (.inr rfl)) h h'), lay_there _ _⟩
theorem mapS_went {α : Type} (f : α → BSt → Int × BSt) (G : BSt → α → Prop) (hG : ∀ a b x, Ext a b → G a x → G b x) (hf : ∀ x s, G s x → Went s (f x s).2 1 ∧ At (f x s).2 (f x s).1) :
    ∀ (xs : List α) (s : BSt), (∀ x ∈ xs, G s x) → Went s (mapS f xs s).2 xs.length ∧ Okay (mapS f xs s).2 (mapS f xs s).1
  | [], s, _ => ⟨Went.refl s, Okay.nil _⟩
  | x :: xs, s, h => by
    obtain ⟨h1, h2⟩ := hf x s (h x (by simp))
    obtain ⟨h3, h4⟩ := mapS_went f G hG hf xs (f x s).2 (fun y hy => hG _ _ _ h1.ext (h y (by simp [hy])))
    refine ⟨(h1.trans h3).mono (by simp; omega), fun y hy => ?_⟩
    simp only [mapS, List.mem_cons] at hy
    rcases hy with rfl | hy
    · exact h2.ext h3.ext
    · exact h4 y hy
theorem pad_went {xs : List Int} {n : Nat} {st : BSt} (h : Okay st xs) : Went st (bPad xs n st).2 n ∧ Okay (bPad xs n st).2 (bPad xs n st).1 := by
  obtain ⟨h1, h2⟩ := mapS_went (fun _ : Unit => bBit 0) (fun _ _ => True) (fun _ _ _ _ h => h) (fun _ s _ => ⟨lay_went (right_bit _ _), lay_there _ _⟩) (List.replicate (n - xs.length) ()) st (fun _ _ => trivial)
  exact ⟨h1.mono (by simp), ((h.take n).ext h1.ext).append h2⟩
theorem both_went {xs ys : List Int} {st : BSt} (h : Okay st xs) (k : Okay st ys) : Went st (bBoth xs ys st).2 (2 * max xs.length ys.length) ∧ Okay (bBoth xs ys st).2 (bBoth xs ys st).1.1 ∧ Okay (bBoth xs ys st).2 (bBoth xs ys st).1.2 := by
  obtain ⟨h1, h2⟩ := pad_went (n := max xs.length ys.length) h
  obtain ⟨h3, h4⟩ := pad_went (n := max xs.length ys.length) (k.ext h1.ext)
  exact ⟨(h1.trans h3).mono (by omega), h2.ext h3.ext, h4⟩
theorem each_went {kind : Int} {xs ys : List Int} {st : BSt} (h : Okay st xs) (k : Okay st ys) : Went st (bEach kind xs ys st).2 (3 * max xs.length ys.length) ∧ Okay (bEach kind xs ys st).2 (bEach kind xs ys st).1 := by
  obtain ⟨h1, h2, h3⟩ := both_went h k
  obtain ⟨l1, l2⟩ := both_lens xs ys st
  obtain ⟨h4, h5⟩ := mapS_went (fun q : Int × Int => bGate kind q.1 q.2) (fun s q => At s q.1 ∧ At s q.2) (fun _ _ _ e h => ⟨h.1.ext e, h.2.ext e⟩) (fun _ _ h => gate_went h.1 h.2) ((bBoth xs ys st).1.1.zip (bBoth xs ys st).1.2) (bBoth xs ys st).2 (fun q hq => ⟨h2 _ (List.of_mem_zip hq).1, h3 _ (List.of_mem_zip hq).2⟩)
  exact ⟨(h1.trans h4).mono (by rw [List.length_zip, l1, l2]; omega), h5⟩
theorem pick_went {c : Int} {xs ys : List Int} {st : BSt} (h : Okay st xs) (k : Okay st ys) (hc : At st c) : Went st (bPick xs ys c st).2 (3 * max xs.length ys.length) ∧ Okay (bPick xs ys c st).2 (bPick xs ys c st).1 := by
  obtain ⟨h1, h2, h3⟩ := both_went h k
  obtain ⟨l1, l2⟩ := both_lens xs ys st
  obtain ⟨h4, h5⟩ := mapS_went (fun q : Int × Int => bMux q.1 q.2 c) (fun s q => (At s q.1 ∧ At s q.2) ∧ At s c) (fun _ _ _ e h => ⟨⟨h.1.1.ext e, h.1.2.ext e⟩, h.2.ext e⟩) (fun _ _ h => ⟨lay_went (right_mux h.1.1 h.1.2 h.2), lay_there _ _⟩) ((bBoth xs ys st).1.1.zip (bBoth xs ys st).1.2) (bBoth xs ys st).2 (fun q hq => ⟨⟨h2 _ (List.of_mem_zip hq).1, h3 _ (List.of_mem_zip hq).2⟩, hc.ext h1.ext⟩)
  exact ⟨(h1.trans h4).mono (by rw [List.length_zip, l1, l2]; omega), h5⟩
theorem nots_went {xs : List Int} {st : BSt} (h : Okay st xs) : Went st (bNots xs st).2 xs.length ∧ Okay (bNots xs st).2 (bNots xs st).1 :=
  mapS_went bNot (fun s x => At s x) (fun _ _ _ e h => h.ext e) (fun _ _ h => ⟨lay_went (right_not h), lay_there _ _⟩) xs st h
theorem word_went (m n : Nat) (st : BSt) : Went st (bWord m n st).2 n ∧ Okay (bWord m n st).2 (bWord m n st).1 := by
  have := mapS_went (fun k => bBit (b2i (m.testBit k))) (fun _ _ => True) (fun _ _ _ _ h => h) (fun _ s _ => ⟨lay_went (right_bit _ _), lay_there _ _⟩) (List.range n) st (fun _ _ => trivial)
  rw [List.length_range] at this
  exact this
theorem in_went (name : ByteArray) (n : Nat) (st : BSt) (h : Ordered st.nodes) : Ordered (bIn name n st).2.nodes ∧ (bIn name n st).2.nodes.length = st.nodes.length + n := by
  have h1 := mapS_went bInput (fun _ _ => True) (fun _ _ _ _ h => h) (fun x s _ => ⟨lay_went (by simp [rightB, many, usesR]), lay_there _ _⟩) (List.range n) st (fun _ _ => trivial)
  have h2 : ∀ (l : List Nat) (s : BSt), (mapS bInput l s).2.nodes.length = s.nodes.length + l.length := by
    intro l
    induction l with
    | nil => intro s; rfl
    | cons a l ih => intro s; simp only [mapS, List.length_cons]; rw [ih]; simp [bInput, lay]; omega
  refine ⟨h1.1.ord h, ?_⟩
  show (mapS bInput (List.range n) st).2.nodes.length = _
  rw [h2, List.length_range]
end Go.Proofs.Ytdljgifoboiaeaa
