/- What the builder's functions compute, as plain functions of the builder's state. No program in sight. -/
import Derived.Test.YtdljgifoboiaeaaKinds
namespace Go.Proofs.Ytdljgifoboiaeaa

/-- a loop that lays: element by element, the state handed on -/
def mapS {α β σ : Type} (f : α → σ → β × σ) : List α → σ → List β × σ
  | [], s => ([], s)
  | x :: xs, s => ((f x s).1 :: (mapS f xs (f x s).2).1, (mapS f xs (f x s).2).2)
theorem mapS_append {α β σ : Type} (f : α → σ → β × σ) (xs ys : List α) (s : σ) :
    mapS f (xs ++ ys) s = ((mapS f xs s).1 ++ (mapS f ys (mapS f xs s).2).1, (mapS f ys (mapS f xs s).2).2) := by
  induction xs generalizing s with
  | nil => simp [mapS]
  | cons x xs ih => simp [mapS, ih]
theorem mapS_snoc {α β σ : Type} (f : α → σ → β × σ) (xs : List α) (y : α) (s : σ) :
    mapS f (xs ++ [y]) s = ((mapS f xs s).1 ++ [(f y (mapS f xs s).2).1], (f y (mapS f xs s).2).2) := by
  rw [mapS_append]; rfl
theorem mapS_length {α β σ : Type} (f : α → σ → β × σ) (xs : List α) (s : σ) : (mapS f xs s).1.length = xs.length := by
  induction xs generalizing s with
  | nil => rfl
  | cons x xs ih => simp [mapS, ih]
theorem mapS_take_succ {α β σ : Type} (f : α → σ → β × σ) (xs : List α) (k : Nat) (hk : k < xs.length) (s : σ) :
    mapS f (xs.take (k + 1)) s = ((mapS f (xs.take k) s).1 ++ [(f xs[k] (mapS f (xs.take k) s).2).1], (f xs[k] (mapS f (xs.take k) s).2).2) := by
  rw [List.take_succ_eq_append_getElem hk, mapS_snoc]

/-- nothing but more nodes -/
def Ext (s s' : BSt) : Prop := ∃ l, s' = { s with nodes := s.nodes ++ l }
theorem Ext.refl (s : BSt) : Ext s s := ⟨[], by simp⟩
theorem Ext.trans {a b c : BSt} (h : Ext a b) (k : Ext b c) : Ext a c := by
  obtain ⟨l, rfl⟩ := h; obtain ⟨m, rfl⟩ := k
  exact ⟨l ++ m, by simp⟩
theorem Ext.len {a b : BSt} (h : Ext a b) : a.nodes.length ≤ b.nodes.length := by obtain ⟨l, rfl⟩ := h; simp
theorem mapS_ext {α β : Type} (f : α → BSt → β × BSt) (hf : ∀ x s, Ext s (f x s).2) (xs : List α) (s : BSt) : Ext s (mapS f xs s).2 := by
  induction xs generalizing s with
  | nil => exact Ext.refl s
  | cons x xs ih => exact (hf x s).trans (ih _)
/-- how many nodes a loop lays at most -/
theorem mapS_cost {α β : Type} (f : α → BSt → β × BSt) (n : Nat) (xs : List α) (hf : ∀ x, x ∈ xs → ∀ s, (f x s).2.nodes.length ≤ s.nodes.length + n) (s : BSt) : (mapS f xs s).2.nodes.length ≤ s.nodes.length + xs.length * n := by
  induction xs generalizing s with
  | nil => simp [mapS]
  | cons x xs ih =>
    have h1 := hf x (by simp) s
    have h2 := ih (fun y hy => hf y (by simp [hy])) (f x s).2
    simp only [mapS, List.length_cons, Nat.add_mul]
    omega
theorem mapS_ext_le {α β : Type} (f : α → BSt → β × BSt) (hf : ∀ x s, Ext s (f x s).2) (xs : List α) (k : Nat) (s : BSt) : Ext (mapS f (xs.take k) s).2 (mapS f xs s).2 := by
  conv => rhs; rw [← List.take_append_drop k xs, mapS_append]
  exact mapS_ext f hf _ _

/-- a net may not have more nodes than this here -/
def lim : Nat := 1099511627776
def BSt.fits (s : BSt) : Prop := s.nodes.length ≤ lim
theorem Ext.fits {a b : BSt} (h : Ext a b) (hb : b.fits) : a.fits := Nat.le_trans h.len hb

def lay (x : Node) (s : BSt) : Int × BSt := ((s.nodes.length : Int), { s with nodes := s.nodes ++ [x] })
theorem lay_ext (x : Node) (s : BSt) : Ext s (lay x s).2 := ⟨[x], rfl⟩
theorem lay_len (x : Node) (s : BSt) : (lay x s).2.nodes.length = s.nodes.length + 1 := by simp [lay]
def flag (v : Int) : Int := if v = 0 then 0 else 1
def bBit (v : Int) (s : BSt) : Int × BSt := lay ⟨0, flag v, 0, 0⟩ s
def bNot (x : Int) (s : BSt) : Int × BSt := lay ⟨2, x, 0, 0⟩ s
def bAnd (x y : Int) (s : BSt) : Int × BSt := lay ⟨3, x, y, 0⟩ s
def bOr (x y : Int) (s : BSt) : Int × BSt := lay ⟨4, x, y, 0⟩ s
def bXor (x y : Int) (s : BSt) : Int × BSt := lay ⟨5, x, y, 0⟩ s
def bMux (x y c : Int) (s : BSt) : Int × BSt := lay ⟨6, x, y, c⟩ s
def bReg (x first : Int) (s : BSt) : Int × BSt := lay ⟨7, x, flag first, 0⟩ s
def bInput (_ : Nat) (s : BSt) : Int × BSt := lay ⟨1, 0, 0, 0⟩ s

/-- a word filled up, or cut -/
def bPad (xs : List Int) (n : Nat) (s : BSt) : List Int × BSt :=
  let r := mapS (fun _ => bBit 0) (List.replicate (n - xs.length) ()) s
  (xs.take n ++ r.1, r.2)
def bBoth (xs ys : List Int) (s : BSt) : (List Int × List Int) × BSt :=
  let r := bPad xs (max xs.length ys.length) s
  let q := bPad ys (max xs.length ys.length) r.2
  ((r.1, q.1), q.2)
def bGate (kind : Int) (x y : Int) (s : BSt) : Int × BSt := if kind = 3 then bAnd x y s else if kind = 4 then bOr x y s else bXor x y s
def bEach (kind : Int) (xs ys : List Int) (s : BSt) : List Int × BSt :=
  let r := bBoth xs ys s
  mapS (fun q : Int × Int => bGate kind q.1 q.2) (r.1.1.zip r.1.2) r.2
def bNots (xs : List Int) (s : BSt) : List Int × BSt := mapS bNot xs s
def bPick (xs ys : List Int) (c : Int) (s : BSt) : List Int × BSt :=
  let r := bBoth xs ys s
  mapS (fun q : Int × Int => bMux q.1 q.2 c) (r.1.1.zip r.1.2) r.2
/-- pair by pair -/
def foldRound (kind : Int) : List Int → BSt → List Int × BSt
  | x :: y :: r, s => ((bGate kind x y s).1 :: (foldRound kind r (bGate kind x y s).2).1, (foldRound kind r (bGate kind x y s).2).2)
  | [x], s => ([x], s)
  | [], s => ([], s)
theorem foldRound_length (kind : Int) : ∀ (xs : List Int) (s : BSt), (foldRound kind xs s).1.length = (xs.length + 1) / 2
  | [], s => rfl
  | [x], s => by simp [foldRound]
  | x :: y :: r, s => by simp [foldRound, foldRound_length kind r]; omega
def foldAll (kind : Int) : Nat → List Int → BSt → Int × BSt
  | 0, _, s => (0, s)
  | n + 1, xs, s => match xs with
    | [] => (0, s)
    | [x] => (x, s)
    | x :: y :: r => foldAll kind n (foldRound kind (x :: y :: r) s).1 (foldRound kind (x :: y :: r) s).2
def bFold (kind : Int) (xs : List Int) (s : BSt) : Int × BSt :=
  if xs = [] then bBit (if kind = 3 then 1 else 0) s else foldAll kind xs.length xs s
def bSame (xs ys : List Int) (s : BSt) : Int × BSt :=
  let r := bEach 5 xs ys s
  let q := bFold 4 r.1 r.2
  bNot q.1 q.2
def bRegs (xs : List Int) : Nat → BSt → List Int × BSt
  | 0, s => (xs, s)
  | n + 1, s =>
    let r := bRegs xs n s
    mapS (fun x => bReg x 0) r.1 r.2
def bIn (name : ByteArray) (n : Nat) (s : BSt) : List Int × BSt :=
  let r := mapS bInput (List.range n) s
  (r.1, { r.2 with ins := r.2.ins ++ [⟨name, r.1⟩] })
def bOut (name : ByteArray) (xs : List Int) (s : BSt) : BSt := { s with outs := s.outs ++ [⟨name, xs⟩] }

theorem gate_ext (kind x y : Int) (s : BSt) : Ext s (bGate kind x y s).2 := by
  unfold bGate; split
  · exact lay_ext _ s
  · split <;> exact lay_ext _ s
theorem pad_ext (xs : List Int) (n : Nat) (s : BSt) : Ext s (bPad xs n s).2 := mapS_ext _ (fun _ s => lay_ext _ s) _ s
theorem both_ext (xs ys : List Int) (s : BSt) : Ext s (bBoth xs ys s).2 := (pad_ext _ _ _).trans (pad_ext _ _ _)
theorem each_ext (kind : Int) (xs ys : List Int) (s : BSt) : Ext s (bEach kind xs ys s).2 := (both_ext _ _ _).trans (mapS_ext _ (fun _ s => gate_ext _ _ _ s) _ _)
theorem nots_ext (xs : List Int) (s : BSt) : Ext s (bNots xs s).2 := mapS_ext _ (fun _ s => lay_ext _ s) _ s
theorem pick_ext (xs ys : List Int) (c : Int) (s : BSt) : Ext s (bPick xs ys c s).2 := (both_ext _ _ _).trans (mapS_ext _ (fun _ s => lay_ext _ s) _ _)
theorem foldRound_ext (kind : Int) : ∀ (xs : List Int) (s : BSt), Ext s (foldRound kind xs s).2
  | [], s => Ext.refl s
  | [x], s => Ext.refl s
  | x :: y :: r, s => (gate_ext _ _ _ _).trans (foldRound_ext kind r _)
theorem foldAll_ext (kind : Int) : ∀ (n : Nat) (xs : List Int) (s : BSt), Ext s (foldAll kind n xs s).2
  | 0, xs, s => Ext.refl s
  | n + 1, [], s => Ext.refl s
  | n + 1, [x], s => Ext.refl s
  | n + 1, x :: y :: r, s => (foldRound_ext _ _ _).trans (foldAll_ext kind n _ _)
theorem fold_ext (kind : Int) (xs : List Int) (s : BSt) : Ext s (bFold kind xs s).2 := by
  unfold bFold; split
  · exact lay_ext _ s
  · exact foldAll_ext _ _ _ _
theorem same_ext (xs ys : List Int) (s : BSt) : Ext s (bSame xs ys s).2 := (each_ext _ _ _ _).trans ((fold_ext _ _ _).trans (lay_ext _ _))
theorem regs_ext (xs : List Int) : ∀ (n : Nat) (s : BSt), Ext s (bRegs xs n s).2
  | 0, s => Ext.refl s
  | n + 1, s => (regs_ext xs n s).trans (mapS_ext _ (fun _ s => lay_ext _ s) _ _)

theorem pad_length (xs : List Int) (n : Nat) (s : BSt) : (bPad xs n s).1.length = n := by
  simp [bPad, mapS_length]; omega
theorem each_length (kind : Int) (xs ys : List Int) (s : BSt) : (bEach kind xs ys s).1.length = max xs.length ys.length := by
  simp [bEach, mapS_length, bBoth, pad_length]
theorem nots_length (xs : List Int) (s : BSt) : (bNots xs s).1.length = xs.length := mapS_length _ _ _
theorem pick_length (xs ys : List Int) (c : Int) (s : BSt) : (bPick xs ys c s).1.length = max xs.length ys.length := by
  simp [bPick, mapS_length, bBoth, pad_length]

end Go.Proofs.Ytdljgifoboiaeaa
