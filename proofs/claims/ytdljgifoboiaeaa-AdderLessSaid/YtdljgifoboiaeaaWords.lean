/- Words: filled up, bit by bit, chosen, turned. -/
import Derived.Test.YtdljgifoboiaeaaGates
import Derived.Test.YtdljgifoboiaeaaClone
import Derived.Deep.LoopGhost
import Derived.LoopTactic
import Derived.Deep.QuietTactic
import Derived.BigQuiet
namespace Go.Proofs.Ytdljgifoboiaeaa
open Go.RowKit

theorem max2_int (k k' : IntKind) (x y : Int) : Builtin.max2 (.int k x) (.int k' y) = pure (.int k (max x y)) := by
  simp only [Builtin.max2, gt_iff_lt]
  congr 2
  simp only [Int.max_def]
  split <;> split <;> omega
theorem min2_int (k k' : IntKind) (x y : Int) : Builtin.min2 (.int k x) (.int k' y) = pure (.int k (min x y)) := by
  simp only [Builtin.min2]
  congr 2
  simp only [Int.min_def]
  split <;> split <;> omega
theorem max_two (ats : Array TypeId) (ty : TypeId) (a b : Value) : Builtin.max_ ats ty #[a, b] = (Builtin.max2 a b >>= fun s => pure s) := by simp only [Builtin.max_, List.foldlM_cons, List.foldlM_nil]
theorem min_two (ats : Array TypeId) (ty : TypeId) (a b : Value) : Builtin.min_ ats ty #[a, b] = (Builtin.min2 a b >>= fun s => pure s) := by simp only [Builtin.min_, List.foldlM_cons, List.foldlM_nil]

theorem Laid.refl {w : World} {p : Nat} {st : BSt} (h : BRep w p st) : Laid w p st w := ⟨h, Kept.refl _ _ _⟩
theorem Laid.trans {w w1 w2 : World} {p : Nat} {st st' : BSt} (h : Laid w p st w1) (k : Laid w1 p st' w2) : Laid w p st' w2 := ⟨k.1, h.2.trans (k.2.mono h.2.size)⟩
theorem Laid.quiet {w w1 w2 : World} {p : Nat} {st : BSt} (h : Laid w p st w1) (k : Below w1.heap.size w1 w2) : Laid w p st w2 :=
  ⟨h.1.below k, h.2.trans (Kept.of_below_all k h.1.fin h.2.size)⟩
theorem Own.laid {α : Type} {k : Kd α} {e : TypeId} {w w' : World} {p : Nat} {st : BSt} {B : Nat} {v : Value} {xs : List α} (h : Own k e w (some p) B v xs) (hL : Laid w p st w') : Own k e w' (some p) B v xs := h.kept hL.2
theorem Row.laid {α : Type} {k : Kd α} {w w' : World} {p : Nat} {st : BSt} {B : Nat} {v : Value} {xs : List α} (h : Row k w (may w (some p) B) v xs) (hL : Laid w p st w') (hB : B ≤ w.heap.size) : Row k w' (may w' (some p) B) v xs := h.kept (hL.2.mono hB)

/-- numbers of a call that knows of no builder are none of the builder's -/
theorem Own.give {w w' : World} {p : Nat} {e : TypeId} {v : Value} {xs : List Int} (h : Own kInt e w' none w.heap.size v xs) (hF : FootIn w (some p)) (hb : Below w.heap.size w w') : Own kInt e w' (some p) w.heap.size v xs := by
  have hfo : ∀ i, foot w' (some p) i ↔ foot w (some p) i := foot_of_heap fun i hi => hb.block i (hF i hi)
  obtain ⟨css, h1, h2, h3⟩ := h
  refine ⟨css, h1, ⟨h2.1, fun i x cs hx hc => h2.2 i x cs hx hc⟩, fun g hg hf => ?_⟩
  have := (h1.lt g hg).1
  have := hF g ((hfo g).1 hf)
  omega

section
variable {P : Program} {o : Oper} {a : Act} {Q : Exit → Act → World → Prop}
/-- append(v, x), the builder at hand -/
theorem app1B {α : Type} (k : Kd α) (e t : TypeId) (z : Value) (bytes : Nat) {W : World} {ops : Array Oper} {rest : List Oper} (hgd : o.guard = none)
    (s x : Operand) (ho : o.op = .call { callee := .builtin .append, args := #[s, x], argTypes := #[t, t] })
    (ht : P.underlying t = some (.slice e)) (hinfo : (P.info? e).map (fun i => (i.zero, i.size, i.bytes)) = some (some z, k.size, bytes)) (hz : z.cells.size = k.size) (hk0 : 0 < k.size) (hb0 : 0 < bytes)
    (p : Nat) (st : BSt) (hBR : BRep W p st) (B : Nat) {v : Value} {xs : List α} (hO : Own k e W (some p) B v xs) (hB : B ≤ W.heap.size) (hs : a.eval s = v)
    (y : α) (cs : List Value) (hx : a.eval x = .slice (some ⟨W.heap.size, 0, none⟩) 1 1)
    (hP : k.K W (fun i => foot W (some p) i ∨ v.ownBlock = some i) y cs)
    (hl : (xs.length + 1) * bytes ≤ 140737488355328)
    (hK : ∀ v' w', Own k e w' (some p) B v' (xs ++ [y]) → BRep w' p st → Kept B (some p) W w' → wpList P ops Q rest (a.put o.dst v') w') :
    wpList P ops Q (o :: rest) a (W.alloc (.cells cs.toArray e)) :=
  app1 k e t z bytes hgd s x ho ht hinfo hz hk0 hb0 (some p) B hO hBR.fin hB hs y cs hx hP hl fun v' w' q1 q2 _ _ q5 _ => hK v' w' q1 (hBR.grown q5 fun g hg => hO.off hg) q2
end

theorem Row.take {α : Type} {k : Kd α} {w : World} {S : Nat → Prop} {A : Option Addr} {c : Nat} {xs : List α} (h : Row k w S (.slice A xs.length c) xs) (n : Nat) (hn : n ≤ xs.length) : Row k w S (.slice A n c) (xs.take n) := by
  obtain ⟨A', c', css, he, h1, h2, h0, h3, h4⟩ := h
  injection he with e1 e2 e3
  subst e1; subst e3
  have hl : (xs.take n).length = n := by simp; omega
  refine ⟨A, c, css.take n, by rw [hl], by omega, h2, h0, h3.take n, fun h0 => ?_⟩
  obtain ⟨b, off, rfl, a1, a2, a3⟩ := h4 (by omega)
  refine ⟨b, off, rfl, a1, a2, fun j u hu => a3 j u ?_⟩
  rw [← List.take_append_drop n css, List.flatten_append, List.getElem?_append_left (List.getElem?_eq_some_iff.1 hu).1]
  exact hu

theorem bits_nodes (k : Nat) (st : BSt) : (mapS (fun _ => bBit 0) (List.replicate k ()) st).2.nodes.length = st.nodes.length + k := by
  induction k generalizing st with
  | zero => rfl
  | succ k ih => simp only [List.replicate_succ, mapS]; rw [ih]; simp [bBit, lay]; omega
theorem bits_succ (k : Nat) (st : BSt) : mapS (fun _ => bBit 0) (List.replicate (k + 1) ()) st =
    ((mapS (fun _ => bBit 0) (List.replicate k ()) st).1 ++ [(bBit 0 (mapS (fun _ => bBit 0) (List.replicate k ()) st).2).1], (bBit 0 (mapS (fun _ => bBit 0) (List.replicate k ()) st).2).2) := by
  rw [List.replicate_succ', mapS_snoc]
theorem padRow {w : World} {S : Nat → Prop} {A : Option Addr} {c : Nat} {xs : List Int} (h : Row kInt w S (.slice A xs.length c) xs) (m : Nat) : Row kInt w S (.slice A (min (xs.length : Int) (m : Int)).toNat c) (xs.take m) := by
  have e : (min (xs.length : Int) (m : Int)).toNat = min xs.length m := by omega
  rw [e]
  have := h.take (min xs.length m) (by omega)
  have e2 : xs.take (min xs.length m) = xs.take m := by
    rcases Nat.le_total xs.length m with h | h
    · rw [Nat.min_eq_left h, List.take_of_length_le h, List.take_of_length_le (Nat.le_refl _)]
    · rw [Nat.min_eq_right h]
  rwa [e2] at this

set_option maxHeartbeats 1000000 in
attribute [local go_sem] max2_int min2_int max_two min_two in
theorem pad_calls (w : World) (p : Nat) (st : BSt) (S : Nat → Prop) (v : Value) (xs : List Int) (n : Int) (hB : BRep w p st) (hx : Row kInt w S v xs)
    (hl : xs.length ≤ 1099511627776) (hn : n ≤ 1099511627776) (hf : (bPad xs n.toNat st).2.nodes.length ≤ 1099511627776) :
    Calls Try.prog 30 #[.pointer (some ⟨p, 0, none⟩), v, .int .i64 n] w
      fun e w' => ∃ v', e = .returned v' ∧ Own kInt 3 w' (some p) w.heap.size v' (bPad xs n.toNat st).1 ∧ Laid w p (bPad xs n.toNat st).2 w' := by
  obtain ⟨A, c, rfl, hc1, hc2⟩ := hx.shape
  unfold maxLen at hc2
  obtain ⟨m, hm⟩ : ∃ m : Nat, (max n 0) = m := ⟨n.toNat, by omega⟩
  obtain rfl : n.toNat = m := by omega
  have hx2 := Lib.hid (padRow hx n.toNat)
  generalize hnm : n.toNat = m at *
  have HF := Lib.hid hf
  have HM := Lib.hid hnm
  clear hf hnm hx
  go_enter Try.func30, Try.ntmps30
  go_wp2_with (go_at_call 90; refine (clone_calls _ _ (xs.take m) S hx2.out (by simp; omega)).mono ?_; rintro e w1 ⟨v1, rfl, ho, hb⟩)
  have ho1 := ho.give hB.fin hb
  have hL0 : Laid w p st w1 := (Laid.refl hB).quiet hb
  go_loopw [7] (fun v wr => ∃ k : Nat, k ≤ m - xs.length ∧ Own kInt 3 wr (some p) w.heap.size v (xs.take m ++ (mapS (fun _ => bBit 0) (List.replicate k ()) st).1) ∧ Laid w p (mapS (fun _ => bBit 0) (List.replicate k ()) st).2 wr)
    (fun v _ => m - (match v with | .slice _ n _ => n | _ => 0))
  case atStart => exact ⟨0, by omega, by simpa [mapS] using ho1, hL0⟩
  case round =>
    obtain ⟨k, hk, ho, hL⟩ := hrel
    have hlen : (xs.take m ++ (mapS (fun _ => bBit 0) (List.replicate k ()) st).1).length = min m xs.length + k := by simp [mapS_length]
    have hnk := bits_nodes k st
    have hsucc := bits_succ k st
    have hdone : bPad xs m st = (xs.take m ++ (mapS (fun _ => bBit 0) (List.replicate (m - xs.length) ()) st).1, (mapS (fun _ => bBit 0) (List.replicate (m - xs.length) ()) st).2) := rfl
    have hF2 : st.nodes.length + (m - xs.length) ≤ 1099511627776 := by have := HF.out; rw [hdone, bits_nodes] at this; exact this
    generalize hy : xs.take m ++ (mapS (fun _ => bBit 0) (List.replicate k ()) st).1 = ys at ho hlen
    generalize hs : (mapS (fun _ => bBit 0) (List.replicate k ()) st).2 = sk at hL hnk hsucc
    obtain ⟨A', c', rfl, hc', hm'⟩ := ho.shape
    have HS := Lib.hid hsucc
    have HY := Lib.hid hy
    have HK := Lib.hid hs
    have HD := Lib.hid hdone
    have hmm : m ≤ 1099511627776 := by have := HM.out; omega
    by_cases hlt : ys.length < m
    · have hsk : sk.nodes.length < lim := by show _ < 1099511627776; omega
      have hkl : k < m - xs.length := by omega
      have hyl : ys.length ≤ 1099511627776 := by omega
      clear hsucc hy hs hdone hlen hnk hm' hc'
      go_wp2_with (first
        | (go_at_call 104; refine (bit_calls _ p sk 0 hL.1 hsk).mono ?_; rintro e w2 ⟨rfl, hL2⟩)
        | (at_builtin; refine app1B kInt 3 26 (.int .i64 0) 8 rfl (.tmp 21) (.tmp 24) rfl Try.underlying26 infoInt rfl (by decide) (by decide) p _ hL2.1 w.heap.size (ho.laid hL2) (by have := hL2.2.size; have := hL.2.size; omega) rfl _ _ rfl rfl (by omega) ?_; intro v' w3 ho3 hB3 hk3))
      go_roundw
      case rel =>
        refine ⟨k + 1, by omega, ?_, ?_⟩
        · rw [HS.out, ← List.append_assoc, HY.out]; exact ho3
        · rw [HS.out]; exact ⟨hB3, (hL.2.trans (hL2.2.mono hL.2.size)).trans hk3⟩
      case measure =>
        obtain ⟨A3, c3, rfl, _, _⟩ := ho3.shape
        simp; omega
    · have hkl : k = m - xs.length := by omega
      clear hsucc hy hs hdone hlen hnk hm' hc'
      go_wp2
      go_ret
      rw [HD.out]
      refine ⟨_, rfl, ?_, ?_⟩
      · rw [← hkl, HY.out]; exact ho
      · rw [← hkl, HK.out]; exact hL
end Go.Proofs.Ytdljgifoboiaeaa
