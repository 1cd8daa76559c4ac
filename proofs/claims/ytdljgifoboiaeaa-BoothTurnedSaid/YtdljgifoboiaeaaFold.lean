/- slices.Chunk, an iterator over the parts of a row; build.Fold. -/
import Derived.Test.YtdljgifoboiaeaaRange
import Derived.Test.YtdljgifoboiaeaaAdd
import Derived.LoopNIn
import Derived.LoopIn
import Derived.OwnWalkIn
import Derived.TacticsInMore
import Derived.WalkKit
import Derived.Laws.EntriesVeiled
import Derived.Shelf.Abstract
namespace Go.Proofs.Ytdljgifoboiaeaa
open Go.RowKit
attribute [local go_sem] Oper.semAt_some

theorem chunk_calls (w : World) (A : Option Addr) (n c : Nat) (k : Int) (hk : 1 ≤ k) :
    Calls Try.prog 114 #[.slice A n c, .int .i64 k] w fun e w' => e = .returned (.func (.func 131) #[] #[.pointer (some ⟨w.heap.size, 0, none⟩), .pointer (some ⟨w.heap.size + 1, 0, none⟩)]) ∧
      w' = (w.alloc (.cells #[.slice A n c] 26)).alloc (.cells #[.int .i64 k] 3) := by
  have hk2 : ¬ k < 1 := by omega
  go_enter Try.func114, Try.ntmps114
  go_wp2
  go_ret
  simp

/-- a part of a row: from its place on, so many -/
def chunkOf (b off n k i : Nat) : Value := .slice (some ⟨b, off + i, none⟩) (min k (n - i)) (min k (n - i))

set_option maxHeartbeats 1000000 in
attribute [local go_sem] max2_int min2_int max_two min_two in
theorem chunk_iter (m b1 b2 b off n c k : Nat) (hk : 0 < k ∧ k ≤ 4294967296) (hn : n ≤ c ∧ n ≤ 4294967296 ∧ c ≤ maxLen) :
    Iter Try.prog m 131 #[.pointer (some ⟨b1, 0, none⟩), .pointer (some ⟨b2, 0, none⟩)] (fun i : Nat => #[chunkOf b off n k i])
      (fun V => V.cell? ⟨b1, 0, none⟩ = some (.slice (some ⟨b, off, none⟩) n c) ∧ V.cell? ⟨b2, 0, none⟩ = some (.int .i64 k)) (fun pre i => i = k * pre.length ∧ i < n) (fun xs => n ≤ k * xs.length ∧ k * xs.length < n + k) := by
  intro l J W hB hd hY h0
  refine callsIn_of_wp Try.func131 rfl trivial ?_ rfl
  simp only [Try.ntmps131, List.size_toArray, List.length_cons, List.length_nil, Nat.reduceAdd, Nat.reduceSub, Array.replicate_succ, Array.replicate_zero, List.push_toArray, List.append_toArray, List.nil_append, List.cons_append]
  unfold maxLen at hn
  gi_wp2
  gi_loopw [4] (fun i V => ∃ pre : List Nat, i = .int .i64 ((k * pre.length : Nat) : Int) ∧ k * pre.length < n + k ∧ J pre V) (fun i _ => n + k - (intOf i).toNat)
  case atStart => exact ⟨[], by simp, by simp; omega, h0⟩
  case round =>
    obtain ⟨pre, rfl, hlt, hJ⟩ := hrel
    obtain ⟨q1, q2⟩ := hB _ _ hJ
    obtain ⟨i, hi⟩ : ∃ i, k * pre.length = i := ⟨_, rfl⟩
    rw [hi] at hlt ⊢
    by_cases hin : i < n
    · obtain ⟨fn, tmps, asg, bd, hy, hR⟩ := hY pre i wr.drew (hd _ _ hJ) ⟨hi.symm, hin⟩
      obtain ⟨d, hdd⟩ : ∃ d, min k (n - i) = d := ⟨_, rfl⟩
      have e3 : min (k : Int) ((n - i : Nat) : Int) = d := by omega
      unfold chunkOf at hy
      rw [hdd] at hy
      have HY := Lib.hid hy
      have HI := Lib.hid hi
      have e4 : i + d ≤ n := by omega
      have e5 : 0 < d := by omega
      clear hy hi hdd
      have e1 : i ≤ n := by omega
      have e2 : ¬ c = i := by omega
      have d1 : wr.drew.cell? ⟨b1, 0, none⟩ = some (.slice (some ⟨b, off, none⟩) n c) := q1
      have d2 : wr.drew.cell? ⟨b2, 0, none⟩ = some (.int .i64 k) := q2
      gi_wp2
      refine wpIn_wide.2 ?_
      go_region_held3 (fun V => V.cell? ⟨b1, 0, none⟩ = some (.slice (some ⟨b, off, none⟩) n c) ∧ V.cell? ⟨b2, 0, none⟩ = some (.int .i64 k)) (first | with_reducible exact ⟨d1, d2⟩) (fail)
      have hy := HY.out
      gi_wp2
      refine ⟨fun h => (by cases h), hR.mono ?_⟩
      rintro e W' ⟨rfl, hJ'⟩
      obtain ⟨d3, d4⟩ := hB _ _ hJ'
      clear hy hR d1 d2 q1 q2 hY
      gi_wp2
      go_roundw
      case rel => exact ⟨pre ++ [i], by rw [List.length_append, List.length_singleton, Nat.mul_add, HI.out, Nat.mul_one]; go_num, by rw [List.length_append, List.length_singleton, Nat.mul_add, HI.out]; omega, hJ'⟩
      case measure => simp [intOf]; omega
    · gi_wp2
      go_end0
      exact ⟨⟨_, rfl⟩, pre, by omega, hJ⟩

/-! ### all bits together -/
def foldB (kind : Int) (l : List Bool) : Bool := l.foldr (gateK kind) (decide (kind = 3))
theorem foldB_nil (kind : Int) : foldB kind [] = decide (kind = 3) := rfl
theorem foldB_cons (kind : Int) (a : Bool) (l : List Bool) : foldB kind (a :: l) = gateK kind a (foldB kind l) := rfl
theorem gateK_assoc (kind : Int) (a b c : Bool) : gateK kind (gateK kind a b) c = gateK kind a (gateK kind b c) := by
  unfold gateK
  split
  · cases a <;> cases b <;> cases c <;> rfl
  · split <;> cases a <;> cases b <;> cases c <;> rfl
theorem gateK_one (kind : Int) (a : Bool) : gateK kind a (decide (kind = 3)) = a := by
  unfold gateK
  by_cases h3 : kind = 3
  · simp [h3]
  · by_cases h4 : kind = 4 <;> simp [h3, h4]
theorem gateK_one' (kind : Int) (a : Bool) : gateK kind (decide (kind = 3)) a = a := by
  unfold gateK
  by_cases h3 : kind = 3
  · simp [h3]
  · by_cases h4 : kind = 4 <;> simp [h3, h4]
theorem foldB_append (kind : Int) (l m : List Bool) : foldB kind (l ++ m) = gateK kind (foldB kind l) (foldB kind m) := by
  induction l with
  | nil => rw [List.nil_append, foldB_nil, gateK_one']
  | cons a l ih => rw [List.cons_append, foldB_cons, ih, foldB_cons, gateK_assoc]
theorem fold_two (kind : Int) (V : Int → Bool) {ys : List Int} {i : Nat} (h : i + 1 < ys.length) : foldB kind ((ys.take (i + 2)).map V) = gateK kind (foldB kind ((ys.take i).map V)) (gateK kind (V (ys[i]'(by omega))) (V ys[i + 1])) := by
  rw [show i + 2 = i + 1 + 1 from rfl, List.take_succ_eq_append_getElem h, List.take_succ_eq_append_getElem (by omega : i < ys.length), List.map_append, List.map_append, foldB_append, foldB_append, gateK_assoc]
  simp [foldB_cons, foldB_nil, gateK_one]
theorem fold_last (kind : Int) (V : Int → Bool) {ys : List Int} {i : Nat} (h : i < ys.length) (h2 : ys.length ≤ i + 1) : foldB kind ((ys.take (i + 2)).map V) = gateK kind (foldB kind ((ys.take i).map V)) (V ys[i]) := by
  rw [show ys.take (i + 2) = ys.take (i + 1) by rw [List.take_of_length_le (by omega), List.take_of_length_le (by omega)], List.take_succ_eq_append_getElem h, List.map_append, foldB_append]
  simp [foldB_cons, foldB_nil, gateK_one]
theorem fold_snoc (kind : Int) (V : Int → Bool) (r : List Int) (g : Int) : foldB kind ((r ++ [g]).map V) = gateK kind (foldB kind (r.map V)) (V g) := by
  rw [List.map_append, foldB_append]
  simp [foldB_cons, foldB_nil, gateK_one]
theorem foldB_one (kind : Int) (a : Bool) : foldB kind [a] = a := gateK_one kind a

section
variable {C : World → Prop} {p X : Nat} {st0 st st' : BSt} {w w' : World} {N n : Nat} {L : List Ent} {K F : (Int → Bool) → Prop}
/-- the gate of a kind -/
theorem gate_fold (p : Nat) (kind : Int) : ∃ f, (∀ w, Calls Try.prog 102 #[.pointer (some ⟨p, 0, none⟩), .int .i64 kind] w fun e w' => e = .returned (.func (.func f) #[.pointer (some ⟨p, 0, none⟩)] #[]) ∧ w = w') ∧
    (∀ (args : Array Value) (W : World), (callFunc f args).run Try.prog W = .ok (.enter f args) W) ∧
    ∀ (C : World → Prop) (X : Nat) (st0 st : BSt) (w : World) (N : Nat) (L : List Ent) (K : (Int → Bool) → Prop) (x y : Int), Env C p X st0 w st N L K → At st x → At st y → N < 1099511627776 →
      Calls Try.prog f #[.pointer (some ⟨p, 0, none⟩), .int .i64 x, .int .i64 y] w (ToldPl C p X st0 st w (N + 1) L K fun V c => V c = gateK kind (V x) (V y)) := by
  obtain ⟨f, h1, h2, h3⟩ := gate_calls p kind
  refine ⟨f, h1, h2, fun C X st0 st w N L K x y E hx hy hN => (h3 _ _ _ _ E.rep (E.fits hN)).mono fun e w' ⟨he, hL⟩ => ?_⟩
  subst he
  by_cases k3 : kind = 3
  · have hb : ∀ x y s, bGate kind x y s = bAnd x y s := fun x y s => if_pos k3
    rw [hb] at hL ⊢
    exact E.lay (right_two (.inl rfl) hx hy) hL fun V hV => (sat_and hV).trans (by simp [gateK, k3])
  · by_cases k4 : kind = 4
    · have hb : ∀ x y s, bGate kind x y s = bOr x y s := fun x y s => (if_neg k3).trans (if_pos k4)
      rw [hb] at hL ⊢
      exact E.lay (right_two (.inr (.inl rfl)) hx hy) hL fun V hV => (sat_or hV).trans (by simp [gateK, k4])
    · have hb : ∀ x y s, bGate kind x y s = bXor x y s := fun x y s => (if_neg k3).trans (if_neg k4)
      rw [hb] at hL ⊢
      exact E.lay (right_two (.inr (.inr rfl)) hx hy) hL fun V hV => (sat_xor hV).trans (by simp [gateK, k3, k4])
/-- append of one place, as a step of a region: what is no cells stays -/
theorem app2R {P : Program} {o : Oper} {a : Act} {Q : Exit → Act → World → Prop} {W : World} {J : Act → World → Prop} (s x : Operand) (ho : o.op = .call { callee := .builtin .append, args := #[s, x], argTypes := #[26, 26] })
    (ht : P.underlying 26 = some (.slice 3)) (hinfo : (P.info? 3).map (fun i => (i.zero, i.size, i.bytes)) = some (some (.int .i64 0), 1, 8))
    (E : Env C p X st0 W st N L K) {B : Nat} {v : Value} {xs : List Int} (hf : Fine W p st B v xs) (hXB : X ≤ B) (hB : B ≤ W.heap.size) (hs : a.eval s = v)
    (y : Int) (hx : a.eval x = .slice (some ⟨W.heap.size, 0, none⟩) 1 1) (hy : At st y) (hl : xs.length + 1 ≤ 1024)
    (hK : ∀ v' w', Kept B (some p) W w' → KeepsOthers W w' → W.grownBy w' v.ownBlock → Fine w' p st B v' (xs ++ [y]) → Env C p X st0 w' st N L K → J (a.put o.dst v') w') :
    o.wp P a (W.alloc (.cells #[.int .i64 y] 3)) J Q :=
  wp_app1 kInt 3 26 (.int .i64 0) 8 s x ho ht hinfo rfl (by decide) (by decide) (some p) B hf.own E.rep.fin hB hs y [.int .i64 y] hx rfl (by omega)
    fun v' w' q1 q2 _ _ q5 _ => hK v' w' q2 (KeepsOthers.of_grownBy q5 fun j o hj ho => by
      obtain ⟨css, h1, -⟩ := hf.own
      obtain ⟨cs, t, fr, hh⟩ := rowv_cells h1 hj
      rw [hh] at ho
      injection ho with ho
      rw [← ho]; rfl) q5 ⟨q1, hf.okay.append (Okay.one hy), by simp; omega⟩ (E.kept (q2.mono hXB) (E.rep.grown q5 fun g hg => hf.own.off hg))
end
end Go.Proofs.Ytdljgifoboiaeaa
