/- Joined texts: Nm, Nn, No, Np. -/
import Derived.Test.YtbfjacgfifecpaaJNA
import Derived.Test.YtbfjacgfifecpaaJNB

/-! ## net.Levels: the walk. -/
namespace Go.Proofs.Ytbfjacgfifecpaa
open Go.RowKit

structure Fits (nodes : List Node) (ins outs : List Port) : Prop where
  nl : nodes.length ≤ 1099511627776
  il : ins.length ≤ 1073741824
  ol : outs.length ≤ 1073741824
  bits : ∀ q ∈ ins ++ outs, q.bits.length ≤ 1099511627776
  names : ∀ q ∈ ins ++ outs, q.name.size ≤ 1099511627776
  sum : (ins.flatMap (·.bits)).length ≤ 1099511627776
def badName (q : Port) : Bool := !nameB q.name
def errP (nodes : List Node) (ins outs : List Port) (b : Bool) : Int :=
  if 262144 < nodes.length ∨ 64 < ins.length + outs.length then 4
  else if formedB nodes ins outs = false then 2
  else if (ins ++ outs).any badName = true then 7
  else if dupB ((ins ++ outs).map (·.name)) = true then 8
  else if homeB nodes ins = false then 10
  else if b = false then 9 else 0
def LevOut (nodes : List Node) (ins outs : List Port) (e : Int) (l : List Int) : Prop :=
  ∃ b : Bool, e = errP nodes ins outs b ∧ (b = true → ∃ k, IsLev nodes k) ∧ (b = false → ¬ ∃ k, IsLev nodes k) ∧ (e = 0 → IsLev nodes l) ∧ (e ≠ 0 → l = [])
theorem LevOut.err {nodes : List Node} {ins outs : List Port} {e : Int} (h0 : e ≠ 0) (h : ∀ b, errP nodes ins outs b = e) : LevOut nodes ins outs e [] := by
  by_cases hx : ∃ k, IsLev nodes k
  · exact ⟨true, (h true).symm, fun _ => hx, fun h => (by simp at h), fun h => absurd h h0, fun _ => rfl⟩
  · exact ⟨false, (h false).symm, fun h => (by simp at h), fun _ => hx, fun h => absurd h h0, fun _ => rfl⟩
theorem formed_in {nodes : List Node} {ins outs : List Port} (hf : formedB nodes ins outs = true) : (∀ x ∈ nodes, ∀ u ∈ usesR x, 0 ≤ u ∧ u < nodes.length) ∧ (∀ q ∈ ins ++ outs, q.bits ≠ [] ∧ ∀ b ∈ q.bits, 0 ≤ b ∧ b < nodes.length) := by
  rw [formedB, Bool.and_eq_true, List.all_eq_true, List.all_eq_true] at hf
  refine ⟨fun x hx => rightB_uses (hf.1 x hx), fun q hq => ?_⟩
  have h := hf.2 q hq
  rw [portB, Bool.and_eq_true, List.all_eq_true] at h
  exact ⟨by simpa using h.1, fun b hb => by simpa using h.2 b hb⟩
theorem formed_inN {nodes : List Node} {ins outs : List Port} (hf : formedB nodes ins outs = true) : InN nodes := fun x hx u hu => by
  unfold usesN at hu
  split at hu
  · simp at hu
  · obtain ⟨z, hz, rfl⟩ := List.mem_map.1 hu
    have := (formed_in hf).1 x hx z hz
    omega
theorem errP_zero {nodes : List Node} {ins outs : List Port} {b : Bool} (h : errP nodes ins outs b = 0) : (nodes.length ≤ 262144 ∧ ins.length + outs.length ≤ 64) ∧ formedB nodes ins outs = true ∧ (ins ++ outs).any badName = false ∧ dupB ((ins ++ outs).map (·.name)) = false ∧ homeB nodes ins = true ∧ b = true := by
  unfold errP at h
  repeat' split at h
  all_goals first | omega | simp_all
theorem errP_nine {nodes : List Node} {ins outs : List Port} {b : Bool} (h : errP nodes ins outs b = 9) : b = false := by
  unfold errP at h
  repeat' split at h
  all_goals first | omega | simp_all
theorem errP_else {nodes : List Node} {ins outs : List Port} {b b' : Bool} (h : errP nodes ins outs b ≠ 9) (h' : errP nodes ins outs b ≠ 0) : errP nodes ins outs b = errP nodes ins outs b' := by
  unfold errP at *
  repeat' split at h
  all_goals simp_all
theorem LevOut.unique {nodes : List Node} {ins outs : List Port} {e e' : Int} {l l' : List Int} (h : LevOut nodes ins outs e l) (h' : LevOut nodes ins outs e' l') : e = e' ∧ l = l' := by
  obtain ⟨b, h1, h2, h3, h4, h5⟩ := h
  obtain ⟨b', h1', h2', h3', h4', h5'⟩ := h'
  have hb : b = b' := by
    cases b <;> cases b'
    · rfl
    · exact absurd (h2' rfl) (h3 rfl)
    · exact absurd (h2 rfl) (h3' rfl)
    · rfl
  subst hb
  have he : e = e' := h1.trans h1'.symm
  subst he
  refine ⟨rfl, ?_⟩
  by_cases h0 : e = 0
  · exact IsLev.unique (formed_inN (errP_zero (h1.symm.trans h0)).2.1) (h4 h0) (h4' h0)
  · rw [h5 h0, h5' h0]

theorem enter_f52 (args : Array Value) (W : World) : (callFunc 52 args).run Try.prog W = .ok (.enter 52 args) W := by kernel_rfl
theorem badName_net (W : World) (A : Option Addr) (c : Nat) (q : Port) (hq : q.name.size ≤ 1099511627776) :
    Calls Try.prog 52 (#[portV A c q] ++ #[]) W fun e W' => e = .returned (.bool (badName q)) ∧ Below W.heap.size W W' := by
  obtain ⟨o, ho⟩ : ∃ o : Obj, o = .cells #[.string q.name, .slice A q.bits.length c] 53 := ⟨_, rfl⟩
  have hb1 : Below W.heap.size W (W.alloc o) := (Below.refl _ _).alloc (Nat.le_refl _) _
  have hn := name_net (W.alloc o) q.name hq
  subst ho
  have HN := Lib.hid hn
  have HB := Lib.hid hb1
  clear hn hb1
  go_enter Try.func52, Try.ntmps52
  go_wp2_with fail
  refine HN.out.mono ?_
  rintro e w2 ⟨rfl, hb2⟩
  have HB2 := Lib.hid (HB.out.trans (hb2.mono (by simp)))
  clear hb2
  go_wp2
  go_ret
  exact ⟨rfl, HB2.out⟩

set_option maxHeartbeats 1000000 in
set_option maxRecDepth 4096 in
theorem lev_net (w : World) (v : Value) (nodes : List Node) (ins outs : List Port) (hN : NetV w v nodes ins outs) (hF : Fits nodes ins outs) :
    Calls Try.prog 17 #[v] w fun e w' => ∃ v' l x, e = .returned (.tuple #[v', .int .i64 x]) ∧ Row kInt w' (fun _ => False) v' l ∧ LevOut nodes ins outs x l ∧ Below w.heap.size w w' := by
  obtain ⟨An, cn, Ai, ci, Ao, co, rfl, hbox⟩ := hN.box
  let ob := netBox (.slice An nodes.length cn) (.slice Ai ins.length ci) (.slice Ao outs.length co)
  have hsz : (w.alloc ob).heap.size = w.heap.size + 1 := by simp
  have hall : ∀ W, Below (w.heap.size + 1) (w.alloc ob) W → NetV W (.agg #[.slice An nodes.length cn, .slice Ai ins.length ci, .slice Ao outs.length co]) nodes ins outs := fun W hW => by
    obtain ⟨-, -, -, r1, r2, r3, -⟩ := hbox W hW
    exact ⟨_, _, _, rfl, r1, r2, r3⟩
  obtain ⟨z0, z1, z2, -, -, -, -⟩ := hbox (w.alloc ob) (Below.refl _ _)
  have HBOX := Lib.hid hbox
  have HALL := Lib.hid hall
  have HSZ := Lib.hid hsz
  have HF := Lib.hid hF
  have il := hF.il
  have ol := hF.ol
  have nl := hF.nl
  clear hbox hall hsz hN hF
  have hb0 : Below w.heap.size w (w.alloc ob) := (Below.refl _ _).alloc (Nat.le_refl _) _
  have HB0 := Lib.hid hb0
  clear hb0
  by_cases h1 : 262144 < nodes.length
  · have HE := Lib.hid (LevOut.err (nodes := nodes) (ins := ins) (outs := outs) (e := 4) (by decide) (fun b => by rw [errP, if_pos (.inl h1)]))
    go_enter Try.func17, Try.ntmps17
    go_wp2_with fail
    go_ret2
    exact ⟨_, [], _, rfl, nilRowInt _ _, HE.out, HB0.out⟩
  by_cases h2 : 64 < ins.length + outs.length
  · have HE := Lib.hid (LevOut.err (nodes := nodes) (ins := ins) (outs := outs) (e := 4) (by decide) (fun b => by rw [errP, if_pos (.inr h2)]))
    go_enter Try.func17, Try.ntmps17
    go_wp2_with fail
    go_ret2
    exact ⟨_, [], _, rfl, nilRowInt _ _, HE.out, HB0.out⟩
  have hno : ¬ (262144 < nodes.length ∨ 64 < ins.length + outs.length) := by omega
  have hN1 := HALL.out _ (Below.refl _ _)
  have HFN := Lib.hid (formless_net _ _ nodes ins outs hN1 nl il ol HF.out.bits)
  have hpl : (ins ++ outs).length ≤ 1099511627776 := by rw [List.length_append]; omega
  have hpl2 : (ins ++ outs).length ≤ 2147483648 := by rw [List.length_append]; omega
  have hnl2 : nodes.length ≤ 1073741824 := by omega
  have HPL := Lib.hid hpl
  have HPL2 := Lib.hid hpl2
  have HNO := Lib.hid hno
  have HNL2 := Lib.hid hnl2
  have HIL := Lib.hid il
  have HOL := Lib.hid ol
  have HNL := Lib.hid nl
  clear hN1 hno hpl hpl2 hnl2
  go_enter Try.func17, Try.ntmps17
  go_wp2_with fail
  refine HFN.out.mono ?_
  rintro e w1 ⟨rfl, hb1⟩
  have HB1 : Hid (Below (w.heap.size + 1) (w.alloc ob) w1) := Lib.hid (by rw [HSZ.out] at hb1; exact hb1)
  have HBW1 := Lib.hid (HB0.out.trans (hb1.mono (by rw [HSZ.out]; omega)))
  clear hb1 z0 z1 z2
  cases hf : formedB nodes ins outs with
  | false =>
    have HE := Lib.hid (LevOut.err (nodes := nodes) (ins := ins) (outs := outs) (e := 2) (by decide) (fun b => by rw [errP, if_neg HNO.out, if_pos hf]))
    clear hf
    go_wp2
    go_ret2
    exact ⟨_, [], _, rfl, nilRowInt _ _, HE.out, HBW1.out⟩
  | true =>
    have HFORM := Lib.hid hf
    obtain ⟨z0, z1, z2, -, -, -, -⟩ := HBOX.out _ HB1.out
    have HP := Lib.hid (ports_net _ _ nodes ins outs (HALL.out _ HB1.out) il ol)
    clear hf
    go_wp2_with fail
    refine HP.out.mono ?_
    rintro e w2 ⟨v2, rfl, hr2, hb2⟩
    have HC := Lib.hid (contains_ports w2 v2 _ hr2 HPL.out _ _ enter_f52 badName (fun q hq W A c hW hr => badName_net W A c q (HF.out.names q hq)))
    have HB2 := Lib.hid (HB1.out.trans (hb2.mono (by have := HB1.out.size; rw [HSZ.out] at this; exact this)))
    clear hr2 hb2 z0 z1 z2
    go_wp2_with fail
    refine HC.out.mono ?_
    rintro e w3 ⟨rfl, hb3⟩
    have HB3 := Lib.hid (HB2.out.trans (hb3.mono (by have := HB2.out.size; rw [HSZ.out] at this; exact this)))
    clear hb3 HC HB2 HP
    cases hb : (ins ++ outs).any badName with
    | true =>
      have HE := Lib.hid (LevOut.err (nodes := nodes) (ins := ins) (outs := outs) (e := 7) (by decide) (fun b => by rw [errP, if_neg HNO.out, if_neg (by rw [HFORM.out]; simp), if_pos hb]))
      have HBW3 := Lib.hid (HB0.out.trans (HB3.out.mono (by omega)))
      clear hb
      go_wp2
      go_ret2
      exact ⟨_, [], _, rfl, nilRowInt _ _, HE.out, HBW3.out⟩
    | false =>
      have HNAME := Lib.hid hb
      obtain ⟨z0, z1, z2, -, -, -, -⟩ := HBOX.out _ HB3.out
      have HP := Lib.hid (ports_net _ _ nodes ins outs (HALL.out _ HB3.out) il ol)
      clear hb
      go_wp2_with fail
      refine HP.out.mono ?_
      rintro e w4 ⟨v4, rfl, hr4, hb4⟩
      have HC := Lib.hid (twice_net w4 v4 _ hr4 HPL2.out HF.out.names)
      have HB4 := Lib.hid (HB3.out.trans (hb4.mono (by have := HB3.out.size; rw [HSZ.out] at this; exact this)))
      clear hr4 hb4 z0 z1 z2
      go_wp2_with fail
      refine HC.out.mono ?_
      rintro e w5 ⟨rfl, hb5⟩
      have HB5 := Lib.hid (HB4.out.trans (hb5.mono (by have := HB4.out.size; rw [HSZ.out] at this; exact this)))
      clear hb5 HC HB4 HP
      cases hd : dupB ((ins ++ outs).map (·.name)) with
      | true =>
        have HE := Lib.hid (LevOut.err (nodes := nodes) (ins := ins) (outs := outs) (e := 8) (by decide) (fun b => by rw [errP, if_neg HNO.out, if_neg (by rw [HFORM.out]; simp), if_neg (by rw [HNAME.out]; simp), if_pos hd]))
        have HBW5 := Lib.hid (HB0.out.trans (HB5.out.mono (by omega)))
        clear hd
        go_wp2
        go_ret2
        exact ⟨_, [], _, rfl, nilRowInt _ _, HE.out, HBW5.out⟩
      | false =>
        have HDUP := Lib.hid hd
        obtain ⟨z0, z1, z2, -, -, -, -⟩ := HBOX.out _ HB5.out
        have HC := Lib.hid (homeless_net _ _ nodes ins outs (HALL.out _ HB5.out) nl il HF.out.sum (fun q hq => ((formed_in HFORM.out).2 q (List.mem_append_left _ hq)).2))
        clear hd
        go_wp2_with fail
        refine HC.out.mono ?_
        rintro e w6 ⟨rfl, hb6⟩
        have HB6 := Lib.hid (HB5.out.trans (hb6.mono (by have := HB5.out.size; rw [HSZ.out] at this; exact this)))
        clear hb6 HC z0 z1 z2
        cases hh : homeB nodes ins with
        | false =>
          have HE := Lib.hid (LevOut.err (nodes := nodes) (ins := ins) (outs := outs) (e := 10) (by decide) (fun b => by rw [errP, if_neg HNO.out, if_neg (by rw [HFORM.out]; simp), if_neg (by rw [HNAME.out]; simp), if_neg (by rw [HDUP.out]; simp), if_pos hh]))
          have HBW6 := Lib.hid (HB0.out.trans (HB6.out.mono (by omega)))
          clear hh
          go_wp2
          go_ret2
          exact ⟨_, [], _, rfl, nilRowInt _ _, HE.out, HBW6.out⟩
        | true =>
          have HHOME := Lib.hid hh
          obtain ⟨z0, z1, z2, -, -, -, -⟩ := HBOX.out _ HB6.out
          have HC := Lib.hid (levels_net _ _ nodes ins outs (HALL.out _ HB6.out) HNL2.out (formed_in HFORM.out).1)
          clear hh
          go_wp2_with fail
          refine HC.out.mono ?_
          rintro e w7 ⟨v7, l, b, rfl, hr7, hl1, hl2, hb7⟩
          have HB7 := Lib.hid (HB6.out.trans (hb7.mono (by have := HB6.out.size; rw [HSZ.out] at this; exact this)))
          have HBW7 := Lib.hid (HB0.out.trans (HB7.out.mono (by omega)))
          have HR7 := Lib.hid hr7
          have herr : ∀ b, errP nodes ins outs b = if b = false then 9 else 0 := fun b => by rw [errP, if_neg HNO.out, if_neg (by rw [HFORM.out]; simp), if_neg (by rw [HNAME.out]; simp), if_neg (by rw [HDUP.out]; simp), if_neg (by rw [HHOME.out]; simp)]
          cases b with
          | false =>
            have HE : Hid (LevOut nodes ins outs 9 []) := Lib.hid ⟨false, (herr false).symm, fun h => by simp at h, fun _ => hl2 rfl, fun h => by simp at h, fun _ => rfl⟩
            clear hb7 HC z0 z1 z2 hr7 hl1 hl2 herr
            go_wp2
            go_ret2
            exact ⟨_, [], _, rfl, nilRowInt _ _, HE.out, HBW7.out⟩
          | true =>
            have HE : Hid (LevOut nodes ins outs 0 l) := Lib.hid ⟨true, (herr true).symm, fun _ => ⟨l, hl1 rfl⟩, fun h => by simp at h, fun _ => hl1 rfl, fun h => absurd rfl h⟩
            clear hb7 HC z0 z1 z2 hr7 hl1 hl2 herr
            go_wp2
            go_ret2
            exact ⟨_, l, _, rfl, HR7.out, HE.out, HBW7.out⟩
end Go.Proofs.Ytbfjacgfifecpaa

/-! ## slices.Max, net.Check, net.Depth. -/
namespace Go.Proofs.Ytbfjacgfifecpaa
open Go.RowKit

def maxF (l : List Int) : Int := l.foldl max 0
theorem maxF_snoc (l : List Int) (x : Int) : maxF (l ++ [x]) = max (maxF l) x := by simp [maxF]
theorem maxF_nonneg (l : List Int) : 0 ≤ maxF l := by
  have : ∀ (l : List Int) (m : Int), m ≤ l.foldl max m := by
    intro l
    induction l with
    | nil => intro m; exact Int.le_refl _
    | cons a l ih => intro m; rw [List.foldl_cons]; exact Int.le_trans (Int.le_max_left m a) (ih _)
  exact this l 0
theorem maxF_one {x : Int} (h : 0 ≤ x) : maxF [x] = x := by simp only [maxF, List.foldl]; omega
theorem le_maxF {l : List Int} {x : Int} (h : x ∈ l) : x ≤ maxF l := by
  have h1 : ∀ (l : List Int) (m : Int), m ≤ l.foldl max m := by
    intro l
    induction l with
    | nil => intro m; exact Int.le_refl _
    | cons a l ih => intro m; rw [List.foldl_cons]; exact Int.le_trans (Int.le_max_left m a) (ih _)
  have : ∀ (l : List Int) (m : Int), x ∈ l → x ≤ l.foldl max m := by
    intro l
    induction l with
    | nil => intro m h; simp at h
    | cons a l ih =>
      intro m h
      rw [List.foldl_cons]
      rcases List.mem_cons.1 h with rfl | h
      · exact Int.le_trans (Int.le_max_right m x) (h1 _ _)
      · exact ih _ h
  exact this l 0 h
theorem maxF_le {l : List Int} {m : Int} (h0 : 0 ≤ m) (h : ∀ x ∈ l, x ≤ m) : maxF l ≤ m := by
  have : ∀ (l : List Int) (k : Int), k ≤ m → (∀ x ∈ l, x ≤ m) → l.foldl max k ≤ m := by
    intro l
    induction l with
    | nil => intro k hk _; exact hk
    | cons a l ih =>
      intro k hk h
      rw [List.foldl_cons]
      exact ih _ (by have := h a List.mem_cons_self; omega) fun x hx => h x (List.mem_cons_of_mem _ hx)
  exact this l 0 h0 h

attribute [local go_sem] max2_int max_two in
theorem max_ints (w : World) (v : Value) (xs : List Int) (hx : Row kInt w (fun _ => False) v xs) (h0 : 0 < xs.length) (hl : xs.length ≤ 1099511627776) (hnn : ∀ x ∈ xs, 0 ≤ x) :
    Calls Try.prog 56 #[v] w fun e w' => e = .returned (.int .i64 (maxF xs)) ∧ Below w.heap.size w w' := by
  obtain ⟨A, c, rfl, -, -⟩ := hx.shape
  have HX := Lib.hid hx
  obtain ⟨b, off, rfl, x0⟩ := hx.int_at h0
  rw [Nat.add_zero] at x0
  have hm1 : maxF (xs.take 1) = xs[0] := by
    rw [List.take_one, List.head?_eq_getElem?, List.getElem?_eq_getElem h0]
    exact maxF_one (hnn _ (List.getElem_mem h0))
  have HM1 := Lib.hid hm1
  clear hx hnn hm1
  go_enter Try.func56, Try.ntmps56
  go_wp2_with fail
  go_loopw [3, 4] (fun mv iv wr => ∃ i : Nat, iv = .int .i64 i ∧ 1 ≤ i ∧ i ≤ xs.length ∧ mv = .int .i64 (maxF (xs.take i)) ∧ Hid (Below w.heap.size w wr)) (fun _ iv _ => xs.length - (intOf iv).toNat)
  case atStart => exact ⟨1, rfl, Nat.le_refl _, by omega, by rw [HM1.out], Lib.hid (by first | exact Below.refl _ _ | exact (Below.refl _ _).drew)⟩
  case round =>
    clear x0
    obtain ⟨i, rfl, hi1, hi, rfl, HB⟩ := hrel
    by_cases hlt : i < xs.length
    · obtain ⟨b2, off2, he, x0⟩ := HX.out.int_at hlt
      injection he with he
      injection he with he1 he2 he3
      subst he1
      subst he2
      replace x0 := cellBelow HB.out x0
      have HT := Lib.hid (show maxF (xs.take (i + 1)) = max (maxF (xs.take i)) xs[i] by rw [List.take_succ_eq_append_getElem hlt, maxF_snoc])
      clear he3
      go_wp2
      refine ⟨⟨i + 1, by go_num, by omega, by omega, by rw [HT.out], HB⟩, ?_⟩
      simp [intOf]; omega
    · obtain rfl : i = xs.length := by omega
      rw [List.take_length]
      go_wp2
      go_ret
      exact ⟨rfl, HB.out⟩

theorem check_net (w : World) (v : Value) (nodes : List Node) (ins outs : List Port) (hN : NetV w v nodes ins outs) (hF : Fits nodes ins outs) :
    Calls Try.prog 22 #[v] w fun e w' => ∃ l x, e = .returned (.int .i64 x) ∧ LevOut nodes ins outs x l ∧ Below w.heap.size w w' := by
  obtain ⟨An, cn, Ai, ci, Ao, co, rfl, hbox⟩ := hN.box
  let ob := netBox (.slice An nodes.length cn) (.slice Ai ins.length ci) (.slice Ao outs.length co)
  have hb0 : Below w.heap.size w (w.alloc ob) := (Below.refl _ _).alloc (Nat.le_refl _) _
  obtain ⟨z0, z1, z2, -, -, -, -⟩ := hbox (w.alloc ob) (Below.refl _ _)
  have HC := Lib.hid (lev_net (w.alloc ob) _ nodes ins outs (hN.later hb0) hF)
  have HB0 := Lib.hid hb0
  clear hbox hN hF hb0
  go_enter Try.func22, Try.ntmps22
  go_wp2_with fail
  refine HC.out.mono ?_
  rintro e w1 ⟨v1, l, x, rfl, -, hl, hb1⟩
  have HL := Lib.hid hl
  have HB1 := Lib.hid (HB0.out.trans (hb1.mono (by simp)))
  clear hl hb1 HC z0 z1 z2
  go_wp2
  go_ret
  exact ⟨l, x, rfl, HL.out, HB1.out⟩

/-- how deep -/
def DepOut (nodes : List Node) (ins outs : List Port) (e : Int) (d : Int) : Prop := ∃ l, LevOut nodes ins outs e l ∧ d = maxF l
theorem LevOut.nonneg {nodes : List Node} {ins outs : List Port} {e : Int} {l : List Int} (h : LevOut nodes ins outs e l) : ∀ x ∈ l, 0 ≤ x := by
  obtain ⟨b, h1, h2, h3, h4, h5⟩ := h
  by_cases he : e = 0
  · intro x hx
    obtain ⟨i, hi, rfl⟩ := List.mem_iff_getElem.1 hx
    have := (h4 he).nonneg i
    rw [List.getD_eq_getElem?_getD, List.getElem?_eq_getElem hi] at this
    exact this
  · rw [h5 he]; intro x hx; simp at hx
theorem LevOut.length {nodes : List Node} {ins outs : List Port} {e : Int} {l : List Int} (h : LevOut nodes ins outs e l) : l.length ≤ nodes.length := by
  obtain ⟨b, h1, h2, h3, h4, h5⟩ := h
  by_cases he : e = 0
  · rw [(h4 he).1]; exact Nat.le_refl _
  · rw [h5 he]; simp
theorem depth_net (w : World) (v : Value) (nodes : List Node) (ins outs : List Port) (hN : NetV w v nodes ins outs) (hF : Fits nodes ins outs) :
    Calls Try.prog 20 #[v] w fun e w' => ∃ d x, e = .returned (.tuple #[.int .i64 d, .int .i64 x]) ∧ DepOut nodes ins outs x d ∧ Below w.heap.size w w' := by
  obtain ⟨An, cn, Ai, ci, Ao, co, rfl, hbox⟩ := hN.box
  let ob := netBox (.slice An nodes.length cn) (.slice Ai ins.length ci) (.slice Ao outs.length co)
  have hb0 : Below w.heap.size w (w.alloc ob) := (Below.refl _ _).alloc (Nat.le_refl _) _
  obtain ⟨z0, z1, z2, -, -, -, -⟩ := hbox (w.alloc ob) (Below.refl _ _)
  have HC := Lib.hid (lev_net (w.alloc ob) _ nodes ins outs (hN.later hb0) hF)
  have HB0 := Lib.hid hb0
  have HF := Lib.hid hF
  clear hbox hN hF hb0
  go_enter Try.func20, Try.ntmps20
  go_wp2_with fail
  refine HC.out.mono ?_
  rintro e w1 ⟨v1, l, x, rfl, hr, hl, hb1⟩
  obtain ⟨A, c, rfl, -, -⟩ := hr.shape
  have HR := Lib.hid hr
  have HB1 := Lib.hid (HB0.out.trans (hb1.mono (by simp)))
  have hlen : l.length ≤ 1099511627776 := Nat.le_trans hl.length HF.out.nl
  have hnn := hl.nonneg
  obtain ⟨bb, h1, h2, h3, h4, h5⟩ := hl
  have hle : (x ≠ 0 ∨ l.length = 0) → l = [] := fun h => h.elim h5 List.length_eq_zero_iff.1
  have HL := Lib.hid (show LevOut nodes ins outs x l from ⟨bb, h1, h2, h3, h4, h5⟩)
  have HLE := Lib.hid hle
  clear hb1 HC z0 z1 z2 h1 h2 h3 h4 h5 hr hle
  by_cases hx0 : x = 0
  · subst hx0
    by_cases hl0 : l.length = 0
    · have he := HLE.out (.inr hl0)
      subst he
      clear hnn
      go_wp2
      go_ret2
      exact ⟨0, 0, rfl, ⟨[], HL.out, rfl⟩, HB1.out⟩
    · have HM := Lib.hid (max_ints w1 _ l HR.out (by omega) hlen hnn)
      have hl0' : ¬ (l.length : Int) = 0 := by omega
      clear hnn
      go_wp2_with fail
      refine HM.out.mono ?_
      rintro e w2 ⟨rfl, hb2⟩
      have HB2 := Lib.hid (HB1.out.trans (hb2.mono HB1.out.size))
      clear hb2
      go_wp2
      go_ret2
      exact ⟨_, 0, rfl, ⟨l, HL.out, rfl⟩, HB2.out⟩
  · have he := HLE.out (.inl hx0)
    subst he
    clear hnn
    go_wp2
    go_ret2
    exact ⟨0, x, rfl, ⟨[], HL.out, rfl⟩, HB1.out⟩
end Go.Proofs.Ytbfjacgfifecpaa

/-! ## net.Order. -/
namespace Go.Proofs.Ytbfjacgfifecpaa
open Go.RowKit

structure OrdS (w : World) (n B : Nat) (vals : List Value) (us : List (List Nat)) : Prop where
  mem : LevM w B B n (vals.zip (us.map nats)) vals
  lvals : vals.length = n
  lus : us.length = n
section
variable {w w' : World} {n B : Nat} {vals : List Value} {us : List (List Nat)}
theorem OrdS.alloc (h : OrdS w n B vals us) (o : Obj) : OrdS (w.alloc o) n B vals us := ⟨h.mem.alloc o, h.lvals, h.lus⟩
theorem OrdS.zip (_h : OrdS w n B vals us) {a : Nat} {v : Value} {u : List Nat} (hv : vals[a]? = some v) (hu : us[a]? = some u) : (vals.zip (us.map nats))[a]? = some (v, nats u) := by
  rw [List.getElem?_zip_eq_some]
  exact ⟨hv, by rw [List.getElem?_map, hu]; rfl⟩
theorem OrdS.lt (h : OrdS w n B vals us) : B < w.heap.size := h.mem.tabLt.2
theorem OrdS.useOwn (h : OrdS w n B vals us) {a : Nat} {v : Value} {u : List Nat} (hv : vals[a]? = some v) (hu : us[a]? = some u) : Own kInt 3 w none B v (nats u) := h.mem.own a (v, nats u) (h.zip hv hu)
theorem OrdS.useCell (h : OrdS w n B vals us) {a : Nat} {v : Value} (hv : vals[a]? = some v) : w.cell? ⟨B, a, none⟩ = some v ∧ w.frozen? ⟨B, a, none⟩ = false := by
  have ha := (List.getElem?_eq_some_iff.1 hv).1
  have hl := h.lvals
  exact ⟨by rw [h.mem.tab.cellAt a (by omega), hv], h.mem.tab.frozenAt a⟩
theorem OrdS.setUse (h : OrdS w n B vals us) {a : Nat} {v v' : Value} {u : List Nat} {y : Nat} (hv : vals[a]? = some v) (hu : us[a]? = some u) (ho : Own kInt 3 w' none B v' (nats u ++ [(y : Int)])) (hg : w.grownBy w' v.ownBlock)
    (hloc : v'.ownBlock = v.ownBlock ∨ ∃ b, v'.ownBlock = some b ∧ w.heap.size ≤ b) : OrdS (w'.setCell ⟨B, a, none⟩ v') n B (vals.set a v') (us.set a (u ++ [y])) := by
  have e : nats (u ++ [y]) = nats u ++ [(y : Int)] := by simp
  have hm := (h.mem.set (i := a) (v := v) (xs := nats u) (h.zip hv hu) ho hg hloc).tabSet a v'
  refine ⟨?_, by rw [List.length_set, h.lvals], by rw [List.length_set, h.lus]⟩
  rw [List.map_set, e, ← zip_set]
  exact hm
theorem OrdS.tabKept (h : OrdS w n B vals us) {a : Nat} {v : Value} {u : List Nat} (hv : vals[a]? = some v) (hu : us[a]? = some u) (hg : w.grownBy w' v.ownBlock) : w'.cell? ⟨B, a, none⟩ = some v ∧ w'.frozen? ⟨B, a, none⟩ = false := by
  have h1 := h.useCell hv
  have hne : some B ≠ v.ownBlock := fun e => h.mem.off a (v, nats u) (h.zip hv hu) e.symm
  have hb := hg.block B h.lt hne
  exact ⟨(World.cell?_of_block hb).trans h1.1, (World.frozen?_of_block hb).trans h1.2⟩
theorem OrdS.row (h : OrdS w n B vals us) (hn : n ≤ 1099511627776) : Row (kRow kInt) w (fun _ => False) (.slice (some ⟨B, 0, none⟩) n n) (us.map nats) := by
  have hflat : (vals.map fun v => [v]).flatten = vals := by
    clear h
    induction vals with
    | nil => rfl
    | cons v vs ih => simp [ih]
  have hl : (us.map nats).length = n := by rw [List.length_map, h.lus]
  refine ⟨some ⟨B, 0, none⟩, n, vals.map fun v => [v], by rw [hl], by omega, by simp only [maxLen]; omega, (fun h => nomatch h), ⟨by simp [h.lvals, h.lus], fun i x cs hx hc => ?_⟩, fun hn => ⟨_, _, rfl, h.lt, fun h => h, fun j u hu => ?_⟩⟩
  · rw [List.getElem?_map] at hc hx
    obtain ⟨v, hv, rfl⟩ := Option.map_eq_some_iff.1 hc
    obtain ⟨u, hu, rfl⟩ := Option.map_eq_some_iff.1 hx
    exact ⟨v, rfl, (h.useOwn hv hu).rowS _ fun _ _ h => h⟩
  · rw [hflat] at hu
    rw [Nat.zero_add]
    exact (h.useCell hu).1
end
theorem OrdS.init (w : World) (n : Nat) (hn : n ≤ 1099511627776) : OrdS (w.alloc (.cells (madeCells #[nilS] n) 28)) n w.heap.size (List.replicate n nilS) (List.replicate n []) := by
  have ht := World.ownsRow_lit (base := w.heap.size) (e := 28) (size := 1) w (madeCells #[nilS] n) n (Nat.le_refl _) (by simp only [maxLen]; omega) (by simp [size_madeCells])
  have e : (madeCells #[nilS] n).toList = List.replicate n nilS := by rw [toList_madeCells_one]
  rw [e] at ht
  have hcase : ∀ (i : Nat) (p : Value × List Int), ((List.replicate n nilS).zip ((List.replicate n ([] : List Nat)).map nats))[i]? = some p → p = (nilS, []) := fun i p hp => by
    rw [List.getElem?_zip_eq_some, List.getElem?_map, List.getElem?_replicate, List.getElem?_replicate] at hp
    obtain ⟨q1, q2⟩ := hp
    split at q1
    · injection q1 with q1
      simp at q2
      exact Prod.ext q1.symm q2.2
    · cases q1
  refine ⟨⟨fun i p hp => ?_, fun i j p q hp hq hij b hb => ?_, ht, fun i p hp => ?_⟩, by simp, by simp⟩
  · rw [hcase i p hp]; exact Own.nil _ _ _ _ _
  · rw [hcase i p hp] at hb; simp [Value.ownBlock] at hb
  · rw [hcase i p hp]; simp [Value.ownBlock]

/-! ### by levels -/
def binL (l : List Int) (i v : Nat) : List Nat := (List.range i).filter fun k => decide (l.getD k 0 = (v : Int))
def bins (l : List Int) (n i : Nat) : List (List Nat) := (List.range n).map (binL l i)
def ordL (l : List Int) : List Nat := (bins l (maxF l + 1).toNat l.length).flatten
theorem ordL_nil : ordL [] = [] := rfl
theorem binL_succ (l : List Int) (i v : Nat) : binL l (i + 1) v = binL l i v ++ if l.getD i 0 = (v : Int) then [i] else [] := by
  rw [binL, List.range_succ, List.filter_append]
  by_cases h : l.getD i 0 = (v : Int)
  · rw [if_pos h, List.filter_cons, if_pos (decide_eq_true h)]; rfl
  · rw [if_neg h, List.filter_cons, if_neg (by rw [decide_eq_false h]; simp)]; rfl
theorem bins_length (l : List Int) (n i : Nat) : (bins l n i).length = n := by simp [bins]
theorem bins_at {l : List Int} {n i v : Nat} (h : v < n) : (bins l n i)[v]? = some (binL l i v) := by simp [bins, h]
theorem bins_zero (l : List Int) (n : Nat) : bins l n 0 = List.replicate n [] := by
  rw [bins, List.eq_replicate_iff]
  refine ⟨by simp, fun b hb => ?_⟩
  obtain ⟨v, -, rfl⟩ := List.mem_map.1 hb
  rfl
theorem bins_succ {l : List Int} {n i a : Nat} (ha : l.getD i 0 = (a : Int)) : bins l n (i + 1) = (bins l n i).set a (binL l i a ++ [i]) := by
  apply List.ext_getElem?
  intro v
  rw [List.getElem?_set]
  by_cases hv : v < n
  · rw [bins_at hv, binL_succ]
    by_cases e : a = v
    · subst e; rw [if_pos rfl, if_pos ha, if_pos (by rw [bins_length]; exact hv)]
    · rw [if_neg e, bins_at hv, if_neg (by omega), List.append_nil]
  · rw [List.getElem?_eq_none (by rw [bins_length]; omega)]
    split
    · rw [if_neg (by rw [bins_length]; omega)]
    · rw [List.getElem?_eq_none (by rw [bins_length]; omega)]
theorem flatten_set_len : ∀ (us : List (List Nat)) (a : Nat) (u : List Nat) (y : Nat), us[a]? = some u → (us.set a (u ++ [y])).flatten.length = us.flatten.length + 1 := by
  intro us
  induction us with
  | nil => intro a u y h; simp at h
  | cons x us ih =>
    intro a u y h
    cases a with
    | zero =>
      simp only [List.getElem?_cons_zero, Option.some.injEq] at h
      subst h
      simp only [List.set_cons_zero, List.flatten_cons, List.length_append, List.length_cons, List.length_nil]
      omega
    | succ a =>
      rw [List.getElem?_cons_succ] at h
      rw [List.set_cons_succ, List.flatten_cons, List.flatten_cons, List.length_append, List.length_append, ih a u y h]
      omega
theorem bins_flat_len {l : List Int} {n : Nat} (hl : ∀ x ∈ l, 0 ≤ x ∧ x < (n : Int)) : ∀ i, i ≤ l.length → (bins l n i).flatten.length = i := by
  intro i
  induction i with
  | zero => intro _; rw [bins_zero]; simp
  | succ i ih =>
    intro hi
    have hg : l.getD i 0 = l[i] := by rw [List.getD_eq_getElem?_getD, List.getElem?_eq_getElem (by omega)]; rfl
    have hx := hl _ (List.getElem_mem (show i < l.length by omega))
    obtain ⟨a, ha⟩ := Int.eq_ofNat_of_zero_le hx.1
    rw [bins_succ (hg.trans ha), flatten_set_len _ _ _ _ (bins_at (by omega)), ih (by omega)]
theorem flat_nats (us : List (List Nat)) : (us.map nats).flatten = nats us.flatten := by
  rw [nats, List.map_flatten]
theorem IsLev.reach {nodes : List Node} {l : List Int} (hN : InN nodes) (h : IsLev nodes l) :
    ∀ (v : Nat) (i : Nat), i < nodes.length → l.getD i 0 = (v : Int) → ∃ k : List Nat, k.Nodup ∧ (∀ x ∈ k, x < nodes.length ∧ l.getD x 0 ≤ (v : Int)) ∧ k.length = v + 1 := by
  intro v
  induction v with
  | zero => exact fun i hi he => ⟨[i], by simp, fun x hx => by simp at hx; subst hx; exact ⟨hi, by rw [he]; exact Int.le_refl _⟩, rfl⟩
  | succ v ih =>
    intro i hi he
    have hx := h.2 i nodes[i] (List.getElem?_eq_getElem hi)
    rcases lvl_is (usesN nodes[i]) l with h0 | ⟨a, ha, hl⟩
    · rw [he] at hx; omega
    · obtain ⟨k, l1, l2, l3⟩ := ih a (hN _ (List.getElem_mem hi) a ha) (by rw [he] at hx; omega)
      refine ⟨i :: k, List.nodup_cons.2 ⟨fun hm => ?_, l1⟩, fun x hx => ?_, by rw [List.length_cons, l3]⟩
      · have := (l2 i hm).2; rw [he] at this; omega
      · rcases List.mem_cons.1 hx with rfl | hx
        · exact ⟨hi, by rw [he]; exact Int.le_refl _⟩
        · exact ⟨(l2 x hx).1, by have := (l2 x hx).2; omega⟩
theorem IsLev.bound {nodes : List Node} {l : List Int} (hN : InN nodes) (h : IsLev nodes l) : ∀ x ∈ l, x < nodes.length := by
  intro x hx
  obtain ⟨i, hi, rfl⟩ := List.mem_iff_getElem.1 hx
  have hg : l.getD i 0 = l[i] := by rw [List.getD_eq_getElem?_getD, List.getElem?_eq_getElem hi]; rfl
  have hnn := h.nonneg i
  obtain ⟨v, hv⟩ := Int.eq_ofNat_of_zero_le hnn
  obtain ⟨k, l1, l2, l3⟩ := h.reach hN v i (by rw [← h.1]; exact hi) hv
  have := nodup_le nodes.length k l1 (fun x hx => (l2 x hx).1)
  rw [← hg, hv]
  omega
def OrdE (w : World) (n B : Nat) (us : List (List Nat)) : Prop := ∃ vals, OrdS w n B vals us
def OrdOut (nodes : List Node) (ins outs : List Port) (e : Int) (o : List Int) : Prop := ∃ l, LevOut nodes ins outs e l ∧ o = nats (ordL l)

set_option maxHeartbeats 1000000 in
set_option maxRecDepth 100000 in
theorem order_net (w : World) (v : Value) (nodes : List Node) (ins outs : List Port) (hN : NetV w v nodes ins outs) (hF : Fits nodes ins outs) :
    Calls Try.prog 18 #[v] w fun e w' => ∃ v' o x, e = .returned (.tuple #[v', .int .i64 x]) ∧ Row kInt w' (fun _ => False) v' o ∧ OrdOut nodes ins outs x o ∧ Below w.heap.size w w' := by
  obtain ⟨An, cn, Ai, ci, Ao, co, rfl, hbox⟩ := hN.box
  let ob := netBox (.slice An nodes.length cn) (.slice Ai ins.length ci) (.slice Ao outs.length co)
  have hb0 : Below w.heap.size w (w.alloc ob) := (Below.refl _ _).alloc (Nat.le_refl _) _
  obtain ⟨z0, z1, z2, -, -, -, -⟩ := hbox (w.alloc ob) (Below.refl _ _)
  have HC := Lib.hid (lev_net (w.alloc ob) _ nodes ins outs (hN.later hb0) hF)
  have HB0 := Lib.hid hb0
  have HF := Lib.hid hF
  clear hbox hN hF hb0
  go_enter Try.func18, Try.ntmps18
  go_wp2_with fail
  refine HC.out.mono ?_
  rintro e w1 ⟨v1, l, x, rfl, hr, hl, hb1⟩
  obtain ⟨A, c, rfl, -, -⟩ := hr.shape
  have HR := Lib.hid hr
  have HB1 := Lib.hid (HB0.out.trans (hb1.mono (by simp)))
  have hlen : l.length ≤ 1099511627776 := Nat.le_trans hl.length HF.out.nl
  have hnn := hl.nonneg
  have HL := Lib.hid hl
  obtain ⟨bb, h1, h2, h3, h4, h5⟩ := hl
  have hle : (x ≠ 0 ∨ l.length = 0) → l = [] := fun h => h.elim h5 List.length_eq_zero_iff.1
  have hbd : x = 0 → ∀ y ∈ l, 0 ≤ y ∧ y < 262144 := fun h0 y hy => by
    have hz := errP_zero (h1.symm.trans h0)
    have := (h4 h0).bound (formed_inN hz.2.1) y hy
    have := hnn y hy
    omega
  have HLE := Lib.hid hle
  have HBD := Lib.hid hbd
  clear hb1 HC z0 z1 z2 h1 h2 h3 h4 h5 hr hle hbd
  by_cases hx0 : x = 0
  · subst hx0
    by_cases hl0 : l.length = 0
    · have he := HLE.out (.inr hl0)
      subst he
      clear hnn
      go_wp2
      go_ret2
      exact ⟨_, [], 0, rfl, nilRowInt _ _, ⟨[], HL.out, by rw [ordL_nil]; rfl⟩, HB1.out⟩
    · have HM := Lib.hid (max_ints w1 _ l HR.out (by omega) hlen hnn)
      have hl0' : ¬ (l.length : Int) = 0 := by omega
      have hmle : maxF l < 262144 := by
        have := maxF_le (l := l) (m := 262143) (by omega) fun x hx => by have := (HBD.out rfl x hx).2; omega
        omega
      obtain ⟨d, hd⟩ := Int.eq_ofNat_of_zero_le (maxF_nonneg l)
      have HD := Lib.hid hd
      rw [hd] at HM hmle
      obtain ⟨n, hn⟩ : ∃ n, n = d + 1 := ⟨_, rfl⟩
      have hmk := make_slices n (by omega)
      rw [show (n : Int) = (d : Int) + 1 by omega] at hmk
      have hn2 : n ≤ 262144 := by omega
      have HN := Lib.hid hn
      have HLD := Lib.hid (show ∀ y ∈ l, 0 ≤ y ∧ y < (n : Int) from fun y hy => by
        have := le_maxF hy
        have := hnn y hy
        omega)
      have HMLE := Lib.hid hmle
      have HMK := Lib.hid hmk
      clear hnn hd hmle hmk hl0 hn
      have hq : ((l.length : Int) == 0) = false := by simpa using hl0'
      clear hl0'
      go_wp2_with fail
      clear hq
      have hmle := HMLE.out
      have hmk := HMK.out
      refine HM.out.mono ?_
      rintro e w2 ⟨rfl, hb2⟩
      have HB12 := Lib.hid (hb2)
      have HB2 := Lib.hid (HB1.out.trans (hb2.mono HB1.out.size))
      have HS := Lib.hid (OrdS.init w2 n (by omega))
      have HBS := Lib.hid ((Below.refl w2.heap.size w2).alloc (Nat.le_refl _) (.cells (madeCells #[nilS] n) 28))
      clear hb2 HM
      go_wp2_with fail
      go_loopw [28] (fun iv wr => ∃ i : Nat, iv = .int .i64 i ∧ i ≤ l.length ∧ Hid (OrdE wr n w2.heap.size (bins l n i)) ∧ Hid (Below w2.heap.size w2 wr)) (fun iv _ => l.length - (intOf iv).toNat)
      case atStart => exact ⟨0, rfl, Nat.zero_le _, by rw [bins_zero]; exact Lib.hid ⟨_, HS.out⟩, HBS⟩
      case round =>
        clear HS HBS hmk
        obtain ⟨i, rfl, hi, HE, HB⟩ := hrel
        obtain ⟨vals, hs⟩ := HE.out
        have HS := Lib.hid hs
        clear hs
        by_cases hlt : i < l.length
        · obtain ⟨b, off, rfl, x0⟩ := HR.out.int_at hlt
          replace x0 := cellBelow (HB12.out.trans (HB.out.mono HB12.out.size)) x0
          have hx := HLD.out _ (List.getElem_mem hlt)
          have hg : l.getD i 0 = l[i] := by rw [List.getD_eq_getElem?_getD, List.getElem?_eq_getElem hlt]; rfl
          obtain ⟨a, ha⟩ := Int.eq_ofNat_of_zero_le hx.1
          rw [ha] at hx x0 hg
          have hus := bins_at (l := l) (n := n) (i := i) (v := a) (by omega)
          have hlv := HS.out.lvals
          obtain ⟨v, hv⟩ : ∃ v, vals[a]? = some v := ⟨_, List.getElem?_eq_getElem (by omega)⟩
          have hO := HS.out.useOwn hv hus
          have hcv := (HS.out.useCell hv).1
          have HBN := Lib.hid (bins_succ (n := n) hg)
          have hul : (binL l i a).length ≤ i := by have := List.length_filter_le (fun k => decide (l.getD k 0 = (a : Int))) (List.range i); rw [List.length_range] at this; exact this
          have hun : ((nats (binL l i a)).length + 1) * 8 ≤ 140737488355328 := by rw [List.length_map]; have := hlen; omega
          have hb1 := Nat.le_of_lt HS.out.lt
          have HL6L := Lib.hid (show (nats (binL l i a) ++ [(i : Int)]).length = (binL l i a).length + 1 by simp)
          have HO := Lib.hid hO
          have HV := Lib.hid hv
          have HU := Lib.hid hus
          have han : a < n := by omega
          clear hO hv hus hg ha hul hlv hx
          have hdd : decide ((i : Int) < (l.length : Int)) = true := decide_eq_true (by omega)
          clear hmle
          go_wp2_with (at_builtin; go_loud (refine appI rfl (.tmp 38) (.tmp 40) rfl HO.out hb1 rfl (i : Int) _ rfl rfl hun ?_; intro v' w5 q1 q5 q6; obtain ⟨A6, c6, he6, -, -⟩ := q1.shape; rw [HL6L.out] at he6; subst he6; obtain ⟨t0, t1⟩ := HS.out.tabKept HV.out HU.out q5; have HS6 := Lib.hid (HS.out.setUse HV.out HU.out q1 q5 q6); have HQ5 := Lib.hid q5; clear q1 q5 q6))
          have hB5 := (HB.out.grown HQ5.out (Nat.le_of_lt HS.out.lt) (fun g hg => (HO.out.base hg).1)).setCell (p := ⟨w2.heap.size, a, none⟩) (by simp) (.slice A6 ((binL l i a).length + 1) c6)
          refine ⟨⟨i + 1, by go_num, by omega, by rw [HBN.out]; exact Lib.hid ⟨_, HS6.out⟩, Lib.hid hB5⟩, ?_⟩
          simp [intOf]; omega
        · obtain rfl : i = l.length := by omega
          have hrow := HS.out.row (by omega)
          have hfl : ((bins l n l.length).map nats).flatten.length ≤ 1099511627776 := by
            rw [flat_nats, List.length_map, bins_flat_len HLD.out _ (Nat.le_refl _)]
            exact hlen
          have HCC := Lib.hid (concat_ints wr _ _ hrow (by rw [List.length_map, bins_length]; omega) hfl)
          have HBF := Lib.hid (HB2.out.trans (HB.out.mono HB2.out.size))
          have hdd : decide ((l.length : Int) < (l.length : Int)) = false := decide_eq_false (by omega)
          clear hrow hfl hmle
          go_wp2_with fail
          refine HCC.out.mono ?_
          rintro e w5 ⟨v5, rfl, hr5, hb5⟩
          have HR5 := Lib.hid hr5
          have HB5 := Lib.hid (HBF.out.trans (hb5.mono HBF.out.size))
          clear hr5 hb5 HCC
          go_wp2
          go_ret2
          refine ⟨_, _, 0, rfl, HR5.out, ⟨l, HL.out, ?_⟩, HB5.out⟩
          rw [flat_nats, ordL, HD.out, HN.out]
          rfl
  · have he := HLE.out (.inl hx0)
    subst he
    clear hnn
    go_wp2
    go_ret2
    exact ⟨_, [], x, rfl, nilRowInt _ _, ⟨[], HL.out, by rw [ordL_nil]; rfl⟩, HB1.out⟩
end Go.Proofs.Ytbfjacgfifecpaa

/-! ## Lists that are the same: Ints, slices.Equal. -/
namespace Go.Proofs.Ytbfjacgfifecpaa
open Go.RowKit

theorem take_step {α : Type} {xs ys : List α} {i : Nat} (h : xs.take i = ys.take i) (hx : i < xs.length) (hy : i < ys.length) (he : xs[i] = ys[i]) : xs.take (i + 1) = ys.take (i + 1) := by
  rw [List.take_succ_eq_append_getElem hx, List.take_succ_eq_append_getElem hy, h, he]
theorem ne_at {α : Type} {xs ys : List α} {i : Nat} (hx : i < xs.length) (hy : i < ys.length) (he : xs[i] ≠ ys[i]) : xs ≠ ys := by
  intro e; subst e; exact he rfl

theorem ints_ref (w : World) (v u : Value) (xs ys : List Int) (hx : Row kInt w (fun _ => False) v xs) (hy : Row kInt w (fun _ => False) u ys) (hl : xs.length ≤ 1099511627776) :
    Calls Try.prog 21 #[v, u] w fun e w' => e = .returned (.bool (decide (xs = ys))) ∧ Below w.heap.size w w' := by
  obtain ⟨A, c, rfl, -, -⟩ := hx.shape
  obtain ⟨A2, c2, rfl, -, -⟩ := hy.shape
  have HX := Lib.hid hx
  have HY := Lib.hid hy
  clear hx hy
  by_cases hlen : xs.length = ys.length
  · have hq : ((xs.length : Int) != (ys.length : Int)) = false := by simp [hlen]
    have HLEN := Lib.hid hlen
    have hly : ys.length ≤ 1099511627776 := by omega
    clear hlen
    go_enter Try.func21, Try.ntmps21
    go_wp2_with fail
    clear hq
    go_loopw [5] (fun  iv wr => ∃ i : Nat, iv = .int .i64 i ∧ i ≤ xs.length ∧ Hid (xs.take i = ys.take i) ∧ Hid (Below w.heap.size w wr)) (fun  iv _ => xs.length - (intOf iv).toNat)
    case atStart => exact ⟨0, rfl, Nat.zero_le _, Lib.hid rfl, Lib.hid (Below.refl _ _)⟩
    case round =>
      obtain ⟨i, rfl, hi, HT, HB⟩ := hrel
      by_cases hlt : i < xs.length
      · have hlt2 : i < ys.length := by rw [← HLEN.out]; exact hlt
        obtain ⟨b, off, rfl, x0⟩ := HX.out.int_at hlt
        obtain ⟨b2, off2, rfl, y0⟩ := HY.out.int_at hlt2
        replace x0 := cellBelow HB.out x0
        replace y0 := cellBelow HB.out y0
        have HTS := Lib.hid (take_step HT.out hlt hlt2)
        have HNE := Lib.hid (ne_at (xs := xs) (ys := ys) hlt hlt2)
        obtain ⟨x, hxx⟩ : ∃ x, xs[i] = x := ⟨_, rfl⟩
        obtain ⟨y, hyy⟩ : ∃ y, ys[i] = y := ⟨_, rfl⟩
        rw [hxx] at x0
        rw [hyy] at y0
        rw [hxx, hyy] at HTS HNE
        clear hxx hyy
        by_cases he : x = y
        · have HTN := Lib.hid (HTS.out he)
          subst he
          have hq : (x != x) = false := by simp
          clear HTS HNE
          go_wp2
          go_quiet (fail)
          go_wp2
          refine ⟨⟨i + 1, by go_num, by omega, HTN, Lib.hid (HB.out.trans ((pw_drewN _ _).mono HB.out.size))⟩, ?_⟩
          simp [intOf]; omega
        · have HNN := Lib.hid (HNE.out he)
          have hq : (x != y) = true := by simpa using he
          clear HTS HNE he
          go_wp2
          go_quiet (fail)
          go_wp2
          go_ret
          exact ⟨by rw [decide_eq_false HNN.out]; rfl, HB.out.trans ((pw_drewN _ _).mono HB.out.size)⟩
      · obtain rfl : i = xs.length := by omega
        have hee : xs = ys := by
          have h := HT.out
          rw [List.take_length, HLEN.out, List.take_length] at h
          exact h
        have HEE := Lib.hid hee
        clear hee
        go_wp2
        go_ret
        exact ⟨by rw [decide_eq_true HEE.out]; rfl, HB.out⟩
  · have hq : ((xs.length : Int) != (ys.length : Int)) = true := by simp; omega
    have HNE : Hid (xs ≠ ys) := Lib.hid fun e => hlen (by rw [e])
    clear hlen
    go_enter Try.func21, Try.ntmps21
    go_wp2_with fail
    go_ret
    exact ⟨by rw [decide_eq_false HNE.out]; rfl, Below.refl _ _⟩
theorem equal_ints (w : World) (v u : Value) (xs ys : List Int) (hx : Row kInt w (fun _ => False) v xs) (hy : Row kInt w (fun _ => False) u ys) (hl : xs.length ≤ 1099511627776) :
    Calls Try.prog 62 #[v, u] w fun e w' => e = .returned (.bool (decide (xs = ys))) ∧ Below w.heap.size w w' := by
  obtain ⟨A, c, rfl, -, -⟩ := hx.shape
  obtain ⟨A2, c2, rfl, -, -⟩ := hy.shape
  have HX := Lib.hid hx
  have HY := Lib.hid hy
  clear hx hy
  by_cases hlen : xs.length = ys.length
  · have hq : ((xs.length : Int) != (ys.length : Int)) = false := by simp [hlen]
    have HLEN := Lib.hid hlen
    have hly : ys.length ≤ 1099511627776 := by omega
    clear hlen
    go_enter Try.func62, Try.ntmps62
    go_wp2_with fail
    clear hq
    go_loopw [5, 13] (fun rv iv wr => ∃ i : Nat, iv = .int .i64 i ∧ i ≤ xs.length ∧ Hid (xs.take i = ys.take i) ∧ Hid (Below w.heap.size w wr)) (fun rv iv _ => xs.length - (intOf iv).toNat)
    case atStart => exact ⟨0, rfl, Nat.zero_le _, Lib.hid rfl, Lib.hid (Below.refl _ _)⟩
    case round =>
      obtain ⟨i, rfl, hi, HT, HB⟩ := hrel
      by_cases hlt : i < xs.length
      · have hlt2 : i < ys.length := by rw [← HLEN.out]; exact hlt
        obtain ⟨b, off, rfl, x0⟩ := HX.out.int_at hlt
        obtain ⟨b2, off2, rfl, y0⟩ := HY.out.int_at hlt2
        replace x0 := cellBelow HB.out x0
        replace y0 := cellBelow HB.out y0
        have HTS := Lib.hid (take_step HT.out hlt hlt2)
        have HNE := Lib.hid (ne_at (xs := xs) (ys := ys) hlt hlt2)
        obtain ⟨x, hxx⟩ : ∃ x, xs[i] = x := ⟨_, rfl⟩
        obtain ⟨y, hyy⟩ : ∃ y, ys[i] = y := ⟨_, rfl⟩
        rw [hxx] at x0
        rw [hyy] at y0
        rw [hxx, hyy] at HTS HNE
        clear hxx hyy
        by_cases he : x = y
        · have HTN := Lib.hid (HTS.out he)
          subst he
          have hq : (x != x) = false := by simp
          clear HTS HNE
          go_wp2
          go_quiet (fail)
          go_wp2
          refine ⟨⟨i + 1, by go_num, by omega, HTN, Lib.hid (HB.out.trans ((pw_drewN _ _).mono HB.out.size))⟩, ?_⟩
          simp [intOf]; omega
        · have HNN := Lib.hid (HNE.out he)
          have hq : (x != y) = true := by simpa using he
          clear HTS HNE he
          go_wp2
          go_quiet (fail)
          go_wp2
          go_ret
          exact ⟨by rw [decide_eq_false HNN.out]; rfl, HB.out.trans ((pw_drewN _ _).mono HB.out.size)⟩
      · obtain rfl : i = xs.length := by omega
        have hee : xs = ys := by
          have h := HT.out
          rw [List.take_length, HLEN.out, List.take_length] at h
          exact h
        have HEE := Lib.hid hee
        clear hee
        go_wp2
        go_ret
        exact ⟨by rw [decide_eq_true HEE.out]; rfl, HB.out⟩
  · have hq : ((xs.length : Int) != (ys.length : Int)) = true := by simp; omega
    have HNE : Hid (xs ≠ ys) := Lib.hid fun e => hlen (by rw [e])
    clear hlen
    go_enter Try.func62, Try.ntmps62
    go_wp2_with fail
    go_ret
    exact ⟨by rw [decide_eq_false HNE.out]; rfl, Below.refl _ _⟩
end Go.Proofs.Ytbfjacgfifecpaa
