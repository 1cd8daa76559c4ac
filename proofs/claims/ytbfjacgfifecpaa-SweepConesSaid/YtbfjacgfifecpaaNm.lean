/- net.Levels: the walk. -/
import Derived.Test.YtbfjacgfifecpaaNe
import Derived.Test.YtbfjacgfifecpaaNf
import Derived.Test.YtbfjacgfifecpaaNg
import Derived.Test.YtbfjacgfifecpaaNh
import Derived.Test.YtbfjacgfifecpaaNl
namespace Go.Proofs.Ytbfjacgfifecpaa
open Go.RowKit

structure Fits (nodes : List Node) (ins outs : List Port) : Prop where
  nl : nodes.length ≤ 1099511627776
  il : ins.length ≤ 1073741824
  ol : outs.length ≤ 1073741824
  bits : ∀ q ∈ ins ++ outs, q.bits.length ≤ 1099511627776
  names : ∀ q ∈ ins ++ outs, q.name.size ≤ 1099511627776
  sum : (ins.flatMap (·.bits)).length ≤ 1099511627776
def badName (q : Port) : Bool := !nameB q.name
def errP (nodes : List Node) (ins outs : List Port) (b : Bool) : Int :=
  if 262144 < nodes.length ∨ 64 < ins.length + outs.length then 4
  else if formedB nodes ins outs = false then 2
  else if (ins ++ outs).any badName = true then 7
  else if dupB ((ins ++ outs).map (·.name)) = true then 8
  else if homeB nodes ins = false then 10
  else if b = false then 9 else 0
def LevOut (nodes : List Node) (ins outs : List Port) (e : Int) (l : List Int) : Prop :=
  ∃ b : Bool, e = errP nodes ins outs b ∧ (b = true → ∃ k, IsLev nodes k) ∧ (b = false → ¬ ∃ k, IsLev nodes k) ∧ (e = 0 → IsLev nodes l) ∧ (e ≠ 0 → l = [])
theorem LevOut.err {nodes : List Node} {ins outs : List Port} {e : Int} (h0 : e ≠ 0) (h : ∀ b, errP nodes ins outs b = e) : LevOut nodes ins outs e [] := by
  by_cases hx : ∃ k, IsLev nodes k
  · exact ⟨true, (h true).symm, fun _ => hx, fun h => (by simp at h), fun h => absurd h h0, fun _ => rfl⟩
  · exact ⟨false, (h false).symm, fun h => (by simp at h), fun _ => hx, fun h => absurd h h0, fun _ => rfl⟩
theorem formed_in {nodes : List Node} {ins outs : List Port} (hf : formedB nodes ins outs = true) : (∀ x ∈ nodes, ∀ u ∈ usesR x, 0 ≤ u ∧ u < nodes.length) ∧ (∀ q ∈ ins ++ outs, q.bits ≠ [] ∧ ∀ b ∈ q.bits, 0 ≤ b ∧ b < nodes.length) := by
  rw [formedB, Bool.and_eq_true, List.all_eq_true, List.all_eq_true] at hf
  refine ⟨fun x hx => rightB_uses (hf.1 x hx), fun q hq => ?_⟩
  have h := hf.2 q hq
  rw [portB, Bool.and_eq_true, List.all_eq_true] at h
  exact ⟨by simpa using h.1, fun b hb => by simpa using h.2 b hb⟩
theorem formed_inN {nodes : List Node} {ins outs : List Port} (hf : formedB nodes ins outs = true) : InN nodes := fun x hx u hu => by
  unfold usesN at hu
  split at hu
  · simp at hu
  · obtain ⟨z, hz, rfl⟩ := List.mem_map.1 hu
    have := (formed_in hf).1 x hx z hz
    omega
theorem errP_zero {nodes : List Node} {ins outs : List Port} {b : Bool} (h : errP nodes ins outs b = 0) : (nodes.length ≤ 262144 ∧ ins.length + outs.length ≤ 64) ∧ formedB nodes ins outs = true ∧ (ins ++ outs).any badName = false ∧ dupB ((ins ++ outs).map (·.name)) = false ∧ homeB nodes ins = true ∧ b = true := by
  unfold errP at h
  repeat' split at h
  all_goals first | omega | simp_all
theorem errP_nine {nodes : List Node} {ins outs : List Port} {b : Bool} (h : errP nodes ins outs b = 9) : b = false := by
  unfold errP at h
  repeat' split at h
  all_goals first | omega | simp_all
theorem errP_else {nodes : List Node} {ins outs : List Port} {b b' : Bool} (h : errP nodes ins outs b ≠ 9) (h' : errP nodes ins outs b ≠ 0) : errP nodes ins outs b = errP nodes ins outs b' := by
  unfold errP at *
  repeat' split at h
  all_goals simp_all
theorem LevOut.unique {nodes : List Node} {ins outs : List Port} {e e' : Int} {l l' : List Int} (h : LevOut nodes ins outs e l) (h' : LevOut nodes ins outs e' l') : e = e' ∧ l = l' := by
  obtain ⟨b, h1, h2, h3, h4, h5⟩ := h
  obtain ⟨b', h1', h2', h3', h4', h5'⟩ := h'
  have hb : b = b' := by
    cases b <;> cases b'
    · rfl
    · exact absurd (h2' rfl) (h3 rfl)
    · exact absurd (h2 rfl) (h3' rfl)
    · rfl
  subst hb
  have he : e = e' := h1.trans h1'.symm
  subst he
  refine ⟨rfl, ?_⟩
  by_cases h0 : e = 0
  · exact IsLev.unique (formed_inN (errP_zero (h1.symm.trans h0)).2.1) (h4 h0) (h4' h0)
  · rw [h5 h0, h5' h0]

theorem enter_f52 (args : Array Value) (W : World) : (callFunc 52 args).run Try.prog W = .ok (.enter 52 args) W := by kernel_rfl
theorem badName_net (W : World) (A : Option Addr) (c : Nat) (q : Port) (hq : q.name.size ≤ 1099511627776) :
    Calls Try.prog 52 (#[portV A c q] ++ #[]) W fun e W' => e = .returned (.bool (badName q)) ∧ Below W.heap.size W W' := by
  obtain ⟨o, ho⟩ : ∃ o : Obj, o = .cells #[.string q.name, .slice A q.bits.length c] 53 := ⟨_, rfl⟩
  have hb1 : Below W.heap.size W (W.alloc o) := (Below.refl _ _).alloc (Nat.le_refl _) _
  have hn := name_net (W.alloc o) q.name hq
  subst ho
  have HN := Lib.hid hn
  have HB := Lib.hid hb1
  clear hn hb1
  go_enter Try.func52, Try.ntmps52
  go_wp2_with fail
  refine HN.out.mono ?_
  rintro e w2 ⟨rfl, hb2⟩
  have HB2 := Lib.hid (HB.out.trans (hb2.mono (by simp)))
  clear hb2
  go_wp2
  go_ret
  exact ⟨rfl, HB2.out⟩

set_option maxHeartbeats 1000000 in
set_option maxRecDepth 4096 in
theorem lev_net (w : World) (v : Value) (nodes : List Node) (ins outs : List Port) (hN : NetV w v nodes ins outs) (hF : Fits nodes ins outs) :
    Calls Try.prog 17 #[v] w fun e w' => ∃ v' l x, e = .returned (.tuple #[v', .int .i64 x]) ∧ Row kInt w' (fun _ => False) v' l ∧ LevOut nodes ins outs x l ∧ Below w.heap.size w w' := by
  obtain ⟨An, cn, Ai, ci, Ao, co, rfl, hbox⟩ := hN.box
  let ob := netBox (.slice An nodes.length cn) (.slice Ai ins.length ci) (.slice Ao outs.length co)
  have hsz : (w.alloc ob).heap.size = w.heap.size + 1 := by simp
  have hall : ∀ W, Below (w.heap.size + 1) (w.alloc ob) W → NetV W (.agg #[.slice An nodes.length cn, .slice Ai ins.length ci, .slice Ao outs.length co]) nodes ins outs := fun W hW => by
    obtain ⟨-, -, -, r1, r2, r3, -⟩ := hbox W hW
    exact ⟨_, _, _, rfl, r1, r2, r3⟩
  obtain ⟨z0, z1, z2, -, -, -, -⟩ := hbox (w.alloc ob) (Below.refl _ _)
  have HBOX := Lib.hid hbox
  have HALL := Lib.hid hall
  have HSZ := Lib.hid hsz
  have HF := Lib.hid hF
  have il := hF.il
  have ol := hF.ol
  have nl := hF.nl
  clear hbox hall hsz hN hF
  have hb0 : Below w.heap.size w (w.alloc ob) := (Below.refl _ _).alloc (Nat.le_refl _) _
  have HB0 := Lib.hid hb0
  clear hb0
  by_cases h1 : 262144 < nodes.length
  · have HE := Lib.hid (LevOut.err (nodes := nodes) (ins := ins) (outs := outs) (e := 4) (by decide) (fun b => by rw [errP, if_pos (.inl h1)]))
    go_enter Try.func17, Try.ntmps17
    go_wp2_with fail
    go_ret2
    exact ⟨_, [], _, rfl, nilRowInt _ _, HE.out, HB0.out⟩
  by_cases h2 : 64 < ins.length + outs.length
  · have HE := Lib.hid (LevOut.err (nodes := nodes) (ins := ins) (outs := outs) (e := 4) (by decide) (fun b => by rw [errP, if_pos (.inr h2)]))
    go_enter Try.func17, Try.ntmps17
    go_wp2_with fail
    go_ret2
    exact ⟨_, [], _, rfl, nilRowInt _ _, HE.out, HB0.out⟩
  have hno : ¬ (262144 < nodes.length ∨ 64 < ins.length + outs.length) := by omega
  have hN1 := HALL.out _ (Below.refl _ _)
  have HFN := Lib.hid (formless_net _ _ nodes ins outs hN1 nl il ol HF.out.bits)
  have hpl : (ins ++ outs).length ≤ 1099511627776 := by rw [List.length_append]; omega
  have hpl2 : (ins ++ outs).length ≤ 2147483648 := by rw [List.length_append]; omega
  have hnl2 : nodes.length ≤ 1073741824 := by omega
  have HPL := Lib.hid hpl
  have HPL2 := Lib.hid hpl2
  have HNO := Lib.hid hno
  have HNL2 := Lib.hid hnl2
  have HIL := Lib.hid il
  have HOL := Lib.hid ol
  have HNL := Lib.hid nl
  clear hN1 hno hpl hpl2 hnl2
  go_enter Try.func17, Try.ntmps17
  go_wp2_with fail
  refine HFN.out.mono ?_
  rintro e w1 ⟨rfl, hb1⟩
  have HB1 : Hid (Below (w.heap.size + 1) (w.alloc ob) w1) := Lib.hid (by rw [HSZ.out] at hb1; exact hb1)
  have HBW1 := Lib.hid (HB0.out.trans (hb1.mono (by rw [HSZ.out]; omega)))
  clear hb1 z0 z1 z2
  cases hf : formedB nodes ins outs with
  | false =>
    have HE := Lib.hid (LevOut.err (nodes := nodes) (ins := ins) (outs := outs) (e := 2) (by decide) (fun b => by rw [errP, if_neg HNO.out, if_pos hf]))
    clear hf
    go_wp2
    go_ret2
    exact ⟨_, [], _, rfl, nilRowInt _ _, HE.out, HBW1.out⟩
  | true =>
    have HFORM := Lib.hid hf
    obtain ⟨z0, z1, z2, -, -, -, -⟩ := HBOX.out _ HB1.out
    have HP := Lib.hid (ports_net _ _ nodes ins outs (HALL.out _ HB1.out) il ol)
    clear hf
    go_wp2_with fail
    refine HP.out.mono ?_
    rintro e w2 ⟨v2, rfl, hr2, hb2⟩
    have HC := Lib.hid (contains_ports w2 v2 _ hr2 HPL.out _ _ enter_f52 badName (fun q hq W A c hW hr => badName_net W A c q (HF.out.names q hq)))
    have HB2 := Lib.hid (HB1.out.trans (hb2.mono (by have := HB1.out.size; rw [HSZ.out] at this; exact this)))
    clear hr2 hb2 z0 z1 z2
    go_wp2_with fail
    refine HC.out.mono ?_
    rintro e w3 ⟨rfl, hb3⟩
    have HB3 := Lib.hid (HB2.out.trans (hb3.mono (by have := HB2.out.size; rw [HSZ.out] at this; exact this)))
    clear hb3 HC HB2 HP
    cases hb : (ins ++ outs).any badName with
    | true =>
      have HE := Lib.hid (LevOut.err (nodes := nodes) (ins := ins) (outs := outs) (e := 7) (by decide) (fun b => by rw [errP, if_neg HNO.out, if_neg (by rw [HFORM.out]; simp), if_pos hb]))
      have HBW3 := Lib.hid (HB0.out.trans (HB3.out.mono (by omega)))
      clear hb
      go_wp2
      go_ret2
      exact ⟨_, [], _, rfl, nilRowInt _ _, HE.out, HBW3.out⟩
    | false =>
      have HNAME := Lib.hid hb
      obtain ⟨z0, z1, z2, -, -, -, -⟩ := HBOX.out _ HB3.out
      have HP := Lib.hid (ports_net _ _ nodes ins outs (HALL.out _ HB3.out) il ol)
      clear hb
      go_wp2_with fail
      refine HP.out.mono ?_
      rintro e w4 ⟨v4, rfl, hr4, hb4⟩
      have HC := Lib.hid (twice_net w4 v4 _ hr4 HPL2.out HF.out.names)
      have HB4 := Lib.hid (HB3.out.trans (hb4.mono (by have := HB3.out.size; rw [HSZ.out] at this; exact this)))
      clear hr4 hb4 z0 z1 z2
      go_wp2_with fail
      refine HC.out.mono ?_
      rintro e w5 ⟨rfl, hb5⟩
      have HB5 := Lib.hid (HB4.out.trans (hb5.mono (by have := HB4.out.size; rw [HSZ.out] at this; exact this)))
      clear hb5 HC HB4 HP
      cases hd : dupB ((ins ++ outs).map (·.name)) with
      | true =>
        have HE := Lib.hid (LevOut.err (nodes := nodes) (ins := ins) (outs := outs) (e := 8) (by decide) (fun b => by rw [errP, if_neg HNO.out, if_neg (by rw [HFORM.out]; simp), if_neg (by rw [HNAME.out]; simp), if_pos hd]))
        have HBW5 := Lib.hid (HB0.out.trans (HB5.out.mono (by omega)))
        clear hd
        go_wp2
        go_ret2
        exact ⟨_, [], _, rfl, nilRowInt _ _, HE.out, HBW5.out⟩
      | false =>
        have HDUP := Lib.hid hd
        obtain ⟨z0, z1, z2, -, -, -, -⟩ := HBOX.out _ HB5.out
        have HC := Lib.hid (homeless_net _ _ nodes ins outs (HALL.out _ HB5.out) nl il HF.out.sum (fun q hq => ((formed_in HFORM.out).2 q (List.mem_append_left _ hq)).2))
        clear hd
        go_wp2_with fail
        refine HC.out.mono ?_
        rintro e w6 ⟨rfl, hb6⟩
        have HB6 := Lib.hid (HB5.out.trans (hb6.mono (by have := HB5.out.size; rw [HSZ.out] at this; exact this)))
        clear hb6 HC z0 z1 z2
        cases hh : homeB nodes ins with
        | false =>
          have HE := Lib.hid (LevOut.err (nodes := nodes) (ins := ins) (outs := outs) (e := 10) (by decide) (fun b => by rw [errP, if_neg HNO.out, if_neg (by rw [HFORM.out]; simp), if_neg (by rw [HNAME.out]; simp), if_neg (by rw [HDUP.out]; simp), if_pos hh]))
          have HBW6 := Lib.hid (HB0.out.trans (HB6.out.mono (by omega)))
          clear hh
          go_wp2
          go_ret2
          exact ⟨_, [], _, rfl, nilRowInt _ _, HE.out, HBW6.out⟩
        | true =>
          have HHOME := Lib.hid hh
          obtain ⟨z0, z1, z2, -, -, -, -⟩ := HBOX.out _ HB6.out
          have HC := Lib.hid (levels_net _ _ nodes ins outs (HALL.out _ HB6.out) HNL2.out (formed_in HFORM.out).1)
          clear hh
          go_wp2_with fail
          refine HC.out.mono ?_
          rintro e w7 ⟨v7, l, b, rfl, hr7, hl1, hl2, hb7⟩
          have HB7 := Lib.hid (HB6.out.trans (hb7.mono (by have := HB6.out.size; rw [HSZ.out] at this; exact this)))
          have HBW7 := Lib.hid (HB0.out.trans (HB7.out.mono (by omega)))
          have HR7 := Lib.hid hr7
          have herr : ∀ b, errP nodes ins outs b = if b = false then 9 else 0 := fun b => by rw [errP, if_neg HNO.out, if_neg (by rw [HFORM.out]; simp), if_neg (by rw [HNAME.out]; simp), if_neg (by rw [HDUP.out]; simp), if_neg (by rw [HHOME.out]; simp)]
          cases b with
          | false =>
            have HE : Hid (LevOut nodes ins outs 9 []) := Lib.hid ⟨false, (herr false).symm, fun h => by simp at h, fun _ => hl2 rfl, fun h => by simp at h, fun _ => rfl⟩
            clear hb7 HC z0 z1 z2 hr7 hl1 hl2 herr
            go_wp2
            go_ret2
            exact ⟨_, [], _, rfl, nilRowInt _ _, HE.out, HBW7.out⟩
          | true =>
            have HE : Hid (LevOut nodes ins outs 0 l) := Lib.hid ⟨true, (herr true).symm, fun _ => ⟨l, hl1 rfl⟩, fun h => by simp at h, fun _ => hl1 rfl, fun h => absurd rfl h⟩
            clear hb7 HC z0 z1 z2 hr7 hl1 hl2 herr
            go_wp2
            go_ret2
            exact ⟨_, l, _, rfl, HR7.out, HE.out, HBW7.out⟩
end Go.Proofs.Ytbfjacgfifecpaa
