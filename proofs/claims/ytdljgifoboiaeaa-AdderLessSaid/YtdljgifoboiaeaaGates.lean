/- The builder's gates, each by its contract. -/
import Derived.Test.YtdljgifoboiaeaaLay
import Derived.Test.YtdljgifoboiaeaaModel
namespace Go.Proofs.Ytdljgifoboiaeaa
open Go.RowKit

/-- what a call of the builder's leaves -/
def Laid (w : World) (p : Nat) (st' : BSt) (w' : World) : Prop := BRep w' p st' ∧ Kept w.heap.size (some p) w w'

theorem Own.alloc {α : Type} {k : Kd α} {e : TypeId} {w : World} {p : Option Nat} {B : Nat} {v : Value} {xs : List α} (h : Own k e w p B v xs) (hF : FootIn w p) (o : Obj) : Own k e (w.alloc o) p B v xs :=
  h.kept (Kept.of_below_all ((Below.refl _ _).alloc (Nat.le_refl _) o) hF (Nat.le_refl _))
theorem Own.drew {α : Type} {k : Kd α} {e : TypeId} {w : World} {p : Option Nat} {B : Nat} {v : Value} {xs : List α} (h : Own k e w p B v xs) (hF : FootIn w p) : Own k e w.drew p B v xs :=
  h.kept (Kept.of_below_all (Below.refl _ _).drew hF (Nat.le_refl _))

set_option maxHeartbeats 1000000 in
theorem lay_calls (w : World) (p : Nat) (st : BSt) (x : Node) (hB : BRep w p st) (hl : st.nodes.length < lim) :
    Calls Try.prog 89 #[.pointer (some ⟨p, 0, none⟩), .agg #[.int .i64 x.kind, .int .i64 x.a, .int .i64 x.b, .int .i64 x.c]] w
      fun e w' => e = .returned (.int .i64 (lay x st).1) ∧ Laid w p (lay x st).2 w' := by
  obtain ⟨vn, vi, vo, c0, c1, c2, hfz, hO, hne⟩ := hB.cells
  obtain ⟨A, cap, hvn, hcap, hcm⟩ := hO.shape
  have hpl := hB.lt
  let ob : Obj := .cells #[.int .i64 x.kind, .int .i64 x.a, .int .i64 x.b, .int .i64 x.c] 117
  have hO2 : Own kNode 117 ((w.alloc ob).alloc ob).drew none 0 vn st.nodes := ((hO.alloc (FootIn.none _) ob).alloc (FootIn.none _) ob).drew (FootIn.none _)
  have hB2 : BRep ((w.alloc ob).alloc ob).drew p st := ((hB.alloc ob).alloc ob).drew
  have hk2 : Kept w.heap.size (some p) w ((w.alloc ob).alloc ob).drew := Kept.of_below_all ((((Below.refl _ _).alloc (Nat.le_refl _) _).alloc (by simp) _).drew) hB.fin (Nat.le_refl _)
  have hnews : ∀ j u, ([x.cells] : List (List Value)).flatten[j]? = some u → ((w.alloc ob).alloc ob).drew.cell? ((⟨w.heap.size + 1, 0, none⟩ : Addr).add j) = some u := by
    intro j u hu
    rw [Addr.add_lit, Nat.zero_add]
    show ((w.alloc ob).alloc ob).cell? ⟨w.heap.size + 1, j, none⟩ = some u
    rw [show w.heap.size + 1 = (w.alloc ob).heap.size by simp, World.cell?_alloc_new]
    simpa [Node.cells] using hu
  have hc2 : ((w.alloc ob).alloc ob).drew.cell? ⟨p, 0, none⟩ = some vn := by
    show ((w.alloc ob).alloc ob).cell? ⟨p, 0, none⟩ = some vn
    rw [World.cell?_alloc_lt _ _ _ (by simp; omega), World.cell?_alloc_lt _ _ _ (by simpa using hpl)]; exact c0
  have hf2 : ((w.alloc ob).alloc ob).drew.frozen? ⟨p, 0, none⟩ = false := by
    obtain ⟨_, _, _, _, _, _, h, _⟩ := hB2.cells
    exact h 0
  have HC := Lib.hid (And.intro hc2 hf2)
  have HO := Lib.hid hO2
  have HB := Lib.hid hB2
  have HK := Lib.hid hk2
  have HN := Lib.hid hnews
  have HV := Lib.hid hvn
  have HE := Lib.hid hne
  have HL : st.nodes.length < 1099511627776 := hl
  clear hc2 hf2 hO hO2 hB2 hB c1 c2 hk2 hnews hvn hne hl hcap hcm
  subst ob
  go_enter Try.func89, Try.ntmps89
  go_wp2
  go_region_law (refine step_app rfl (wp_app kNode 117 30 (.agg #[.int .i64 0, .int .i64 0, .int .i64 0, .int .i64 0]) 32 (.tmp 9) (.tmp 11) rfl Try.underlying30 infoNode rfl (by decide) (by decide) none 0 HO.out (FootIn.none _) (Nat.zero_le _) (by first | rfl | exact HV.out) ⟨w.heap.size + 1, 0, none⟩ 1 1 [x] [x.cells] rfl rfl ((Pairs.nil _ _ _).snoc rfl) HN.out (by have := HL; omega) ?_); intro v' w' q1 q2 q3 q4 q5 q6; have z0 := (World.cell?_of_block (a := ⟨p, 0, none⟩) (q5.block p (by simp; omega) (fun e => HE.out e.symm))).trans HC.out.1; have z1 := (World.frozen?_of_block (a := ⟨p, 0, none⟩) (q5.block p (by simp; omega) (fun e => HE.out e.symm))).trans HC.out.2; have R := Lib.hid (HB.out.push HC.out.1 q1 q5 (q6.imp_right fun h => ⟨_, h, Nat.le_refl _⟩)); obtain ⟨A', cap', rfl, -, -⟩ := q1.shape; clear q1 q2 q3 q4 q5 q6)
  all_goals
    go_wp2
    go_ret
    have R1 := R.out
    simp only [List.length_append, List.length_cons, List.length_nil, Nat.zero_add] at R1
    exact ⟨by simp [lay], R1.1, HK.out.trans (R1.2.mono (by simp; omega))⟩

theorem flag_calls (v : Int) (w : World) :
    Calls Try.prog 124 #[.int .i64 v] w fun e w' => e = .returned (.int .i64 (flag v)) ∧ w = w' := by
  by_cases h : v = 0
  · go_enter Try.func124, Try.ntmps124
    go_wp2
    go_ret
    exact ⟨by simp [h, flag], rfl⟩
  · go_enter Try.func124, Try.ntmps124
    go_wp2
    go_ret
    exact ⟨by simp [h, flag], rfl⟩

theorem bit_calls (w : World) (p : Nat) (st : BSt) (v : Int) (hB : BRep w p st) (hl : st.nodes.length < lim) :
    Calls Try.prog 104 #[.pointer (some ⟨p, 0, none⟩), .int .i64 v] w fun e w' => e = .returned (.int .i64 (bBit v st).1) ∧ Laid w p (bBit v st).2 w' := by
  go_enter Try.func104, Try.ntmps104
  go_wp2_with (first
    | (go_at_call 124; refine (flag_calls _ _).mono ?_; rintro e w' ⟨rfl, rfl⟩)
    | (go_at_call 89; refine (lay_calls _ _ st ⟨0, flag v, 0, 0⟩ hB hl).mono ?_; rintro e w' ⟨rfl, hL⟩))
  go_ret
  exact ⟨rfl, hL⟩
theorem not_calls (w : World) (p : Nat) (st : BSt) (x : Int) (hB : BRep w p st) (hl : st.nodes.length < lim) :
    Calls Try.prog 103 #[.pointer (some ⟨p, 0, none⟩), .int .i64 x] w fun e w' => e = .returned (.int .i64 (bNot x st).1) ∧ Laid w p (bNot x st).2 w' := by
  go_enter Try.func103, Try.ntmps103
  go_wp2_with (go_at_call 89; refine (lay_calls _ _ st ⟨2, x, 0, 0⟩ hB hl).mono ?_; rintro e w' ⟨rfl, hL⟩)
  go_ret
  exact ⟨rfl, hL⟩

theorem and_calls (w : World) (p : Nat) (st : BSt) (x y : Int) (hB : BRep w p st) (hl : st.nodes.length < lim) :
    Calls Try.prog 83 #[.pointer (some ⟨p, 0, none⟩), .int .i64 x, .int .i64 y] w fun e w' => e = .returned (.int .i64 (bAnd x y st).1) ∧ Laid w p (bAnd x y st).2 w' := by
  go_enter Try.func83, Try.ntmps83
  go_wp2_with (go_at_call 89; refine (lay_calls _ _ st ⟨3, x, y, 0⟩ hB hl).mono ?_; rintro e w' ⟨rfl, hL⟩)
  go_ret
  exact ⟨rfl, hL⟩

theorem or_calls (w : World) (p : Nat) (st : BSt) (x y : Int) (hB : BRep w p st) (hl : st.nodes.length < lim) :
    Calls Try.prog 113 #[.pointer (some ⟨p, 0, none⟩), .int .i64 x, .int .i64 y] w fun e w' => e = .returned (.int .i64 (bOr x y st).1) ∧ Laid w p (bOr x y st).2 w' := by
  go_enter Try.func113, Try.ntmps113
  go_wp2_with (go_at_call 89; refine (lay_calls _ _ st ⟨4, x, y, 0⟩ hB hl).mono ?_; rintro e w' ⟨rfl, hL⟩)
  go_ret
  exact ⟨rfl, hL⟩

theorem xor_calls (w : World) (p : Nat) (st : BSt) (x y : Int) (hB : BRep w p st) (hl : st.nodes.length < lim) :
    Calls Try.prog 108 #[.pointer (some ⟨p, 0, none⟩), .int .i64 x, .int .i64 y] w fun e w' => e = .returned (.int .i64 (bXor x y st).1) ∧ Laid w p (bXor x y st).2 w' := by
  go_enter Try.func108, Try.ntmps108
  go_wp2_with (go_at_call 89; refine (lay_calls _ _ st ⟨5, x, y, 0⟩ hB hl).mono ?_; rintro e w' ⟨rfl, hL⟩)
  go_ret
  exact ⟨rfl, hL⟩

theorem mux_calls (w : World) (p : Nat) (st : BSt) (x y c : Int) (hB : BRep w p st) (hl : st.nodes.length < lim) :
    Calls Try.prog 84 #[.pointer (some ⟨p, 0, none⟩), .int .i64 x, .int .i64 y, .int .i64 c] w fun e w' => e = .returned (.int .i64 (bMux x y c st).1) ∧ Laid w p (bMux x y c st).2 w' := by
  go_enter Try.func84, Try.ntmps84
  go_wp2_with (go_at_call 89; refine (lay_calls _ _ st ⟨6, x, y, c⟩ hB hl).mono ?_; rintro e w' ⟨rfl, hL⟩)
  go_ret
  exact ⟨rfl, hL⟩

theorem reg_calls (w : World) (p : Nat) (st : BSt) (x v : Int) (hB : BRep w p st) (hl : st.nodes.length < lim) :
    Calls Try.prog 85 #[.pointer (some ⟨p, 0, none⟩), .int .i64 x, .int .i64 v] w fun e w' => e = .returned (.int .i64 (bReg x v st).1) ∧ Laid w p (bReg x v st).2 w' := by
  go_enter Try.func85, Try.ntmps85
  go_wp2_with (first
    | (go_at_call 124; refine (flag_calls _ _).mono ?_; rintro e w' ⟨rfl, rfl⟩)
    | (go_at_call 89; refine (lay_calls _ _ st ⟨7, x, flag v, 0⟩ hB hl).mono ?_; rintro e w' ⟨rfl, hL⟩))
  go_ret
  exact ⟨rfl, hL⟩

end Go.Proofs.Ytdljgifoboiaeaa
