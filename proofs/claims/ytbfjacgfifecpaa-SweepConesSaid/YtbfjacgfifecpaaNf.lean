/- net.formless. -/
import Derived.Test.YtbfjacgfifecpaaNc
import Derived.Test.YtbfjacgfifecpaaNa
import Derived.Laws.EntriesVeiled
namespace Go.Proofs.Ytbfjacgfifecpaa
open Go.RowKit

def outB (n : Nat) (x : Int) : Bool := decide (x < 0) || decide ((n : Int) ≤ x)
theorem enter_f82 (args : Array Value) (W : World) : (callFunc 82 args).run Try.prog W = .ok (.enter 82 args) W := by kernel_rfl

theorem beyond_net (W : World) (b : Nat) (A : Option Addr) (n c : Nat) (hc : W.cell? ⟨b, 0, none⟩ = some (.slice A n c)) (x : Int) :
    Calls Try.prog 82 #[.int .i64 x, .pointer (some ⟨b, 0, none⟩)] W fun e W' => e = .returned (.bool (outB n x)) ∧ Below W.heap.size W W' := by
  rcases Int.lt_or_le x 0 with h | h
  · go_enter Try.func82, Try.ntmps82
    go_wp2
    go_ret
    exact ⟨by simp [outB, h], Below.refl _ _⟩
  · go_enter Try.func82, Try.ntmps82
    go_wp2
    go_ret
    refine ⟨?_, Below.refl _ _⟩
    have : decide (x < 0) = false := decide_eq_false (by omega)
    simp [outB]

theorem formPort_net (W : World) (fb b : Nat) (A : Option Addr) (n c : Nat) (hfb : fb < W.heap.size) (hb : b < W.heap.size) (hf : W.cell? ⟨fb, 0, none⟩ = some (.func (.func 82) #[] #[.pointer (some ⟨b, 0, none⟩)])) (hc : W.cell? ⟨b, 0, none⟩ = some (.slice A n c))
    (q : Port) (A2 : Option Addr) (c2 : Nat) (hr : Row kInt W (fun _ => False) (.slice A2 q.bits.length c2) q.bits) (hl : q.bits.length ≤ 1099511627776) :
    Calls Try.prog 85 #[portV A2 c2 q, .pointer (some ⟨fb, 0, none⟩)] W fun e W' => e = .returned (.bool (decide (q.bits.length = 0) || q.bits.any (outB n))) ∧ Below W.heap.size W W' := by
  obtain ⟨o, ho⟩ : ∃ o : Obj, o = .cells #[.string q.name, .slice A2 q.bits.length c2] 53 := ⟨_, rfl⟩
  have hb1 : Below W.heap.size W (W.alloc o) := (Below.refl _ _).alloc (Nat.le_refl _) _
  have hf1 : (W.alloc o).cell? ⟨fb, 0, none⟩ = some (.func (.func 82) #[] #[.pointer (some ⟨b, 0, none⟩)]) := (hb1.cell hfb).trans hf
  have hcall := contains_ints (W.alloc o) (.slice A2 q.bits.length c2) q.bits (hr.later hb1) hl 82 #[.pointer (some ⟨b, 0, none⟩)] enter_f82 (outB n) (fun x _ W2 hW2 => beyond_net W2 b A n c ((hW2.cell (p := ⟨b, 0, none⟩) (by simp; omega)).trans ((hb1.cell hb).trans hc)) x)
  have HCALL := Lib.hid hcall
  have HB1 := Lib.hid hb1
  subst ho
  clear hcall hr hc hf hb1
  by_cases h0 : q.bits.length = 0
  · have h0i : (q.bits.length : Int) = 0 := by omega
    rw [h0] at HB1
    clear HCALL
    go_enter Try.func85, Try.ntmps85
    go_wp2
    go_ret
    exact ⟨by simp [h0], HB1.out⟩
  · have h0i : ¬ (q.bits.length : Int) = 0 := by omega
    go_enter Try.func85, Try.ntmps85
    go_wp2_with fail
    refine HCALL.out.mono ?_
    rintro e w2 ⟨rfl, hb2⟩
    have HB2 := Lib.hid (HB1.out.trans (hb2.mono (by simp)))
    clear hb2
    go_wp2
    go_ret
    exact ⟨by simp [h0], HB2.out⟩

theorem enter_f85 (args : Array Value) (W : World) : (callFunc 85 args).run Try.prog W = .ok (.enter 85 args) W := by kernel_rfl

theorem plainN_kind (x : Node) : (plainN x).kind = x.kind := by
  unfold plainN
  repeat' split
  all_goals simp_all
def offB (x : Node) (n : Nat) : Bool := decide (x.kind < 0) || decide (8 ≤ x.kind) || !decide (plainN x = x) || (usesR x).any (outB n)
theorem outB_not (n : Nat) (x : Int) : outB n x = !decide (0 ≤ x ∧ x < n) := by
  unfold outB
  rw [Bool.eq_iff_iff]
  simp <;> omega
theorem any_out (n : Nat) (l : List Int) : l.any (outB n) = !(l.all fun a => decide (0 ≤ a ∧ a < n)) := by
  rw [List.not_all_eq_any_not]
  congr 1
  funext a
  exact outB_not n a
theorem offB_right (x : Node) (n : Nat) : offB x n = !rightB x n := by
  unfold offB rightB
  rw [any_out]
  generalize (usesR x).all (fun a => decide (0 ≤ a ∧ a < (n : Int))) = A
  obtain ⟨k, a, b, c⟩ := x
  have hk : k < 0 ∨ 8 ≤ k ∨ k = 0 ∨ k = 1 ∨ k = 2 ∨ k = 3 ∨ k = 4 ∨ k = 5 ∨ k = 6 ∨ k = 7 := by omega
  rcases hk with h | h | rfl | rfl | rfl | rfl | rfl | rfl | rfl | rfl
  · have hm : many k = -1 := by unfold many; repeat' split <;> omega
    simp [h, hm]
  · have hm : many k = -1 := by unfold many; repeat' split <;> omega
    simp [h, hm]
  all_goals
    rw [Bool.eq_iff_iff]
    cases A <;> simp [many, plainN, bitB, and1] <;> omega
def poB (q : Port) (n : Nat) : Bool := decide (q.bits.length = 0) || q.bits.any (outB n)
theorem poB_port (q : Port) (n : Nat) : poB q n = !portB q n := by
  unfold poB portB
  rw [any_out]
  cases hb : q.bits with
  | nil => simp
  | cons a t => simp

set_option maxRecDepth 4096 in
set_option maxHeartbeats 2000000 in
theorem formless_net (w : World) (v : Value) (nodes : List Node) (ins outs : List Port) (hN : NetV w v nodes ins outs) (hnl : nodes.length ≤ 1099511627776) (hi : ins.length ≤ 1073741824) (ho : outs.length ≤ 1073741824)
    (hbits : ∀ q ∈ ins ++ outs, q.bits.length ≤ 1099511627776) :
    Calls Try.prog 49 #[v] w fun e w' => e = .returned (.bool (!formedB nodes ins outs)) ∧ Below w.heap.size w w' := by
  obtain ⟨An, cn, Ai, ci, Ao, co, rfl, hbox⟩ := hN.box
  obtain ⟨ob, hob⟩ : ∃ o : Obj, o = netBox (.slice An nodes.length cn) (.slice Ai ins.length ci) (.slice Ao outs.length co) := ⟨_, rfl⟩
  rw [← hob] at hbox
  have hfc : ∀ W, Below (w.heap.size + 2) ((w.alloc ob).alloc (.cells #[.func (.func 82) #[] #[.pointer (some ⟨w.heap.size, 0, none⟩)]] 108)) W → W.cell? ⟨w.heap.size + 1, 0, none⟩ = some (.func (.func 82) #[] #[.pointer (some ⟨w.heap.size, 0, none⟩)]) ∧ Below (w.heap.size + 1) (w.alloc ob) W := fun W hW => by
    have hs : (w.alloc ob).heap.size = w.heap.size + 1 := by simp
    refine ⟨?_, ((Below.refl _ _).alloc (by rw [hs]; exact Nat.le_refl _) _).trans (hW.mono (by omega))⟩
    rw [hW.cell (by simp), ← hs]
    exact World.cell?_alloc_new _ _ _ 0
  have HBOX := Lib.hid hbox
  have HFC := Lib.hid hfc
  have HBITS := Lib.hid hbits
  subst hob
  clear hbox hfc hN hbits
  go_enter Try.func49, Try.ntmps49
  go_wp2_with fail
  obtain ⟨w2, hw2⟩ : ∃ w2, w2 = (w.alloc (netBox (.slice An nodes.length cn) (.slice Ai ins.length ci) (.slice Ao outs.length co))).alloc (.cells #[.func (.func 82) #[] #[.pointer (some ⟨w.heap.size, 0, none⟩)]] 108) := ⟨_, rfl⟩
  have hsz2 : w2.heap.size = w.heap.size + 2 := by rw [hw2]; simp
  rw [← hw2] at HFC
  rw [← hw2]
  have HW2 := Lib.hid hw2
  have HSZ := Lib.hid hsz2
  clear hw2 hsz2
  go_loopw [10] (fun i wr => ∃ j : Nat, j ≤ nodes.length ∧ i = .int .i64 (j : Nat) ∧ Hid (∀ q ∈ nodes.take j, offB q nodes.length = false) ∧ Hid (Below (w.heap.size + 2) w2 wr)) (fun i _ => nodes.length - (intOf i).toNat)
  case atStart => exact ⟨0, Nat.zero_le _, rfl, Lib.hid (by simp), Lib.hid (Below.refl _ _)⟩
  case round =>
    obtain ⟨j, hj, rfl, HQ, HB⟩ := hrel
    obtain ⟨hfun, hbx⟩ := HFC.out wr HB.out
    obtain ⟨hn0, hn1, hn2, hrn, hri, hro, hbw⟩ := HBOX.out wr hbx
    have hszr : w.heap.size + 2 ≤ wr.heap.size := by have := HB.out.size; have := HSZ.out; omega
    by_cases hlt : j < nodes.length
    · obtain ⟨b, off, rfl, x0, x1, x2, x3⟩ := hrn.node_at hlt
      have HM := Lib.hid (List.getElem_mem hlt)
      have HT := Lib.hid (List.take_succ_eq_append_getElem hlt)
      obtain ⟨x, hxx⟩ : ∃ x, nodes[j] = x := ⟨_, rfl⟩
      rw [hxx] at x0 x1 x2 x3 HM HT
      clear hxx hrn hri hro
      obtain ⟨xk, xa, xb, xc⟩ := x
      dsimp only at x0 x1 x2 x3
      obtain ⟨wx, hwx⟩ : ∃ wx, wx = wr.alloc (.cells #[.int .i64 xk, .int .i64 xa, .int .i64 xb, .int .i64 xc] 38) := ⟨_, rfl⟩
      have hbwx : Below wr.heap.size wr wx := by rw [hwx]; exact (Below.refl _ _).alloc (Nat.le_refl _) _
      have hszx : wx.heap.size = wr.heap.size + 1 := by rw [hwx]; simp
      have hall : ∀ W, Below wx.heap.size wx W → (W.cell? ⟨wr.heap.size, 0, none⟩ = some (.int .i64 xk) ∧ W.cell? ⟨wr.heap.size, 1, none⟩ = some (.int .i64 xa) ∧ W.cell? ⟨wr.heap.size, 2, none⟩ = some (.int .i64 xb) ∧ W.cell? ⟨wr.heap.size, 3, none⟩ = some (.int .i64 xc)) ∧ W.cell? ⟨w.heap.size + 1, 0, none⟩ = some (.func (.func 82) #[] #[.pointer (some ⟨w.heap.size, 0, none⟩)]) := fun W hW => by
        have hc : ∀ i, W.cell? ⟨wr.heap.size, i, none⟩ = wx.cell? ⟨wr.heap.size, i, none⟩ := fun i => hW.cell (by simp; omega)
        rw [hc, hc, hc, hc, hwx]
        refine ⟨⟨World.cell?_alloc_new _ _ _ 0, World.cell?_alloc_new _ _ _ 1, World.cell?_alloc_new _ _ _ 2, World.cell?_alloc_new _ _ _ 3⟩, ?_⟩
        rw [(hbwx.trans (hW.mono (by omega))).cell (by simp; omega)]
        exact hfun
      have hbel : ∀ W, Below wx.heap.size wx W → Below (w.heap.size + 2) w2 W := fun W hW => HB.out.trans ((hbwx.trans (hW.mono (by omega))).mono (by omega))
      have hbel2 : ∀ W, Below wx.heap.size wx W → Below w.heap.size w W := fun W hW => hbw.trans ((hbwx.trans (hW.mono (by omega))).mono (by omega))
      have hbey : ∀ W, Below wx.heap.size wx W → ∀ x ∈ usesR ⟨xk, xa, xb, xc⟩, ∀ W2, Below W.heap.size W W2 → Calls Try.prog 82 (#[.int .i64 x] ++ #[.pointer (some ⟨w.heap.size, 0, none⟩)]) W2 fun e W' => e = .returned (.bool (outB nodes.length x)) ∧ Below W2.heap.size W2 W' := fun W hW x _ W2 hW2 => by
        refine beyond_net W2 w.heap.size (some ⟨b, off, none⟩) nodes.length cn ?_ x
        have h2 : Below wx.heap.size wx W2 := hW.trans (hW2.mono hW.size)
        rw [(hbwx.trans (h2.mono (by omega))).cell (by simp; omega)]
        exact hn0
      have husl : (usesR ⟨xk, xa, xb, xc⟩).length ≤ 1099511627776 := by
        have : (usesR ⟨xk, xa, xb, xc⟩).length ≤ 3 := by simp [usesR]; omega
        omega
      have hus : ∀ W, Calls Try.prog 23 #[.agg #[.int .i64 xk, .int .i64 xa, .int .i64 xb, .int .i64 xc]] W fun e w' => ∃ v', e = .returned v' ∧ Row kInt w' (fun _ => False) v' (usesR ⟨xk, xa, xb, xc⟩) ∧ Below W.heap.size W w' := fun W => uses_net W _ (fun _ h => h.elim) ⟨xk, xa, xb, xc⟩
      obtain ⟨us, hus2⟩ : ∃ us, usesR ⟨xk, xa, xb, xc⟩ = us := ⟨_, rfl⟩
      rw [hus2] at hus hbey husl
      have HBEL := Lib.hid hbel
      have HBEL2 := Lib.hid hbel2
      have HBEY := Lib.hid hbey
      have HUS := Lib.hid hus
      have HUSL := Lib.hid husl
      have HUS2 := Lib.hid hus2
      have HALL := Lib.hid hall
      have HWX := Lib.hid hwx
      have HBW := Lib.hid hbwx
      have HSX := Lib.hid hszx
      have hX0 := hall wx (Below.refl _ _)
      have hX1 := hall wx.drew (Below.refl _ _).drew
      have HX0 := Lib.hid hX0
      have HX1 := Lib.hid hX1
      have hno : offB ⟨xk, xa, xb, xc⟩ nodes.length = true → formedB nodes ins outs = false := fun hoff => by
        rw [formedB, Bool.and_eq_false_iff]; left
        rw [List.all_eq_false]; exact ⟨_, HM.out, by rw [offB_right] at hoff; simpa using hoff⟩
      have HNO := Lib.hid hno
      clear hwx hbwx hszx hall hX0 hX1 hbel hbel2 hbey hus husl hus2 hno hn1 hn2 hfun
      by_cases k0 : xk < 0
      · have hres := HNO.out (by simp [offB, k0])
        have HRES := Lib.hid hres
        clear hres
        go_wp2_with fail
        rw [← HWX.out]
        have hd : decide (xk < 0) = true := decide_eq_true (by omega)
        obtain ⟨⟨y0, y1, y2, y3⟩, y4⟩ := HX0.out
        first
          | (go_region_with (fail))
          | fail "region"
        all_goals go_wp2
        all_goals go_ret
        all_goals exact ⟨by rw [HRES.out]; rfl, HBEL2.out _ (Below.refl _ _).drew⟩
      have k0' : 0 ≤ xk := by omega
      by_cases k8 : 8 ≤ xk
      · have hres := HNO.out (by simp [offB, k8])
        have HRES := Lib.hid hres
        clear hres
        go_wp2_with fail
        rw [← HWX.out]
        obtain ⟨⟨y0, y1, y2, y3⟩, y4⟩ := HX0.out
        first
          | (go_region_with (fail))
          | fail "region"
        all_goals go_wp2
        all_goals go_ret
        all_goals exact ⟨by rw [HRES.out]; rfl, HBEL2.out _ (Below.refl _ _).drew⟩
      have k8' : xk < 8 := by omega
      by_cases hpe : plainN ⟨xk, xa, xb, xc⟩ = ⟨xk, xa, xb, xc⟩
      · have hP : ∀ W, Calls Try.prog 83 #[.agg #[.int .i64 xk, .int .i64 xa, .int .i64 xb, .int .i64 xc]] W fun e w' => e = .returned (.agg #[.int .i64 xk, .int .i64 xa, .int .i64 xb, .int .i64 xc]) ∧ Below W.heap.size W w' := fun W => by
          have h := plain_net W ⟨xk, xa, xb, xc⟩
          rw [hpe] at h
          exact h
        have HP := Lib.hid hP
        have HPE := Lib.hid hpe
        clear hP hpe
        go_wp2_with fail
        rw [← HWX.out]
        have hd1 : decide (xk < 0) = false := decide_eq_false (by omega)
        have hd2 : decide (8 ≤ xk) = false := decide_eq_false (by omega)
        go_region_held3 (fun W => (W.cell? ⟨wr.heap.size, 0, none⟩ = some (.int .i64 xk) ∧ W.cell? ⟨wr.heap.size, 1, none⟩ = some (.int .i64 xa) ∧ W.cell? ⟨wr.heap.size, 2, none⟩ = some (.int .i64 xb) ∧ W.cell? ⟨wr.heap.size, 3, none⟩ = some (.int .i64 xc)) ∧ W.cell? ⟨w.heap.size + 1, 0, none⟩ = some (.func (.func 82) #[] #[.pointer (some ⟨w.heap.size, 0, none⟩)]))
          (first | with_reducible exact HX1.out | with_reducible exact HX0.out | with_reducible exact HALL.out _ HB3.out | with_reducible exact HALL.out _ HB4.out | with_reducible exact HALL.out _ HB5.out)
          (first
            | (go_at_call 83; refine (HP.out _).mono ?_; rintro e w3 ⟨rfl, hb3⟩; have HB3 := Lib.hid ((Below.refl wx.heap.size wx).drew.trans (hb3.mono (Nat.le_refl _))); clear hb3)
            | (go_at_call 23; refine (HUS.out _).mono ?_; rintro e w4 ⟨v4, rfl, hr4, hb4⟩; have HB4 := Lib.hid (HB3.out.trans (hb4.mono HB3.out.size)); have HR4 := Lib.hid hr4; clear hb4 hr4)
            | (go_at_call 84; refine (contains_ints _ _ us HR4.out HUSL.out _ _ enter_f82 (outB nodes.length) (HBEY.out _ HB4.out)).mono ?_; rintro e w5 ⟨rfl, hb5⟩; have HB5 := Lib.hid (HB4.out.trans (hb5.mono HB4.out.size)); clear hb5))
        cases hany : us.any (outB nodes.length) with
        | true =>
          have hres := HNO.out (by simp [offB, HUS2.out, hany])
          have HRES := Lib.hid hres
          clear hres
          go_wp2
          go_ret
          exact ⟨by rw [HRES.out]; rfl, HBEL2.out _ HB5.out⟩
        | false =>
          have hq : offB ⟨xk, xa, xb, xc⟩ nodes.length = false := by simp [offB, HUS2.out, hany, HPE.out, k0, k8]
          have HQ2 := Lib.hid hq
          clear hq
          go_wp2
          go_roundw
          case rel => exact ⟨j + 1, by omega, by go_num, Lib.hid (by
            rw [HT.out]; intro q hq
            rcases List.mem_append.1 hq with h | h
            · exact HQ.out q h
            · simp at h; subst h; exact HQ2.out), Lib.hid (HBEL.out _ HB5.out)⟩
          case measure => simp [intOf]; omega
      have hres := HNO.out (by simp [offB, hpe])
      have HRES := Lib.hid hres
      obtain ⟨pp, hpp⟩ : ∃ p, plainN ⟨xk, xa, xb, xc⟩ = p := ⟨_, rfl⟩
      obtain ⟨pk, pa, pb, pc⟩ := pp
      have hpk : pk = xk := by have := congrArg Node.kind hpp; rw [plainN_kind] at this; exact this.symm
      subst hpk
      have hdiff : ¬ (pa = xa ∧ pb = xb ∧ pc = xc) := by
        rintro ⟨rfl, rfl, rfl⟩; exact hpe hpp
      have hP : ∀ W, Calls Try.prog 83 #[.agg #[.int .i64 pk, .int .i64 xa, .int .i64 xb, .int .i64 xc]] W fun e w' => e = .returned (.agg #[.int .i64 pk, .int .i64 pa, .int .i64 pb, .int .i64 pc]) ∧ Below W.heap.size W w' := fun W => by
        have h := plain_net W ⟨pk, xa, xb, xc⟩
        rw [hpp] at h
        exact h
      have HP := Lib.hid hP
      clear hP hpe hpp hres
      have hd1 : decide (pk < 0) = false := decide_eq_false (by omega)
      have hd2 : decide (8 ≤ pk) = false := decide_eq_false (by omega)
      have HDF := Lib.hid hdiff
      clear hdiff
      go_wp2_with fail
      rw [← HWX.out]
      obtain ⟨⟨y0, y1, y2, y3⟩, y4⟩ := HX0.out
      by_cases ea : pa = xa
      · subst ea
        by_cases eb : pb = xb
        · subst eb
          have ec : (pc == xc) = false := by
            have := HDF.out; simp at this; simpa using this
          first
            | (go_region_with (go_at_call 83; refine (HP.out _).mono ?_; rintro e w3 ⟨rfl, hb3⟩; have HB3 := Lib.hid ((Below.refl wx.heap.size wx).drew.trans (hb3.mono (Nat.le_refl _))); clear hb3; obtain ⟨⟨z0, z1, z2, z3⟩, z4⟩ := HALL.out _ HB3.out))
            | fail "region"
          all_goals go_wp2
          all_goals go_ret
          all_goals exact ⟨by rw [HRES.out]; rfl, HBEL2.out _ HB3.out⟩
        have ec : (pb == xb) = false := by simpa using eb
        first
          | (go_region_with (go_at_call 83; refine (HP.out _).mono ?_; rintro e w3 ⟨rfl, hb3⟩; have HB3 := Lib.hid ((Below.refl wx.heap.size wx).drew.trans (hb3.mono (Nat.le_refl _))); clear hb3; obtain ⟨⟨z0, z1, z2, z3⟩, z4⟩ := HALL.out _ HB3.out))
          | fail "region"
        all_goals go_wp2
        all_goals go_ret
        all_goals exact ⟨by rw [HRES.out]; rfl, HBEL2.out _ HB3.out⟩
      have ec : (pa == xa) = false := by simpa using ea
      first
        | (go_region_with (go_at_call 83; refine (HP.out _).mono ?_; rintro e w3 ⟨rfl, hb3⟩; have HB3 := Lib.hid ((Below.refl wx.heap.size wx).drew.trans (hb3.mono (Nat.le_refl _))); clear hb3; obtain ⟨⟨z0, z1, z2, z3⟩, z4⟩ := HALL.out _ HB3.out))
        | fail "region"
      all_goals go_wp2
      all_goals go_ret
      all_goals exact ⟨by rw [HRES.out]; rfl, HBEL2.out _ HB3.out⟩
    · obtain rfl : j = nodes.length := by omega
      rw [List.take_length] at HQ
      have HBW := Lib.hid hbw
      have HRI := Lib.hid hri
      have HRO := Lib.hid hro
      have HRN := Lib.hid hrn
      have hN2 : NetV wr (.agg #[.slice An nodes.length cn, .slice Ai ins.length ci, .slice Ao outs.length co]) nodes ins outs := ⟨_, _, _, rfl, hrn, hri, hro⟩
      have hp := ports_net wr _ nodes ins outs hN2 hi ho
      have HPORTS := Lib.hid hp
      have hfp : ∀ W, Below wr.heap.size wr W → ∀ q ∈ ins ++ outs, ∀ W2 A2 c2, Below W.heap.size W W2 → Row kInt W2 (fun _ => False) (.slice A2 q.bits.length c2) q.bits → Calls Try.prog 85 (#[portV A2 c2 q] ++ #[.pointer (some ⟨w.heap.size + 1, 0, none⟩)]) W2 fun e W' => e = .returned (.bool (poB q nodes.length)) ∧ Below W2.heap.size W2 W' := fun W hW q hq W2 A2 c2 hW2 hr => by
        have h2 : Below wr.heap.size wr W2 := hW.trans (hW2.mono hW.size)
        have hs2 := h2.size
        refine formPort_net W2 (w.heap.size + 1) w.heap.size An nodes.length cn (by omega) (by omega) ?_ ?_ q A2 c2 hr (HBITS.out q hq)
        · rw [h2.cell (by simp; omega)]; exact hfun
        · rw [h2.cell (by simp; omega)]; exact hn0
      have HFP := Lib.hid hfp
      have hlen : (ins ++ outs).length ≤ 1099511627776 := by rw [List.length_append]; omega
      have HLEN := Lib.hid hlen
      have hfin : formedB nodes ins outs = !((ins ++ outs).any fun q => poB q nodes.length) := by
        have h1 : nodes.all (fun x => rightB x nodes.length) = true := by
          rw [List.all_eq_true]; intro q hq
          have := HQ.out q hq
          rw [offB_right] at this
          simpa using this
        rw [formedB, h1, Bool.true_and, List.not_any_eq_all_not]
        congr 1
        funext q
        rw [poB_port, Bool.not_not]
      have HFIN := Lib.hid hfin
      clear hN2 hp hfp hlen hfin hri hro hrn hbw
      go_wp2_with fail
      refine HPORTS.out.mono ?_
      rintro e w3 ⟨v3, rfl, hr3, hb3⟩
      have HC := Lib.hid (contains_ports w3 v3 _ hr3 HLEN.out _ _ enter_f85 (fun q => poB q nodes.length) (HFP.out w3 hb3))
      have HB3 := Lib.hid (HBW.out.trans (hb3.mono HBW.out.size))
      clear hr3 hb3 HPORTS
      go_wp2_with fail
      refine HC.out.mono ?_
      rintro e w4 ⟨rfl, hb4⟩
      have HB4 := Lib.hid (HB3.out.trans (hb4.mono HB3.out.size))
      clear hb4 HC
      go_wp2
      go_ret
      exact ⟨by rw [HFIN.out]; simp, HB4.out⟩

end Go.Proofs.Ytbfjacgfifecpaa
