/- slipsticklaw09.FoldLeft: the walk. -/
import Derived.Test.YtbfjacgfifecpaaFoR
import Derived.Test.YtbfjacgfifecpaaM09
import Derived.Test.YtbfjacgfifecpaaNTells
import Derived.Test.YtbfjacgfifecpaaMSet
namespace Go.Proofs.Ytbfjacgfifecpaa
open Go.RowKit Go.Maps

attribute [local go_sem] max2_int max_two in
theorem uses_at (w : World) (x : Node) :
    Calls Try.prog 24 #[.agg #[.int .i64 x.kind, .int .i64 x.a, .int .i64 x.b, .int .i64 x.c]] w fun e w' => ∃ b c, e = .returned (.slice (some ⟨b, 0, none⟩) (usesR x).length c) ∧ Row kInt w' (fun _ => False) (.slice (some ⟨b, 0, none⟩) (usesR x).length c) (usesR x) ∧ Below w.heap.size w w' := by
  obtain ⟨m, hm⟩ : ∃ m : Nat, max (many x.kind) 0 = m := ⟨(many x.kind).toNat, by omega⟩
  have hm3 : m ≤ 3 := by have := many_bd x.kind; omega
  have hmt : m = (many x.kind).toNat := by omega
  have hul : (usesR x).length = m := by simp [usesR]; omega
  rw [hul]
  have HMT := Lib.hid hmt
  clear hmt hul
  go_enter Try.func24, Try.ntmps24
  go_wp2_with (go_at_call 58; refine (many_ref _ _).mono ?_; rintro e w2 ⟨rfl, rfl⟩)
  go_ret
  have hO := (lit_ints (w.alloc (.cells #[.int .i64 x.kind, .int .i64 x.a, .int .i64 x.b, .int .i64 x.c] 38)) [x.a, x.b, x.c] (by simp)).nums (S := fun _ => False) (fun _ h => h.elim)
  refine ⟨_, _, rfl, ?_, ((Below.refl _ _).alloc (Nat.le_refl _) _).alloc (by simp) _⟩
  have h := hO.take m hm3
  unfold usesR
  rw [← HMT.out]
  simpa using h

theorem flat_rpP (f : Nat → Nat) (ps : List Port) : (ps.map (rpP f)).flatMap (·.bits) = (ps.flatMap (·.bits)).map (rpB f) := by
  induction ps with
  | nil => rfl
  | cons p ps ih => simp only [List.map_cons, List.flatMap_cons, List.map_append, ih]; rfl
theorem Own.offB {e : TypeId} {w w' : World} {B F : Nat} {v : Value} {xs : List Int} (h : Own kInt e w none B v xs) (hg : w.grownBy w' (some F)) (hF : F < B) : Own kInt e w' none B v xs :=
  h.other hg (fun _ => ⟨fun h => (foot_none _ _ h).elim, fun h => (foot_none _ _ h).elim⟩) (.inr fun e => by have := (h.base e).1; omega) fun _ _ h => h
theorem cellGrown {w w' : World} {g b j : Nat} {u : Value} (hg : w.grownBy w' (some g)) (hc : w.cell? ⟨b, j, none⟩ = some u) (hb : b ≠ g) : w'.cell? ⟨b, j, none⟩ = some u :=
  (World.cell?_of_block (w := w) (hg.block b (World.block_lt_of_cell? _ _ hc) (fun e => hb (by injection e)))).trans hc
theorem appIs0 {W : World} {ops : Array Oper} {rest : List Oper} {o : Oper} {a : Act} {Q : Exit → Act → World → Prop} (hgd : o.guard = none)
    (s x : Operand) (ho : o.op = .call { callee := .builtin .append, args := #[s, x], argTypes := #[28, 28] }) {B : Nat} {v : Value} {xs : List Int} (hO : Own kInt 3 W none B v xs) (hB : B ≤ W.heap.size) (hs : a.eval s = v)
    (b off c : Nat) (ys : List Int) (hu : Row kInt W (fun _ => False) (.slice (some ⟨b, off, none⟩) ys.length c) ys) (hx : a.eval x = .slice (some ⟨b, off, none⟩) ys.length c) (hl : (xs.length + ys.length) * 8 ≤ 140737488355328)
    (hK : ∀ v' w', Own kInt 3 w' none B v' (xs ++ ys) → W.grownBy w' v.ownBlock → (v'.ownBlock = v.ownBlock ∨ ∃ b, v'.ownBlock = some b ∧ W.heap.size ≤ b) → wpList Try.prog ops Q rest (a.put o.dst v') w') :
    wpList Try.prog ops Q (o :: rest) a W := by
  obtain ⟨A', c', css, he, h1, h2, h0, h3, h4⟩ := hu
  injection he with e1 e2 e3
  subst e1 e3
  refine app kInt 3 28 (.int .i64 0) 8 hgd s x ho Try.underlying28 infoIntK rfl (by decide) (by decide) none B hO (FootIn.none _) hB hs ⟨b, off, none⟩ ys.length c ys css hx rfl ⟨h3.1, fun i x cs hx hc => h3.2 i x cs hx hc⟩ (fun j u hj => ?_) hl
    fun v' w' q1 _ _ _ q5 q6 => hK v' w' q1 q5 (q6.imp id fun h => ⟨_, h, Nat.le_refl _⟩)
  have hlen : css.flatten.length = ys.length * 1 := h3.flat
  have hpos : 0 < ys.length := by have := (List.getElem?_eq_some_iff.1 hj).1; omega
  obtain ⟨b', off', hb, -, -, hc⟩ := h4 hpos
  simp only [Option.some.injEq, Addr.mk.injEq, and_true] at hb
  obtain ⟨rfl, rfl⟩ := hb
  rw [Addr.add_lit]
  exact hc j u hj

/-! the rounds -/
set_option maxRecDepth 100000 in
noncomputable def unAt (w : World) (F i : Nat) : Bool := match (Instr.lookup 50 (.map (some F)) (.int .i64 (i : Int)) false).run Try.prog w with | .ok (.bool true) _ => false | _ => true
/-- how much has not been seen -/
noncomputable def unM (w : World) (F n : Nat) : Nat := (List.range n).countP (unAt w F)
set_option maxRecDepth 100000 in
theorem unM_is {w : World} {F c : Nat} {sn : List Bool} (h : MSet w F c (fun j => sn.getD j false = true)) (hn : sn.length ≤ 1099511627776) : unM w F sn.length = unseen sn := by
  rw [unM, ← unseen_range]
  apply List.countP_congr
  intro i hi
  have hi : i < sn.length := by simpa using hi
  rw [unAt, h.lookC (k := i) (by omega) (sn.getD i false) Iff.rfl]
  cases sn.getD i false <;> simp
/-- the rounds, plain -/
structure LF (md : List Node) (st : List Nat) (n K : Nat) (sn : List Bool) (todo : List Nat) : Prop where
  len : sn.length = n
  todoOk : ∀ a ∈ todo, a < n ∧ stF st a = a
  cnt : todo.length + 4 * unseen sn ≤ K
theorem LF.pop {md : List Node} {st : List Nat} {n K : Nat} {sn : List Bool} {todo : List Nat} {a : Nat} (h : LF md st n K sn (todo ++ [a])) : LF md st n K sn todo ∧ a < n ∧ stF st a = a :=
  ⟨⟨h.len, fun b hb => h.todoOk b (List.mem_append_left _ hb), by have := h.cnt; rw [List.length_append, List.length_singleton] at this; omega⟩, h.todoOk a (by simp)⟩
theorem LF.push {md : List Node} {st : List Nat} {n K : Nat} (G : FoG md st n) {sn : List Bool} {todo : List Nat} {a : Nat} (h : LF md st n K sn (todo ++ [a])) (hs : sn.getD a false = false) {x : Node} (hx : md[a]? = some x) :
    LF md st n K (sn.set a true) (todo ++ (usesR x).map Int.toNat) ∧ unseen (sn.set a true) + 1 = unseen sn := by
  obtain ⟨h1, ha, hr⟩ := h.pop
  have hu := G.us a x ha hr hx
  have hal : a < sn.length := by rw [h.len]; exact ha
  have hc := unseen_set hal hs
  have h3 : (usesR x).length ≤ 3 := by simp [usesR]; omega
  refine ⟨⟨by rw [List.length_set]; exact h.len, fun b hb => ?_, ?_⟩, hc⟩
  · rcases List.mem_append.1 hb with hb | hb
    · exact h1.todoOk b hb
    · obtain ⟨z, hz, rfl⟩ := List.mem_map.1 hb
      obtain ⟨v, rfl, r1, r2⟩ := hu z hz
      exact ⟨r1, r2⟩
  · have := h.cnt
    rw [List.length_append, List.length_singleton] at this
    rw [List.length_append, List.length_map]
    omega
def LFel (md : List Node) (st : List Nat) (n F1 B : Nat) (tv : Value) (w : World) (sn : List Bool) (todo : List Nat) : Prop :=
  LF md st n 4300 sn todo ∧ (∃ cnt, cnt + unseen sn ≤ 60 ∧ MSet w F1 cnt (fun j => sn.getD j false = true)) ∧ Own kInt 3 w none B tv (nats todo)
theorem LFel.measure {md : List Node} {st : List Nat} {n F1 B : Nat} {tv : Value} {w : World} {sn : List Bool} {todo : List Nat} (h : LFel md st n F1 B tv w sn todo) (hn : n ≤ 60) : 4 * unM w F1 n + lenOf tv = 4 * unseen sn + todo.length := by
  obtain ⟨h1, ⟨ct, -, h2⟩, h4⟩ := h
  obtain ⟨A, c, rfl, -, -⟩ := h4.shape
  have h3 := unM_is h2 (by rw [h1.len]; omega)
  rw [h1.len] at h3
  rw [h3]
  simp [lenOf]
theorem LFel.next {md : List Node} {st : List Nat} {n F1 B ct1 : Nat} {tv : Value} {w : World} {sn : List Bool} {todo : List Nat} {a : Nat} {x : Node} (G : FoG md st n) (hn : n ≤ 60) (h : LF md st n 4300 sn (todo ++ [a])) (hs : sn.getD a false = false) (hx : md[a]? = some x)
    (hM : MSet w F1 (ct1 + 1) (fun j => sn.getD j false = true ∨ j = a)) (hc1 : ct1 + unseen sn ≤ 60) (hO : Own kInt 3 w none B tv (nats todo ++ usesR x)) : (∃ sn todo, LFel md st n F1 B tv w sn todo) ∧ 4 * unM w F1 n + lenOf tv < 4 * unseen sn + (todo.length + 1) := by
  obtain ⟨h1, h2⟩ := h.push G hs hx
  obtain ⟨-, ha, hr⟩ := h.pop
  have hal : a < sn.length := by rw [h.len]; exact ha
  have hu := G.us a x ha hr hx
  have e : nats (todo ++ (usesR x).map Int.toNat) = nats todo ++ usesR x := by
    rw [show nats (todo ++ (usesR x).map Int.toNat) = nats todo ++ nats ((usesR x).map Int.toNat) by simp, nats_toNat fun z hz => by obtain ⟨v, rfl, -⟩ := hu z hz; omega]
  have hR : LFel md st n F1 B tv w (sn.set a true) (todo ++ (usesR x).map Int.toNat) := by
    refine ⟨h1, ⟨_, by omega, hM.congr fun j => ?_⟩, by rw [e]; exact hO⟩
    rw [getDB_set _ _ _ hal]
    by_cases e : j = a
    · subst e; simp
    · rw [if_neg e]
      exact ⟨fun h => h.resolve_right e, .inl⟩
  refine ⟨⟨_, _, hR⟩, ?_⟩
  rw [hR.measure hn]
  have h3 : (usesR x).length ≤ 3 := by simp [usesR]; omega
  rw [List.length_append, List.length_map]
  omega

set_option maxHeartbeats 4000000 in
set_option maxRecDepth 100000 in
theorem foldLeft_walk (w : World) (v : Value) (nodes : List Node) (ins outs : List Port) (hN : NetV w v nodes ins outs) (hw : ∀ q ∈ ins ++ outs, q.bits.length + q.name.size ≤ 281474976710656) :
    Calls Try.prog 12 #[v] w fun e w' => e = .returned (.bool true) ∧ Below w.heap.size w w' := by
  obtain ⟨An, cn, Ai, ci, Ao, co, rfl, hbox⟩ := hN.box
  obtain ⟨w0, hw0⟩ : ∃ w0, w0 = w.alloc (netBox (.slice An nodes.length cn) (.slice Ai ins.length ci) (.slice Ao outs.length co)) := ⟨_, rfl⟩
  have hs0 : w0.heap.size = w.heap.size + 1 := by rw [hw0]; simp
  rw [← hw0, ← hs0] at hbox
  have hall : ∀ W, Below w0.heap.size w0 W → (W.cell? ⟨w.heap.size, 0, none⟩ = some (.slice An nodes.length cn) ∧ W.cell? ⟨w.heap.size, 1, none⟩ = some (.slice Ai ins.length ci) ∧ W.cell? ⟨w.heap.size, 2, none⟩ = some (.slice Ao outs.length co)) ∧ NetV W (.agg #[.slice An nodes.length cn, .slice Ai ins.length ci, .slice Ao outs.length co]) nodes ins outs ∧ Below w.heap.size w W := fun W hW => by
    obtain ⟨c0, c1, c2, r1, r2, r3, hb⟩ := hbox W hW
    exact ⟨⟨c0, c1, c2⟩, ⟨_, _, _, rfl, r1, r2, r3⟩, hb⟩
  have HALL := Lib.hid hall
  have HW0 := Lib.hid hw0
  have HWT := Lib.hid hw
  clear hN hbox hs0 hall hw0 hw
  go_enter Try.func12, Try.ntmps12
  go_wp2_with fail
  rw [← HW0.out]
  refine (awake09 w0).mono ?_
  rintro e w1 ⟨rfl, hb1⟩
  have HB1 := Lib.hid hb1
  obtain ⟨⟨z0, z1, z2⟩, hn, -⟩ := HALL.out _ hb1
  have hl : Calls Try.prog 15 #[.agg #[.slice An nodes.length cn, .slice Ai ins.length ci, .slice Ao outs.length co], .int .i64 60] w1 fun e w' => e = .returned (.bool (largeB nodes ins outs 60)) ∧ Below w1.heap.size w1 w' := large_ref w1 _ nodes ins outs 60 hn HWT.out
  have HC := Lib.hid hl
  clear hb1 hn hl HW0
  go_wp2_with fail
  refine HC.out.mono ?_
  rintro e w2 ⟨rfl, hb2⟩
  have HB2 := Lib.hid (HB1.out.trans (hb2.mono HB1.out.size))
  clear hb2 HC z0 z1 z2
  cases hL : largeB nodes ins outs 60 with
  | true =>
    have HBW := Lib.hid (HALL.out _ HB2.out).2.2
    clear hL
    go_wp2
    go_ret
    exact ⟨rfl, HBW.out⟩
  | false =>
    have HF := Lib.hid (fits_of hL)
    have HSM := Lib.hid (small_of hL)
    clear hL
    obtain ⟨⟨z0, z1, z2⟩, hn, -⟩ := HALL.out _ HB2.out
    have HC := Lib.hid (fold_net w2 _ nodes ins outs hn HF.out)
    clear hn
    go_wp2_with fail
    refine HC.out.mono ?_
    rintro e w3 ⟨v3, m3, x3, n3, i3, o3, rfl, hv3, hs3, hb3⟩
    obtain ⟨A1, c1, A2, c2, A3, c3, rfl⟩ := hv3.parts
    have hc3 := hv3.boxV
    obtain ⟨N3, hN3⟩ : ∃ N3, N3 = w3.alloc (netBox (.slice A1 n3.length c1) (.slice A2 i3.length c2) (.slice A3 o3.length c3)) := ⟨_, rfl⟩
    have hs3n : N3.heap.size = w3.heap.size + 1 := by rw [hN3]; simp
    have hb3n : Below w3.heap.size w3 N3 := by rw [hN3]; exact (Below.refl _ _).alloc (Nat.le_refl _) _
    rw [← hN3, ← hs3n] at hc3
    have HC3 := Lib.hid hc3
    have HSO := Lib.hid hs3
    have HN3 := Lib.hid hN3
    have HS3 := Lib.hid hs3n
    have HB3 := Lib.hid ((HB2.out.trans (hb3.mono HB2.out.size)).trans (hb3n.mono (Nat.le_trans HB2.out.size hb3.size)))
    clear hb3 HC hv3 hs3 hc3 hN3 hs3n hb3n z0 z1 z2
    by_cases hx : x3 = 0
    · subst hx
      obtain ⟨st, hfo3, -, -⟩ := HSO.out.2.2 rfl
      obtain ⟨hG, hrep⟩ := fold_left hfo3
      obtain ⟨l, m3, hlev, -, -, -, ho3, -, -⟩ := fold_nodes hfo3
      have hez := errP_zero hlev.choose_spec.1.symm
      have hfo := (formed_in hez.2.1).2
      have hbits : ∀ q ∈ o3, 0 < q.bits.length ∧ ∀ b ∈ q.bits, ∃ u : Nat, b = (u : Int) ∧ u < nodes.length ∧ stF st u = u := fun q hq => by
        rw [ho3] at hq
        obtain ⟨p, hp, rfl⟩ := List.mem_map.1 hq
        obtain ⟨h1, h2⟩ := hfo p (List.mem_append_right _ hp)
        refine ⟨by simp only [rpP, List.length_map]; exact List.length_pos_iff.2 h1, fun b hb => ?_⟩
        obtain ⟨b0, hb0, rfl⟩ := List.mem_map.1 hb
        have := h2 b0 hb0
        exact ⟨_, rfl, (hrep b0.toNat (by omega)).1, (hrep b0.toNat (by omega)).2⟩
      have hfl : (o3.flatMap (·.bits)).length ≤ 4000 := by
        rw [ho3, flat_rpP, List.length_map]
        have h1 := wt_flat outs
        have h2 := HSM.out.2.2.2
        omega
      have hol : o3.length ≤ 66 := by rw [ho3, List.length_map]; exact HSM.out.2.2.1
      have hn60 := HSM.out.1
      have HG := Lib.hid hG
      have HBI := Lib.hid hbits
      have HFL := Lib.hid hfl
      have HOL := Lib.hid hol
      have hnl : n3.length = nodes.length := hG.len
      have HNL := Lib.hid hnl
      obtain ⟨⟨s0, s1, s2⟩, hvs, -⟩ := HC3.out N3 (Below.refl _ _)
      obtain ⟨vn, vi, vo, hve, hrn, hri, hro⟩ := hvs
      simp only [Value.agg.injEq, Array.mk.injEq, List.cons.injEq, and_true] at hve
      obtain ⟨rfl, rfl, rfl⟩ := hve
      have HRN := Lib.hid hrn
      have HRO := Lib.hid hro
      have HZZ := Lib.hid (And.intro s0 s2)
      obtain ⟨Wm, hwm⟩ : ∃ Wm, Wm = N3.alloc (.map #[] 0) := ⟨_, rfl⟩
      have hsm : Wm.heap.size = w3.heap.size + 1 + 1 := by rw [hwm]; simp [HS3.out]
      have hbm : Below N3.heap.size N3 Wm := by rw [hwm]; exact (Below.refl _ _).alloc (Nat.le_refl _) _
      have hM1 : MSet Wm (w3.heap.size + 1) 0 (fun _ => False) := by
        rw [hwm, ← HS3.out]
        exact MSet.made N3
      have HM1 := Lib.hid hM1
      have HBM := Lib.hid hbm
      have HSZ := Lib.hid hsm
      have HWM := Lib.hid hwm
      have hmm := @run_makeMap Try.prog
      have q2 : Wm.cell? ⟨w3.heap.size, 2, none⟩ = _ := cellBelow hbm s2
      rw [hwm] at q2
      rw [HN3.out] at q2
      clear hlev hfo3 ho3 hG hrep hez hfo hbits hfl hol hnl hrn hri hro s0 s1 s2 hM1 hbm hsm hwm HC3 HSO
      go_wp2_with fail
      rw [← HN3.out, ← HWM.out]
      clear hmm q2
      have HO0 := Lib.hid (Own.nil kInt 3 Wm none Wm.heap.size)
      go_loopw [7, 31] (fun fv iv wr => ∃ i : Nat, iv = .int .i64 i ∧ i ≤ o3.length ∧ Hid (Own kInt 3 wr none Wm.heap.size fv ((o3.take i).flatMap (·.bits))) ∧ Hid (Below Wm.heap.size Wm wr)) (fun fv iv _ => o3.length - (intOf iv).toNat)
      case atStart => exact ⟨0, rfl, Nat.zero_le _, HO0, Lib.hid (Below.refl _ _)⟩
      case round =>
        clear HO0
        obtain ⟨i, rfl, hi, HO, HB⟩ := hrel
        have HBN := Lib.hid (HBM.out.trans (HB.out.mono HBM.out.size))
        have hrow := HRO.out.later HBN.out
        by_cases hlt : i < o3.length
        · obtain ⟨b, off, A4, d4, rfl, y0, y1, hxb⟩ := hrow.port_at hlt
          have HFT := Lib.hid (flatMap_take hlt)
          have hq := HBI.out _ (List.getElem_mem hlt)
          have hfl := flat_le hlt
          obtain ⟨x, hxx⟩ : ∃ x, o3[i] = x := ⟨_, rfl⟩
          rw [hxx] at y0 y1 hxb HFT hq hfl
          obtain ⟨s, bs⟩ := x
          dsimp only at y0 y1 hxb HFT hq hfl
          have hbp : Below wr.heap.size wr (wr.alloc (.cells #[.string s, .slice A4 bs.length d4] 53)) := (Below.refl _ _).alloc (Nat.le_refl _) _
          have HOX := Lib.hid (HO.out.kept (Kept.of_below_all hbp (FootIn.none _) (Nat.le_refl _)))
          have HBX := Lib.hid (HB.out.trans (hbp.mono HB.out.size))
          have HXB := Lib.hid (hxb.later hbp)
          have hlen : 0 < bs.length := hq.1
          have hle : (((o3.take i).flatMap (·.bits)).length + bs.length) * 8 ≤ 140737488355328 := by have := HFL.out; omega
          have hbs := HBX.out.size
          have hi66 := HOL.out
          clear hrow hxb hbp hq hfl hxx
          go_wp2_with (at_builtin; go_loud (refine appIs rfl (.tmp 35) (.tmp 37) rfl HOX.out hbs rfl _ bs HXB.out hlen rfl hle ?_; intro v' w5 q1 q5 q6))
          have hbn := HBX.out.grown q5 hbs (fun g hg => (HOX.out.base hg).1)
          refine ⟨⟨i + 1, by go_num, by omega, by rw [HFT.out]; exact Lib.hid q1, Lib.hid hbn⟩, ?_⟩
          simp [intOf]; omega
        · obtain rfl : i = o3.length := by omega
          rw [List.take_length] at HO
          have htn : nats ((o3.flatMap (·.bits)).map Int.toNat) = o3.flatMap (·.bits) := nats_toNat fun u hu => by
            obtain ⟨q, hq, hu⟩ := List.mem_flatMap.1 hu
            obtain ⟨u', rfl, -⟩ := (HBI.out q hq).2 u hu
            omega
          have hli : LF n3 st nodes.length 4300 (List.replicate nodes.length false) ((o3.flatMap (·.bits)).map Int.toNat) := by
            refine ⟨by simp, fun a ha => ?_, ?_⟩
            · obtain ⟨z, hz, rfl⟩ := List.mem_map.1 ha
              obtain ⟨q, hq, hz⟩ := List.mem_flatMap.1 hz
              obtain ⟨u', rfl, h1, h2⟩ := (HBI.out q hq).2 z hz
              exact ⟨h1, h2⟩
            · have h1 := HFL.out
              have h2 := HSM.out.1
              have h3 : unseen (List.replicate nodes.length false) ≤ nodes.length := by
                unfold unseen
                exact Nat.le_trans List.countP_le_length (by simp)
              rw [List.length_map]
              omega
          rw [← htn] at HO
          have HLI := Lib.hid hli
          have hun : unseen (List.replicate nodes.length false) ≤ 60 := by
            have := HSM.out.1
            unfold unseen
            exact Nat.le_trans List.countP_le_length (by simpa using this)
          have HMS : Hid (∃ cnt, cnt + unseen (List.replicate nodes.length false) ≤ 60 ∧ MSet wr (w3.heap.size + 1) cnt (fun j => (List.replicate nodes.length false).getD j false = true)) := Lib.hid ⟨0, by omega, (by
            refine (HM1.out.below HB.out).congr fun j => ?_
            rw [List.getD_eq_getElem?_getD, List.getElem?_replicate]
            split <;> simp)⟩
          obtain ⟨sn0, hsn0⟩ : ∃ s, List.replicate nodes.length false = s := ⟨_, rfl⟩
          obtain ⟨td0, htd0⟩ : ∃ s, (o3.flatMap (·.bits)).map Int.toNat = s := ⟨_, rfl⟩
          rw [hsn0] at HLI HMS
          rw [htd0] at HLI HO
          clear hli htn hun hsn0 htd0 hrow hlt hi HM1 HBI HFL
          go_wp2_with fail
          go_loopw [7] (fun tv wr => Hid (∃ sn todo, LFel n3 st nodes.length (w3.heap.size + 1) Wm.heap.size tv wr sn todo) ∧ Hid (Below N3.heap.size N3 wr)) (fun tv wr => 4 * unM wr (w3.heap.size + 1) nodes.length + lenOf tv)
          case atStart => exact ⟨Lib.hid ⟨sn0, td0, HLI.out, HMS.out, HO.out⟩, HBN⟩
          case round =>
            clear HLI HMS HO HBN HB
            obtain ⟨HE, HB⟩ := hrel
            obtain ⟨sn, todo, hR⟩ := HE.out
            have HM0 := Lib.hid (hR.measure HSM.out.1)
            obtain ⟨hli, ⟨ct1, hc1, hM1⟩, hO⟩ := hR
            have hq := HZZ.out
            have z0 := cellBelow HB.out hq.1
            rcases List.eq_nil_or_concat todo with rfl | ⟨todo, a, rfl⟩
            · obtain ⟨A4, d4, e4, -, -⟩ := hO.shape
              subst e4
              have HBW := Lib.hid (HALL.out _ (HB3.out.trans (HB.out.mono HB3.out.size))).2.2
              clear hO hli hM1 HE hq
              go_wp2
              go_ret
              exact ⟨rfl, HBW.out⟩
            · rw [List.concat_eq_append] at *
              obtain ⟨hli1, han, har⟩ := hli.pop
              obtain ⟨g, c, he, hcap, hcm⟩ := hO.form (by simp)
              have e1 : (nats (todo ++ [a])).length = todo.length + 1 := by simp
              rw [e1] at he hcap
              subst he
              obtain ⟨x0, -⟩ := hO.cellAt? (i := todo.length) (r := (a : Int)) (by simp)
              have e2 : nats (todo ++ [a]) = nats todo ++ [(a : Int)] := by simp
              have hP := hO
              rw [e2] at hP
              replace hP := hP.popLast
              have hgb : Wm.heap.size ≤ g := (hP.base rfl).1
              have hml : todo.length + 1 ≤ 1099511627776 := by have := hli.cnt; simp at this; omega
              have ham : a < n3.length := by rw [HNL.out]; exact han
              have hxa := List.getElem?_eq_getElem ham
              obtain ⟨b, off, rfl, y0, y1, y2, y3⟩ := HRN.out.node_at ham
              obtain ⟨x, hxx⟩ : ∃ x, n3[a] = x := ⟨_, rfl⟩
              rw [hxx] at y0 y1 y2 y3 hxa
              have HUS := Lib.hid (HG.out.us a x han har hxa)
              have HGD := Lib.hid (HG.out.good a x han har hxa)
              obtain ⟨xk, xa, xb, xc⟩ := x
              dsimp only at y0 y1 y2 y3
              have hn60 := HSM.out.1
              have g1 : decide ((a : Int) < 0) = false := decide_eq_false (by omega)
              have g2 : decide ((n3.length : Int) ≤ (a : Int)) = false := decide_eq_false (by omega)
              have HY := Lib.hid (And.intro (And.intro y0 y1) (And.intro y2 y3))
              have HLI := Lib.hid hli
              have HP := Lib.hid hP
              have HM1 := Lib.hid hM1
              have HXA := Lib.hid hxa
              have HC12 := Lib.hid hc1
              have HGB := Lib.hid hgb
              have hlk := hM1.lookC (k := a) (by omega) (sn.getD a false) Iff.rfl
              have HPN := Lib.hid (show LFel n3 st nodes.length (w3.heap.size + 1) Wm.heap.size (.slice (some ⟨g, 0, none⟩) todo.length c) wr sn todo from ⟨hli1, ⟨ct1, hc1, hM1⟩, hP⟩)
              have HM0' := Lib.hid (show 4 * unM wr (w3.heap.size + 1) nodes.length + (todo.length + 1) = 4 * unseen sn + (todo.length + 1) from by
                have h := HM0.out
                rw [List.length_append] at h
                exact h)
              obtain ⟨tl, htl⟩ : ∃ tl, todo.length = tl := ⟨_, rfl⟩
              have HTL := Lib.hid htl
              rw [htl] at x0 hcap HP HPN HM0' hml ⊢
              clear hli hli1 hxa hxx hO hP hM1 hc1 y0 y1 y2 y3 e1 e2 HE HM0 hq har hgb htl
              cases hsa : sn.getD a false with
              | true =>
                rw [hsa] at hlk
                clear hsa
                go_wp2_with fail
                refine ⟨⟨Lib.hid ⟨sn, todo, HPN.out⟩, HB⟩, ?_⟩
                simp [lenOf]
              | false =>
                rw [hsa] at hlk
                have HSA := Lib.hid hsa
                have hmx : ct1 < maxLen := by have := HC12.out; unfold maxLen; omega
                have hak : a ≤ 1099511627776 := by omega
                have hbs1 := HB.out.size
                have hgF1 : ∀ k, some (w3.heap.size + 1) = some k → N3.heap.size ≤ k := fun k hk => by injection hk with hk; have := HS3.out; omega
                have hlF : (w3.heap.size + 1) < Wm.heap.size := by have := HSZ.out; omega
                clear hsa
                go_wp2_with (at_mapUpdate; refine putM rfl _ _ _ rfl HM1.out rfl hmx a hak rfl rfl ?_; intro w5 q1 q2; have HM5 := Lib.hid q1; have HB5 := Lib.hid (HB.out.grown q2 hbs1 hgF1); have HP5 := Lib.hid (HP.out.offB q2 hlF); have HZ5 := Lib.hid q2.size; have y0 := cellBelow HB5.out HY.out.1.1; have y1 := cellBelow HB5.out HY.out.1.2; have y2 := cellBelow HB5.out HY.out.2.1; have y3 := cellBelow HB5.out HY.out.2.2; have z0 := cellBelow HB5.out HZZ.out.1; have HU := Lib.hid (uses_at (w5.alloc (.cells #[.int .i64 xk, .int .i64 xa, .int .i64 xb, .int .i64 xc] 38)) ⟨xk, xa, xb, xc⟩); clear q1 q2)
                refine HU.out.mono ?_
                rintro e w6 ⟨b6, c6, rfl, hr6, hb6⟩
                have hul : (usesR ⟨xk, xa, xb, xc⟩).length ≤ 3 := by simp [usesR]; omega
                obtain ⟨ys, hys⟩ : ∃ ys, usesR ⟨xk, xa, xb, xc⟩ = ys := ⟨_, rfl⟩
                rw [hys] at hr6 hul ⊢
                have HYS := Lib.hid hys
                have HR6 := Lib.hid hr6
                have hb56 : Below w5.heap.size w5 w6 := ((Below.refl _ _).alloc (Nat.le_refl _) (.cells #[.int .i64 xk, .int .i64 xa, .int .i64 xb, .int .i64 xc] 38)).trans (hb6.mono (by simp))
                have hpg := (HP.out.base (g := g) rfl).2
                have hz5 := HZ5.out
                have hz56 := hb56.size
                have hbz := HB.out.size
                have HX6 := Lib.hid (And.intro (And.intro (cellBelow hb6 (World.cell?_alloc_new w5 #[.int .i64 xk, .int .i64 xa, .int .i64 xb, .int .i64 xc] 38 0)) (cellBelow hb6 (World.cell?_alloc_new w5 #[.int .i64 xk, .int .i64 xa, .int .i64 xb, .int .i64 xc] 38 1))) (And.intro (cellBelow hb6 (World.cell?_alloc_new w5 #[.int .i64 xk, .int .i64 xa, .int .i64 xb, .int .i64 xc] 38 2)) (cellBelow hb6 (World.cell?_alloc_new w5 #[.int .i64 xk, .int .i64 xa, .int .i64 xb, .int .i64 xc] 38 3))))
                have HM6 := Lib.hid (HM5.out.below hb56)
                have HP6 := Lib.hid (HP5.out.kept (Kept.of_below_all hb56 (FootIn.none _) (Nat.le_refl _)))
                have HB6 := Lib.hid (HB5.out.trans (hb56.mono HB5.out.size))
                have hxg : w5.heap.size ≠ g := by omega
                have hwz := (HP.out.base (g := g) rfl).1
                have hbs6 : Wm.heap.size ≤ w6.heap.size := by omega
                have hsn6 : N3.heap.size ≤ w6.heap.size := HB6.out.size
                have hsz3 := HS3.out
                have hszm := HSZ.out
                have hgg : ∀ k, some g = some k → N3.heap.size ≤ k := fun k hk => by injection hk with hk; omega
                have hnf1 : some (w3.heap.size + 1) ≠ some g := fun h => by injection h with h; omega
                have hle : ((nats todo).length + ys.length) * 8 ≤ 140737488355328 := by
                  have h1 := HLI.out.cnt
                  rw [List.length_append] at h1
                  rw [List.length_map]
                  omega
                clear hr6 hb6 hys hb56 hpg hz5 hz56 hbz hwz hsz3 hszm HU y0 y1 y2 y3 z0 hlk hmx hak g1 g2 hlF hgF1
                by_cases hk : 2 ≤ xk ∧ xk ≤ 5
                · obtain ⟨hk1, hk2⟩ := hk
                  have k1 : decide (xk < 2) = false := decide_eq_false (by omega)
                  have k2 : decide (5 < xk) = false := decide_eq_false (by omega)
                  go_wp2_with (at_builtin; go_loud (refine appIs0 rfl (.tmp 73) (.tmp 75) rfl HP6.out hbs6 rfl b6 0 c6 ys HR6.out rfl hle ?_; intro v7 w7 q1 q5 q6; have q5' : World.grownBy w6 w7 (some g) := q5; have HO7 := Lib.hid q1; have HB7 := Lib.hid (HB6.out.grown q5' hsn6 hgg); have HM7 := Lib.hid (HM6.out.other q5' hnf1); have x0 := cellGrown q5' HX6.out.1.1 hxg; have x1 := cellGrown q5' HX6.out.1.2 hxg; have x2 := cellGrown q5' HX6.out.2.1 hxg; have x3 := cellGrown q5' HX6.out.2.2 hxg; have HX7 := Lib.hid (And.intro (And.intro x0 x1) (And.intro x2 x3)); have HU := Lib.hid (uses_at w7 ⟨xk, xa, xb, xc⟩); clear q1 q5 q6 q5'))
                  refine HU.out.mono ?_
                  rintro e w8 ⟨b8, c8, rfl, hr8, hb8⟩
                  rw [HYS.out] at hr8 ⊢
                  have HR8 := Lib.hid hr8
                  have HB8 := Lib.hid (HB7.out.trans (hb8.mono HB7.out.size))
                  have HM8 := Lib.hid (HM7.out.below hb8)
                  have HO8 := Lib.hid (HO7.out.kept (Kept.of_below_all hb8 (FootIn.none _) (Nat.le_refl _)))
                  have x0 := cellBelow hb8 HX7.out.1.1
                  have x1 := cellBelow hb8 HX7.out.1.2
                  have x2 := cellBelow hb8 HX7.out.2.1
                  have x3 := cellBelow hb8 HX7.out.2.2
                  have z0 := cellBelow HB8.out HZZ.out.1
                  clear hr8 hb8 HU
                  go_wp2_with fail
                  go_loop [14, 89] (fun _ kv => ∃ k : Nat, k ≤ ys.length ∧ kv = .int .i64 k) (fun _ kv => ys.length - (intOf kv).toNat)
                  case atStart => exact ⟨0, Nat.zero_le _, rfl⟩
                  case round =>
                    obtain ⟨k, hk, rfl⟩ := hrel
                    by_cases hkl : k < ys.length
                    · obtain ⟨b9, o9, he9, l0⟩ := HR8.out.int_at hkl
                      injection he9 with he9
                      injection he9 with e1 e2
                      subst e1 e2
                      simp only [Nat.zero_add] at l0
                      obtain ⟨v, hv, hvn, -⟩ := HUS.out ys[k] (by rw [HYS.out]; exact List.getElem_mem hkl)
                      have hkv := HGD.out.1 ⟨hk1, hk2⟩ ys[k] (by rw [HYS.out]; exact List.getElem_mem hkl)
                      rw [hv] at l0 hkv
                      rw [Int.toNat_natCast] at hkv
                      have hvn3 : v < n3.length := by rw [HNL.out]; exact hvn
                      obtain ⟨b10, o10, he10, w0', -, -, -⟩ := HRN.out.node_at hvn3
                      injection he10 with he10
                      injection he10 with e1 e2
                      subst e1 e2
                      have w0 := cellBelow HB8.out w0'
                      rw [kindAt_eq (List.getElem?_eq_getElem hvn3)] at hkv
                      obtain ⟨vk, hvk⟩ : ∃ vk, n3[v].kind = vk := ⟨_, rfl⟩
                      rw [hvk] at w0 hkv
                      have hkk : (vk == 0) = false := by simpa using hkv
                      have g3 : decide ((v : Int) < 0) = false := decide_eq_false (by omega)
                      have g4 : decide ((n3.length : Int) ≤ (v : Int)) = false := decide_eq_false (by omega)
                      clear hv hkv w0' hvk hvn
                      go_wp2
                      go_round
                      case rel => exact ⟨k + 1, by omega, by go_num⟩
                      case measure => simp [intOf]; omega
                    · obtain rfl : k = ys.length := by omega
                      by_cases hx2 : xk = 2
                      · subst hx2
                        obtain ⟨v, hv, hvn, -⟩ := HUS.out xa (by simp [usesR, many])
                        have hkv := HGD.out.2.1 rfl
                        subst hv
                        rw [Int.toNat_natCast] at hkv
                        have hvn3 : v < n3.length := by rw [HNL.out]; exact hvn
                        obtain ⟨b10, o10, he10, w0', -, -, -⟩ := HRN.out.node_at hvn3
                        injection he10 with he10
                        injection he10 with e1 e2
                        subst e1 e2
                        have w0 := cellBelow HB8.out w0'
                        rw [kindAt_eq (List.getElem?_eq_getElem hvn3)] at hkv
                        obtain ⟨vk, hvk⟩ : ∃ vk, n3[v].kind = vk := ⟨_, rfl⟩
                        rw [hvk] at w0 hkv
                        have hkk : (vk == 2) = false := by simpa using hkv
                        clear hkv w0' hvk hvn
                        go_wp2
                        have hnx := LFel.next HG.out HSM.out.1 HLI.out HSA.out HXA.out HM8.out HC12.out (by rw [HYS.out]; exact HO8.out)
                        refine ⟨?_, ?_⟩
                        · first
                            | exact ⟨Lib.hid hnx.1, HB8⟩
                            | (repeat apply Exists.intro)
                              exact ⟨⟨Lib.hid hnx.1, HB8⟩, rfl⟩
                        have h1 := hnx.2
                        have h2 := HM0'.out
                        have h3 := HTL.out
                        rw [h3] at h1
                        show 4 * unM w8 (w3.heap.size + 1) nodes.length + lenOf v7 < 4 * unM wr (w3.heap.size + 1) nodes.length + (tl + 1)
                        omega
                      · have hab : xa ≠ xb := HGD.out.2.2 ⟨by show 3 ≤ xk; omega, hk2⟩
                        have q1 : (xk == 2) = false := by simpa using hx2
                        have q2 : (xk != 2) = true := by simpa using hx2
                        have q3 : (xa == xb) = false := by simpa using hab
                        clear hab hx2
                        go_wp2
                        have hnx := LFel.next HG.out HSM.out.1 HLI.out HSA.out HXA.out HM8.out HC12.out (by rw [HYS.out]; exact HO8.out)
                        refine ⟨?_, ?_⟩
                        · first
                            | exact ⟨Lib.hid hnx.1, HB8⟩
                            | (repeat apply Exists.intro)
                              exact ⟨⟨Lib.hid hnx.1, HB8⟩, rfl⟩
                        have h1 := hnx.2
                        have h2 := HM0'.out
                        have h3 := HTL.out
                        rw [h3] at h1
                        show 4 * unM w8 (w3.heap.size + 1) nodes.length + lenOf v7 < 4 * unM wr (w3.heap.size + 1) nodes.length + (tl + 1)
                        omega
                · by_cases hlo : xk < 2
                  · have k1 : decide (xk < 2) = true := decide_eq_true hlo
                    go_wp2_with (at_builtin; go_loud (refine appIs0 rfl (.tmp 73) (.tmp 75) rfl HP6.out hbs6 rfl b6 0 c6 ys HR6.out rfl hle ?_; intro v7 w7 q1 q5 q6; have q5' : World.grownBy w6 w7 (some g) := q5; have HO7 := Lib.hid q1; have HB7 := Lib.hid (HB6.out.grown q5' hsn6 hgg); have HM7 := Lib.hid (HM6.out.other q5' hnf1); have x0 := cellGrown q5' HX6.out.1.1 hxg; have x1 := cellGrown q5' HX6.out.1.2 hxg; have x2 := cellGrown q5' HX6.out.2.1 hxg; have x3 := cellGrown q5' HX6.out.2.2 hxg; clear q1 q5 q6 q5'))
                    have hnx := LFel.next HG.out HSM.out.1 HLI.out HSA.out HXA.out HM7.out HC12.out (by rw [HYS.out]; exact HO7.out)
                    refine ⟨?_, ?_⟩
                    · first
                        | exact ⟨Lib.hid hnx.1, HB7⟩
                        | (repeat apply Exists.intro)
                          exact ⟨⟨Lib.hid hnx.1, HB7⟩, rfl⟩
                    have h1 := hnx.2
                    have h2 := HM0'.out
                    have h3 := HTL.out
                    rw [h3] at h1
                    show 4 * unM w7 (w3.heap.size + 1) nodes.length + lenOf v7 < 4 * unM wr (w3.heap.size + 1) nodes.length + (tl + 1)
                    omega
                  · have k1 : decide (xk < 2) = false := decide_eq_false hlo
                    have k2 : decide (5 < xk) = true := decide_eq_true (by omega)
                    go_wp2_with (at_builtin; go_loud (refine appIs0 rfl (.tmp 73) (.tmp 75) rfl HP6.out hbs6 rfl b6 0 c6 ys HR6.out rfl hle ?_; intro v7 w7 q1 q5 q6; have q5' : World.grownBy w6 w7 (some g) := q5; have HO7 := Lib.hid q1; have HB7 := Lib.hid (HB6.out.grown q5' hsn6 hgg); have HM7 := Lib.hid (HM6.out.other q5' hnf1); have x0 := cellGrown q5' HX6.out.1.1 hxg; have x1 := cellGrown q5' HX6.out.1.2 hxg; have x2 := cellGrown q5' HX6.out.2.1 hxg; have x3 := cellGrown q5' HX6.out.2.2 hxg; clear q1 q5 q6 q5'))
                    have hnx := LFel.next HG.out HSM.out.1 HLI.out HSA.out HXA.out HM7.out HC12.out (by rw [HYS.out]; exact HO7.out)
                    refine ⟨?_, ?_⟩
                    · first
                        | exact ⟨Lib.hid hnx.1, HB7⟩
                        | (repeat apply Exists.intro)
                          exact ⟨⟨Lib.hid hnx.1, HB7⟩, rfl⟩
                    have h1 := hnx.2
                    have h2 := HM0'.out
                    have h3 := HTL.out
                    rw [h3] at h1
                    show 4 * unM w7 (w3.heap.size + 1) nodes.length + lenOf v7 < 4 * unM wr (w3.heap.size + 1) nodes.length + (tl + 1)
                    omega
    · have hxb : (x3 != 0) = true := by simpa using hx
      have HBW := Lib.hid (HALL.out _ HB3.out).2.2
      clear hx HC3
      go_wp2
      go_ret
      rw [← HN3.out]
      exact ⟨rfl, HBW.out⟩
end Go.Proofs.Ytbfjacgfifecpaa
