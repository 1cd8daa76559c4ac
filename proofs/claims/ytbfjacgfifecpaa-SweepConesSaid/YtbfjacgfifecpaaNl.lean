/- net.levels: the walk. -/
import Derived.Test.YtbfjacgfifecpaaNk
import Derived.Test.YtbfjacgfifecpaaNb
import Derived.StillTailTactics
namespace Go.Proofs.Ytbfjacgfifecpaa
open Go.RowKit

theorem infoIntsK : (Try.prog.info? 28).map (fun i => (i.zero, i.size, i.bytes)) = some (some (.slice none 0 0), 1, 24) := by kernel_rfl
theorem make_slices (n : Nat) (hn : n ≤ 1099511627776) (W : World) : (Instr.makeSlice 73 (.int .i64 (n : Int)) (.int .i64 (n : Int))).run Try.prog W = .ok (.slice (some ⟨W.heap.size, 0, none⟩) n n) (W.alloc (.cells (madeCells #[nilS] n) 28)) := by
  obtain ⟨i0, hi, hz0, hz1, hz2⟩ := info_parts infoIntsK
  have hr := run_make (P := Try.prog) W 73 28 i0 (.slice none 0 0) Try.underlying73 hi hz0 .i64 .i64 n n (by omega) (Int.le_refl _) (by rw [hz2]; omega) (by omega)
  rw [hz1] at hr
  simp only [Int.toNat_natCast, Nat.mul_one] at hr
  exact hr

theorem uses_own (w : World) (x : Node) :
    Calls Try.prog 23 #[nodeV x] w fun e w' => ∃ v', e = .returned v' ∧ Own kInt 3 w' none w.heap.size v' (usesR x) ∧ Below w.heap.size w w' := by
  obtain ⟨k, a, b, c⟩ := x
  have hb1 : ∀ k, Below w.heap.size w (w.alloc (.cells #[.int .i64 k, .int .i64 a, .int .i64 b, .int .i64 c] 38)) := fun k => (Below.refl _ _).alloc (Nat.le_refl _) _
  have hlit : ∀ (k : Int) (l : List Int), l.length ≤ 3 → Own kInt 3 ((w.alloc (.cells #[.int .i64 k, .int .i64 a, .int .i64 b, .int .i64 c] 38)).alloc (.cells (l.map fun x => Value.int .i64 x).toArray 3)) none w.heap.size (.slice (some ⟨(w.alloc (.cells #[.int .i64 k, .int .i64 a, .int .i64 b, .int .i64 c] 38)).heap.size, 0, none⟩) l.length l.length) l := fun k l hl => (lit_ints _ l (by omega)).lower (by simp)
  have hb2 : ∀ k (o : Obj), Below w.heap.size w ((w.alloc (.cells #[.int .i64 k, .int .i64 a, .int .i64 b, .int .i64 c] 38)).alloc o) := fun k o => (hb1 k).alloc (by simp) _
  have HB1 := Lib.hid hb1
  have HB2 := Lib.hid hb2
  have HL := Lib.hid hlit
  clear hb1 hb2 hlit
  have hk : k = 2 ∨ k = 7 ∨ k = 3 ∨ k = 4 ∨ k = 5 ∨ k = 6 ∨ (k ≠ 2 ∧ k ≠ 7 ∧ k ≠ 3 ∧ k ≠ 4 ∧ k ≠ 5 ∧ k ≠ 6) := by omega
  rcases hk with rfl | rfl | rfl | rfl | rfl | rfl | ⟨h2, h7, h3, h4, h5, h6⟩
  · go_enter Try.func23, Try.ntmps23
    go_wp2
    go_ret
    have h := HL.out 2 [a] (by simp)
    exact ⟨_, rfl, by rw [show usesR ⟨2, a, b, c⟩ = [a] by simp [usesR, many]]; simpa using h, HB2.out _ _⟩
  · go_enter Try.func23, Try.ntmps23
    go_wp2
    go_ret
    have h := HL.out 7 [a] (by simp)
    exact ⟨_, rfl, by rw [show usesR ⟨7, a, b, c⟩ = [a] by simp [usesR, many]]; simpa using h, HB2.out _ _⟩
  · go_enter Try.func23, Try.ntmps23
    go_wp2
    go_ret
    have h := HL.out 3 [a, b] (by simp)
    exact ⟨_, rfl, by rw [show usesR ⟨3, a, b, c⟩ = [a, b] by simp [usesR, many]]; simpa using h, HB2.out _ _⟩
  · go_enter Try.func23, Try.ntmps23
    go_wp2
    go_ret
    have h := HL.out 4 [a, b] (by simp)
    exact ⟨_, rfl, by rw [show usesR ⟨4, a, b, c⟩ = [a, b] by simp [usesR, many]]; simpa using h, HB2.out _ _⟩
  · go_enter Try.func23, Try.ntmps23
    go_wp2
    go_ret
    have h := HL.out 5 [a, b] (by simp)
    exact ⟨_, rfl, by rw [show usesR ⟨5, a, b, c⟩ = [a, b] by simp [usesR, many]]; simpa using h, HB2.out _ _⟩
  · go_enter Try.func23, Try.ntmps23
    go_wp2
    go_ret
    have h := HL.out 6 [a, b, c] (by simp)
    exact ⟨_, rfl, by rw [show usesR ⟨6, a, b, c⟩ = [a, b, c] by simp [usesR, many]]; simpa using h, HB2.out _ _⟩
  · have hu : usesR ⟨k, a, b, c⟩ = [] := by
      unfold usesR many
      by_cases h01 : k = 0 ∨ k = 1
      · simp [h01]
      · simp [h01, h2, h7, h3, h4, h5, h6]
    have e2 : (k == 2) = false := by simpa using h2
    have e3 : (k == 3) = false := by simpa using h3
    have e4 : (k == 4) = false := by simpa using h4
    have e5 : (k == 5) = false := by simpa using h5
    have e6 : (k == 6) = false := by simpa using h6
    have e7 : (k == 7) = false := by simpa using h7
    have HU := Lib.hid hu
    clear hu h2 h3 h4 h5 h6 h7
    go_enter Try.func23, Try.ntmps23
    go_wp2
    go_ret
    exact ⟨_, rfl, by rw [HU.out]; exact Own.nil _ _ _ _ _, HB1.out _⟩


/-- append of one number to a row of the call's own -/
theorem appI {W : World} {ops : Array Oper} {rest : List Oper} {o : Oper} {a : Act} {Q : Exit → Act → World → Prop} (hgd : o.guard = none)
    (s x : Operand) (ho : o.op = .call { callee := .builtin .append, args := #[s, x], argTypes := #[28, 28] }) {B : Nat} {v : Value} {xs : List Int} (hO : Own kInt 3 W none B v xs) (hB : B ≤ W.heap.size) (hs : a.eval s = v)
    (y : Int) (g : Nat) (hg : W.heap.size = g) (hx : a.eval x = .slice (some ⟨g, 0, none⟩) 1 1) (hl : (xs.length + 1) * 8 ≤ 140737488355328)
    (hK : ∀ v' w', Own kInt 3 w' none B v' (xs ++ [y]) → W.grownBy w' v.ownBlock → (v'.ownBlock = v.ownBlock ∨ ∃ b, v'.ownBlock = some b ∧ W.heap.size ≤ b) → wpList Try.prog ops Q rest (a.put o.dst v') w') :
    wpList Try.prog ops Q (o :: rest) a (W.alloc (.cells #[.int .i64 y] 3)) :=
  app1 kInt 3 28 (.int .i64 0) 8 hgd s x ho Try.underlying28 infoIntK rfl (by decide) (by decide) none B hO (FootIn.none _) hB hs y [.int .i64 y] (by rw [hg]; exact hx) rfl hl
    fun v' w' q1 _ _ _ q5 q6 => hK v' w' q1 q5 (q6.imp id fun ⟨b, h1, h2⟩ => ⟨b, h1, by omega⟩)

def LevE (w : World) (n B : Nat) (lv left : List Int) (rV : Value) (ready : List Nat) (us : List (List Nat)) (X : List (Value × List Int)) : Prop := ∃ vals, LevS w n B lv left rV ready vals us X
theorem KInv.reach {nodes : List Node} {users : Nat → List Nat} {d cur : Nat} {todo : List Nat} {s : KS} {rem : Nat → List Nat} (hN : InN nodes) (h : KInv nodes users d cur todo s rem) :
    ∀ (v : Nat) (i : Nat), i < nodes.length → s.lv.getD i 0 = (v : Int) → ∃ l : List Nat, l.Nodup ∧ (∀ x ∈ l, x < nodes.length ∧ s.lv.getD x 0 ≤ (v : Int)) ∧ l.length = v + 1 := by
  intro v
  induction v with
  | zero => exact fun i hi he => ⟨[i], by simp, fun x hx => by simp at hx; subst hx; exact ⟨hi, by rw [he]; exact Int.le_refl _⟩, rfl⟩
  | succ v ih =>
    intro i hi he
    rcases h.is i hi with h0 | ⟨a, ha, _, hl⟩
    · rw [he] at h0; omega
    · obtain ⟨l, l1, l2, l3⟩ := ih a (useAt_in hN ha) (by rw [he] at hl; omega)
      refine ⟨i :: l, List.nodup_cons.2 ⟨fun hm => ?_, l1⟩, fun x hx => ?_, by rw [List.length_cons, l3]⟩
      · have := (l2 i hm).2; rw [he] at this; omega
      · rcases List.mem_cons.1 hx with rfl | hx
        · exact ⟨hi, by rw [he]; exact Int.le_refl _⟩
        · exact ⟨(l2 x hx).1, by have := (l2 x hx).2; omega⟩
theorem KInv.bound {nodes : List Node} {users : Nat → List Nat} {d cur : Nat} {todo : List Nat} {s : KS} {rem : Nat → List Nat} (hN : InN nodes) (h : KInv nodes users d cur todo s rem) {i : Nat} (hi : i < nodes.length) : 0 ≤ s.lv.getD i 0 ∧ s.lv.getD i 0 < nodes.length := by
  refine ⟨h.nn i, ?_⟩
  obtain ⟨v, hv⟩ := Int.eq_ofNat_of_zero_le (h.nn i)
  obtain ⟨l, l1, l2, l3⟩ := h.reach hN v i hi hv
  have := nodup_le nodes.length l l1 (fun x hx => (l2 x hx).1)
  omega

/-- ahead of what is ready at d -/
def St1 (nodes : List Node) (us : List (List Nat)) (vals : List Value) (w : World) (B d : Nat) (rv : Value) : Prop :=
  ∃ lv left ready rem A c, rv = .slice A ready.length c ∧ LevS w nodes.length B lv left (.slice A ready.length c) ready vals us [] ∧ (∀ cur, KInv nodes (fun a => us.getD a []) d cur (us.getD cur []) ⟨lv, left, ready⟩ rem) ∧ ∀ i, (rem i).length ≤ 3
/-- at cur's users -/
def St2 (nodes : List Node) (us : List (List Nat)) (vals : List Value) (w : World) (B d cur : Nat) (todo : List Nat) (rv : Value) : Prop :=
  ∃ lv left ready rem A c, rv = .slice A ready.length c ∧ LevS w nodes.length B lv left (.slice A ready.length c) ready vals us [] ∧ KInv nodes (fun a => us.getD a []) d cur todo ⟨lv, left, ready⟩ rem ∧ ready[d]? = some cur ∧ ∀ i, (rem i).length ≤ 3

attribute [local go_sem] max2_int max_two in
set_option maxHeartbeats 4000000 in
set_option maxRecDepth 100000 in
theorem levels_net (w : World) (v : Value) (nodes : List Node) (ins outs : List Port) (hN : NetV w v nodes ins outs) (hnl : nodes.length ≤ 1073741824)
    (hin : ∀ x ∈ nodes, ∀ u ∈ usesR x, 0 ≤ u ∧ u < nodes.length) :
    Calls Try.prog 55 #[v] w fun e w' => ∃ v' l b, e = .returned (.tuple #[v', .bool b]) ∧ Row kInt w' (fun _ => False) v' l ∧ (b = true → IsLev nodes l) ∧ (b = false → ¬ ∃ l, IsLev nodes l) ∧ Below w.heap.size w w' := by
  have hInN : InN nodes := fun x hx u hu => by
    unfold usesN at hu
    split at hu
    · simp at hu
    · obtain ⟨z, hz, rfl⟩ := List.mem_map.1 hu
      have := hin x hx z hz
      omega
  obtain ⟨An, cn, Ai, ci, Ao, co, rfl, hbox⟩ := hN.box
  let ob := netBox (.slice An nodes.length cn) (.slice Ai ins.length ci) (.slice Ao outs.length co)
  have hmk := make_ints nodes.length (by omega)
  have hmk2 := make_slices nodes.length (by omega)
  have hS := LevS.init (w.alloc ob) nodes.length (by omega)
  have hsz : (w.alloc ob).heap.size = w.heap.size + 1 := by simp
  rw [hsz] at hS
  have HS := Lib.hid hS
  have HBOX := Lib.hid hbox
  have HSZ := Lib.hid hsz
  have HIN := Lib.hid hin
  have HINN := Lib.hid hInN
  have hb3 : Below (w.heap.size + 1) (w.alloc ob) (((((w.alloc ob)).alloc (.cells (madeCells #[.int .i64 0] nodes.length) 3)).alloc (.cells (madeCells #[.int .i64 0] nodes.length) 3)).alloc (.cells (madeCells #[nilS] nodes.length) 28)) :=
    (((Below.refl _ _).alloc (by rw [hsz]; exact Nat.le_refl _) _).alloc (by simp) _).alloc (by simp) _
  have HB3 := Lib.hid hb3
  obtain ⟨z0, z1, -, hrn0, -, -, -⟩ := hbox (w.alloc ob) (Below.refl _ _)
  obtain ⟨z01, z11, -, -⟩ := hbox _ ((Below.refl _ _).alloc (by rw [hsz]; exact Nat.le_refl _) (.cells (madeCells #[.int .i64 0] nodes.length) 3))
  obtain ⟨z02, z12, -, -⟩ := hbox _ (((Below.refl _ _).alloc (by rw [hsz]; exact Nat.le_refl _) (.cells (madeCells #[.int .i64 0] nodes.length) 3)).alloc (by simp) (.cells (madeCells #[.int .i64 0] nodes.length) 3))
  obtain ⟨z03, z13, -, -⟩ := hbox _ hb3
  have HRN0 := Lib.hid hrn0
  clear hbox hsz hb3 hN hin hrn0 hS hInN
  go_enter Try.func55, Try.ntmps55
  go_wp2_with fail
  clear z0 z1 z01 z11 z02 z12
  go_loopw [7, 31] (fun rv iv wr => ∃ (i : Nat) (left : List Int) (ready : List Nat) (us : List (List Nat)) (vals : List Value) (rV : Value), rv = rV ∧ iv = .int .i64 i ∧ i ≤ nodes.length ∧ Hid (P1 nodes i 0 left ready us) ∧ Hid (LevS wr nodes.length (w.heap.size + 1) (List.replicate nodes.length 0) left rV ready vals us []) ∧ Hid (Below (w.heap.size + 1) (w.alloc ob) wr) ∧ Hid (∀ a, (us.getD a []).length ≤ 3 * i)) (fun _ iv _ => nodes.length - (intOf iv).toNat)
  case atStart => exact ⟨0, _, _, _, _, _, rfl, rfl, Nat.zero_le _, Lib.hid (P1.first nodes), HS, HB3, Lib.hid (fun a => by rw [List.getD_eq_getElem?_getD, List.getElem?_replicate]; split <;> simp)⟩
  case round =>
    clear z03 z13 HS HB3
    obtain ⟨i, left, ready, us, vals, rV, rfl, rfl, hi, HP, HL, HB, HLN⟩ := hrel
    obtain ⟨z0, z1, -, -, -, -, hbw⟩ := HBOX.out _ HB.out
    have HBA : Hid (Below (w.alloc ob).heap.size (w.alloc ob) wr) := by rw [HSZ.out]; exact HB.out
    by_cases hlt : i < nodes.length
    · obtain ⟨b, off, rfl, x0, x1, x2, x3⟩ := HRN0.out.node_at hlt
      replace x0 := cellBelow HBA.out x0
      replace x1 := cellBelow HBA.out x1
      replace x2 := cellBelow HBA.out x2
      replace x3 := cellBelow HBA.out x3
      have hua : useAt nodes i = usesN nodes[i] := useAt_eq (List.getElem?_eq_getElem hlt)
      have hiu := HIN.out _ (List.getElem_mem hlt)
      obtain ⟨x, hxx⟩ : ∃ x, nodes[i] = x := ⟨_, rfl⟩
      rw [hxx] at x0 x1 x2 x3 hua hiu
      clear hxx
      obtain ⟨xk, xa, xb, xc⟩ := x
      dsimp only at x0 x1 x2 x3
      have HIU := Lib.hid hiu
      have HUA := Lib.hid hua
      have hlw := HL.out.lt
      have HLX := Lib.hid (HL.out.alloc (.cells #[.int .i64 xk, .int .i64 xa, .int .i64 xb, .int .i64 xc] 38))
      have HBX := Lib.hid (HB.out.alloc (by omega) (.cells #[.int .i64 xk, .int .i64 xa, .int .i64 xb, .int .i64 xc] 38))
      have hl0 : left.getD i 0 = 0 := by rw [HP.out.left i hlt, if_neg (by omega), if_pos rfl]; rfl
      have hli : left[i]? = some 0 := by
        have h1 : i < left.length := by rw [HP.out.lleft]; exact hlt
        rw [List.getD_eq_getElem?_getD, List.getElem?_eq_getElem h1] at hl0
        rw [List.getElem?_eq_getElem h1]
        exact congrArg some hl0
      have hrl : (nats ready).length ≤ 1073741824 := by
        rw [List.length_map, HP.out.rdy]
        have h1 := List.length_filter_le (fun m => (useAt nodes m).isEmpty) (List.range i)
        rw [List.length_range] at h1
        omega
      have HRL := Lib.hid hrl
      have HLI := Lib.hid hli
      have HL0 := Lib.hid hl0
      clear hiu hua hl0 hli hrl hbw
      by_cases h7 : xk = 7
      · subst h7
        have hu0 : useAt nodes i = [] := by rw [HUA.out]; simp [usesN]
        have HPN : Hid (P1 nodes (i + 1) 0 left (ready ++ [i]) us) := by
          have h := P1.next (i := i) (left := left) (ready := ready) (us := us) (by rw [hu0]; exact HP.out) hlt
          rw [HL0.out, if_pos rfl] at h
          exact h
        obtain ⟨c0, c1⟩ := HLX.out.leftOwn.cellAt? HLI.out
        clear hu0
        have hb1 := Nat.le_of_lt (Nat.lt_of_le_of_lt (Nat.le_add_right _ 2) HLX.out.lt)
        have hb2 : ((nats ready).length + 1) * 8 ≤ 140737488355328 := by have := HRL.out; omega
        have hro := HLX.out.rdyOwn
        have HRO := Lib.hid hro
        have hsx : (wr.alloc (.cells #[.int .i64 7, .int .i64 xa, .int .i64 xb, .int .i64 xc] 38)).heap.size = wr.heap.size + 1 := by simp
        have HSX := Lib.hid hsx
        clear hro hsx
        go_wp2_with (at_builtin; refine appI rfl (.tmp 68) (.tmp 70) rfl HRO.out hb1 rfl (i : Int) _ HSX.out rfl hb2 ?_; intro v' w4 q1 q5 q6)
        refine ⟨⟨i + 1, left, ready ++ [i], us, vals, v', rfl, by go_num, by omega, HPN, Lib.hid (HLX.out.setRdy q1 q5 q6), Lib.hid (HBX.out.grown q5 (by have := HLX.out.lt; omega) (fun k hk => (HLX.out.rdyOwn.base hk).1)), Lib.hid (fun a => by have := HLN.out a; omega)⟩, ?_⟩
        simp [intOf]; omega
      · have h7' : (xk == 7) = false := by simpa using h7
        have hua2 : useAt nodes i = (usesR ⟨xk, xa, xb, xc⟩).map Int.toNat := by rw [HUA.out, usesN, if_neg h7]
        have hul : (usesR ⟨xk, xa, xb, xc⟩).length ≤ 3 := by simp [usesR]; omega
        have hU := uses_own (wr.alloc (.cells #[.int .i64 xk, .int .i64 xa, .int .i64 xb, .int .i64 xc] 38)) ⟨xk, xa, xb, xc⟩
        obtain ⟨uu, huu⟩ : ∃ uu, usesR ⟨xk, xa, xb, xc⟩ = uu := ⟨_, rfl⟩
        rw [huu] at hua2 hul hU
        have HIU2 : Hid (∀ u ∈ uu, 0 ≤ u ∧ u < (nodes.length : Int)) := by rw [← huu]; exact HIU.out
        have HUA2 := Lib.hid hua2
        have HU := Lib.hid hU
        clear hua2 hU huu HIU
        go_wp2_with fail
        refine HU.out.mono ?_
        rintro e w4 ⟨v4, rfl, ho4, hb4⟩
        have HL4 := Lib.hid (HLX.out.enter hb4 ho4)
        have HB4 := Lib.hid (HBX.out.trans (hb4.mono (by rw [← HSZ.out]; exact HBX.out.size)))
        obtain ⟨A4, c4, rfl, -, -⟩ := ho4.shape
        clear ho4 hb4 HU
        go_wp2_with fail
        obtain ⟨wo, hwo⟩ : ∃ wo, wo = wr := ⟨_, rfl⟩
        subst hwo
        go_loopw [42] (fun kv wp => ∃ (k : Nat) (left : List Int) (us : List (List Nat)), kv = .int .i64 k ∧ k ≤ uu.length ∧ Hid (P1 nodes i k left ready us) ∧ Hid (LevE wp nodes.length (w.heap.size + 1) (List.replicate nodes.length 0) left u7 ready us [(.slice A4 uu.length c4, uu)]) ∧ Hid (Below (w.heap.size + 1) (w.alloc ob) wp) ∧ Hid (∀ a, (us.getD a []).length ≤ 3 * i + k)) (fun kv _ => uu.length - (intOf kv).toNat)
        case atStart => exact ⟨0, left, us, rfl, Nat.zero_le _, HP, Lib.hid ⟨vals, HL4.out⟩, HB4, HLN⟩
        case round =>
          clear HP HL4 HB4 HLN HL HB HLX HBX HLI HL0 HBA x0 x1 x2 x3 z0 z1
          obtain ⟨k, left, us, rfl, hk, HP, HLE, HB, HLN⟩ := hrel
          obtain ⟨vals, hle⟩ := HLE.out
          have HL := Lib.hid hle
          clear hle HLE
          by_cases hkt : k < uu.length
          · obtain ⟨g4, c5, he, -, -⟩ := HL.out.xOwn.form (by omega)
            injection he with he1 he2 he3
            subst he1
            subst he3
            have hc4 := (HL.out.xOwn.cellAt hkt).1
            have hub := HIU2.out _ (List.getElem_mem hkt)
            obtain ⟨a, ha⟩ := Int.eq_ofNat_of_zero_le hub.1
            have hka : (useAt nodes i)[k]? = some a := by rw [HUA2.out, List.getElem?_map, List.getElem?_eq_getElem hkt, ha]; rfl
            rw [ha] at hc4 hub
            have han : a < nodes.length := by omega
            have hvl := HL.out.lvals
            have hus := HL.out.lus
            obtain ⟨v, hv⟩ : ∃ v, vals[a]? = some v := ⟨_, List.getElem?_eq_getElem (by omega)⟩
            obtain ⟨u, hu⟩ : ∃ u, us[a]? = some u := ⟨_, List.getElem?_eq_getElem (by omega)⟩
            have hgu : us.getD a [] = u := by rw [List.getD_eq_getElem?_getD, hu]; rfl
            have hli : left[i]? = some (k : Int) := by
              have h1 : i < left.length := by rw [HP.out.lleft]; exact hlt
              have h2 := HP.out.left i hlt
              rw [if_neg (by omega), if_pos rfl, List.getD_eq_getElem?_getD, List.getElem?_eq_getElem h1] at h2
              rw [List.getElem?_eq_getElem h1]
              exact congrArg some h2
            have hgl : left.getD i 0 = k := by rw [List.getD_eq_getElem?_getD, hli]; rfl
            have HPU := Lib.hid (HP.out.use hlt hka han)
            rw [hgu, hgl] at HPU
            have hun : ((nats u).length + 1) * 8 ≤ 140737488355328 := by
              have h1 := HLN.out a
              rw [hgu] at h1
              rw [List.length_map]
              omega
            have HLN2 : Hid (∀ c, ((us.set a (u ++ [i])).getD c []).length ≤ 3 * i + (k + 1)) := fun c => by
              have h1 := HLN.out c
              rw [getD_setL (by omega)]
              split
              · rename_i e; subst e; rw [hgu] at h1; simp; omega
              · omega
            have hO := HL.out.useOwn hv hu
            have hcv := (HL.out.useCell hv).1
            have HO := Lib.hid hO
            have HV := Lib.hid hv
            have HU := Lib.hid hu
            have HLI := Lib.hid hli
            have hb1 := Nat.le_of_lt (Nat.lt_of_le_of_lt (Nat.le_add_right _ 2) HL.out.lt)
            have hkk : (k : Int) ≤ 3 := by omega
            have HVL := Lib.hid hvl
            have HUSL := Lib.hid hus
            clear hO hv hu hgu hli hgl hka hub ha hvl hus
            have hl6 : (nats u ++ [(i : Int)]).length = u.length + 1 := by simp
            have HL6L := Lib.hid hl6
            clear hl6
            go_wp2_with (at_builtin; go_loud (refine appI rfl (.tmp 51) (.tmp 53) rfl HO.out hb1 rfl (i : Int) _ rfl rfl hun ?_; intro v' w5 q1 q5 q6; obtain ⟨A6, c6, he6, -, -⟩ := q1.shape; rw [HL6L.out] at he6; subst he6; obtain ⟨t0, t1⟩ := HL.out.tabKept HV.out HU.out q5; have HL6 := Lib.hid (HL.out.setUse HV.out HU.out q1 q5 q6); obtain ⟨t2, t3⟩ := HL.out.leftKept HV.out HU.out q5 HLI.out; have HQ5 := Lib.hid q5; clear q1 q5 q6))
            refine ⟨⟨k + 1, _, _, by go_num, by omega, HPU, Lib.hid ⟨_, HL6.out.setLeft i ((k : Int) + 1)⟩, Lib.hid ?_, HLN2⟩, ?_⟩
            · have hB5 := HB.out.grown HQ5.out (by have := HL.out.lt; omega) (fun g hg => (HO.out.base hg).1)
              exact (hB5.setCell (p := ⟨w.heap.size + 1 + 1 + 1, a, none⟩) (by simp) _).setCell (p := ⟨w.heap.size + 1 + 1, i, none⟩) (by simp) _
            · simp [intOf]; omega
          · obtain rfl : k = uu.length := by omega
            have HL2 := Lib.hid HL.out.leave
            have hul3 : (useAt nodes i).length = uu.length := by rw [HUA2.out, List.length_map]
            have hPn := P1.next (by rw [hul3]; exact HP.out) hlt
            have hli : left[i]? = some (uu.length : Int) := by
              have h1 : i < left.length := by rw [HP.out.lleft]; exact hlt
              have h2 := HP.out.left i hlt
              rw [if_neg (by omega), if_pos rfl, List.getD_eq_getElem?_getD, List.getElem?_eq_getElem h1] at h2
              rw [List.getElem?_eq_getElem h1]
              exact congrArg some h2
            have hgl : left.getD i 0 = (uu.length : Int) := by rw [List.getD_eq_getElem?_getD, hli]; rfl
            rw [hgl] at hPn
            obtain ⟨c0, c1⟩ := HL2.out.leftOwn.cellAt? hli
            have HLN2 : Hid (∀ a, (us.getD a []).length ≤ 3 * (i + 1)) := fun a => by have := HLN.out a; omega
            have hb1 := Nat.le_of_lt (Nat.lt_of_le_of_lt (Nat.le_add_right _ 2) HL2.out.lt)
            have hb2 : ((nats ready).length + 1) * 8 ≤ 140737488355328 := by have := HRL.out; omega
            have hro := HL2.out.rdyOwn
            have HRO := Lib.hid hro
            clear hro hgl hli hul3
            by_cases hz : uu.length = 0
            · rw [if_pos (by omega)] at hPn
              have HPN := Lib.hid hPn
              rw [hz] at c0
              clear hPn hz
              go_wp2_with (at_builtin; refine appI rfl (.tmp 68) (.tmp 70) rfl HRO.out hb1 rfl (i : Int) _ rfl rfl hb2 ?_; intro v' w5 q1 q5 q6)
              refine ⟨⟨i + 1, left, ready ++ [i], us, vals, v', rfl, by go_num, by omega, HPN, Lib.hid (HL2.out.setRdy q1 q5 q6), Lib.hid (HB.out.grown q5 (by have := HL2.out.lt; omega) (fun k hk => (HL2.out.rdyOwn.base hk).1)), HLN2⟩, ?_⟩
              simp [intOf]; omega
            · have hzi : ¬ (uu.length : Int) = 0 := by omega
              rw [if_neg hzi] at hPn
              have HPN := Lib.hid hPn
              clear hPn hz
              go_wp2
              refine ⟨⟨i + 1, left, ready, us, vals, _, rfl, by go_num, by omega, HPN, HL2, HB, HLN2⟩, ?_⟩
              simp [intOf]; omega
    · obtain rfl : i = nodes.length := by omega
      have HUI := Lib.hid (fun a m (hm : m ∈ us.getD a []) => HP.out.userIn hm)
      have h0 : Hid (St1 nodes us vals wr (w.heap.size + 1) 0 u7) := by
        obtain ⟨A, c, he, -, -⟩ := HL.out.rdyOwn.shape
        rw [List.length_map] at he
        subst he
        exact ⟨_, _, _, _, A, c, rfl, HL.out, fun cur => HP.out.done HINN.out cur, fun i => by
          unfold useAt
          split
          · unfold usesN
            split
            · simp
            · simp [usesR]; omega
          · simp⟩
      have HUS := Lib.hid (HP.out.users HINN.out)
      have HBS := Lib.hid HB.out
      have HUL := Lib.hid (fun a => (HLN.out a))
      clear HP HL HB HLN HBA hbw
      go_wp2_with fail
      obtain ⟨wo, hwo⟩ : ∃ wo, wo = wr := ⟨_, rfl⟩
      subst hwo
      go_loopw [7, 12] (fun rv dv wp => ∃ d : Nat, dv = .int .i64 d ∧ d ≤ nodes.length ∧ Hid (St1 nodes us vals wp (w.heap.size + 1) d rv) ∧ Hid (Below (w.heap.size + 1) (w.alloc ob) wp)) (fun _ dv _ => nodes.length - (intOf dv).toNat)
      case atStart => exact ⟨0, rfl, Nat.zero_le _, h0, HBS⟩
      case round =>
        clear h0 HBS z0 z1
        obtain ⟨d, rfl, hd, HS1, HB⟩ := hrel
        obtain ⟨lv, left, ready, rem, A, c, rfl, hl, hk, hr3⟩ := HS1.out
        have HL := Lib.hid hl
        have HK := Lib.hid hk
        have HR3 := Lib.hid hr3
        have hrn := nodup_le nodes.length ready (hk 0).nodup (hk 0).inn
        clear hl hk hr3
        obtain ⟨z0, z1, -, -, -, -, hbw⟩ := HBOX.out _ HB.out
        by_cases hlt : d < ready.length
        · obtain ⟨g, c1, he, -, -⟩ := HL.out.rdyOwn.form (by rw [List.length_map]; omega)
          injection he with he1 he2 he3
          subst he1
          subst he3
          obtain ⟨cur, hcur⟩ : ∃ cur, ready[d]? = some cur := ⟨_, List.getElem?_eq_getElem hlt⟩
          have hcn : cur < nodes.length := (HK.out 0).inn cur (List.mem_of_getElem? hcur)
          have hcell := (HL.out.rdyOwn.cellAt? (i := d) (r := (cur : Int)) (by rw [List.getElem?_map, hcur]; rfl)).1
          have hvl := HL.out.lvals
          have hus := HL.out.lus
          obtain ⟨v, hv⟩ : ∃ v, vals[cur]? = some v := ⟨_, List.getElem?_eq_getElem (by omega)⟩
          obtain ⟨u, hu⟩ : ∃ u, us[cur]? = some u := ⟨_, List.getElem?_eq_getElem (by omega)⟩
          have hgu : us.getD cur [] = u := by rw [List.getD_eq_getElem?_getD, hu]; rfl
          have HUC := Lib.hid (fun m (hm : m ∈ u) => HUI.out cur m (by rw [hgu]; exact hm))
          have hO := HL.out.useOwn hv hu
          obtain ⟨Av, cv, he5, -, -⟩ := hO.shape
          rw [List.length_map] at he5
          subst he5
          have hucell := (HL.out.useCell hv).1
          have hulen : u.length ≤ 3 * nodes.length := by have := HUL.out cur; rw [hgu] at this; exact this
          have h20 : Hid (St2 nodes us vals wr (w.heap.size + 1) d cur (u.drop 0) (.slice (some ⟨g, 0, none⟩) ready.length c)) := ⟨lv, left, ready, rem, _, _, rfl, HL.out, by have := HK.out cur; rw [hgu] at this; exact this, hcur, HR3.out⟩
          have HV := Lib.hid hv
          have HU := Lib.hid hu
          have HGU := Lib.hid hgu
          have HULEN := Lib.hid hulen
          have HRN := Lib.hid hrn
          clear hv hu hgu hO hvl hus hcur he2 hulen hrn
          go_wp2
          obtain ⟨wo2, hwo2⟩ : ∃ wo, wo = wr := ⟨_, rfl⟩
          subst hwo2
          go_loopw [7, 88] (fun rv kv wp => ∃ k : Nat, kv = .int .i64 k ∧ k ≤ u.length ∧ Hid (St2 nodes us vals wp (w.heap.size + 1) d cur (u.drop k) rv) ∧ Hid (Below (w.heap.size + 1) (w.alloc ob) wp)) (fun _ kv _ => u.length - (intOf kv).toNat)
          case atStart => exact ⟨0, rfl, Nat.zero_le _, h20, HB⟩
          case round =>
            clear h20 hcell hucell HL HK HR3 HB hbw z0 z1 HS1 HRN
            obtain ⟨k, rfl, hk, HS2, HB⟩ := hrel
            obtain ⟨lv, left, ready, rem, A, c, rfl, hl, hki, hcur, hr3⟩ := HS2.out
            have HL := Lib.hid hl
            have HK := Lib.hid hki
            have HR3 := Lib.hid hr3
            have HCUR := Lib.hid hcur
            have hrn := nodup_le nodes.length ready hki.nodup hki.inn
            clear hl hki hr3 hcur
            by_cases hkt : k < u.length
            · have hmn : u[k] < nodes.length := HUC.out _ (List.getElem_mem hkt)
              have hdrop := List.drop_eq_getElem_cons hkt
              have hum : u[k]? = some u[k] := List.getElem?_eq_getElem hkt
              obtain ⟨m, hm⟩ : ∃ m, u[k] = m := ⟨_, rfl⟩
              rw [hm] at hmn hdrop hum
              have hO := HL.out.useOwn HV.out HU.out
              obtain ⟨g5, c6, he, -, -⟩ := hO.form (by rw [List.length_map]; omega)
              injection he with he1 he2 he3
              subst he1
              subst he3
              have hc := (hO.cellAt? (i := k) (r := (m : Int)) (by rw [List.getElem?_map, hum]; rfl)).1
              have hll := HK.out.llv
              have hlf := HK.out.lleft
              dsimp only at hll hlf
              obtain ⟨l0, h0⟩ : ∃ l, lv[m]? = some l := ⟨_, List.getElem?_eq_getElem (by omega)⟩
              obtain ⟨l1, h1⟩ : ∃ l, lv[cur]? = some l := ⟨_, List.getElem?_eq_getElem (by omega)⟩
              obtain ⟨r0, h2⟩ : ∃ l, left[m]? = some l := ⟨_, List.getElem?_eq_getElem (by omega)⟩
              have g0 : lv.getD m 0 = l0 := by rw [List.getD_eq_getElem?_getD, h0]; rfl
              have g1 : lv.getD cur 0 = l1 := by rw [List.getD_eq_getElem?_getD, h1]; rfl
              have g2 : left.getD m 0 = r0 := by rw [List.getD_eq_getElem?_getD, h2]; rfl
              have b1 := HK.out.bound HINN.out hcn
              have b2 : r0 = ((rem m).length : Int) := by rw [← g2]; exact HK.out.left m hmn
              have b3 := HR3.out m
              dsimp only at b1
              rw [g1] at b1
              have hst := HK.out
              rw [hdrop] at hst
              have hst := hst.step hmn HCUR.out
              simp only [kStep, g0, g1, g2] at hst
              have HST := Lib.hid hst
              have c0 := HL.out.lvOwn.cellAt? h0
              have c1 := HL.out.lvOwn.cellAt? h1
              have c2 := HL.out.leftOwn.cellAt? h2
              obtain ⟨c00, c01⟩ := c0
              obtain ⟨c10, c11⟩ := c1
              obtain ⟨c20, c21⟩ := c2
              have hul := HULEN.out
              have w1 : IntKind.i64.wrap (l1 + 1) = l1 + 1 := IntWalk.i64_in _ (by omega)
              clear hst hO hum hdrop hll hlf h0 h1 h2 g0 g1 g2 hrn he2 hm
              go_wp2_with fail
              have b4 : r0 ≤ 3 := by omega
              have b5 : 0 ≤ r0 := by omega
              have B2 := Lib.hid b2
              clear b2 b3
              have HLD := Lib.hid HL.out.drew
              have HBD := Lib.hid HB.out.drew
              have hro := HL.out.rdyOwn
              have hrl : (nats ready).length ≤ 1073741824 := by rw [List.length_map]; have := nodup_le nodes.length ready HK.out.nodup HK.out.inn; omega
              have e00 : wr.drew.cell? _ = _ := c00
              have e01 : wr.drew.frozen? _ = _ := c01
              have e10 : wr.drew.cell? _ = _ := c10
              have e20 : wr.drew.cell? _ = _ := c20
              have e21 : wr.drew.frozen? _ = _ := c21
              go_still_tail 13, (by kernel_rfl)
              change wpList _ _ _ _ _ wr.drew
              generalize wr.drew = w2 at HLD HBD e00 e01 e10 e20 e21
              have hlw := HLD.out.lt
              by_cases hz : r0 = 1
              · subst hz
                have HL7 := Lib.hid ((HLD.out.setLv m (max l0 (l1 + 1))).setLeft m 0)
                have hro7 := HL7.out.rdyOwn
                have hb1 := Nat.le_of_lt (Nat.lt_of_le_of_lt (Nat.le_add_right _ 2) HL7.out.lt)
                have hb2 : ((nats ready).length + 1) * 8 ≤ 140737488355328 := by omega
                have hsx : ((w2.setCell ⟨w.heap.size + 1, m, none⟩ (.int .i64 (max l0 (l1 + 1)))).setCell ⟨w.heap.size + 1 + 1, m, none⟩ (.int .i64 0)).heap.size = w2.heap.size := by simp
                have HRO7 := Lib.hid hro7
                have HSX := Lib.hid hsx
                clear hro7 hsx hro
                go_wp2_with (at_builtin; go_loud (refine appI rfl (.tmp 116) (.tmp 118) rfl HRO7.out hb1 rfl (m : Int) _ HSX.out rfl hb2 ?_; intro v' w5 q1 q5 q6))
                have HSN : Hid (KInv nodes (fun a => us.getD a []) d cur (u.drop (k + 1)) ⟨lv.set m (max l0 (l1 + 1)), left.set m 0, ready ++ [m]⟩ (fun i => if i = m then (rem i).erase cur else rem i)) := by
                  have h := HST.out
                  rw [show (1 : Int) - 1 = 0 from rfl, if_pos rfl] at h
                  exact Lib.hid h
                have hl7 : (nats ready ++ [(m : Int)]).length = (ready ++ [m]).length := by simp
                obtain ⟨A7, c7, he7, -, -⟩ := q1.shape
                rw [hl7] at he7
                subst he7
                have hB5 := ((HBD.out.setCell (p := ⟨w.heap.size + 1, m, none⟩) (by simp) (.int .i64 (max l0 (l1 + 1)))).setCell (p := ⟨w.heap.size + 1 + 1, m, none⟩) (by simp) (.int .i64 0)).grown q5 (by have := HL7.out.lt; omega) (fun g hg => (HRO7.out.base hg).1)
                refine ⟨⟨k + 1, by go_num, by omega, Lib.hid ⟨_, _, _, _, A7, c7, rfl, HL7.out.setRdy q1 q5 q6, HSN.out, ?_, ?_⟩, Lib.hid hB5⟩, ?_⟩
                · have h := HCUR.out
                  rw [List.getElem?_append_left (List.getElem?_eq_some_iff.1 h).1]; exact h
                · intro i
                  have h := HR3.out i
                  split
                  · exact Nat.le_trans List.length_erase_le h
                  · exact h
                · simp [intOf]; omega
              · have hz1 : ¬ (r0 - 1 = 0) := by omega
                have HSN : Hid (KInv nodes (fun a => us.getD a []) d cur (u.drop (k + 1)) ⟨lv.set m (max l0 (l1 + 1)), left.set m (r0 - 1), ready⟩ (fun i => if i = m then (rem i).erase cur else rem i)) := by
                  have h := HST.out
                  rw [if_neg hz1] at h
                  exact Lib.hid h
                have w2' : IntKind.i64.wrap (r0 - 1) = r0 - 1 := IntWalk.i64_in _ (by omega)
                have HL7 := Lib.hid ((HLD.out.setLv m (max l0 (l1 + 1))).setLeft m (r0 - 1))
                clear hro
                go_wp2_with fail
                have hB5 := ((HBD.out.setCell (p := ⟨w.heap.size + 1, m, none⟩) (by simp) (.int .i64 (max l0 (l1 + 1)))).setCell (p := ⟨w.heap.size + 1 + 1, m, none⟩) (by simp) (.int .i64 (r0 - 1)))
                refine ⟨⟨k + 1, by go_num, by omega, Lib.hid ⟨_, _, _, _, _, _, rfl, HL7.out, HSN.out, HCUR.out, ?_⟩, Lib.hid hB5⟩, ?_⟩
                · intro i
                  have h := HR3.out i
                  split
                  · exact Nat.le_trans List.length_erase_le h
                  · exact h
                · simp [intOf]; omega
            · obtain rfl : k = u.length := by omega
              have h1 : Hid (St1 nodes us vals wr (w.heap.size + 1) (d + 1) (.slice A ready.length c)) := by
                refine ⟨lv, left, ready, rem, A, c, rfl, HL.out, fun cur' => ?_, HR3.out⟩
                have h := HK.out
                rw [List.drop_length] at h
                exact KInv.next HUS.out h HCUR.out
              have hd2 : d < nodes.length := by have := (List.getElem?_eq_some_iff.1 HCUR.out).1; omega
              clear hrn
              go_wp2
              refine ⟨⟨d + 1, by go_num, by omega, h1, HB⟩, ?_⟩
              simp [intOf]; omega
        · have hdl : d = ready.length := by have h : d ≤ ready.length := (HK.out 0).dle; omega
          have HDN := Lib.hid ((fun h => KInv.done HINN.out h) (show KInv nodes (fun a => us.getD a []) (KS.ready ⟨lv, left, ready⟩).length 0 (us.getD 0 []) ⟨lv, left, ready⟩ rem by have := HK.out 0; rw [hdl] at this; exact this))
          have HRW := Lib.hid ((HL.out.lvOwn).rowS (fun _ => False) (fun _ _ h => h))
          have HBW := Lib.hid hbw
          have HDL := Lib.hid hdl
          clear hrn hbw
          go_wp2
          go_quiet (fail)
          go_wp2
          go_ret2
          refine ⟨_, lv, _, rfl, HRW.out.later (pw_drewN _ _), fun h => HDN.out.1 ?_, fun h => HDN.out.2 ?_, HBW.out.trans ((pw_drewN _ _).mono HBW.out.size)⟩
          · simp at h; show ready.length = nodes.length; omega
          · simp at h; show ¬ ready.length = nodes.length; omega
end Go.Proofs.Ytbfjacgfifecpaa
