/- Joined texts: Same6, Nat, Fresh. -/
import Derived.Test.YtdljgifoboiaeaaJR07
import Derived.Test.YtdljgifoboiaeaaJNet
import Derived.Laws.BitsAllLaws

/-! ## Nets that are the same: slipstickref06.Same; a few numbers of nat. -/
namespace Go.Proofs.Ytdljgifoboiaeaa
open Go.RowKit

set_option maxHeartbeats 2000000 in
set_option maxRecDepth 100000 in
theorem ints_same (w : World) (S S' : Nat → Prop) (v u : Value) (xs : List Int) (hx : Row kInt w S v xs) (hy : Row kInt w S' u xs) (hl : xs.length ≤ 1099511627776) :
    Calls Try.prog 133 #[v, u] w fun e w' => e = .returned (.bool true) ∧ Below w.heap.size w w' := by
  obtain ⟨A, c, rfl, -, -⟩ := hx.shape
  obtain ⟨A', c', rfl, -, -⟩ := hy.shape
  have HX := Lib.hid hx
  have HY := Lib.hid hy
  clear hx hy
  go_enter Try.func133, Try.ntmps133
  go_wp2_with fail
  go_loopw [5] (fun i wr => ∃ j : Nat, j ≤ xs.length ∧ i = .int .i64 j ∧ Below w.heap.size w wr) (fun i _ => xs.length - (intOf i).toNat)
  case atStart => exact ⟨0, Nat.zero_le _, rfl, Below.refl _ _⟩
  case round =>
    obtain ⟨j, hj, rfl, hb⟩ := hrel
    have HB := Lib.hid hb
    by_cases hlt : j < xs.length
    · obtain ⟨b1, o1, rfl, x1⟩ := (HX.out.later hb).int_at hlt
      obtain ⟨b2, o2, rfl, x2⟩ := (HY.out.later hb).int_at hlt
      generalize xs[j] = x at *
      clear hb
      go_wp2_with fail
      go_quiet (fail)
      go_wp2
      go_roundw
      case rel =>
        first
          | exact ⟨j + 1, by omega, by go_num, HB.out.trans ((pw_drewN _ _).mono HB.out.size)⟩
          | ((repeat apply Exists.intro); exact ⟨⟨j + 1, by omega, by go_num, HB.out.trans ((pw_drewN _ _).mono HB.out.size)⟩, rfl⟩)
      case measure => simp [intOf]; omega
    · obtain rfl : j = xs.length := by omega
      clear hb
      go_wp2
      go_ret
      exact ⟨rfl, HB.out⟩

set_option maxHeartbeats 4000000 in
set_option maxRecDepth 100000 in
theorem ports_same (w : World) (S S' : Nat → Prop) (v u : Value) (ps : List Port) (hx : Row kPort w S v ps) (hy : Row kPort w S' u ps) (hl : ps.length ≤ 1099511627776) (hb : ∀ q ∈ ps, q.bits.length ≤ 1099511627776) :
    Calls Try.prog 126 #[v, u] w fun e w' => e = .returned (.bool true) ∧ Below w.heap.size w w' := by
  obtain ⟨A, c, rfl, -, -⟩ := hx.shape
  obtain ⟨A', c', rfl, -, -⟩ := hy.shape
  have HX := Lib.hid hx
  have HY := Lib.hid hy
  have HBL := Lib.hid hb
  clear hx hy hb
  go_enter Try.func126, Try.ntmps126
  go_wp2_with fail
  go_loopw [5] (fun i wr => ∃ j : Nat, j ≤ ps.length ∧ i = .int .i64 j ∧ Below w.heap.size w wr) (fun i _ => ps.length - (intOf i).toNat)
  case atStart => exact ⟨0, Nat.zero_le _, rfl, Below.refl _ _⟩
  case round =>
    obtain ⟨j, hj, rfl, hb⟩ := hrel
    have HB := Lib.hid hb
    by_cases hlt : j < ps.length
    · obtain ⟨b1, o1, A1, c1, rfl, x1, y1, r1⟩ := (HX.out.later hb).port_at hlt
      obtain ⟨b2, o2, A2, c2, rfl, x2, y2, r2⟩ := (HY.out.later hb).port_at hlt
      have hbl := HBL.out _ (List.getElem_mem hlt)
      generalize ps[j] = x at *
      obtain ⟨name, bits⟩ := x
      dsimp only at *
      have R1 := Lib.hid (r1.later (Below.refl _ _).drew)
      have R2 := Lib.hid (r2.later (Below.refl _ _).drew)
      clear hb r1 r2
      go_wp2_with fail
      go_still_tail 22, (by kernel_rfl)
      go_wp2_with fail
      refine (ints_same _ _ _ _ _ bits R1.out R2.out hbl).mono ?_
      rintro e w2 ⟨rfl, hb2⟩
      have HB2 := Lib.hid (HB.out.drew.trans (hb2.mono HB.out.size))
      clear hb2
      go_wp2_with fail
      go_roundw
      case rel => exact ⟨j + 1, by omega, by go_num, HB2.out⟩
      case measure => simp [intOf]; omega
    · obtain rfl : j = ps.length := by omega
      clear hb
      go_wp2
      go_ret
      exact ⟨rfl, HB.out⟩

set_option maxHeartbeats 4000000 in
set_option maxRecDepth 100000 in
theorem same_net (w : World) (v u : Value) (nodes : List Node) (ins outs : List Port) (hx : NetV w v nodes ins outs) (hy : NetV w u nodes ins outs) (hnl : nodes.length ≤ 1099511627776) (hi : ins.length ≤ 1073741824) (ho : outs.length ≤ 1073741824) (hib : ∀ q ∈ ins, q.bits.length ≤ 1099511627776) (hob : ∀ q ∈ outs, q.bits.length ≤ 1099511627776) :
    Calls Try.prog 87 #[v, u] w fun e w' => e = .returned (.bool true) ∧ Below w.heap.size w w' := by
  obtain ⟨v1, v2, v3, rfl, h1, h2, h3⟩ := hx
  obtain ⟨u1, u2, u3, rfl, k1, k2, k3⟩ := hy
  obtain ⟨A1, a1, rfl, -, -⟩ := h1.shape
  obtain ⟨A2, a2, rfl, -, -⟩ := h2.shape
  obtain ⟨A3, a3, rfl, -, -⟩ := h3.shape
  obtain ⟨B1, b1, rfl, -, -⟩ := k1.shape
  obtain ⟨B2, b2, rfl, -, -⟩ := k2.shape
  obtain ⟨B3, b3, rfl, -, -⟩ := k3.shape
  let ob1 := netBox (.slice A1 nodes.length a1) (.slice A2 ins.length a2) (.slice A3 outs.length a3)
  let ob2 := netBox (.slice B1 nodes.length b1) (.slice B2 ins.length b2) (.slice B3 outs.length b3)
  have hb0 : Below w.heap.size w ((w.alloc ob1).alloc ob2) := ((Below.refl _ _).alloc (Nat.le_refl _) _).alloc (by simp) _
  have hsz : ((w.alloc ob1).alloc ob2).heap.size = w.heap.size + 2 := by simp
  have hz : ∀ W : World, Below (w.heap.size + 2) ((w.alloc ob1).alloc ob2) W → (W.cell? ⟨w.heap.size, 0, none⟩ = some (.slice A1 nodes.length a1) ∧ W.cell? ⟨w.heap.size, 1, none⟩ = some (.slice A2 ins.length a2) ∧ W.cell? ⟨w.heap.size, 2, none⟩ = some (.slice A3 outs.length a3)) ∧
      (W.cell? ⟨w.heap.size + 1, 0, none⟩ = some (.slice B1 nodes.length b1) ∧ W.cell? ⟨w.heap.size + 1, 1, none⟩ = some (.slice B2 ins.length b2) ∧ W.cell? ⟨w.heap.size + 1, 2, none⟩ = some (.slice B3 outs.length b3)) ∧ Below w.heap.size w W := by
    intro W hW
    have hs1 : (w.alloc ob1).heap.size = w.heap.size + 1 := by simp
    have q : ∀ j, W.cell? ⟨w.heap.size, j, none⟩ = (w.alloc ob1).cell? ⟨w.heap.size, j, none⟩ := fun j => (hW.cell (p := ⟨w.heap.size, j, none⟩) (by show w.heap.size < w.heap.size + 2; omega)).trans (World.cell?_alloc_lt _ _ _ (by simp))
    have r : ∀ j, W.cell? ⟨w.heap.size + 1, j, none⟩ = ((w.alloc ob1).alloc ob2).cell? ⟨(w.alloc ob1).heap.size, j, none⟩ := fun j => by rw [hs1]; exact hW.cell (p := ⟨w.heap.size + 1, j, none⟩) (by show w.heap.size + 1 < w.heap.size + 2; omega)
    exact ⟨⟨(q 0).trans (World.cell?_alloc_new _ _ _ 0), (q 1).trans (World.cell?_alloc_new _ _ _ 1), (q 2).trans (World.cell?_alloc_new _ _ _ 2)⟩, ⟨(r 0).trans (World.cell?_alloc_new _ _ _ 0), (r 1).trans (World.cell?_alloc_new _ _ _ 1), (r 2).trans (World.cell?_alloc_new _ _ _ 2)⟩, hb0.trans (hW.mono (by omega))⟩
  have HZ := Lib.hid hz
  have HSZ := Lib.hid hsz
  have H1 := Lib.hid h1
  have H2 := Lib.hid h2
  have H3 := Lib.hid h3
  have K1 := Lib.hid k1
  have K2 := Lib.hid k2
  have K3 := Lib.hid k3
  have HIB := Lib.hid hib
  have HOB := Lib.hid hob
  obtain ⟨⟨z0, -, -⟩, ⟨y0, -, -⟩, -⟩ := hz _ (Below.refl _ _)
  clear hz hsz h1 h2 h3 k1 k2 k3 hb0 hib hob
  go_enter Try.func87, Try.ntmps87
  go_wp2_with fail
  go_loopw [5] (fun i wr => ∃ j : Nat, j ≤ nodes.length ∧ i = .int .i64 j ∧ Below (w.heap.size + 2) ((w.alloc ob1).alloc ob2) wr) (fun i _ => nodes.length - (intOf i).toNat)
  case atStart => exact ⟨0, Nat.zero_le _, rfl, Below.refl _ _⟩
  case round =>
    obtain ⟨j, hj, rfl, hb⟩ := hrel
    clear z0 y0
    obtain ⟨⟨z0, z1, z2⟩, ⟨y0, y1, y2⟩, hbw⟩ := HZ.out _ hb
    have HB := Lib.hid hb
    by_cases hlt : j < nodes.length
    · obtain ⟨b1, o1, rfl, s0, s1, s2, s3⟩ := (H1.out.later hbw).node_at hlt
      obtain ⟨b2, o2, rfl, t0, t1, t2, t3⟩ := (K1.out.later hbw).node_at hlt
      generalize nodes[j] = x at *
      obtain ⟨kind, xa, xb, xc⟩ := x
      dsimp only at *
      clear hb hbw z1 z2 y1 y2
      go_wp2_with fail
      go_quiet (fail)
      go_wp2
      go_roundw
      case rel =>
        first
          | exact ⟨j + 1, by omega, by go_num, HB.out.trans ((pw_drewN _ _).mono (show w.heap.size + 2 ≤ wr.heap.size by rw [← HSZ.out]; exact HB.out.size))⟩
          | ((repeat apply Exists.intro); exact ⟨⟨j + 1, by omega, by go_num, HB.out.trans ((pw_drewN _ _).mono (show w.heap.size + 2 ≤ wr.heap.size by rw [← HSZ.out]; exact HB.out.size))⟩, rfl⟩)
      case measure => simp [intOf]; omega
    · obtain rfl : j = nodes.length := by omega
      have HBW := Lib.hid hbw
      clear hb hbw
      go_wp2_with fail
      refine (ports_same _ _ _ _ _ ins (H2.out.later HBW.out) (K2.out.later HBW.out) (by omega) HIB.out).mono ?_
      rintro e w1 ⟨rfl, hb1⟩
      have hb2 := HB.out.trans (hb1.mono (by rw [← HSZ.out]; exact HB.out.size))
      have HB2 := Lib.hid hb2
      clear z0 z1 z2 y0 y1 y2
      obtain ⟨⟨z0, z1, z2⟩, ⟨y0, y1, y2⟩, hbw⟩ := HZ.out _ hb2
      have HBW2 := Lib.hid hbw
      clear hb1 hb2 hbw
      go_wp2_with fail
      refine (ports_same _ _ _ _ _ outs (H3.out.later HBW2.out) (K3.out.later HBW2.out) (by omega) HOB.out).mono ?_
      rintro e w2 ⟨rfl, hb3⟩
      have HB3 := Lib.hid (HBW2.out.trans (hb3.mono HBW2.out.size))
      clear hb3
      go_wp2
      go_ret
      exact ⟨rfl, HB3.out⟩
end Go.Proofs.Ytdljgifoboiaeaa

/-! ## Bits of nat's numbers; a number as a word. -/
namespace Go.Proofs.Ytdljgifoboiaeaa
open Go.RowKit

theorem part_nat (w : World) (S : Nat → Prop) (v : Value) (xs : List Int) (i : Nat) (hx : Row (kNum .u32) w S v xs) (hi : i ≤ 1099511627776) :
    Calls Try.prog 130 #[v, .int .i64 i] w fun e w' => e = .returned (.int .u32 (xs.getD i 0)) ∧ w = w' := by
  obtain ⟨A, c, rfl, -, hc2⟩ := hx.shape
  by_cases hlt : i < xs.length
  · obtain ⟨b, off, rfl, hcell⟩ := hx.num_at hlt
    have hg : xs.getD i 0 = xs[i] := by simp [List.getD_eq_getElem?_getD, hlt]
    rw [hg]
    generalize xs[i] = x at *
    clear hx hg
    go_enter Try.func130, Try.ntmps130
    go_wp2
    go_ret
    exact ⟨rfl, rfl⟩
  · have hg : xs.getD i 0 = 0 := by rw [List.getD_eq_getElem?_getD, List.getElem?_eq_none (by omega)]; rfl
    rw [hg]
    clear hx hg
    go_enter Try.func130, Try.ntmps130
    go_wp2
    go_ret
    exact ⟨rfl, rfl⟩

theorem bit_u32 (n r : Nat) (hn : n < 4294967296) : wrap64 (bits BinOp.and IntKind.u32 ((n : Int) / 2 ^ r) 1) = b2i (n.testBit r) := by
  have e : ((n : Int) / 2 ^ r) = ((n / 2 ^ r : Nat) : Int) := by push_cast; rfl
  have h := u32_and_nat (n / 2 ^ r) 1 (Nat.lt_of_le_of_lt (Nat.div_le_self _ _) hn) (by omega)
  rw [Nat.and_one_is_mod] at h
  rw [e, show (1 : Int) = ((1 : Nat) : Int) from rfl, h, testBit_div]
  rcases Nat.mod_two_eq_zero_or_one (n / 2 ^ r) with h2 | h2 <;> rw [h2, IntWalk.wrap64_in _ (by decide)] <;> rfl

theorem bit_nat (w : World) (S : Nat → Prop) (v : Value) (xs : List Int) (k : Nat) (hx : Row (kNum .u32) w S v xs) (hok : okParts xs) (hk : k ≤ 1099511627776) :
    Calls Try.prog 105 #[v, .int .i64 k] w fun e w' => e = .returned (.int .i64 (b2i ((partsVal xs).testBit k))) ∧ w = w' := by
  obtain ⟨A, c, rfl, -, -⟩ := hx.shape
  have hx' := Lib.hid hx
  obtain ⟨n, hn, hn2⟩ : ∃ n : Nat, xs.getD (k / 32) 0 = n ∧ n < 4294967296 := by
    by_cases hlt : k / 32 < xs.length
    · have hg : xs.getD (k / 32) 0 = xs[k / 32] := by simp [List.getD_eq_getElem?_getD, hlt]
      have h := hok _ (List.getElem_mem hlt)
      obtain ⟨n, hn⟩ := Int.eq_ofNat_of_zero_le h.1
      exact ⟨n, by rw [hg, hn], by omega⟩
    · exact ⟨0, by rw [List.getD_eq_getElem?_getD, List.getElem?_eq_none (by omega)]; rfl, by omega⟩
  have hbit : (partsVal xs).testBit k = n.testBit (k % 32) := by
    by_cases hlt : k / 32 < xs.length
    · have h := partsVal_testBit xs hok (k / 32) (k % 32) hlt (Nat.mod_lt _ (by omega))
      rw [show 32 * (k / 32) + k % 32 = k by omega] at h
      have hg : xs.getD (k / 32) 0 = xs[k / 32] := by simp [List.getD_eq_getElem?_getD, hlt]
      rw [h, ← hg, hn, Int.toNat_natCast]
    · have h0 : n = 0 := by
        rw [List.getD_eq_getElem?_getD, List.getElem?_eq_none (by omega)] at hn
        simp at hn; omega
      rw [h0, Nat.zero_testBit]
      have h1 := partsVal_lt xs hok
      rw [show (4294967296 : Nat) = 2 ^ 32 by decide, ← Nat.pow_mul] at h1
      exact Nat.testBit_lt_two_pow (Nat.lt_of_lt_of_le h1 (Nat.pow_le_pow_right (by omega) (by omega)))
  rw [hbit]
  have HN := Lib.hid hn
  have e1 : (k : Int).tdiv 32 = ((k / 32 : Nat) : Int) := by rw [Int.tdiv_eq_ediv_of_nonneg (by omega)]; rfl
  have e2 : (k : Int).tmod 32 = ((k % 32 : Nat) : Int) := by rw [Int.tmod_eq_emod_of_nonneg (by omega)]; rfl
  have hr : k % 32 < 32 := Nat.mod_lt _ (by omega)
  have hq : k / 32 ≤ 1099511627776 := by omega
  clear hx hn hbit
  go_enter Try.func105, Try.ntmps105
  go_wp2_with fail
  refine (part_nat _ S _ xs (k / 32) hx'.out hq).mono ?_
  rintro e w1 ⟨rfl, rfl⟩
  rw [HN.out]
  go_wp2_with fail
  go_ret
  exact ⟨by rw [← bit_u32 n (k % 32) hn2]; rfl, rfl⟩

/-- a number as a word -/
def bWord (m : Nat) (n : Nat) (s : BSt) : List Int × BSt := mapS (fun k => bBit (b2i (m.testBit k))) (List.range n) s
theorem word_ext (m n : Nat) (s : BSt) : Ext s (bWord m n s).2 := mapS_ext _ (fun _ s => lay_ext _ s) _ s
theorem word_length (m n : Nat) (s : BSt) : (bWord m n s).1.length = n := by simp [bWord, mapS_length]

attribute [local go_sem] max2_int min2_int max_two min_two in
set_option maxHeartbeats 2000000 in
theorem word_calls (w : World) (p : Nat) (st : BSt) (v : Value) (xs : List Int) (n : Nat) (hB : BRep w p st) (hx : Row (kNum .u32) w (may w (some p) w.heap.size) v xs) (hok : okParts xs) (hn : n ≤ 1099511627776) (hf : (bWord (partsVal xs) n st).2.nodes.length < 1099511627776) :
    Calls Try.prog 31 #[.pointer (some ⟨p, 0, none⟩), v, .int .i64 n] w
      fun e w' => ∃ v', e = .returned v' ∧ Own kInt 3 w' (some p) w.heap.size v' (bWord (partsVal xs) n st).1 ∧ Laid w p (bWord (partsVal xs) n st).2 w' := by
  obtain ⟨A, c, rfl, -, -⟩ := hx.shape
  have hle : ∀ k, (mapS (fun k => bBit (b2i ((partsVal xs).testBit k))) ((List.range n).take k) st).2.nodes.length < 1099511627776 := fun k => Nat.lt_of_le_of_lt (mapS_ext_le _ (fun _ s => lay_ext _ s) _ k st).len hf
  have HLE := Lib.hid hle
  have HX := Lib.hid hx
  have HOK := Lib.hid hok
  have hmx : max (n : Int) 0 = n := by omega
  clear hf hle hx hok
  go_enter Try.func31, Try.ntmps31
  go_wp2_with fail
  go_loopw [7, 11] (fun v i wr => ∃ k : Nat, k ≤ n ∧ i = .int .i64 k ∧ Own kInt 3 wr (some p) w.heap.size v (mapS (fun k => bBit (b2i ((partsVal xs).testBit k))) ((List.range n).take k) st).1 ∧ Laid w p (mapS (fun k => bBit (b2i ((partsVal xs).testBit k))) ((List.range n).take k) st).2 wr)
    (fun _ i _ => n - (intOf i).toNat)
  case atStart => exact ⟨0, by omega, rfl, Own.nil _ _ _ _ _, Laid.refl hB⟩
  case round =>
    obtain ⟨k, hk, rfl, ho, hL⟩ := hrel
    obtain ⟨A', c', rfl, -, -⟩ := ho.shape
    by_cases hlt : k < n
    · have HXW := Lib.hid (HX.out.laid hL (Nat.le_refl _))
      have hs := mapS_take_succ (fun k => bBit (b2i ((partsVal xs).testBit k))) (List.range n) k (by simpa using hlt) st
      rw [List.getElem_range] at hs
      have HS := Lib.hid hs
      have hlk := HLE.out k
      have hyl : (mapS (fun k => bBit (b2i ((partsVal xs).testBit k))) ((List.range n).take k) st).1.length ≤ 1099511627776 := by rw [mapS_length]; simp; omega
      generalize (mapS (fun k => bBit (b2i ((partsVal xs).testBit k))) ((List.range n).take k) st).1 = ys at ho HS hyl
      generalize (mapS (fun k => bBit (b2i ((partsVal xs).testBit k))) ((List.range n).take k) st).2 = sk at hL HS hlk
      have hkk : k ≤ 1099511627776 := by omega
      clear hs
      go_wp2_with (first
        | (go_at_call 105; refine (bit_nat _ _ _ xs k HXW.out HOK.out hkk).mono ?_; rintro e w2 ⟨rfl, rfl⟩)
        | (go_at_call 104; refine (bit_calls _ p sk _ hL.1 hlk).mono ?_; rintro e w2 ⟨rfl, hL2⟩)
        | (at_builtin; refine app1B kInt 3 26 (.int .i64 0) 8 rfl (.tmp 14) (.tmp 20) rfl Try.underlying26 infoInt rfl (by decide) (by decide) p _ hL2.1 w.heap.size (ho.laid hL2) (by have := hL2.2.size; have := hL.2.size; omega) rfl _ _ rfl rfl (by omega) ?_; intro v' w3 ho3 hB3 hk3))
      go_roundw
      case rel => exact ⟨k + 1, by omega, by go_num, by rw [HS.out]; exact ho3, by rw [HS.out]; exact ⟨hB3, (hL.2.trans (hL2.2.mono hL.2.size)).trans hk3⟩⟩
      case measure => simp [intOf]; omega
    · obtain rfl : k = n := by omega
      have hr : mapS (fun k => bBit (b2i ((partsVal xs).testBit k))) ((List.range k).take k) st = bWord (partsVal xs) k st := by rw [List.take_of_length_le (by simp)]; rfl
      generalize mapS (fun k => bBit (b2i ((partsVal xs).testBit k))) ((List.range k).take k) st = r at hr ho hL ⊢
      subst hr
      go_wp2
      go_ret
      exact ⟨_, rfl, ho, hL⟩

theorem Row.capped {α : Type} {k : Kd α} {w : World} {S : Nat → Prop} {A : Option Addr} {n c c' : Nat} {xs : List α} (h : Row k w S (.slice A n c) xs) (h1 : n ≤ c') (h2 : c' ≤ c) : Row k w S (.slice A n c') xs := by
  obtain ⟨A', c2, css, he, r1, r2, r0, r3, r4⟩ := h
  injection he with e1 e2 e3
  subst e1; subst e2; subst e3
  exact ⟨_, c', css, rfl, h1, Nat.le_trans h2 r2, fun h => by have := r0 h; omega, r3, r4⟩
theorem lit_u32s (w : World) (l : List Int) (hl : l.length ≤ 1099511627776) (S : Nat → Prop) (hS : There S w) : Row (kNum .u32) (w.alloc (.cells (l.map fun x => Value.int .u32 x).toArray 128)) S (.slice (some ⟨w.heap.size, 0, none⟩) l.length l.length) l := by
  have hflat : (l.map fun x => [Value.int .u32 x]).flatten = l.map fun x => Value.int .u32 x := by
    clear hl
    induction l with
    | nil => rfl
    | cons v vs ih => simp [ih]
  refine ⟨_, _, l.map fun x => [Value.int .u32 x], rfl, Nat.le_refl _, by simp only [maxLen]; omega, (fun h => nomatch h), ⟨by simp, fun i x cs hx hc => ?_⟩, fun hn => ⟨_, _, rfl, by simp, fun hs => by have := hS _ hs; omega, fun j u hu => ?_⟩⟩
  · rw [List.getElem?_map, hx] at hc
    injection hc with hc
    exact hc.symm
  · rw [hflat] at hu
    rw [Nat.zero_add, World.cell?_alloc_new]
    simpa using hu

set_option maxRecDepth 100000 in
theorem trim5 (w : World) (S : Nat → Prop) (A : Option Addr) (c : Nat) (hx : Row (kNum .u32) w S (.slice A 2 c) [5, 0]) :
    Calls Try.prog 125 #[.slice A 2 c] w fun e w' => ∃ v', e = .returned v' ∧ Row (kNum .u32) w' S v' [5] ∧ w = w' := by
  obtain ⟨A', c', he, hc, hc3⟩ := hx.shape
  injection he with e1 e2 e3
  subst e1; subst e3
  clear e2
  obtain ⟨b, off, rfl, x0⟩ := hx.num_at (i := 0) (by simp)
  obtain ⟨b1, off1, he, x1⟩ := hx.num_at (i := 1) (by simp)
  injection he with he; injection he with e1 e2; subst e1; subst e2
  simp only [List.getElem_cons_zero, List.getElem_cons_succ, Nat.add_zero] at x0 x1
  have hc : 2 ≤ c := hc
  unfold maxLen at hc3
  have HX := Lib.hid hx
  clear hx
  go_enter Try.func125, Try.ntmps125
  go_wp2_with fail
  go_loop [3] (fun v => v = .int .i64 2 ∨ v = .int .i64 1) (fun v => (intOf v).toNat)
  case atStart => exact .inl rfl
  case round =>
    rcases hrel with rfl | rfl
    · go_wp2
      go_round
      case rel => exact .inr (by go_num)
      case measure => simp [intOf]
    · go_wp2
      go_ret
      have h := (Row.take (xs := ([5, 0] : List Int)) HX.out 1 (by simp)).capped (c' := 1) (Nat.le_refl _) (by omega)
      exact ⟨_, rfl, h, rfl⟩

theorem of5 (w : World) (S : Nat → Prop) (hS : There S w) :
    Calls Try.prog 86 #[.int .u64 5] w fun e w' => ∃ v', e = .returned v' ∧ Row (kNum .u32) w' S v' [5] ∧ Below w.heap.size w w' := by
  have HL := Lib.hid (lit_u32s w [5, 0] (by simp) S hS)
  go_enter Try.func86, Try.ntmps86
  go_wp2_with fail
  refine (trim5 _ S _ _ HL.out).mono ?_
  rintro e w1 ⟨v1, rfl, hr, rfl⟩
  have HR := Lib.hid hr
  clear hr
  go_wp2
  go_ret
  exact ⟨_, rfl, HR.out, (Below.refl _ _).alloc (Nat.le_refl _) _⟩
end Go.Proofs.Ytdljgifoboiaeaa

/-! ## What a law's own builder leaves alone; rows that are written out. -/
namespace Go.Proofs.Ytdljgifoboiaeaa
open Go.RowKit

/-- none of the builder's blocks is older than B -/
def Fresh (B : Nat) (w : World) (p : Nat) : Prop := ∀ i, foot w (some p) i → B ≤ i
theorem Kept.fresh {B : Nat} {w w' : World} {p : Nat} (h : Kept w.heap.size (some p) w w') (hF : Fresh B w p) (hB : B ≤ w.heap.size) : Fresh B w' p ∧ Below B w w' := by
  refine ⟨fun i hi => ?_, h.os, h.tape, h.output, h.size, fun i hi => h.block i (by omega) fun hf => by have := hF i hf; omega⟩
  rcases Nat.lt_or_ge i w.heap.size with hlt | hge
  · exact hF i (h.ft i hlt hi)
  · omega
theorem Fresh.below {B : Nat} {w w' : World} {p : Nat} {st : BSt} (hF : Fresh B w p) (hR : BRep w p st) (hb : Below w.heap.size w w') : Fresh B w' p := by
  intro i hi
  exact hF i ((foot_of_heap (w := w) (w' := w') (fun i hi => hb.block i (hR.fin i hi)) i).1 hi)

/-- the law's builder: its state, nothing of it older than B, and what was there is as it was -/
def Mine (B : Nat) (w0 w : World) (p : Nat) (st : BSt) : Prop := BRep w p st ∧ Fresh B w p ∧ Below B w0 w ∧ B ≤ w.heap.size
theorem Mine.laid {B : Nat} {w0 w w' : World} {p : Nat} {st st' : BSt} (h : Mine B w0 w p st) (hL : Laid w p st' w') : Mine B w0 w' p st' := by
  obtain ⟨h1, h2⟩ := hL.2.fresh h.2.1 h.2.2.2
  exact ⟨hL.1, h1, h.2.2.1.trans h2, Nat.le_trans h.2.2.2 hL.2.size⟩
theorem Mine.quiet {B : Nat} {w0 w w' : World} {p : Nat} {st : BSt} (h : Mine B w0 w p st) (hb : Below w.heap.size w w') : Mine B w0 w' p st :=
  ⟨h.1.below hb, h.2.1.below h.1 hb, h.2.2.1.trans (hb.mono h.2.2.2), Nat.le_trans h.2.2.2 hb.size⟩

theorem new_mine (w : World) : Calls Try.prog 15 #[] w
      fun e w' => e = .returned (.pointer (some ⟨w.heap.size, 0, none⟩)) ∧ Mine w.heap.size w w' w.heap.size ⟨[], [], []⟩ := by
  go_enter Try.func15, Try.ntmps15
  go_wp2
  go_ret
  have hh := heap_alloc_new w (.cells #[.slice none 0 0, .slice none 0 0, .slice none 0 0] 122)
  have none_of : ∀ (j : Nat) (v : Value), (w.alloc (.cells #[.slice none 0 0, .slice none 0 0, .slice none 0 0] 122)).cell? ⟨w.heap.size, j, none⟩ = some v → v = .slice none 0 0 := by
    intro j v hc
    rw [cell_of_row _ _ j _ _ _ hh] at hc
    match j, hc with
    | 0, hc => simpa using hc.symm
    | 1, hc => simpa using hc.symm
    | 2, hc => simpa using hc.symm
  have hfo : ∀ i, foot (w.alloc (.cells #[.slice none 0 0, .slice none 0 0, .slice none 0 0] 122)) (some w.heap.size) i → i = w.heap.size := by
    rintro i ⟨b, hb, hi⟩
    injection hb with hb; subst hb
    rcases hi with rfl | ⟨j, v, hc, hv⟩ | ⟨j, q, off, n, c, j', u, hc, hj, _, _⟩
    · rfl
    · rw [none_of j v hc] at hv; cases hv
    · have := none_of j _ hc; cases this
  refine ⟨rfl, ⟨.slice none 0 0, .slice none 0 0, .slice none 0 0, hh, Own.nil _ _ _ _ _, ⟨[], World.ownsRow_nil _ _ _ _, Pairs.nil _ _ _⟩, ⟨[], World.ownsRow_nil _ _ _ _, Pairs.nil _ _ _⟩, .inl rfl, ?_⟩, fun i hi => by rw [hfo i hi]; exact Nat.le_refl _, (Below.refl _ _).alloc (Nat.le_refl _) _, by simp⟩
  intro i hi
  rw [hfo i hi]; simp

/-- a row that is written out -/
theorem lit_any {α : Type} (k : Kd α) (e : TypeId) (w : World) (S : Nat → Prop) (hS : There S w) (l : List α) (css : List (List Value)) (cs : Array Value) (hcs : cs.toList = css.flatten) (hP : Pairs k w S l css) (hl : l.length ≤ 1099511627776) :
    Row k (w.alloc (.cells cs e)) S (.slice (some ⟨w.heap.size, 0, none⟩) l.length l.length) l := by
  have hb : Below w.heap.size w (w.alloc (.cells cs e)) := (Below.refl _ _).alloc (Nat.le_refl _) _
  refine ⟨_, _, css, rfl, Nat.le_refl _, by simp only [maxLen]; omega, (fun h => nomatch h), hP.keep ⟨hb.size, fun i hi _ => hb.block i hi⟩ (fun _ _ h => h), fun hn => ⟨_, _, rfl, by simp, fun hs => by have := hS _ hs; omega, fun j u hu => ?_⟩⟩
  rw [Nat.zero_add, World.cell?_alloc_new, ← hcs] at *
  simpa using hu
theorem pairs_nodes (w : World) (S : Nat → Prop) (l : List Node) : Pairs kNode w S l (l.map Node.cells) :=
  ⟨by simp, fun i x cs hx hc => by rw [List.getElem?_map, hx] at hc; injection hc with hc; exact hc.symm⟩
theorem pairs_port {w : World} {S : Nat → Prop} (name : ByteArray) (bits : List Int) (v : Value) (h : Row kInt w S v bits) : Pairs kPort w S [⟨name, bits⟩] [[.string name, v]] := by
  refine ⟨rfl, fun i x cs hx hc => ?_⟩
  match i, hx, hc with
  | 0, hx, hc =>
    injection hx with hx; injection hc with hc
    subst hx; subst hc
    exact ⟨v, rfl, h⟩
end Go.Proofs.Ytdljgifoboiaeaa
