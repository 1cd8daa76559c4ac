/- Joined texts: Na, Nb, Nc, Nd, Ne, Nf, Ng. -/
import Derived.Test.YtbfjacgfifecpaaKR07
import Derived.Lib.AppendZerosOnto
import Derived.Shelf.Abstract
import Derived.Deep.RegionHeld3
import Derived.Lib.Strings
import Derived.Lib.ConvBytes
import Derived.Laws.EntriesVeiled
import Derived.Maps.Own
import Derived.Maps.OwnSet
import Derived.Maps.Views

/-! ## net: Uses, plain. -/
namespace Go.Proofs.Ytbfjacgfifecpaa
open Go.RowKit

abbrev nodeV (x : Node) : Value := .agg #[.int .i64 x.kind, .int .i64 x.a, .int .i64 x.b, .int .i64 x.c]
theorem nilRowInt (w : World) (S : Nat → Prop) : Row kInt w S (.slice none 0 0) [] := ⟨none, 0, [], rfl, Nat.le_refl _, by simp [maxLen], fun _ => rfl, Pairs.nil _ _ _, fun h => by simp at h⟩

theorem uses_net (w : World) (S : Nat → Prop) (hS : There S w) (x : Node) :
    Calls Try.prog 23 #[nodeV x] w fun e w' => ∃ v', e = .returned v' ∧ Row kInt w' S v' (usesR x) ∧ Below w.heap.size w w' := by
  obtain ⟨k, a, b, c⟩ := x
  have hb1 : ∀ k, Below w.heap.size w (w.alloc (.cells #[.int .i64 k, .int .i64 a, .int .i64 b, .int .i64 c] 38)) := fun k => (Below.refl _ _).alloc (Nat.le_refl _) _
  have hlit : ∀ (k : Int) (l : List Int), l.length ≤ 3 → Row kInt ((w.alloc (.cells #[.int .i64 k, .int .i64 a, .int .i64 b, .int .i64 c] 38)).alloc (.cells (l.map fun x => Value.int .i64 x).toArray 3)) S (.slice (some ⟨(w.alloc (.cells #[.int .i64 k, .int .i64 a, .int .i64 b, .int .i64 c] 38)).heap.size, 0, none⟩) l.length l.length) l := fun k l hl => (lit_ints _ l (by omega)).nums (hS.later (by simp))
  have hb2 : ∀ k (o : Obj), Below w.heap.size w ((w.alloc (.cells #[.int .i64 k, .int .i64 a, .int .i64 b, .int .i64 c] 38)).alloc o) := fun k o => (hb1 k).alloc (by simp) _
  have HB1 := Lib.hid hb1
  have HB2 := Lib.hid hb2
  have HL := Lib.hid hlit
  clear hb1 hb2 hlit
  have hk : k = 2 ∨ k = 7 ∨ k = 3 ∨ k = 4 ∨ k = 5 ∨ k = 6 ∨ (k ≠ 2 ∧ k ≠ 7 ∧ k ≠ 3 ∧ k ≠ 4 ∧ k ≠ 5 ∧ k ≠ 6) := by omega
  rcases hk with rfl | rfl | rfl | rfl | rfl | rfl | ⟨h2, h7, h3, h4, h5, h6⟩
  · go_enter Try.func23, Try.ntmps23
    go_wp2
    go_ret
    have h := HL.out 2 [a] (by simp)
    exact ⟨_, rfl, by rw [show usesR ⟨2, a, b, c⟩ = [a] by simp [usesR, many]]; simpa using h, HB2.out _ _⟩
  · go_enter Try.func23, Try.ntmps23
    go_wp2
    go_ret
    have h := HL.out 7 [a] (by simp)
    exact ⟨_, rfl, by rw [show usesR ⟨7, a, b, c⟩ = [a] by simp [usesR, many]]; simpa using h, HB2.out _ _⟩
  · go_enter Try.func23, Try.ntmps23
    go_wp2
    go_ret
    have h := HL.out 3 [a, b] (by simp)
    exact ⟨_, rfl, by rw [show usesR ⟨3, a, b, c⟩ = [a, b] by simp [usesR, many]]; simpa using h, HB2.out _ _⟩
  · go_enter Try.func23, Try.ntmps23
    go_wp2
    go_ret
    have h := HL.out 4 [a, b] (by simp)
    exact ⟨_, rfl, by rw [show usesR ⟨4, a, b, c⟩ = [a, b] by simp [usesR, many]]; simpa using h, HB2.out _ _⟩
  · go_enter Try.func23, Try.ntmps23
    go_wp2
    go_ret
    have h := HL.out 5 [a, b] (by simp)
    exact ⟨_, rfl, by rw [show usesR ⟨5, a, b, c⟩ = [a, b] by simp [usesR, many]]; simpa using h, HB2.out _ _⟩
  · go_enter Try.func23, Try.ntmps23
    go_wp2
    go_ret
    have h := HL.out 6 [a, b, c] (by simp)
    exact ⟨_, rfl, by rw [show usesR ⟨6, a, b, c⟩ = [a, b, c] by simp [usesR, many]]; simpa using h, HB2.out _ _⟩
  · have hu : usesR ⟨k, a, b, c⟩ = [] := by
      unfold usesR many
      by_cases h01 : k = 0 ∨ k = 1
      · simp [h01]
      · simp [h01, h2, h7, h3, h4, h5, h6]
    have e2 : (k == 2) = false := by simpa using h2
    have e3 : (k == 3) = false := by simpa using h3
    have e4 : (k == 4) = false := by simpa using h4
    have e5 : (k == 5) = false := by simpa using h5
    have e6 : (k == 6) = false := by simpa using h6
    have e7 : (k == 7) = false := by simpa using h7
    have HU := Lib.hid hu
    clear hu h2 h3 h4 h5 h6 h7
    go_enter Try.func23, Try.ntmps23
    go_wp2
    go_ret
    exact ⟨_, rfl, by rw [HU.out]; exact nilRowInt _ _, HB1.out _⟩

/-- the lowest bit of a whole number -/
def and1 (a : Int) : Int := a % 2
theorem and1_eq (a : Int) : (and1 a = a) ↔ (a = 0 ∨ a = 1) := by unfold and1; omega
theorem bits_and_one (a : Int) : bits .and .i64 a 1 = a % 2 := by
  show IntKind.i64.wrap ((BitVec.ofInt 64 a &&& BitVec.ofInt 64 1).toNat : Int) = _
  rw [BitVec.toNat_and, BitVec.toNat_ofInt, show (BitVec.ofInt 64 1).toNat = 1 from rfl, Nat.and_one_is_mod, IntKind.wrap_i64]
  omega
def plainN (x : Node) : Node :=
  if x.kind = 0 then ⟨0, and1 x.a, 0, 0⟩ else if x.kind = 7 then ⟨7, x.a, and1 x.b, 0⟩ else if x.kind = 2 then ⟨2, x.a, 0, 0⟩
  else if x.kind = 3 ∨ x.kind = 4 ∨ x.kind = 5 then ⟨x.kind, x.a, x.b, 0⟩ else if x.kind = 6 then x else ⟨x.kind, 0, 0, 0⟩
theorem plain_net (w : World) (x : Node) :
    Calls Try.prog 83 #[nodeV x] w fun e w' => e = .returned (nodeV (plainN x)) ∧ Below w.heap.size w w' := by
  obtain ⟨k, a, b, c⟩ := x
  have hb : ∀ (o o' : Obj), Below w.heap.size w ((w.alloc o).alloc o') := fun o o' => ((Below.refl _ _).alloc (Nat.le_refl _) _).alloc (by simp) _
  have HB := Lib.hid hb
  clear hb
  have hk : k = 0 ∨ k = 7 ∨ k = 2 ∨ k = 3 ∨ k = 4 ∨ k = 5 ∨ k = 6 ∨ (k ≠ 0 ∧ k ≠ 2 ∧ k ≠ 7 ∧ k ≠ 3 ∧ k ≠ 4 ∧ k ≠ 5 ∧ k ≠ 6) := by omega
  rcases hk with rfl | rfl | rfl | rfl | rfl | rfl | rfl | ⟨h0, h2, h7, h3, h4, h5, h6⟩
  · go_enter Try.func83, Try.ntmps83
    go_wp2
    refine bodyPost_ret (v := nodeV (plainN ⟨0, a, b, c⟩)) (by simp [results, Try.results83, go_sem, plainN, and1, bits_and_one]) rfl ⟨rfl, HB.out _ _⟩
  · go_enter Try.func83, Try.ntmps83
    go_wp2
    refine bodyPost_ret (v := nodeV (plainN ⟨7, a, b, c⟩)) (by simp [results, Try.results83, go_sem, plainN, and1, bits_and_one]) rfl ⟨rfl, HB.out _ _⟩
  · go_enter Try.func83, Try.ntmps83
    go_wp2
    refine bodyPost_ret (v := nodeV (plainN ⟨2, a, b, c⟩)) (by simp [results, Try.results83, go_sem, plainN]) rfl ⟨rfl, HB.out _ _⟩
  · go_enter Try.func83, Try.ntmps83
    go_wp2
    refine bodyPost_ret (v := nodeV (plainN ⟨3, a, b, c⟩)) (by simp [results, Try.results83, go_sem, plainN]) rfl ⟨rfl, HB.out _ _⟩
  · go_enter Try.func83, Try.ntmps83
    go_wp2
    refine bodyPost_ret (v := nodeV (plainN ⟨4, a, b, c⟩)) (by simp [results, Try.results83, go_sem, plainN]) rfl ⟨rfl, HB.out _ _⟩
  · go_enter Try.func83, Try.ntmps83
    go_wp2
    refine bodyPost_ret (v := nodeV (plainN ⟨5, a, b, c⟩)) (by simp [results, Try.results83, go_sem, plainN]) rfl ⟨rfl, HB.out _ _⟩
  · go_enter Try.func83, Try.ntmps83
    go_wp2
    refine bodyPost_ret (v := nodeV (plainN ⟨6, a, b, c⟩)) (by simp [results, Try.results83, go_sem, plainN]) rfl ⟨rfl, HB.out _ _⟩
  · have e0 : (k == 0) = false := by simpa using h0
    have e2 : (k == 2) = false := by simpa using h2
    have e3 : (k == 3) = false := by simpa using h3
    have e4 : (k == 4) = false := by simpa using h4
    have e5 : (k == 5) = false := by simpa using h5
    have e6 : (k == 6) = false := by simpa using h6
    have e7 : (k == 7) = false := by simpa using h7
    have hp : plainN ⟨k, a, b, c⟩ = ⟨k, 0, 0, 0⟩ := by simp [plainN, h0, h2, h3, h4, h5, h6, h7]
    have HP := Lib.hid hp
    clear hp h0 h2 h3 h4 h5 h6 h7
    go_enter Try.func83, Try.ntmps83
    go_wp2
    refine bodyPost_ret (v := nodeV ⟨k, 0, 0, 0⟩) (by simp [results, Try.results83, go_sem]) rfl ⟨by rw [HP.out], HB.out _ _⟩
end Go.Proofs.Ytbfjacgfifecpaa

/-! ## slices.Grow, Concat, IndexFunc, ContainsFunc; net.ports. -/
namespace Go.Proofs.Ytbfjacgfifecpaa
open Go.RowKit

theorem infoIntK : (Try.prog.info? 3).map (fun i => (i.zero, i.size, i.bytes)) = some (some (.int .i64 0), 1, 8) := by kernel_rfl
theorem infoPortK : (Try.prog.info? 53).map (fun i => (i.zero, i.size, i.bytes)) = some (some (.agg #[.string ⟨#[]⟩, .slice none 0 0]), 2, 40) := by kernel_rfl

theorem grow_ints (w : World) (n : Nat) (hn : n ≤ 1099511627776) : Calls Try.prog 88 #[.slice none 0 0, .int .i64 n] w fun e w' => ∃ v, e = .returned v ∧ Own kInt 3 w' none w.heap.size v [] ∧ Below w.heap.size w w' := by
  rcases Nat.eq_zero_or_pos n with rfl | hp
  · go_enter Try.func88, Try.ntmps88
    go_wp2
    go_ret
    exact ⟨_, rfl, Own.nil _ _ _ _ _, Below.refl _ _⟩
  · obtain ⟨i0, hi, hz0, hz1, hz2⟩ := info_parts infoIntK
    obtain ⟨G, hG⟩ : ∃ G, grownCap w n 0 3 = G := ⟨_, rfl⟩
    have hG1 : n ≤ G := hG ▸ grownCap_ge w n 0 3
    have hG2 : G ≤ maxLen := hG ▸ grownCap_le_maxLen w n 0 3 (by unfold maxLen; omega)
    obtain ⟨CS, hCS⟩ : ∃ CS : Array Value, CS = (#[] : Array Value) ++ Builtin.zeroCells (.int .i64 0 : Value).cells n ++ Builtin.zeroCells (.int .i64 0 : Value).cells (G - n) := ⟨_, rfl⟩
    have hsz : CS.size = G * 1 := by
      rw [hCS]
      simp only [Array.size_append, size_zeroCells]
      rw [show (.int .i64 0 : Value).cells.size = 1 from rfl, List.size_toArray, List.length_nil, Nat.zero_add, ← Nat.add_mul, Nat.add_sub_cancel' hG1]
    have hrz : ∀ ty, (Builtin.append_ #[28, 3] ty #[.slice none 0 0, .int .i64 (n : Int)]).run Try.prog w = .ok (.slice (some ⟨w.heap.size, 0, none⟩) n G) (w.drew.alloc (.cells CS 3)) := fun ty => by
      have h := Lib.run_append_grow_zeros w 28 3 ty 3 i0 (.int .i64 0) .i64 .i64 Try.underlying28 Try.underlying3 hi hz0 none 0 0 [] (run_firstCells_none _ _ _ _ _) n hp (by rw [hz1]; decide) (by omega) (by omega) (by rw [hz2]; omega) (by rw [hz2]; exact growslice_fits (by omega) (by omega))
      rw [Nat.zero_add, hG] at h
      rw [hCS]
      exact h
    have HB := Lib.hid (show Below w.heap.size w (w.drew.alloc (.cells CS 3)) from ((Below.refl _ _).drew).alloc (Nat.le_refl _) _)
    have HO := Lib.hid (show Own kInt 3 (w.drew.alloc (.cells CS 3)) none w.heap.size (.slice (some ⟨w.heap.size, 0, none⟩) 0 G) [] from
      ⟨[], ⟨by simp, .inr ⟨w.heap.size, G, CS, rfl, Nat.le_refl _, heap_alloc_new w.drew _, Nat.zero_le _, hG2, hsz, by simp⟩⟩, Pairs.nil _ _ _, fun _ _ => foot_none _ _⟩)
    unfold maxLen at hG2
    have hp2 : (0 : Int) < n := by omega
    clear hG hCS hsz hi hz0 hz1 hz2
    go_enter Try.func88, Try.ntmps88
    go_wp2_with (at_builtin; refine Lib.wpList_append_run _ rfl _ _ _ _ rfl _ _ rfl rfl _ _ (hrz _) ?_)
    go_ret
    exact ⟨_, rfl, HO.out, HB.out⟩
theorem grow_ports (w : World) (n : Nat) (hn : n ≤ 1099511627776) : Calls Try.prog 100 #[.slice none 0 0, .int .i64 n] w fun e w' => ∃ v, e = .returned v ∧ Own kPort 53 w' none w.heap.size v [] ∧ Below w.heap.size w w' := by
  rcases Nat.eq_zero_or_pos n with rfl | hp
  · go_enter Try.func100, Try.ntmps100
    go_wp2
    go_ret
    exact ⟨_, rfl, Own.nil _ _ _ _ _, Below.refl _ _⟩
  · obtain ⟨i0, hi, hz0, hz1, hz2⟩ := info_parts infoPortK
    obtain ⟨G, hG⟩ : ∃ G, grownCap w n 0 53 = G := ⟨_, rfl⟩
    have hG1 : n ≤ G := hG ▸ grownCap_ge w n 0 53
    have hG2 : G ≤ maxLen := hG ▸ grownCap_le_maxLen w n 0 53 (by unfold maxLen; omega)
    obtain ⟨CS, hCS⟩ : ∃ CS : Array Value, CS = (#[] : Array Value) ++ Builtin.zeroCells (.agg #[.string ⟨#[]⟩, .slice none 0 0] : Value).cells n ++ Builtin.zeroCells (.agg #[.string ⟨#[]⟩, .slice none 0 0] : Value).cells (G - n) := ⟨_, rfl⟩
    have hsz : CS.size = G * 2 := by
      rw [hCS]
      simp only [Array.size_append, size_zeroCells]
      rw [show (.agg #[.string ⟨#[]⟩, .slice none 0 0] : Value).cells.size = 2 from rfl, List.size_toArray, List.length_nil, Nat.zero_add, ← Nat.add_mul, Nat.add_sub_cancel' hG1]
    have hrz : ∀ ty, (Builtin.append_ #[23, 3] ty #[.slice none 0 0, .int .i64 (n : Int)]).run Try.prog w = .ok (.slice (some ⟨w.heap.size, 0, none⟩) n G) (w.drew.alloc (.cells CS 53)) := fun ty => by
      have h := Lib.run_append_grow_zeros w 23 3 ty 53 i0 (.agg #[.string ⟨#[]⟩, .slice none 0 0]) .i64 .i64 Try.underlying23 Try.underlying3 hi hz0 none 0 0 [] (run_firstCells_none _ _ _ _ _) n hp (by rw [hz1]; decide) (by omega) (by omega) (by rw [hz2]; omega) (by rw [hz2]; exact growslice_fits (by omega) (by omega))
      rw [Nat.zero_add, hG] at h
      rw [hCS]
      exact h
    have HB := Lib.hid (show Below w.heap.size w (w.drew.alloc (.cells CS 53)) from ((Below.refl _ _).drew).alloc (Nat.le_refl _) _)
    have HO := Lib.hid (show Own kPort 53 (w.drew.alloc (.cells CS 53)) none w.heap.size (.slice (some ⟨w.heap.size, 0, none⟩) 0 G) [] from
      ⟨[], ⟨by simp, .inr ⟨w.heap.size, G, CS, rfl, Nat.le_refl _, heap_alloc_new w.drew _, Nat.zero_le _, hG2, hsz, by simp⟩⟩, Pairs.nil _ _ _, fun _ _ => foot_none _ _⟩)
    unfold maxLen at hG2
    have hp2 : (0 : Int) < n := by omega
    clear hG hCS hsz hi hz0 hz1 hz2
    go_enter Try.func100, Try.ntmps100
    go_wp2_with (at_builtin; refine Lib.wpList_append_run _ rfl _ _ _ _ rfl _ _ rfl rfl _ _ (hrz _) ?_)
    go_ret
    exact ⟨_, rfl, HO.out, HB.out⟩

set_option maxHeartbeats 1000000 in
theorem concat_ints (w : World) (v : Value) (xss : List (List Int)) (hx : Row (kRow kInt) w (fun _ => False) v xss) (hl : xss.length ≤ 4294967296) (hsum : xss.flatten.length ≤ 1099511627776) :
    Calls Try.prog 57 #[v] w fun e w' => ∃ v', e = .returned v' ∧ Row kInt w' (fun _ => False) v' xss.flatten ∧ Below w.heap.size w w' := by
  obtain ⟨A, c, rfl, -, -⟩ := hx.shape
  have HX := Lib.hid hx
  have hpre : ∀ j, (xss.take j).flatten.length ≤ xss.flatten.length := fun j => by
    have h := congrArg List.length (congrArg List.flatten (List.take_append_drop j xss))
    rw [List.flatten_append, List.length_append] at h
    omega
  have hsucc : ∀ j (h : j < xss.length), (xss.take (j + 1)).flatten = (xss.take j).flatten ++ xss[j] := fun j h => by
    rw [List.take_succ_eq_append_getElem h, List.flatten_append]; simp
  have HP := Lib.hid hpre
  have HS := Lib.hid hsucc
  clear hx hpre hsucc
  go_enter Try.func57, Try.ntmps57
  go_wp2
  go_loop [3, 11] (fun s i => ∃ (j n : Nat), i = .int .i64 (j : Nat) ∧ s = .int .i64 (n : Nat) ∧ j ≤ xss.length ∧ Hid (n = (xss.take j).flatten.length)) (fun _ i => xss.length - (intOf i).toNat)
  case atStart => exact ⟨0, 0, rfl, rfl, Nat.zero_le _, Lib.hid (by simp)⟩
  case round =>
    obtain ⟨j, n, rfl, rfl, hj, HN⟩ := hrel
    by_cases hlt : j < xss.length
    · obtain ⟨b, off, A2, c2, rfl, hcell, -⟩ := HX.out.row_at hlt
      have hnew : n + xss[j].length = (xss.take (j + 1)).flatten.length := by rw [HS.out j hlt, List.length_append, HN.out]
      have hle := HP.out (j + 1)
      rw [← hnew] at hle
      have HNEW := Lib.hid hnew
      obtain ⟨m, hm⟩ : ∃ m, xss[j].length = m := ⟨_, rfl⟩
      rw [hm] at hcell hle HNEW
      clear hnew hm
      go_wp2
      go_round
      case rel => exact ⟨j + 1, n + m, by go_num, by go_num, by omega, HNEW⟩
      case measure => simp [intOf]; omega
    · obtain rfl : j = xss.length := by omega
      have hn : n ≤ 1099511627776 := by rw [HN.out, List.take_length]; exact hsum
      go_wp2_with fail
      refine (grow_ints w n hn).mono ?_
      rintro e w1 ⟨v1, rfl, hO, hb⟩
      obtain ⟨A1, c1, rfl, -, -⟩ := hO.shape
      have HO := Lib.hid hO
      have HB := Lib.hid hb
      clear hO hb
      go_wp2_with fail
      go_loopw [6, 27] (fun nv i wr => ∃ j : Nat, i = .int .i64 (j : Nat) ∧ j ≤ xss.length ∧ Hid (Own kInt 3 wr none w.heap.size nv (xss.take j).flatten) ∧ Hid (Below w.heap.size w wr)) (fun _ i _ => xss.length - (intOf i).toNat)
      case atStart => exact ⟨0, rfl, Nat.zero_le _, Lib.hid (by simpa using HO.out), HB⟩
      case round =>
        obtain ⟨j, rfl, hj, HO2, HB2⟩ := hrel
        by_cases hlt2 : j < xss.length
        · obtain ⟨b, off, A2, c2, rfl, hcell0, hrow⟩ := HX.out.row_at hlt2
          have hcell := (HB2.out.cell (World.block_lt_of_cell? _ _ hcell0)).trans hcell0
          have hR : Row kInt w (may w none w.heap.size) (.slice A2 xss[j].length c2) xss[j] := hrow.mono fun i hi hm => hm.elim (fun h => by omega) fun h => foot_none _ _ h
          have HR := Lib.hid hR
          have hle := HP.out (j + 1)
          rw [HS.out j hlt2, List.length_append] at hle
          have hlen : ((xss.take j).flatten.length + xss[j].length) * 8 ≤ 140737488355328 := by omega
          clear hrow hR hcell0
          obtain ⟨A3, c3, hv3, -, -⟩ := HO2.out.shape
          have HO3 := HO2.out
          rw [hv3] at HO3
          subst hv3
          have HO4 := Lib.hid HO3
          clear HO3
          go_wp2_with (at_builtin; refine wpList_plain rfl fun K hK => wp_app_row kInt 3 28 (.int .i64 0) 8 (.tmp 31) (.tmp 32) rfl Try.underlying28 infoIntK rfl (by decide) (by decide) w.heap.size HO4.out HB2.out.size rfl A2 xss[j].length c2 xss[j] HR.out HB2.out (Nat.le_refl _) rfl hlen ?_; intro v4 w4 q4 b4; refine hK _ _ ?_; clear hK K)
          go_roundw
          case rel => exact ⟨j + 1, by go_num, by omega, Lib.hid (by rw [HS.out j hlt2]; exact q4), Lib.hid (HB2.out.trans b4)⟩
          case measure => simp [intOf]; omega
        · obtain rfl : j = xss.length := by omega
          rw [List.take_length] at HO2
          go_wp2
          go_ret
          exact ⟨_, rfl, (HO2.out.row (by decide) (Nat.le_refl _)).mono fun _ _ h => h.elim, HB2.out⟩
set_option maxHeartbeats 1000000 in
theorem concat_ports (w : World) (v : Value) (xss : List (List Port)) (hx : Row (kRow kPort) w (fun _ => False) v xss) (hl : xss.length ≤ 4294967296) (hsum : xss.flatten.length ≤ 1099511627776) :
    Calls Try.prog 87 #[v] w fun e w' => ∃ v', e = .returned v' ∧ Row kPort w' (fun _ => False) v' xss.flatten ∧ Below w.heap.size w w' := by
  obtain ⟨A, c, rfl, -, -⟩ := hx.shape
  have HX := Lib.hid hx
  have hpre : ∀ j, (xss.take j).flatten.length ≤ xss.flatten.length := fun j => by
    have h := congrArg List.length (congrArg List.flatten (List.take_append_drop j xss))
    rw [List.flatten_append, List.length_append] at h
    omega
  have hsucc : ∀ j (h : j < xss.length), (xss.take (j + 1)).flatten = (xss.take j).flatten ++ xss[j] := fun j h => by
    rw [List.take_succ_eq_append_getElem h, List.flatten_append]; simp
  have HP := Lib.hid hpre
  have HS := Lib.hid hsucc
  clear hx hpre hsucc
  go_enter Try.func87, Try.ntmps87
  go_wp2
  go_loop [3, 11] (fun s i => ∃ (j n : Nat), i = .int .i64 (j : Nat) ∧ s = .int .i64 (n : Nat) ∧ j ≤ xss.length ∧ Hid (n = (xss.take j).flatten.length)) (fun _ i => xss.length - (intOf i).toNat)
  case atStart => exact ⟨0, 0, rfl, rfl, Nat.zero_le _, Lib.hid (by simp)⟩
  case round =>
    obtain ⟨j, n, rfl, rfl, hj, HN⟩ := hrel
    by_cases hlt : j < xss.length
    · obtain ⟨b, off, A2, c2, rfl, hcell, -⟩ := HX.out.row_at hlt
      have hnew : n + xss[j].length = (xss.take (j + 1)).flatten.length := by rw [HS.out j hlt, List.length_append, HN.out]
      have hle := HP.out (j + 1)
      rw [← hnew] at hle
      have HNEW := Lib.hid hnew
      obtain ⟨m, hm⟩ : ∃ m, xss[j].length = m := ⟨_, rfl⟩
      rw [hm] at hcell hle HNEW
      clear hnew hm
      go_wp2
      go_round
      case rel => exact ⟨j + 1, n + m, by go_num, by go_num, by omega, HNEW⟩
      case measure => simp [intOf]; omega
    · obtain rfl : j = xss.length := by omega
      have hn : n ≤ 1099511627776 := by rw [HN.out, List.take_length]; exact hsum
      go_wp2_with fail
      refine (grow_ports w n hn).mono ?_
      rintro e w1 ⟨v1, rfl, hO, hb⟩
      obtain ⟨A1, c1, rfl, -, -⟩ := hO.shape
      have HO := Lib.hid hO
      have HB := Lib.hid hb
      clear hO hb
      go_wp2_with fail
      go_loopw [6, 27] (fun nv i wr => ∃ j : Nat, i = .int .i64 (j : Nat) ∧ j ≤ xss.length ∧ Hid (Own kPort 53 wr none w.heap.size nv (xss.take j).flatten) ∧ Hid (Below w.heap.size w wr)) (fun _ i _ => xss.length - (intOf i).toNat)
      case atStart => exact ⟨0, rfl, Nat.zero_le _, Lib.hid (by simpa using HO.out), HB⟩
      case round =>
        obtain ⟨j, rfl, hj, HO2, HB2⟩ := hrel
        by_cases hlt2 : j < xss.length
        · obtain ⟨b, off, A2, c2, rfl, hcell0, hrow⟩ := HX.out.row_at hlt2
          have hcell := (HB2.out.cell (World.block_lt_of_cell? _ _ hcell0)).trans hcell0
          have hR : Row kPort w (may w none w.heap.size) (.slice A2 xss[j].length c2) xss[j] := hrow.mono fun i hi hm => hm.elim (fun h => by omega) fun h => foot_none _ _ h
          have HR := Lib.hid hR
          have hle := HP.out (j + 1)
          rw [HS.out j hlt2, List.length_append] at hle
          have hlen : ((xss.take j).flatten.length + xss[j].length) * 40 ≤ 140737488355328 := by omega
          clear hrow hR hcell0
          obtain ⟨A3, c3, hv3, -, -⟩ := HO2.out.shape
          have HO3 := HO2.out
          rw [hv3] at HO3
          subst hv3
          have HO4 := Lib.hid HO3
          clear HO3
          go_wp2_with (at_builtin; refine wpList_plain rfl fun K hK => wp_app_row kPort 53 23 (.agg #[.string ⟨#[]⟩, .slice none 0 0]) 40 (.tmp 31) (.tmp 32) rfl Try.underlying23 infoPortK rfl (by decide) (by decide) w.heap.size HO4.out HB2.out.size rfl A2 xss[j].length c2 xss[j] HR.out HB2.out (Nat.le_refl _) rfl hlen ?_; intro v4 w4 q4 b4; refine hK _ _ ?_; clear hK K)
          go_roundw
          case rel => exact ⟨j + 1, by go_num, by omega, Lib.hid (by rw [HS.out j hlt2]; exact q4), Lib.hid (HB2.out.trans b4)⟩
          case measure => simp [intOf]; omega
        · obtain rfl : j = xss.length := by omega
          rw [List.take_length] at HO2
          go_wp2
          go_ret
          exact ⟨_, rfl, (HO2.out.row (by decide) (Nat.le_refl _)).mono fun _ _ h => h.elim, HB2.out⟩
end Go.Proofs.Ytbfjacgfifecpaa

/-! ## slices.IndexFunc, ContainsFunc. -/
namespace Go.Proofs.Ytbfjacgfifecpaa
open Go.RowKit

theorem any_take {α : Type} {xs : List α} {g : α → Bool} (h : ∀ x ∈ xs, g x = false) : xs.any g = false := by
  rw [List.any_eq_false]; intro x hx; rw [h x hx]; decide

theorem index_ints (w : World) (v : Value) (xs : List Int) (hx : Row kInt w (fun _ => False) v xs) (hl : xs.length ≤ 1099511627776) (k : Nat) (caps : Array Value) (he : ∀ (args : Array Value) (W : World), (callFunc k args).run Try.prog W = .ok (.enter k args) W) (g : Int → Bool)
    (hf : ∀ x ∈ xs, ∀ W, Below w.heap.size w W → Calls Try.prog k (#[.int .i64 x] ++ caps) W fun e W' => e = .returned (.bool (g x)) ∧ Below W.heap.size W W') :
    Calls Try.prog 99 #[v, .func (.func k) #[] caps] w fun e w' => (∃ r : Int, e = .returned (.int .i64 r) ∧ decide (0 ≤ r) = xs.any g) ∧ Below w.heap.size w w' := by
  obtain ⟨A, c, rfl, -, -⟩ := hx.shape
  have HX := Lib.hid hx
  have HF := Lib.hid hf
  clear hx hf
  go_enter Try.func99, Try.ntmps99
  go_wp2
  go_loopw [8] (fun i wr => ∃ j : Nat, i = .int .i64 (j : Nat) ∧ j ≤ xs.length ∧ Hid (∀ q ∈ xs.take j, g q = false) ∧ Hid (Below w.heap.size w wr)) (fun i _ => xs.length - (intOf i).toNat)
  case atStart => exact ⟨0, rfl, Nat.zero_le _, Lib.hid (by simp), Lib.hid (Below.refl _ _)⟩
  case round =>
    obtain ⟨j, rfl, hj, HG, HB⟩ := hrel
    by_cases hlt : j < xs.length
    · obtain ⟨b, off, rfl, hcell⟩ := (HX.out.later HB.out).int_at hlt
      have HM := Lib.hid (List.getElem_mem hlt)
      have HT := Lib.hid (List.take_succ_eq_append_getElem hlt)
      obtain ⟨x, hxx⟩ : ∃ x, xs[j] = x := ⟨_, rfl⟩
      rw [hxx] at hcell HM HT
      clear hxx
      have hc := HF.out x HM.out wr HB.out
      have HC := Lib.hid hc
      clear hc
      cases hg : g x with
      | true =>
        have HGX := Lib.hid hg
        clear hg
        go_wp2_with fail
        refine HC.out.mono ?_
        rintro e w2 ⟨rfl, hb2⟩
        rw [HGX.out]
        go_wp2
        go_ret
        exact ⟨⟨_, rfl, by rw [decide_eq_true (by omega), List.any_eq_true.2 ⟨_, HM.out, HGX.out⟩]⟩, HB.out.trans (hb2.mono HB.out.size)⟩
      | false =>
        have HGX := Lib.hid hg
        clear hg
        go_wp2_with fail
        refine HC.out.mono ?_
        rintro e w2 ⟨rfl, hb2⟩
        rw [HGX.out]
        have HB2 := Lib.hid (HB.out.trans (hb2.mono HB.out.size))
        clear hb2
        go_wp2
        go_roundw
        case rel => exact ⟨j + 1, by go_num, by omega, Lib.hid (by
          rw [HT.out]; intro q hq
          rcases List.mem_append.1 hq with h | h
          · exact HG.out q h
          · simp at h; subst h; exact HGX.out), HB2⟩
        case measure => simp [intOf]; omega
    · obtain rfl : j = xs.length := by omega
      rw [List.take_length] at HG
      go_wp2
      go_ret
      exact ⟨⟨_, rfl, by rw [any_take HG.out]; decide⟩, HB.out⟩

theorem contains_ints (w : World) (v : Value) (xs : List Int) (hx : Row kInt w (fun _ => False) v xs) (hl : xs.length ≤ 1099511627776) (k : Nat) (caps : Array Value) (he : ∀ (args : Array Value) (W : World), (callFunc k args).run Try.prog W = .ok (.enter k args) W) (g : Int → Bool)
    (hf : ∀ x ∈ xs, ∀ W, Below w.heap.size w W → Calls Try.prog k (#[.int .i64 x] ++ caps) W fun e W' => e = .returned (.bool (g x)) ∧ Below W.heap.size W W') :
    Calls Try.prog 84 #[v, .func (.func k) #[] caps] w fun e w' => e = .returned (.bool (xs.any g)) ∧ Below w.heap.size w w' := by
  have HC := Lib.hid (index_ints w v xs hx hl k caps he g hf)
  clear he hf hx
  go_enter Try.func84, Try.ntmps84
  go_wp2_with fail
  refine HC.out.mono ?_
  rintro e w1 ⟨⟨r, rfl, hr⟩, hb⟩
  have HR := Lib.hid hr
  have HB := Lib.hid hb
  clear hr hb
  go_wp2
  go_ret
  exact ⟨by rw [← HR.out]; rfl, HB.out⟩

abbrev portV (A : Option Addr) (c : Nat) (q : Port) : Value := .agg #[.string q.name, .slice A q.bits.length c]
theorem index_ports (w : World) (v : Value) (xs : List Port) (hx : Row kPort w (fun _ => False) v xs) (hl : xs.length ≤ 1099511627776) (k : Nat) (caps : Array Value) (he : ∀ (args : Array Value) (W : World), (callFunc k args).run Try.prog W = .ok (.enter k args) W) (g : Port → Bool)
    (hf : ∀ q ∈ xs, ∀ W A c, Below w.heap.size w W → Row kInt W (fun _ => False) (.slice A q.bits.length c) q.bits → Calls Try.prog k (#[portV A c q] ++ caps) W fun e W' => e = .returned (.bool (g q)) ∧ Below W.heap.size W W') :
    Calls Try.prog 86 #[v, .func (.func k) #[] caps] w fun e w' => (∃ r : Int, e = .returned (.int .i64 r) ∧ decide (0 ≤ r) = xs.any g) ∧ Below w.heap.size w w' := by
  obtain ⟨A, c, rfl, -, -⟩ := hx.shape
  have HX := Lib.hid hx
  have HF := Lib.hid hf
  clear hx hf
  go_enter Try.func86, Try.ntmps86
  go_wp2
  go_loopw [8] (fun i wr => ∃ j : Nat, i = .int .i64 (j : Nat) ∧ j ≤ xs.length ∧ Hid (∀ q ∈ xs.take j, g q = false) ∧ Hid (Below w.heap.size w wr)) (fun i _ => xs.length - (intOf i).toNat)
  case atStart => exact ⟨0, rfl, Nat.zero_le _, Lib.hid (by simp), Lib.hid (Below.refl _ _)⟩
  case round =>
    obtain ⟨j, rfl, hj, HG, HB⟩ := hrel
    by_cases hlt : j < xs.length
    · obtain ⟨b, off, A3, d3, rfl, y0, y1, hbits⟩ := (HX.out.later HB.out).port_at hlt
      have HM := Lib.hid (List.getElem_mem hlt)
      have HT := Lib.hid (List.take_succ_eq_append_getElem hlt)
      obtain ⟨x, hxx⟩ : ∃ x, xs[j] = x := ⟨_, rfl⟩
      rw [hxx] at y0 y1 hbits HM HT
      clear hxx
      have hc := HF.out x HM.out wr A3 d3 HB.out hbits
      have HC := Lib.hid hc
      clear hc hbits
      cases hg : g x with
      | true =>
        have HGX := Lib.hid hg
        clear hg
        go_wp2_with fail
        refine HC.out.mono ?_
        rintro e w2 ⟨rfl, hb2⟩
        rw [HGX.out]
        go_wp2
        go_ret
        exact ⟨⟨_, rfl, by rw [decide_eq_true (by omega), List.any_eq_true.2 ⟨_, HM.out, HGX.out⟩]⟩, HB.out.trans (hb2.mono HB.out.size)⟩
      | false =>
        have HGX := Lib.hid hg
        clear hg
        go_wp2_with fail
        refine HC.out.mono ?_
        rintro e w2 ⟨rfl, hb2⟩
        rw [HGX.out]
        have HB2 := Lib.hid (HB.out.trans (hb2.mono HB.out.size))
        clear hb2
        go_wp2
        go_roundw
        case rel => exact ⟨j + 1, by go_num, by omega, Lib.hid (by
          rw [HT.out]; intro q hq
          rcases List.mem_append.1 hq with h | h
          · exact HG.out q h
          · simp at h; subst h; exact HGX.out), HB2⟩
        case measure => simp [intOf]; omega
    · obtain rfl : j = xs.length := by omega
      rw [List.take_length] at HG
      go_wp2
      go_ret
      exact ⟨⟨_, rfl, by rw [any_take HG.out]; decide⟩, HB.out⟩

theorem contains_ports (w : World) (v : Value) (xs : List Port) (hx : Row kPort w (fun _ => False) v xs) (hl : xs.length ≤ 1099511627776) (k : Nat) (caps : Array Value) (he : ∀ (args : Array Value) (W : World), (callFunc k args).run Try.prog W = .ok (.enter k args) W) (g : Port → Bool)
    (hf : ∀ q ∈ xs, ∀ W A c, Below w.heap.size w W → Row kInt W (fun _ => False) (.slice A q.bits.length c) q.bits → Calls Try.prog k (#[portV A c q] ++ caps) W fun e W' => e = .returned (.bool (g q)) ∧ Below W.heap.size W W') :
    Calls Try.prog 50 #[v, .func (.func k) #[] caps] w fun e w' => e = .returned (.bool (xs.any g)) ∧ Below w.heap.size w w' := by
  have HC := Lib.hid (index_ports w v xs hx hl k caps he g hf)
  clear he hf hx
  go_enter Try.func50, Try.ntmps50
  go_wp2_with fail
  refine HC.out.mono ?_
  rintro e w1 ⟨⟨r, rfl, hr⟩, hb⟩
  have HR := Lib.hid hr
  have HB := Lib.hid hb
  clear hr hb
  go_wp2
  go_ret
  exact ⟨by rw [← HR.out]; rfl, HB.out⟩

set_option maxRecDepth 100000 in
/-- all ports -/
theorem ports_net (w : World) (v : Value) (nodes : List Node) (ins outs : List Port) (hN : NetV w v nodes ins outs) (hi : ins.length ≤ 1073741824) (ho : outs.length ≤ 1073741824) :
    Calls Try.prog 51 #[v] w fun e w' => ∃ v', e = .returned v' ∧ Row kPort w' (fun _ => False) v' (ins ++ outs) ∧ Below w.heap.size w w' := by
  obtain ⟨vn, vi, vo, rfl, hn, hpi, hpo⟩ := hN
  obtain ⟨An, cn, rfl, -, -⟩ := hn.shape
  obtain ⟨Ai, ci, rfl, -, -⟩ := hpi.shape
  obtain ⟨Ao, co, rfl, -, -⟩ := hpo.shape
  have hb1 : Below w.heap.size w (w.alloc (netBox (.slice An nodes.length cn) (.slice Ai ins.length ci) (.slice Ao outs.length co))) := (Below.refl _ _).alloc (Nat.le_refl _) _
  have hlit := lit_row (k := kPort) (S := fun _ => False) 23 (w.alloc (netBox (.slice An nodes.length cn) (.slice Ai ins.length ci) (.slice Ao outs.length co))) [ins, outs] [.slice Ai ins.length ci, .slice Ao outs.length co] rfl (by simp) (fun i x v hx hv => by
    match i, hx, hv with
    | 0, hx, hv => simp at hx hv; subst hx; subst hv; exact hpi.later hb1
    | 1, hx, hv => simp at hx hv; subst hx; subst hv; exact hpo.later hb1) (fun _ h => h.elim)
  have hb2 := hb1.alloc (by simp) (.cells [.slice Ai ins.length ci, .slice Ao outs.length co].toArray 23)
  simp only [List.length_cons, List.length_nil, Nat.zero_add, Nat.reduceAdd, World.size_alloc] at hlit
  have HL := Lib.hid hlit
  have HB2 := Lib.hid hb2
  have hs1 : [ins, outs].length ≤ 4294967296 := by show 2 ≤ 4294967296; omega
  have hs2 : [ins, outs].flatten.length ≤ 1099511627776 := by
    have e : [ins, outs].flatten.length = ins.length + outs.length := by simp
    omega
  clear hlit hb1 hb2 hn hpi hpo
  have HS1 := Lib.hid hs1
  have HS2 := Lib.hid hs2
  clear hs1 hs2
  go_enter Try.func51, Try.ntmps51
  go_wp2_with fail
  refine (concat_ports _ _ [ins, outs] HL.out HS1.out HS2.out).mono ?_
  rintro e w1 ⟨v1, rfl, hr, hb⟩
  have HR := Lib.hid hr
  have HB := Lib.hid (HB2.out.trans (hb.mono HB2.out.size))
  clear hr hb
  go_wp2
  go_ret
  exact ⟨v1, rfl, by have := HR.out; simpa using this, HB.out⟩
end Go.Proofs.Ytbfjacgfifecpaa

/-! ## Which names may be: net.Name, slipstickref06.Name. -/
namespace Go.Proofs.Ytbfjacgfifecpaa
open Go.RowKit

def kwL : List (List UInt8) := [[109, 111, 100, 117, 108, 101], [101, 110, 100, 109, 111, 100, 117, 108, 101], [105, 110, 112, 117, 116], [111, 117, 116, 112, 117, 116], [119, 105, 114, 101], [97, 115, 115, 105, 103, 110], [99, 108, 107], [114, 115, 116]]
def letterB (c : Nat) : Bool := decide (97 ≤ c) && decide (c ≤ 122)
def otherB (c : Nat) : Bool := decide (c = 95) || (decide (48 ≤ c) && decide (c ≤ 57))
def byteB (i c : Nat) : Bool := letterB c || (otherB c && decide (0 < i))
def nameB (s : ByteArray) : Bool := !(kwL.any fun k => s.toList == k) && (List.range s.size).all (fun i => byteB i (s.toList.getD i 0).toNat) && (decide (1 ≤ s.size) && decide (s.size ≤ 20))

theorem byte_at (s : ByteArray) (j : Nat) (h : j < s.size) : (s.toList.getD j 0).toNat = s[j].toNat := by
  rw [Lib.toList_data, List.getD_eq_getElem?_getD, List.getElem?_eq_getElem (by simpa using h)]
  simp
  rfl
theorem byteB_iff (j c : Nat) : byteB j c = true ↔ (97 ≤ c ∧ c ≤ 122) ∨ ((c = 95 ∨ (48 ≤ c ∧ c ≤ 57)) ∧ 0 < j) := by
  simp [byteB, letterB, otherB]
theorem byteB_no {j c : Nat} (h : ¬((97 ≤ c ∧ c ≤ 122) ∨ ((c = 95 ∨ (48 ≤ c ∧ c ≤ 57)) ∧ 0 < j))) : byteB j c = false := Bool.eq_false_iff.2 fun hb => h ((byteB_iff j c).1 hb)
set_option maxHeartbeats 2000000 in
theorem name_ref (w : World) (s : ByteArray) (hs : s.size ≤ 1099511627776) : Calls Try.prog 26 #[.string s] w fun e w' => e = .returned (.bool (nameB s)) ∧ w = w' := by
  cases h0 : (s.toList == [109, 111, 100, 117, 108, 101]) with
  | true =>
    have hn : nameB s = false := by simp [nameB, kwL, h0]
    rw [hn]; clear hn
    go_enter Try.func26, Try.ntmps26
    go_wp2
    go_ret
    exact ⟨rfl, rfl⟩
  | false =>
    cases h1 : (s.toList == [101, 110, 100, 109, 111, 100, 117, 108, 101]) with
    | true =>
      have hn : nameB s = false := by simp [nameB, kwL, h1]
      rw [hn]; clear hn
      go_enter Try.func26, Try.ntmps26
      go_wp2
      go_ret
      exact ⟨rfl, rfl⟩
    | false =>
      cases h2 : (s.toList == [105, 110, 112, 117, 116]) with
      | true =>
        have hn : nameB s = false := by simp [nameB, kwL, h2]
        rw [hn]; clear hn
        go_enter Try.func26, Try.ntmps26
        go_wp2
        go_ret
        exact ⟨rfl, rfl⟩
      | false =>
        cases h3 : (s.toList == [111, 117, 116, 112, 117, 116]) with
        | true =>
          have hn : nameB s = false := by simp [nameB, kwL, h3]
          rw [hn]; clear hn
          go_enter Try.func26, Try.ntmps26
          go_wp2
          go_ret
          exact ⟨rfl, rfl⟩
        | false =>
          cases h4 : (s.toList == [119, 105, 114, 101]) with
          | true =>
            have hn : nameB s = false := by simp [nameB, kwL, h4]
            rw [hn]; clear hn
            go_enter Try.func26, Try.ntmps26
            go_wp2
            go_ret
            exact ⟨rfl, rfl⟩
          | false =>
            cases h5 : (s.toList == [97, 115, 115, 105, 103, 110]) with
            | true =>
              have hn : nameB s = false := by simp [nameB, kwL, h5]
              rw [hn]; clear hn
              go_enter Try.func26, Try.ntmps26
              go_wp2
              go_ret
              exact ⟨rfl, rfl⟩
            | false =>
              cases h6 : (s.toList == [99, 108, 107]) with
              | true =>
                have hn : nameB s = false := by simp [nameB, kwL, h6]
                rw [hn]; clear hn
                go_enter Try.func26, Try.ntmps26
                go_wp2
                go_ret
                exact ⟨rfl, rfl⟩
              | false =>
                cases h7 : (s.toList == [114, 115, 116]) with
                | true =>
                  have hn : nameB s = false := by simp [nameB, kwL, h7]
                  rw [hn]; clear hn
                  go_enter Try.func26, Try.ntmps26
                  go_wp2
                  go_ret
                  exact ⟨rfl, rfl⟩
                | false =>
                  have hk : (kwL.any fun k => s.toList == k) = false := by simp only [kwL, List.any_cons, List.any_nil, h0, h1, h2, h3, h4, h5, h6, h7, Bool.or_false]
                  have HK := Lib.hid hk
                  clear hk
                  go_enter Try.func26, Try.ntmps26
                  go_wp2_with fail
                  clear h0 h1 h2 h3 h4 h5 h6 h7
                  go_loop [3] (fun i => ∃ j : Nat, j ≤ s.size ∧ i = .int .i64 (j : Nat) ∧ Hid (∀ q, q < j → byteB q (s.toList.getD q 0).toNat = true)) (fun i => s.size - (intOf i).toNat)
                  case atStart => exact ⟨0, Nat.zero_le _, rfl, Lib.hid (fun q hq => by omega)⟩
                  case round =>
                    obtain ⟨j, hj, rfl, HQ⟩ := hrel
                    by_cases hlt : j < s.size
                    · obtain ⟨c, hc⟩ : ∃ c : Nat, s[j].toNat = c := ⟨_, rfl⟩
                      have hcd : (s.toList.getD j 0).toNat = c := by rw [← hc]; exact byte_at s j hlt
                      have hgood : byteB j c = true → ∀ q, q < j + 1 → byteB q (s.toList.getD q 0).toNat = true := fun hb q hq => by
                        rcases Nat.lt_or_ge q j with h | h
                        · exact HQ.out q h
                        · obtain rfl : q = j := by omega
                          rw [hcd]; exact hb
                      have hbad : byteB j c = false → nameB s = false := fun hb => by
                        have : (List.range s.size).all (fun i => byteB i (s.toList.getD i 0).toNat) = false := by
                          rw [List.all_eq_false]; exact ⟨j, by simp [hlt], by rw [hcd, hb]; decide⟩
                        rw [nameB, this]; simp
                      have HG := Lib.hid hgood
                      have HBAD := Lib.hid hbad
                      clear hgood hbad hcd
                      by_cases a1 : c < 48
                      · have q9 : (c : Int) < 97 := by omega
                        have q0 : ¬ (c : Int) = 95 := by omega
                        have q1 : (c : Int) < 48 := by omega
                        have hbf := HBAD.out (byteB_no (by omega))
                        have HB2 := Lib.hid hbf
                        clear hbf HG HBAD HQ
                        go_wp2
                        go_ret
                        exact ⟨by rw [HB2.out]; rfl, rfl⟩
                      by_cases a2 : c ≤ 57
                      · have q9 : (c : Int) < 97 := by omega
                        have q0 : ¬ (c : Int) = 95 := by omega
                        have q1 : 48 ≤ (c : Int) := by omega
                        have q2 : (c : Int) ≤ 57 := by omega
                        rcases Nat.eq_zero_or_pos j with a6 | a6
                        · subst a6
                          have hbf := HBAD.out (byteB_no (by omega))
                          have HB2 := Lib.hid hbf
                          clear hbf HG HBAD HQ
                          go_wp2
                          go_ret
                          exact ⟨by rw [HB2.out]; rfl, rfl⟩
                        · have q7 : (0 : Int) < (j : Nat) := by omega
                          have hg := HG.out ((byteB_iff _ _).2 (by omega))
                          have HG2 := Lib.hid hg
                          clear hg HG HBAD HQ
                          go_wp2
                          refine ⟨⟨_, hlt, by go_num, HG2⟩, ?_⟩
                          simp [intOf] <;> omega
                      by_cases a3 : c = 95
                      · subst a3
                        rcases Nat.eq_zero_or_pos j with a6 | a6
                        · subst a6
                          have hbf := HBAD.out (byteB_no (by omega))
                          have HB2 := Lib.hid hbf
                          clear hbf HG HBAD HQ
                          go_wp2
                          go_ret
                          exact ⟨by rw [HB2.out]; rfl, rfl⟩
                        · have q7 : (0 : Int) < (j : Nat) := by omega
                          have hg := HG.out ((byteB_iff _ _).2 (by omega))
                          have HG2 := Lib.hid hg
                          clear hg HG HBAD HQ
                          go_wp2
                          refine ⟨⟨_, hlt, by go_num, HG2⟩, ?_⟩
                          simp [intOf] <;> omega
                      by_cases a4 : c < 97
                      · have q9 : (c : Int) < 97 := by omega
                        have q0 : ¬ (c : Int) = 95 := by omega
                        have q1 : 48 ≤ (c : Int) := by omega
                        have q2 : 57 < (c : Int) := by omega
                        have hbf := HBAD.out (byteB_no (by omega))
                        have HB2 := Lib.hid hbf
                        clear hbf HG HBAD HQ
                        go_wp2
                        go_ret
                        exact ⟨by rw [HB2.out]; rfl, rfl⟩
                      by_cases a5 : c ≤ 122
                      · have q9 : 97 ≤ (c : Int) := by omega
                        have q0 : (c : Int) ≤ 122 := by omega
                        have hg := HG.out ((byteB_iff _ _).2 (by omega))
                        have HG2 := Lib.hid hg
                        clear hg HG HBAD HQ
                        go_wp2
                        refine ⟨⟨_, hlt, by go_num, HG2⟩, ?_⟩
                        simp [intOf] <;> omega
                      have q9 : 97 ≤ (c : Int) := by omega
                      have q0 : 122 < (c : Int) := by omega
                      have q1 : ¬ (c : Int) = 95 := by omega
                      have q2 : 48 ≤ (c : Int) := by omega
                      have q3 : 57 < (c : Int) := by omega
                      have hbf := HBAD.out (byteB_no (by omega))
                      have HB2 := Lib.hid hbf
                      clear hbf HG HBAD HQ
                      go_wp2
                      go_ret
                      exact ⟨by rw [HB2.out]; rfl, rfl⟩
                      exfalso; rename_i ha hb; simp at hb; omega
                    · obtain rfl : j = s.size := by omega
                      have hall : (List.range s.size).all (fun i => byteB i (s.toList.getD i 0).toNat) = true := by
                        rw [List.all_eq_true]; intro q hq; exact HQ.out q (by simpa using hq)
                      have HALL := Lib.hid hall
                      clear hall
                      by_cases h1 : 1 ≤ s.size
                      · have h1i : (1 : Int) ≤ s.size := by omega
                        by_cases h20 : s.size ≤ 20
                        · have hr : nameB s = true := by rw [nameB, HK.out, HALL.out, decide_eq_true h1, decide_eq_true h20]; rfl
                          have h20i : (s.size : Int) ≤ 20 := by omega
                          have HRR := Lib.hid hr; clear hr
                          go_wp2
                          go_ret
                          exact ⟨by rw [HRR.out]; rfl, rfl⟩
                        · have hr : nameB s = false := by rw [nameB, decide_eq_false h20]; simp
                          have h20i : ¬ (s.size : Int) ≤ 20 := by omega
                          have HRR := Lib.hid hr; clear hr
                          go_wp2
                          go_ret
                          exact ⟨by rw [HRR.out]; rfl, rfl⟩
                      · have hr : nameB s = false := by rw [nameB, decide_eq_false h1]; simp
                        have HRR := Lib.hid hr; clear hr
                        go_wp2
                        go_ret
                        exact ⟨by rw [HRR.out]; rfl, rfl⟩
end Go.Proofs.Ytbfjacgfifecpaa

/-! ## net.Name. -/
namespace Go.Proofs.Ytbfjacgfifecpaa
open Go.RowKit

theorem Row.str_at {w : World} {S : Nat → Prop} {A : Option Addr} {n c : Nat} {xs : List ByteArray} (h : Row kStr w S (.slice A n c) xs) {i : Nat} (hi : i < xs.length) :
    ∃ b off, A = some ⟨b, off, none⟩ ∧ w.cell? ⟨b, off + i, none⟩ = some (.string xs[i]) := by
  have hn : n = xs.length := by obtain ⟨_, _, he, _⟩ := h.shape; injection he
  obtain ⟨b, off, rfl, x, cs, hx, hk, hc⟩ := h.at (i := i) (by omega)
  have hcs : cs = [.string x] := hk
  subst hcs
  refine ⟨b, off, rfl, ?_⟩
  have := hc 0 _ rfl
  have e : i * kStr.size + 0 = i := Nat.mul_one i
  rw [Nat.add_assoc, e] at this
  rw [this]
  rw [List.getElem?_eq_getElem hi] at hx
  injection hx with hx
  rw [hx]

theorem index_strs (w : World) (v : Value) (xs : List ByteArray) (hx : Row kStr w (fun _ => False) v xs) (hl : xs.length ≤ 1099511627776) (s : ByteArray) :
    Calls Try.prog 89 #[v, .string s] w fun e w' => (∃ r : Int, e = .returned (.int .i64 r) ∧ decide (0 ≤ r) = xs.any (fun k => s.toList == k.toList)) ∧ w = w' := by
  obtain ⟨A, c, rfl, -, -⟩ := hx.shape
  have HX := Lib.hid hx
  clear hx
  go_enter Try.func89, Try.ntmps89
  go_wp2
  go_loop [8] (fun i => ∃ j : Nat, i = .int .i64 (j : Nat) ∧ j ≤ xs.length ∧ Hid (∀ q ∈ xs.take j, (s.toList == q.toList) = false)) (fun i => xs.length - (intOf i).toNat)
  case atStart => exact ⟨0, rfl, Nat.zero_le _, Lib.hid (by simp)⟩
  case round =>
    obtain ⟨j, rfl, hj, HG⟩ := hrel
    by_cases hlt : j < xs.length
    · obtain ⟨b, off, rfl, hcell⟩ := HX.out.str_at hlt
      have HM := Lib.hid (List.getElem_mem hlt)
      have HT := Lib.hid (List.take_succ_eq_append_getElem hlt)
      obtain ⟨x, hxx⟩ : ∃ x, xs[j] = x := ⟨_, rfl⟩
      rw [hxx] at hcell HM HT
      clear hxx
      cases hg : (s.toList == x.toList) with
      | true =>
        have HGX := Lib.hid hg
        go_wp2
        go_ret
        exact ⟨⟨_, rfl, by rw [decide_eq_true (by omega), List.any_eq_true.2 ⟨_, HM.out, HGX.out⟩]⟩, rfl⟩
      | false =>
        have HGX := Lib.hid hg
        go_wp2
        refine ⟨⟨j + 1, by go_num, by omega, Lib.hid (by
          rw [HT.out]; intro q hq
          rcases List.mem_append.1 hq with h | h
          · exact HG.out q h
          · simp at h; subst h; exact HGX.out)⟩, ?_⟩
        simp [intOf]; omega
    · obtain rfl : j = xs.length := by omega
      rw [List.take_length] at HG
      go_wp2
      go_ret
      exact ⟨⟨_, rfl, by rw [any_take HG.out]; decide⟩, rfl⟩

theorem contains_strs (w : World) (v : Value) (xs : List ByteArray) (hx : Row kStr w (fun _ => False) v xs) (hl : xs.length ≤ 1099511627776) (s : ByteArray) :
    Calls Try.prog 59 #[v, .string s] w fun e w' => e = .returned (.bool (xs.any (fun k => s.toList == k.toList))) ∧ w = w' := by
  have HC := Lib.hid (index_strs w v xs hx hl s)
  clear hx
  go_enter Try.func59, Try.ntmps59
  go_wp2_with fail
  refine HC.out.mono ?_
  rintro e w1 ⟨⟨r, rfl, hr⟩, rfl⟩
  have HR := Lib.hid hr
  clear hr
  go_wp2
  go_ret
  exact ⟨by rw [← HR.out]; rfl, rfl⟩

def kwB : List ByteArray := kwL.map fun l => ⟨l.toArray⟩
theorem kwB_any (s : ByteArray) : (kwB.any fun k => s.toList == k.toList) = kwL.any fun k => s.toList == k := by
  simp only [kwB, List.any_map, Function.comp_def, Lib.toList_data]

theorem flat_strs (xs : List ByteArray) : (xs.map fun x => [Value.string x]).flatten = xs.map fun x => Value.string x := by
  induction xs with
  | nil => rfl
  | cons x xs ih => simp [ih]
theorem strs_pairs (w : World) (S : Nat → Prop) (xs : List ByteArray) : Pairs kStr w S xs (xs.map fun x => [Value.string x]) :=
  ⟨by simp, fun i x cs hx hc => by simp [hx] at hc; exact hc.symm⟩
theorem lit_strs (w : World) (l : List ByteArray) (hl : l.length ≤ 1099511627776) {S : Nat → Prop} (hS : There S w) : Row kStr (w.alloc (.cells (l.map fun x => Value.string x).toArray 9)) S (.slice (some ⟨w.heap.size, 0, none⟩) l.length l.length) l := by
  have h := World.ownsRow_lit (base := w.heap.size) (e := 9) (size := 1) w (l.map fun x => Value.string x).toArray l.length (Nat.le_refl _) (by simp only [maxLen]; omega) (by simp)
  have hO : Own kStr 9 (w.alloc (.cells (l.map fun x => Value.string x).toArray 9)) none w.heap.size (.slice (some ⟨w.heap.size, 0, none⟩) l.length l.length) l := ⟨_, by rw [flat_strs]; exact h, strs_pairs _ _ _, fun _ _ => foot_none _ _⟩
  exact hO.fresh (fun _ _ _ h _ => h) Nat.zero_lt_one hS

theorem keywords_net (w : World) : Calls Try.prog 60 #[] w fun e w' => ∃ v, e = .returned v ∧ Row kStr w' (fun _ => False) v kwB ∧ Below w.heap.size w w' := by
  go_enter Try.func60, Try.ntmps60
  go_wp2
  go_ret
  have h := lit_strs (S := fun _ => False) w kwB (by decide) (fun _ h => h.elim)
  exact ⟨_, rfl, h, (Below.refl _ _).alloc (Nat.le_refl _) _⟩

theorem bytes_below (w : World) (e : TypeId) (s : ByteArray) : Below w.heap.size w (Lib.bytesWorld w e s) :=
  ⟨by simp [Lib.bytesWorld, World.freeze, World.alloc, World.drew, -World.alloc_eq, -World.drew_eq], by simp [Lib.bytesWorld, World.freeze, World.alloc, World.drew, -World.alloc_eq, -World.drew_eq], by simp [Lib.bytesWorld, World.freeze, World.alloc, World.drew, -World.alloc_eq, -World.drew_eq], by rw [Lib.bytesWorld_size]; omega, fun j hj => Lib.bytesWorld_at_old w e s j hj⟩

set_option maxRecDepth 4096 in
set_option maxHeartbeats 2000000 in
theorem name_net (w : World) (s : ByteArray) (hs : s.size ≤ 1099511627776) : Calls Try.prog 25 #[.string s] w fun e w' => e = .returned (.bool (nameB s)) ∧ Below w.heap.size w w' := by
  by_cases h0 : s.size = 0
  · have h0l : s.toList = [] := by
      apply List.eq_nil_of_length_eq_zero; simpa [Lib.toList_data] using h0
    have hr : nameB s = false := by rw [nameB]; simp [h0]
    have HRR := Lib.hid hr; clear hr
    go_enter Try.func25, Try.ntmps25
    go_wp2
    go_ret
    exact ⟨by rw [HRR.out]; rfl, Below.refl _ _⟩
  have h0l : ¬ s.toList = [] := by
    intro h; apply h0; have := congrArg List.length h; simpa [Lib.toList_data] using this
  by_cases h20 : 20 < s.size
  · have hr : nameB s = false := by rw [nameB, decide_eq_false (p := s.size ≤ 20) (by omega)]; simp
    have h20i : (20 : Int) < s.size := by omega
    have HRR := Lib.hid hr; clear hr
    go_enter Try.func25, Try.ntmps25
    go_wp2
    go_ret
    exact ⟨by rw [HRR.out]; rfl, Below.refl _ _⟩
  have h20i : (s.size : Int) ≤ 20 := by omega
  have HK := Lib.hid (keywords_net w)
  go_enter Try.func25, Try.ntmps25
  go_wp2_with fail
  refine HK.out.mono ?_
  rintro e w1 ⟨v1, rfl, hrow, hb1⟩
  have HC := Lib.hid (contains_strs w1 v1 kwB hrow (by decide) s)
  have HB1 := Lib.hid hb1
  clear hrow hb1 HK
  go_wp2_with fail
  refine HC.out.mono ?_
  rintro e w2 ⟨rfl, rfl⟩
  rw [kwB_any]
  clear HC
  cases hk : (kwL.any fun k => s.toList == k) with
  | true =>
    have hr : nameB s = false := by rw [nameB, hk]; rfl
    have HRR := Lib.hid hr; clear hr
    go_wp2
    go_ret
    exact ⟨by rw [HRR.out]; rfl, HB1.out⟩
  | false =>
    have HKF := Lib.hid hk
    have h1 : decide (1 ≤ s.size) = true := decide_eq_true (by omega)
    have h2 : decide (s.size ≤ 20) = true := decide_eq_true (by omega)
    have hname : nameB s = (List.range s.size).all (fun i => byteB i (s.toList.getD i 0).toNat) := by rw [nameB, hk, h1, h2]; simp
    have HN := Lib.hid hname
    clear hk hname h1 h2
    have kc := fun (w : World) (s : ByteArray) => Lib.run_convert_string_bytes (P := Try.prog) w 9 80 5 s Try.underlying9 Try.underlying80 Try.underlying5
    have h0e : s.toList.isEmpty = false := by rw [List.isEmpty_eq_false_iff]; exact h0l
    go_wp2
    have HB2 := Lib.hid (HB1.out.trans ((bytes_below w1 5 s).mono HB1.out.size))
    clear kc
    go_loop [21] (fun i => ∃ j : Nat, j ≤ s.size ∧ i = .int .i64 (j : Nat) ∧ Hid (∀ q, q < j → byteB q (s.toList.getD q 0).toNat = true)) (fun i => s.size - (intOf i).toNat)
    case atStart => exact ⟨0, Nat.zero_le _, rfl, Lib.hid (fun q hq => by omega)⟩
    case round =>
      obtain ⟨j, hj, rfl, HQ⟩ := hrel
      by_cases hlt : j < s.size
      · have hcell := Lib.bytesWorld_cell w1 5 s j hlt
        obtain ⟨c, hcd⟩ : ∃ c : Nat, (s.toList.getD j 0).toNat = c := ⟨_, rfl⟩
        rw [← Lib.toList_data, hcd] at hcell
        have hgood : byteB j c = true → ∀ q, q < j + 1 → byteB q (s.toList.getD q 0).toNat = true := fun hb q hq => by
          rcases Nat.lt_or_ge q j with h | h
          · exact HQ.out q h
          · obtain rfl : q = j := by omega
            rw [hcd]; exact hb
        have hbad : byteB j c = false → nameB s = false := fun hb => by
          rw [HN.out, List.all_eq_false]; exact ⟨j, by simp [hlt], by rw [hcd, hb]; decide⟩
        have HG := Lib.hid hgood
        have HBAD := Lib.hid hbad
        clear hgood hbad hcd
        by_cases a1 : c < 48
        · have q9 : (c : Int) < 97 := by omega
          have q0 : ¬ (c : Int) = 95 := by omega
          have q1 : (c : Int) < 48 := by omega
          rcases Nat.eq_zero_or_pos j with a6 | a6
          · subst a6
            have hbf := HBAD.out (byteB_no (by omega))
            have HB3 := Lib.hid hbf
            clear hbf HG HBAD HQ
            go_wp2
            all_goals first
              | (exfalso; rename_i hx; (try simp at hx) <;> omega)
              | (exfalso; rename_i hx hy; (try simp at hx) <;> omega)
              | (exfalso; rename_i hx hy hz; (try simp at hx) <;> omega)
              | (go_ret; exact ⟨by rw [HB3.out]; rfl, HB2.out⟩)
          · have q7 : (0 : Int) < (j : Nat) := by omega
            have q8 : ¬ j = 0 := by omega
            have hbf := HBAD.out (byteB_no (by omega))
            have HB3 := Lib.hid hbf
            clear hbf HG HBAD HQ
            go_wp2
            all_goals first
              | (exfalso; rename_i hx; (try simp at hx) <;> omega)
              | (exfalso; rename_i hx hy; (try simp at hx) <;> omega)
              | (exfalso; rename_i hx hy hz; (try simp at hx) <;> omega)
              | (go_ret; exact ⟨by rw [HB3.out]; rfl, HB2.out⟩)
        by_cases a2 : c ≤ 57
        · have q9 : (c : Int) < 97 := by omega
          have q0 : ¬ (c : Int) = 95 := by omega
          have q1 : 48 ≤ (c : Int) := by omega
          have q2 : (c : Int) ≤ 57 := by omega
          rcases Nat.eq_zero_or_pos j with a6 | a6
          · subst a6
            have hbf := HBAD.out (byteB_no (by omega))
            have HB3 := Lib.hid hbf
            clear hbf HG HBAD HQ
            go_wp2
            all_goals first
              | (exfalso; rename_i hx; (try simp at hx) <;> omega)
              | (exfalso; rename_i hx hy; (try simp at hx) <;> omega)
              | (exfalso; rename_i hx hy hz; (try simp at hx) <;> omega)
              | (go_ret; exact ⟨by rw [HB3.out]; rfl, HB2.out⟩)
          · have q7 : (0 : Int) < (j : Nat) := by omega
            have q8 : ¬ j = 0 := by omega
            have hg := HG.out ((byteB_iff _ _).2 (by omega))
            have HG2 := Lib.hid hg
            clear hg HG HBAD HQ
            go_wp2
            all_goals first
              | (exfalso; rename_i hx; (try simp at hx) <;> omega)
              | (exfalso; rename_i hx hy; (try simp at hx) <;> omega)
              | (exfalso; rename_i hx hy hz; (try simp at hx) <;> omega)
              | (refine ⟨⟨_, hlt, by go_num, HG2⟩, ?_⟩; simp [intOf] <;> omega)
        by_cases a3 : c = 95
        · subst a3
          rcases Nat.eq_zero_or_pos j with a6 | a6
          · subst a6
            have hbf := HBAD.out (byteB_no (by omega))
            have HB3 := Lib.hid hbf
            clear hbf HG HBAD HQ
            go_wp2
            all_goals first
              | (exfalso; rename_i hx; (try simp at hx) <;> omega)
              | (exfalso; rename_i hx hy; (try simp at hx) <;> omega)
              | (exfalso; rename_i hx hy hz; (try simp at hx) <;> omega)
              | (go_ret; exact ⟨by rw [HB3.out]; rfl, HB2.out⟩)
          · have q7 : (0 : Int) < (j : Nat) := by omega
            have q8 : ¬ j = 0 := by omega
            have hg := HG.out ((byteB_iff _ _).2 (by omega))
            have HG2 := Lib.hid hg
            clear hg HG HBAD HQ
            go_wp2
            all_goals first
              | (exfalso; rename_i hx; (try simp at hx) <;> omega)
              | (exfalso; rename_i hx hy; (try simp at hx) <;> omega)
              | (exfalso; rename_i hx hy hz; (try simp at hx) <;> omega)
              | (refine ⟨⟨_, hlt, by go_num, HG2⟩, ?_⟩; simp [intOf] <;> omega)
        by_cases a4 : c < 97
        · have q9 : (c : Int) < 97 := by omega
          have q0 : ¬ (c : Int) = 95 := by omega
          have q1 : 48 ≤ (c : Int) := by omega
          have q2 : 57 < (c : Int) := by omega
          rcases Nat.eq_zero_or_pos j with a6 | a6
          · subst a6
            have hbf := HBAD.out (byteB_no (by omega))
            have HB3 := Lib.hid hbf
            clear hbf HG HBAD HQ
            go_wp2
            all_goals first
              | (exfalso; rename_i hx; (try simp at hx) <;> omega)
              | (exfalso; rename_i hx hy; (try simp at hx) <;> omega)
              | (exfalso; rename_i hx hy hz; (try simp at hx) <;> omega)
              | (go_ret; exact ⟨by rw [HB3.out]; rfl, HB2.out⟩)
          · have q7 : (0 : Int) < (j : Nat) := by omega
            have q8 : ¬ j = 0 := by omega
            have hbf := HBAD.out (byteB_no (by omega))
            have HB3 := Lib.hid hbf
            clear hbf HG HBAD HQ
            go_wp2
            all_goals first
              | (exfalso; rename_i hx; (try simp at hx) <;> omega)
              | (exfalso; rename_i hx hy; (try simp at hx) <;> omega)
              | (exfalso; rename_i hx hy hz; (try simp at hx) <;> omega)
              | (go_ret; exact ⟨by rw [HB3.out]; rfl, HB2.out⟩)
        by_cases a5 : c ≤ 122
        · have q9 : 97 ≤ (c : Int) := by omega
          have q0 : (c : Int) ≤ 122 := by omega
          have hg := HG.out ((byteB_iff _ _).2 (by omega))
          have HG2 := Lib.hid hg
          clear hg HG HBAD HQ
          go_wp2
          all_goals first
            | (exfalso; rename_i hx; (try simp at hx) <;> omega)
            | (exfalso; rename_i hx hy; (try simp at hx) <;> omega)
            | (exfalso; rename_i hx hy hz; (try simp at hx) <;> omega)
            | (refine ⟨⟨_, hlt, by go_num, HG2⟩, ?_⟩; simp [intOf] <;> omega)
        have q9 : 97 ≤ (c : Int) := by omega
        have q0 : 122 < (c : Int) := by omega
        have q1 : ¬ (c : Int) = 95 := by omega
        have q2 : 48 ≤ (c : Int) := by omega
        have q3 : 57 < (c : Int) := by omega
        rcases Nat.eq_zero_or_pos j with a6 | a6
        · subst a6
          have hbf := HBAD.out (byteB_no (by omega))
          have HB3 := Lib.hid hbf
          clear hbf HG HBAD HQ
          go_wp2
          all_goals first
            | (exfalso; rename_i hx; (try simp at hx) <;> omega)
            | (exfalso; rename_i hx hy; (try simp at hx) <;> omega)
            | (exfalso; rename_i hx hy hz; (try simp at hx) <;> omega)
            | (go_ret; exact ⟨by rw [HB3.out]; rfl, HB2.out⟩)
        · have q7 : (0 : Int) < (j : Nat) := by omega
          have q8 : ¬ j = 0 := by omega
          have hbf := HBAD.out (byteB_no (by omega))
          have HB3 := Lib.hid hbf
          clear hbf HG HBAD HQ
          go_wp2
          all_goals first
            | (exfalso; rename_i hx; (try simp at hx) <;> omega)
            | (exfalso; rename_i hx hy; (try simp at hx) <;> omega)
            | (exfalso; rename_i hx hy hz; (try simp at hx) <;> omega)
            | (go_ret; exact ⟨by rw [HB3.out]; rfl, HB2.out⟩)
      · obtain rfl : j = s.size := by omega
        have hall : nameB s = true := by
          rw [HN.out, List.all_eq_true]; intro q hq; exact HQ.out q (by simpa using hq)
        have HALL := Lib.hid hall
        clear hall
        go_wp2
        go_ret
        exact ⟨by rw [HALL.out]; rfl, HB2.out⟩
end Go.Proofs.Ytbfjacgfifecpaa

/-! ## net.formless. -/
namespace Go.Proofs.Ytbfjacgfifecpaa
open Go.RowKit

def outB (n : Nat) (x : Int) : Bool := decide (x < 0) || decide ((n : Int) ≤ x)
theorem enter_f82 (args : Array Value) (W : World) : (callFunc 82 args).run Try.prog W = .ok (.enter 82 args) W := by kernel_rfl

theorem beyond_net (W : World) (b : Nat) (A : Option Addr) (n c : Nat) (hc : W.cell? ⟨b, 0, none⟩ = some (.slice A n c)) (x : Int) :
    Calls Try.prog 82 #[.int .i64 x, .pointer (some ⟨b, 0, none⟩)] W fun e W' => e = .returned (.bool (outB n x)) ∧ Below W.heap.size W W' := by
  rcases Int.lt_or_le x 0 with h | h
  · go_enter Try.func82, Try.ntmps82
    go_wp2
    go_ret
    exact ⟨by simp [outB, h], Below.refl _ _⟩
  · go_enter Try.func82, Try.ntmps82
    go_wp2
    go_ret
    refine ⟨?_, Below.refl _ _⟩
    have : decide (x < 0) = false := decide_eq_false (by omega)
    simp [outB]

theorem formPort_net (W : World) (fb b : Nat) (A : Option Addr) (n c : Nat) (hfb : fb < W.heap.size) (hb : b < W.heap.size) (hf : W.cell? ⟨fb, 0, none⟩ = some (.func (.func 82) #[] #[.pointer (some ⟨b, 0, none⟩)])) (hc : W.cell? ⟨b, 0, none⟩ = some (.slice A n c))
    (q : Port) (A2 : Option Addr) (c2 : Nat) (hr : Row kInt W (fun _ => False) (.slice A2 q.bits.length c2) q.bits) (hl : q.bits.length ≤ 1099511627776) :
    Calls Try.prog 85 #[portV A2 c2 q, .pointer (some ⟨fb, 0, none⟩)] W fun e W' => e = .returned (.bool (decide (q.bits.length = 0) || q.bits.any (outB n))) ∧ Below W.heap.size W W' := by
  obtain ⟨o, ho⟩ : ∃ o : Obj, o = .cells #[.string q.name, .slice A2 q.bits.length c2] 53 := ⟨_, rfl⟩
  have hb1 : Below W.heap.size W (W.alloc o) := (Below.refl _ _).alloc (Nat.le_refl _) _
  have hf1 : (W.alloc o).cell? ⟨fb, 0, none⟩ = some (.func (.func 82) #[] #[.pointer (some ⟨b, 0, none⟩)]) := (hb1.cell hfb).trans hf
  have hcall := contains_ints (W.alloc o) (.slice A2 q.bits.length c2) q.bits (hr.later hb1) hl 82 #[.pointer (some ⟨b, 0, none⟩)] enter_f82 (outB n) (fun x _ W2 hW2 => beyond_net W2 b A n c ((hW2.cell (p := ⟨b, 0, none⟩) (by simp; omega)).trans ((hb1.cell hb).trans hc)) x)
  have HCALL := Lib.hid hcall
  have HB1 := Lib.hid hb1
  subst ho
  clear hcall hr hc hf hb1
  by_cases h0 : q.bits.length = 0
  · have h0i : (q.bits.length : Int) = 0 := by omega
    rw [h0] at HB1
    clear HCALL
    go_enter Try.func85, Try.ntmps85
    go_wp2
    go_ret
    exact ⟨by simp [h0], HB1.out⟩
  · have h0i : ¬ (q.bits.length : Int) = 0 := by omega
    go_enter Try.func85, Try.ntmps85
    go_wp2_with fail
    refine HCALL.out.mono ?_
    rintro e w2 ⟨rfl, hb2⟩
    have HB2 := Lib.hid (HB1.out.trans (hb2.mono (by simp)))
    clear hb2
    go_wp2
    go_ret
    exact ⟨by simp [h0], HB2.out⟩

theorem enter_f85 (args : Array Value) (W : World) : (callFunc 85 args).run Try.prog W = .ok (.enter 85 args) W := by kernel_rfl

theorem plainN_kind (x : Node) : (plainN x).kind = x.kind := by
  unfold plainN
  repeat' split
  all_goals simp_all
def offB (x : Node) (n : Nat) : Bool := decide (x.kind < 0) || decide (8 ≤ x.kind) || !decide (plainN x = x) || (usesR x).any (outB n)
theorem outB_not (n : Nat) (x : Int) : outB n x = !decide (0 ≤ x ∧ x < n) := by
  unfold outB
  rw [Bool.eq_iff_iff]
  simp <;> omega
theorem any_out (n : Nat) (l : List Int) : l.any (outB n) = !(l.all fun a => decide (0 ≤ a ∧ a < n)) := by
  rw [List.not_all_eq_any_not]
  congr 1
  funext a
  exact outB_not n a
theorem offB_right (x : Node) (n : Nat) : offB x n = !rightB x n := by
  unfold offB rightB
  rw [any_out]
  generalize (usesR x).all (fun a => decide (0 ≤ a ∧ a < (n : Int))) = A
  obtain ⟨k, a, b, c⟩ := x
  have hk : k < 0 ∨ 8 ≤ k ∨ k = 0 ∨ k = 1 ∨ k = 2 ∨ k = 3 ∨ k = 4 ∨ k = 5 ∨ k = 6 ∨ k = 7 := by omega
  rcases hk with h | h | rfl | rfl | rfl | rfl | rfl | rfl | rfl | rfl
  · have hm : many k = -1 := by unfold many; repeat' split <;> omega
    simp [h, hm]
  · have hm : many k = -1 := by unfold many; repeat' split <;> omega
    simp [h, hm]
  all_goals
    rw [Bool.eq_iff_iff]
    cases A <;> simp [many, plainN, bitB, and1] <;> omega
def poB (q : Port) (n : Nat) : Bool := decide (q.bits.length = 0) || q.bits.any (outB n)
theorem poB_port (q : Port) (n : Nat) : poB q n = !portB q n := by
  unfold poB portB
  rw [any_out]
  cases hb : q.bits with
  | nil => simp
  | cons a t => simp

set_option maxRecDepth 4096 in
set_option maxHeartbeats 2000000 in
theorem formless_net (w : World) (v : Value) (nodes : List Node) (ins outs : List Port) (hN : NetV w v nodes ins outs) (hnl : nodes.length ≤ 1099511627776) (hi : ins.length ≤ 1073741824) (ho : outs.length ≤ 1073741824)
    (hbits : ∀ q ∈ ins ++ outs, q.bits.length ≤ 1099511627776) :
    Calls Try.prog 49 #[v] w fun e w' => e = .returned (.bool (!formedB nodes ins outs)) ∧ Below w.heap.size w w' := by
  obtain ⟨An, cn, Ai, ci, Ao, co, rfl, hbox⟩ := hN.box
  obtain ⟨ob, hob⟩ : ∃ o : Obj, o = netBox (.slice An nodes.length cn) (.slice Ai ins.length ci) (.slice Ao outs.length co) := ⟨_, rfl⟩
  rw [← hob] at hbox
  have hfc : ∀ W, Below (w.heap.size + 2) ((w.alloc ob).alloc (.cells #[.func (.func 82) #[] #[.pointer (some ⟨w.heap.size, 0, none⟩)]] 108)) W → W.cell? ⟨w.heap.size + 1, 0, none⟩ = some (.func (.func 82) #[] #[.pointer (some ⟨w.heap.size, 0, none⟩)]) ∧ Below (w.heap.size + 1) (w.alloc ob) W := fun W hW => by
    have hs : (w.alloc ob).heap.size = w.heap.size + 1 := by simp
    refine ⟨?_, ((Below.refl _ _).alloc (by rw [hs]; exact Nat.le_refl _) _).trans (hW.mono (by omega))⟩
    rw [hW.cell (by simp), ← hs]
    exact World.cell?_alloc_new _ _ _ 0
  have HBOX := Lib.hid hbox
  have HFC := Lib.hid hfc
  have HBITS := Lib.hid hbits
  subst hob
  clear hbox hfc hN hbits
  go_enter Try.func49, Try.ntmps49
  go_wp2_with fail
  obtain ⟨w2, hw2⟩ : ∃ w2, w2 = (w.alloc (netBox (.slice An nodes.length cn) (.slice Ai ins.length ci) (.slice Ao outs.length co))).alloc (.cells #[.func (.func 82) #[] #[.pointer (some ⟨w.heap.size, 0, none⟩)]] 108) := ⟨_, rfl⟩
  have hsz2 : w2.heap.size = w.heap.size + 2 := by rw [hw2]; simp
  rw [← hw2] at HFC
  rw [← hw2]
  have HW2 := Lib.hid hw2
  have HSZ := Lib.hid hsz2
  clear hw2 hsz2
  go_loopw [10] (fun i wr => ∃ j : Nat, j ≤ nodes.length ∧ i = .int .i64 (j : Nat) ∧ Hid (∀ q ∈ nodes.take j, offB q nodes.length = false) ∧ Hid (Below (w.heap.size + 2) w2 wr)) (fun i _ => nodes.length - (intOf i).toNat)
  case atStart => exact ⟨0, Nat.zero_le _, rfl, Lib.hid (by simp), Lib.hid (Below.refl _ _)⟩
  case round =>
    obtain ⟨j, hj, rfl, HQ, HB⟩ := hrel
    obtain ⟨hfun, hbx⟩ := HFC.out wr HB.out
    obtain ⟨hn0, hn1, hn2, hrn, hri, hro, hbw⟩ := HBOX.out wr hbx
    have hszr : w.heap.size + 2 ≤ wr.heap.size := by have := HB.out.size; have := HSZ.out; omega
    by_cases hlt : j < nodes.length
    · obtain ⟨b, off, rfl, x0, x1, x2, x3⟩ := hrn.node_at hlt
      have HM := Lib.hid (List.getElem_mem hlt)
      have HT := Lib.hid (List.take_succ_eq_append_getElem hlt)
      obtain ⟨x, hxx⟩ : ∃ x, nodes[j] = x := ⟨_, rfl⟩
      rw [hxx] at x0 x1 x2 x3 HM HT
      clear hxx hrn hri hro
      obtain ⟨xk, xa, xb, xc⟩ := x
      dsimp only at x0 x1 x2 x3
      obtain ⟨wx, hwx⟩ : ∃ wx, wx = wr.alloc (.cells #[.int .i64 xk, .int .i64 xa, .int .i64 xb, .int .i64 xc] 38) := ⟨_, rfl⟩
      have hbwx : Below wr.heap.size wr wx := by rw [hwx]; exact (Below.refl _ _).alloc (Nat.le_refl _) _
      have hszx : wx.heap.size = wr.heap.size + 1 := by rw [hwx]; simp
      have hall : ∀ W, Below wx.heap.size wx W → (W.cell? ⟨wr.heap.size, 0, none⟩ = some (.int .i64 xk) ∧ W.cell? ⟨wr.heap.size, 1, none⟩ = some (.int .i64 xa) ∧ W.cell? ⟨wr.heap.size, 2, none⟩ = some (.int .i64 xb) ∧ W.cell? ⟨wr.heap.size, 3, none⟩ = some (.int .i64 xc)) ∧ W.cell? ⟨w.heap.size + 1, 0, none⟩ = some (.func (.func 82) #[] #[.pointer (some ⟨w.heap.size, 0, none⟩)]) := fun W hW => by
        have hc : ∀ i, W.cell? ⟨wr.heap.size, i, none⟩ = wx.cell? ⟨wr.heap.size, i, none⟩ := fun i => hW.cell (by simp; omega)
        rw [hc, hc, hc, hc, hwx]
        refine ⟨⟨World.cell?_alloc_new _ _ _ 0, World.cell?_alloc_new _ _ _ 1, World.cell?_alloc_new _ _ _ 2, World.cell?_alloc_new _ _ _ 3⟩, ?_⟩
        rw [(hbwx.trans (hW.mono (by omega))).cell (by simp; omega)]
        exact hfun
      have hbel : ∀ W, Below wx.heap.size wx W → Below (w.heap.size + 2) w2 W := fun W hW => HB.out.trans ((hbwx.trans (hW.mono (by omega))).mono (by omega))
      have hbel2 : ∀ W, Below wx.heap.size wx W → Below w.heap.size w W := fun W hW => hbw.trans ((hbwx.trans (hW.mono (by omega))).mono (by omega))
      have hbey : ∀ W, Below wx.heap.size wx W → ∀ x ∈ usesR ⟨xk, xa, xb, xc⟩, ∀ W2, Below W.heap.size W W2 → Calls Try.prog 82 (#[.int .i64 x] ++ #[.pointer (some ⟨w.heap.size, 0, none⟩)]) W2 fun e W' => e = .returned (.bool (outB nodes.length x)) ∧ Below W2.heap.size W2 W' := fun W hW x _ W2 hW2 => by
        refine beyond_net W2 w.heap.size (some ⟨b, off, none⟩) nodes.length cn ?_ x
        have h2 : Below wx.heap.size wx W2 := hW.trans (hW2.mono hW.size)
        rw [(hbwx.trans (h2.mono (by omega))).cell (by simp; omega)]
        exact hn0
      have husl : (usesR ⟨xk, xa, xb, xc⟩).length ≤ 1099511627776 := by
        have : (usesR ⟨xk, xa, xb, xc⟩).length ≤ 3 := by simp [usesR]; omega
        omega
      have hus : ∀ W, Calls Try.prog 23 #[.agg #[.int .i64 xk, .int .i64 xa, .int .i64 xb, .int .i64 xc]] W fun e w' => ∃ v', e = .returned v' ∧ Row kInt w' (fun _ => False) v' (usesR ⟨xk, xa, xb, xc⟩) ∧ Below W.heap.size W w' := fun W => uses_net W _ (fun _ h => h.elim) ⟨xk, xa, xb, xc⟩
      obtain ⟨us, hus2⟩ : ∃ us, usesR ⟨xk, xa, xb, xc⟩ = us := ⟨_, rfl⟩
      rw [hus2] at hus hbey husl
      have HBEL := Lib.hid hbel
      have HBEL2 := Lib.hid hbel2
      have HBEY := Lib.hid hbey
      have HUS := Lib.hid hus
      have HUSL := Lib.hid husl
      have HUS2 := Lib.hid hus2
      have HALL := Lib.hid hall
      have HWX := Lib.hid hwx
      have HBW := Lib.hid hbwx
      have HSX := Lib.hid hszx
      have hX0 := hall wx (Below.refl _ _)
      have hX1 := hall wx.drew (Below.refl _ _).drew
      have HX0 := Lib.hid hX0
      have HX1 := Lib.hid hX1
      have hno : offB ⟨xk, xa, xb, xc⟩ nodes.length = true → formedB nodes ins outs = false := fun hoff => by
        rw [formedB, Bool.and_eq_false_iff]; left
        rw [List.all_eq_false]; exact ⟨_, HM.out, by rw [offB_right] at hoff; simpa using hoff⟩
      have HNO := Lib.hid hno
      clear hwx hbwx hszx hall hX0 hX1 hbel hbel2 hbey hus husl hus2 hno hn1 hn2 hfun
      by_cases k0 : xk < 0
      · have hres := HNO.out (by simp [offB, k0])
        have HRES := Lib.hid hres
        clear hres
        go_wp2_with fail
        rw [← HWX.out]
        have hd : decide (xk < 0) = true := decide_eq_true (by omega)
        obtain ⟨⟨y0, y1, y2, y3⟩, y4⟩ := HX0.out
        first
          | (go_region_with (fail))
          | fail "region"
        all_goals go_wp2
        all_goals go_ret
        all_goals exact ⟨by rw [HRES.out]; rfl, HBEL2.out _ (Below.refl _ _).drew⟩
      have k0' : 0 ≤ xk := by omega
      by_cases k8 : 8 ≤ xk
      · have hres := HNO.out (by simp [offB, k8])
        have HRES := Lib.hid hres
        clear hres
        go_wp2_with fail
        rw [← HWX.out]
        obtain ⟨⟨y0, y1, y2, y3⟩, y4⟩ := HX0.out
        first
          | (go_region_with (fail))
          | fail "region"
        all_goals go_wp2
        all_goals go_ret
        all_goals exact ⟨by rw [HRES.out]; rfl, HBEL2.out _ (Below.refl _ _).drew⟩
      have k8' : xk < 8 := by omega
      by_cases hpe : plainN ⟨xk, xa, xb, xc⟩ = ⟨xk, xa, xb, xc⟩
      · have hP : ∀ W, Calls Try.prog 83 #[.agg #[.int .i64 xk, .int .i64 xa, .int .i64 xb, .int .i64 xc]] W fun e w' => e = .returned (.agg #[.int .i64 xk, .int .i64 xa, .int .i64 xb, .int .i64 xc]) ∧ Below W.heap.size W w' := fun W => by
          have h := plain_net W ⟨xk, xa, xb, xc⟩
          rw [hpe] at h
          exact h
        have HP := Lib.hid hP
        have HPE := Lib.hid hpe
        clear hP hpe
        go_wp2_with fail
        rw [← HWX.out]
        have hd1 : decide (xk < 0) = false := decide_eq_false (by omega)
        have hd2 : decide (8 ≤ xk) = false := decide_eq_false (by omega)
        go_region_held3 (fun W => (W.cell? ⟨wr.heap.size, 0, none⟩ = some (.int .i64 xk) ∧ W.cell? ⟨wr.heap.size, 1, none⟩ = some (.int .i64 xa) ∧ W.cell? ⟨wr.heap.size, 2, none⟩ = some (.int .i64 xb) ∧ W.cell? ⟨wr.heap.size, 3, none⟩ = some (.int .i64 xc)) ∧ W.cell? ⟨w.heap.size + 1, 0, none⟩ = some (.func (.func 82) #[] #[.pointer (some ⟨w.heap.size, 0, none⟩)]))
          (first | with_reducible exact HX1.out | with_reducible exact HX0.out | with_reducible exact HALL.out _ HB3.out | with_reducible exact HALL.out _ HB4.out | with_reducible exact HALL.out _ HB5.out)
          (first
            | (go_at_call 83; refine (HP.out _).mono ?_; rintro e w3 ⟨rfl, hb3⟩; have HB3 := Lib.hid ((Below.refl wx.heap.size wx).drew.trans (hb3.mono (Nat.le_refl _))); clear hb3)
            | (go_at_call 23; refine (HUS.out _).mono ?_; rintro e w4 ⟨v4, rfl, hr4, hb4⟩; have HB4 := Lib.hid (HB3.out.trans (hb4.mono HB3.out.size)); have HR4 := Lib.hid hr4; clear hb4 hr4)
            | (go_at_call 84; refine (contains_ints _ _ us HR4.out HUSL.out _ _ enter_f82 (outB nodes.length) (HBEY.out _ HB4.out)).mono ?_; rintro e w5 ⟨rfl, hb5⟩; have HB5 := Lib.hid (HB4.out.trans (hb5.mono HB4.out.size)); clear hb5))
        cases hany : us.any (outB nodes.length) with
        | true =>
          have hres := HNO.out (by simp [offB, HUS2.out, hany])
          have HRES := Lib.hid hres
          clear hres
          go_wp2
          go_ret
          exact ⟨by rw [HRES.out]; rfl, HBEL2.out _ HB5.out⟩
        | false =>
          have hq : offB ⟨xk, xa, xb, xc⟩ nodes.length = false := by simp [offB, HUS2.out, hany, HPE.out, k0, k8]
          have HQ2 := Lib.hid hq
          clear hq
          go_wp2
          go_roundw
          case rel => exact ⟨j + 1, by omega, by go_num, Lib.hid (by
            rw [HT.out]; intro q hq
            rcases List.mem_append.1 hq with h | h
            · exact HQ.out q h
            · simp at h; subst h; exact HQ2.out), Lib.hid (HBEL.out _ HB5.out)⟩
          case measure => simp [intOf]; omega
      have hres := HNO.out (by simp [offB, hpe])
      have HRES := Lib.hid hres
      obtain ⟨pp, hpp⟩ : ∃ p, plainN ⟨xk, xa, xb, xc⟩ = p := ⟨_, rfl⟩
      obtain ⟨pk, pa, pb, pc⟩ := pp
      have hpk : pk = xk := by have := congrArg Node.kind hpp; rw [plainN_kind] at this; exact this.symm
      subst hpk
      have hdiff : ¬ (pa = xa ∧ pb = xb ∧ pc = xc) := by
        rintro ⟨rfl, rfl, rfl⟩; exact hpe hpp
      have hP : ∀ W, Calls Try.prog 83 #[.agg #[.int .i64 pk, .int .i64 xa, .int .i64 xb, .int .i64 xc]] W fun e w' => e = .returned (.agg #[.int .i64 pk, .int .i64 pa, .int .i64 pb, .int .i64 pc]) ∧ Below W.heap.size W w' := fun W => by
        have h := plain_net W ⟨pk, xa, xb, xc⟩
        rw [hpp] at h
        exact h
      have HP := Lib.hid hP
      clear hP hpe hpp hres
      have hd1 : decide (pk < 0) = false := decide_eq_false (by omega)
      have hd2 : decide (8 ≤ pk) = false := decide_eq_false (by omega)
      have HDF := Lib.hid hdiff
      clear hdiff
      go_wp2_with fail
      rw [← HWX.out]
      obtain ⟨⟨y0, y1, y2, y3⟩, y4⟩ := HX0.out
      by_cases ea : pa = xa
      · subst ea
        by_cases eb : pb = xb
        · subst eb
          have ec : (pc == xc) = false := by
            have := HDF.out; simp at this; simpa using this
          first
            | (go_region_with (go_at_call 83; refine (HP.out _).mono ?_; rintro e w3 ⟨rfl, hb3⟩; have HB3 := Lib.hid ((Below.refl wx.heap.size wx).drew.trans (hb3.mono (Nat.le_refl _))); clear hb3; obtain ⟨⟨z0, z1, z2, z3⟩, z4⟩ := HALL.out _ HB3.out))
            | fail "region"
          all_goals go_wp2
          all_goals go_ret
          all_goals exact ⟨by rw [HRES.out]; rfl, HBEL2.out _ HB3.out⟩
        have ec : (pb == xb) = false := by simpa using eb
        first
          | (go_region_with (go_at_call 83; refine (HP.out _).mono ?_; rintro e w3 ⟨rfl, hb3⟩; have HB3 := Lib.hid ((Below.refl wx.heap.size wx).drew.trans (hb3.mono (Nat.le_refl _))); clear hb3; obtain ⟨⟨z0, z1, z2, z3⟩, z4⟩ := HALL.out _ HB3.out))
          | fail "region"
        all_goals go_wp2
        all_goals go_ret
        all_goals exact ⟨by rw [HRES.out]; rfl, HBEL2.out _ HB3.out⟩
      have ec : (pa == xa) = false := by simpa using ea
      first
        | (go_region_with (go_at_call 83; refine (HP.out _).mono ?_; rintro e w3 ⟨rfl, hb3⟩; have HB3 := Lib.hid ((Below.refl wx.heap.size wx).drew.trans (hb3.mono (Nat.le_refl _))); clear hb3; obtain ⟨⟨z0, z1, z2, z3⟩, z4⟩ := HALL.out _ HB3.out))
        | fail "region"
      all_goals go_wp2
      all_goals go_ret
      all_goals exact ⟨by rw [HRES.out]; rfl, HBEL2.out _ HB3.out⟩
    · obtain rfl : j = nodes.length := by omega
      rw [List.take_length] at HQ
      have HBW := Lib.hid hbw
      have HRI := Lib.hid hri
      have HRO := Lib.hid hro
      have HRN := Lib.hid hrn
      have hN2 : NetV wr (.agg #[.slice An nodes.length cn, .slice Ai ins.length ci, .slice Ao outs.length co]) nodes ins outs := ⟨_, _, _, rfl, hrn, hri, hro⟩
      have hp := ports_net wr _ nodes ins outs hN2 hi ho
      have HPORTS := Lib.hid hp
      have hfp : ∀ W, Below wr.heap.size wr W → ∀ q ∈ ins ++ outs, ∀ W2 A2 c2, Below W.heap.size W W2 → Row kInt W2 (fun _ => False) (.slice A2 q.bits.length c2) q.bits → Calls Try.prog 85 (#[portV A2 c2 q] ++ #[.pointer (some ⟨w.heap.size + 1, 0, none⟩)]) W2 fun e W' => e = .returned (.bool (poB q nodes.length)) ∧ Below W2.heap.size W2 W' := fun W hW q hq W2 A2 c2 hW2 hr => by
        have h2 : Below wr.heap.size wr W2 := hW.trans (hW2.mono hW.size)
        have hs2 := h2.size
        refine formPort_net W2 (w.heap.size + 1) w.heap.size An nodes.length cn (by omega) (by omega) ?_ ?_ q A2 c2 hr (HBITS.out q hq)
        · rw [h2.cell (by simp; omega)]; exact hfun
        · rw [h2.cell (by simp; omega)]; exact hn0
      have HFP := Lib.hid hfp
      have hlen : (ins ++ outs).length ≤ 1099511627776 := by rw [List.length_append]; omega
      have HLEN := Lib.hid hlen
      have hfin : formedB nodes ins outs = !((ins ++ outs).any fun q => poB q nodes.length) := by
        have h1 : nodes.all (fun x => rightB x nodes.length) = true := by
          rw [List.all_eq_true]; intro q hq
          have := HQ.out q hq
          rw [offB_right] at this
          simpa using this
        rw [formedB, h1, Bool.true_and, List.not_any_eq_all_not]
        congr 1
        funext q
        rw [poB_port, Bool.not_not]
      have HFIN := Lib.hid hfin
      clear hN2 hp hfp hlen hfin hri hro hrn hbw
      go_wp2_with fail
      refine HPORTS.out.mono ?_
      rintro e w3 ⟨v3, rfl, hr3, hb3⟩
      have HC := Lib.hid (contains_ports w3 v3 _ hr3 HLEN.out _ _ enter_f85 (fun q => poB q nodes.length) (HFP.out w3 hb3))
      have HB3 := Lib.hid (HBW.out.trans (hb3.mono HBW.out.size))
      clear hr3 hb3 HPORTS
      go_wp2_with fail
      refine HC.out.mono ?_
      rintro e w4 ⟨rfl, hb4⟩
      have HB4 := Lib.hid (HB3.out.trans (hb4.mono HB3.out.size))
      clear hb4 HC
      go_wp2
      go_ret
      exact ⟨by rw [HFIN.out]; simp, HB4.out⟩

end Go.Proofs.Ytbfjacgfifecpaa

/-! ## net.twice: whether two ports have one name. -/
namespace Go.Proofs.Ytbfjacgfifecpaa
open Go.RowKit
open Go.Maps (Keyed)

/-- texts are the same -/
def txt (s t : ByteArray) : Bool := s.toList == t.toList
def dupAt (ns : List ByteArray) (i : Nat) : Bool := (ns.take i).any fun m => txt (ns.getD i ByteArray.empty) m
def dupB (ns : List ByteArray) : Bool := (List.range ns.length).any (dupAt ns)
theorem dupB_true {ns : List ByteArray} {i : Nat} (hi : i < ns.length) (h : dupAt ns i = true) : dupB ns = true := by
  rw [dupB, List.any_eq_true]; exact ⟨i, by simpa using hi, h⟩
theorem dupB_false {ns : List ByteArray} (h : ∀ i, i < ns.length → dupAt ns i = false) : dupB ns = false := by
  rw [dupB, List.any_eq_false]; intro i hi; rw [h i (by simpa using hi)]; decide

theorem law_str : Keyed Try.prog 9 := Go.Maps.string_keyed Try.underlying9
theorem zero_bool (w : World) : (zeroValue 4).run Try.prog w = .ok (.bool false) w := by kernel_rfl
theorem plain_bool_inv {H : Type} {P : Program} {e : TypeId} (he : P.underlying e = some .bool) {v : Value} {z : DataW H × List MemPlace} (h : plainElem P e v = some z) : ∃ x, v = .bool x ∧ z = (.lit (.bool x), []) := by
  unfold plainElem at h
  rw [he] at h
  cases v <;> simp at h
  exact ⟨_, rfl, h.symm⟩

/-- the names that the map holds -/
def Seen (w : World) (b n : Nat) (ns : List ByteArray) : Prop :=
  ∃ D : DataW Unit, w.ownsMap Try.prog 9 (plainElem Try.prog 4) b n D ∧ ∀ s : ByteArray, D.atKey (.string s.data.toList) (.lit (.bool false)) = .lit (.bool (ns.any fun m => txt s m))
theorem Seen.look {w : World} {b n : Nat} {ns : List ByteArray} (h : Seen w b n ns) (s : ByteArray) (hs : s.size ≤ maxLen) :
    (Instr.lookup 112 (.map (some b)) (.string s) false).run Try.prog w = .ok (.bool (ns.any fun m => txt s m)) w := by
  obtain ⟨D, h1, h2⟩ := h
  obtain ⟨v, ps, hrun, hv⟩ := h1.lookup law_str Try.underlying112 (zero_bool w) (plainElem_bool Try.underlying4 false) (WideMaps.keyOf_string_mk Try.underlying9 hs)
  obtain ⟨x, rfl, hx⟩ := plain_bool_inv Try.underlying4 hv
  rw [h2 s] at hx
  simp only [Prod.mk.injEq, DataW.lit.injEq, Lit.bool.injEq] at hx
  rw [hrun, hx.1]
theorem Seen.put {w' : World} {b n : Nat} {ns : List ByteArray} {D : DataW Unit} (hD : Maps.IsMap D) (hk : ∀ s : ByteArray, D.atKey (.string s.data.toList) (.lit (.bool false)) = .lit (.bool (ns.any fun m => txt s m))) (m : ByteArray)
    (h : w'.ownsMap Try.prog 9 (plainElem Try.prog 4) b n (D.put (.string m.data.toList) (.lit (.bool true)))) : Seen w' b n (ns ++ [m]) := by
  refine ⟨_, h, fun s => ?_⟩
  rw [List.any_append, List.any_cons, List.any_nil, Bool.or_false]
  by_cases e : s.data.toList = m.data.toList
  · rw [e, Maps.atKey_put_same (k := .string m.data.toList) hD (by exact trivial)]
    have : txt s m = true := by rw [txt, Lib.toList_data, Lib.toList_data, e]; simp
    rw [this, Bool.or_true]
  · rw [Maps.atKey_put_other (fun h => e (by injection h))]
    have : txt s m = false := by rw [txt, Lib.toList_data, Lib.toList_data]; simpa using e
    rw [this, Bool.or_false, hk]

theorem Seen.made (w : World) : Seen (w.alloc (.map #[] 0)) w.heap.size 0 [] := ⟨_, World.ownsMap_made _ _ _ _, fun _ => rfl⟩
theorem Seen.alloc {w : World} {b n : Nat} {ns : List ByteArray} (h : Seen w b n ns) (o : Obj) : Seen (w.alloc o) b n ns := by
  obtain ⟨D, h1, h2⟩ := h
  exact ⟨D, h1.alloc o, h2⟩

set_option maxRecDepth 4096 in
set_option maxHeartbeats 1000000 in
theorem twice_net (w : World) (v : Value) (ps : List Port) (hx : Row kPort w (fun _ => False) v ps) (hl : ps.length ≤ 2147483648) (hnm : ∀ q ∈ ps, q.name.size ≤ 1099511627776) :
    Calls Try.prog 53 #[v] w fun e w' => e = .returned (.bool (dupB (ps.map (·.name)))) ∧ Below w.heap.size w w' := by
  obtain ⟨A, c, rfl, -, -⟩ := hx.shape
  have HX := Lib.hid hx
  have HNM := Lib.hid hnm
  clear hx hnm
  have hmm := @run_makeMap Try.prog
  go_enter Try.func53, Try.ntmps53
  go_wp2
  clear hmm
  go_loopw [9] (fun i wr => ∃ j : Nat, i = .int .i64 (j : Nat) ∧ j ≤ ps.length ∧ Hid (∀ q, q < j → dupAt (ps.map (·.name)) q = false) ∧ Hid (Seen wr w.heap.size j ((ps.map (·.name)).take j)) ∧ Hid (Below w.heap.size w wr)) (fun i _ => ps.length - (intOf i).toNat)
  case atStart => exact ⟨0, rfl, Nat.zero_le _, Lib.hid (fun q hq => by omega), Lib.hid (Seen.made w), Lib.hid ((Below.refl _ _).alloc (Nat.le_refl _) _)⟩
  case round =>
    obtain ⟨j, rfl, hj, HG, HS, HB⟩ := hrel
    by_cases hlt : j < ps.length
    · obtain ⟨b, off, A3, d3, rfl, y0, y1, hbits⟩ := (HX.out.later HB.out).port_at hlt
      have hnl := HNM.out _ (List.getElem_mem hlt)
      have HT := Lib.hid (List.take_succ_eq_append_getElem (l := ps.map (·.name)) (i := j) (by simpa using hlt))
      have hget : (ps.map (·.name)).getD j ByteArray.empty = ps[j].name := by simp [List.getD_eq_getElem?_getD, hlt]
      simp only [List.getElem_map] at HT
      obtain ⟨x, hxx⟩ : ∃ x, ps[j] = x := ⟨_, rfl⟩
      rw [hxx] at y0 y1 hbits HT hget hnl
      clear hxx hbits
      have HGET := Lib.hid hget
      obtain ⟨s, bits⟩ := x
      dsimp only at y0 y1 hnl HGET HT
      clear hget
      have hlook := (HS.out.alloc (.cells #[.string s, .slice A3 bits.length d3] 53)).look s (by unfold maxLen; omega)
      have hdup : dupAt (ps.map (·.name)) j = ((ps.map (·.name)).take j).any fun m => txt s m := by rw [dupAt, HGET.out]
      cases hd : ((ps.map (·.name)).take j).any fun m => txt s m with
      | true =>
        rw [hd] at hlook hdup
        have HR := Lib.hid (dupB_true (by simpa using hlt) hdup)
        clear hd hdup
        go_wp2
        go_ret
        exact ⟨by rw [HR.out]; rfl, HB.out.alloc HB.out.size _⟩
      | false =>
        rw [hd] at hlook hdup
        have HD := Lib.hid hdup
        clear hd hdup
        obtain ⟨D, ho, hk⟩ := HS.out.alloc (.cells #[.string s, .slice A3 bits.length d3] 53)
        have HK := Lib.hid hk
        have HO := Lib.hid ho
        clear hk ho
        go_wp2_with (at_mapUpdate; refine wpList_mapUpdate_own _ rfl _ _ _ 112 rfl 9 4 law_str Try.underlying112 _ w.heap.size j _ rfl HO.out (by unfold maxLen; omega) _ _ _ rfl rfl (WideMaps.keyOf_string_mk Try.underlying9 (by unfold maxLen; omega)) _ [] (plainElem_bool Try.underlying4 true) ?_; intro w1 hown1 hgrow1)
        refine ⟨⟨j + 1, by go_num, by omega, Lib.hid (fun q hq => ?_), Lib.hid ?_, Lib.hid ?_⟩, ?_⟩
        · rcases Nat.lt_or_ge q j with h | h
          · exact HG.out q h
          · obtain rfl : q = j := by omega
            exact HD.out
        · rw [HT.out]; exact Seen.put HO.out.isMap HK.out s hown1
        · exact (HB.out.alloc HB.out.size _).grown hgrow1 (by have := HB.out.size; simp; omega) (fun k hk => by injection hk with hk; omega)
        · simp [intOf]; omega
    · obtain rfl : j = ps.length := by omega
      have hr := dupB_false (ns := ps.map (·.name)) (fun i hi => HG.out i (by simpa using hi))
      have HR := Lib.hid hr
      clear hr
      go_wp2
      go_ret
      exact ⟨by rw [HR.out]; rfl, HB.out⟩
end Go.Proofs.Ytbfjacgfifecpaa
