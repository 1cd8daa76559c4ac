/- slices.Grow, Concat, IndexFunc, ContainsFunc; net.ports. -/
import Derived.Test.YtbfjacgfifecpaaNa
import Derived.Lib.AppendZerosOnto
import Derived.Shelf.Abstract
import Derived.Deep.RegionHeld3
namespace Go.Proofs.Ytbfjacgfifecpaa
open Go.RowKit

theorem infoIntK : (Try.prog.info? 3).map (fun i => (i.zero, i.size, i.bytes)) = some (some (.int .i64 0), 1, 8) := by kernel_rfl
theorem infoPortK : (Try.prog.info? 53).map (fun i => (i.zero, i.size, i.bytes)) = some (some (.agg #[.string ⟨#[]⟩, .slice none 0 0]), 2, 40) := by kernel_rfl

theorem grow_ints (w : World) (n : Nat) (hn : n ≤ 1099511627776) : Calls Try.prog 88 #[.slice none 0 0, .int .i64 n] w fun e w' => ∃ v, e = .returned v ∧ Own kInt 3 w' none w.heap.size v [] ∧ Below w.heap.size w w' := by
  rcases Nat.eq_zero_or_pos n with rfl | hp
  · go_enter Try.func88, Try.ntmps88
    go_wp2
    go_ret
    exact ⟨_, rfl, Own.nil _ _ _ _ _, Below.refl _ _⟩
  · obtain ⟨i0, hi, hz0, hz1, hz2⟩ := info_parts infoIntK
    obtain ⟨G, hG⟩ : ∃ G, grownCap w n 0 3 = G := ⟨_, rfl⟩
    have hG1 : n ≤ G := hG ▸ grownCap_ge w n 0 3
    have hG2 : G ≤ maxLen := hG ▸ grownCap_le_maxLen w n 0 3 (by unfold maxLen; omega)
    obtain ⟨CS, hCS⟩ : ∃ CS : Array Value, CS = (#[] : Array Value) ++ Builtin.zeroCells (.int .i64 0 : Value).cells n ++ Builtin.zeroCells (.int .i64 0 : Value).cells (G - n) := ⟨_, rfl⟩
    have hsz : CS.size = G * 1 := by
      rw [hCS]
      simp only [Array.size_append, size_zeroCells]
      rw [show (.int .i64 0 : Value).cells.size = 1 from rfl, List.size_toArray, List.length_nil, Nat.zero_add, ← Nat.add_mul, Nat.add_sub_cancel' hG1]
    have hrz : ∀ ty, (Builtin.append_ #[28, 3] ty #[.slice none 0 0, .int .i64 (n : Int)]).run Try.prog w = .ok (.slice (some ⟨w.heap.size, 0, none⟩) n G) (w.drew.alloc (.cells CS 3)) := fun ty => by
      have h := Lib.run_append_grow_zeros w 28 3 ty 3 i0 (.int .i64 0) .i64 .i64 Try.underlying28 Try.underlying3 hi hz0 none 0 0 [] (run_firstCells_none _ _ _ _ _) n hp (by rw [hz1]; decide) (by omega) (by omega) (by rw [hz2]; omega) (by rw [hz2]; exact growslice_fits (by omega) (by omega))
      rw [Nat.zero_add, hG] at h
      rw [hCS]
      exact h
    have HB := Lib.hid (show Below w.heap.size w (w.drew.alloc (.cells CS 3)) from ((Below.refl _ _).drew).alloc (Nat.le_refl _) _)
    have HO := Lib.hid (show Own kInt 3 (w.drew.alloc (.cells CS 3)) none w.heap.size (.slice (some ⟨w.heap.size, 0, none⟩) 0 G) [] from
      ⟨[], ⟨by simp, .inr ⟨w.heap.size, G, CS, rfl, Nat.le_refl _, heap_alloc_new w.drew _, Nat.zero_le _, hG2, hsz, by simp⟩⟩, Pairs.nil _ _ _, fun _ _ => foot_none _ _⟩)
    unfold maxLen at hG2
    have hp2 : (0 : Int) < n := by omega
    clear hG hCS hsz hi hz0 hz1 hz2
    go_enter Try.func88, Try.ntmps88
    go_wp2_with (at_builtin; refine Lib.wpList_append_run _ rfl _ _ _ _ rfl _ _ rfl rfl _ _ (hrz _) ?_)
    go_ret
    exact ⟨_, rfl, HO.out, HB.out⟩
theorem grow_ports (w : World) (n : Nat) (hn : n ≤ 1099511627776) : Calls Try.prog 100 #[.slice none 0 0, .int .i64 n] w fun e w' => ∃ v, e = .returned v ∧ Own kPort 53 w' none w.heap.size v [] ∧ Below w.heap.size w w' := by
  rcases Nat.eq_zero_or_pos n with rfl | hp
  · go_enter Try.func100, Try.ntmps100
    go_wp2
    go_ret
    exact ⟨_, rfl, Own.nil _ _ _ _ _, Below.refl _ _⟩
  · obtain ⟨i0, hi, hz0, hz1, hz2⟩ := info_parts infoPortK
    obtain ⟨G, hG⟩ : ∃ G, grownCap w n 0 53 = G := ⟨_, rfl⟩
    have hG1 : n ≤ G := hG ▸ grownCap_ge w n 0 53
    have hG2 : G ≤ maxLen := hG ▸ grownCap_le_maxLen w n 0 53 (by unfold maxLen; omega)
    obtain ⟨CS, hCS⟩ : ∃ CS : Array Value, CS = (#[] : Array Value) ++ Builtin.zeroCells (.agg #[.string ⟨#[]⟩, .slice none 0 0] : Value).cells n ++ Builtin.zeroCells (.agg #[.string ⟨#[]⟩, .slice none 0 0] : Value).cells (G - n) := ⟨_, rfl⟩
    have hsz : CS.size = G * 2 := by
      rw [hCS]
      simp only [Array.size_append, size_zeroCells]
      rw [show (.agg #[.string ⟨#[]⟩, .slice none 0 0] : Value).cells.size = 2 from rfl, List.size_toArray, List.length_nil, Nat.zero_add, ← Nat.add_mul, Nat.add_sub_cancel' hG1]
    have hrz : ∀ ty, (Builtin.append_ #[23, 3] ty #[.slice none 0 0, .int .i64 (n : Int)]).run Try.prog w = .ok (.slice (some ⟨w.heap.size, 0, none⟩) n G) (w.drew.alloc (.cells CS 53)) := fun ty => by
      have h := Lib.run_append_grow_zeros w 23 3 ty 53 i0 (.agg #[.string ⟨#[]⟩, .slice none 0 0]) .i64 .i64 Try.underlying23 Try.underlying3 hi hz0 none 0 0 [] (run_firstCells_none _ _ _ _ _) n hp (by rw [hz1]; decide) (by omega) (by omega) (by rw [hz2]; omega) (by rw [hz2]; exact growslice_fits (by omega) (by omega))
      rw [Nat.zero_add, hG] at h
      rw [hCS]
      exact h
    have HB := Lib.hid (show Below w.heap.size w (w.drew.alloc (.cells CS 53)) from ((Below.refl _ _).drew).alloc (Nat.le_refl _) _)
    have HO := Lib.hid (show Own kPort 53 (w.drew.alloc (.cells CS 53)) none w.heap.size (.slice (some ⟨w.heap.size, 0, none⟩) 0 G) [] from
      ⟨[], ⟨by simp, .inr ⟨w.heap.size, G, CS, rfl, Nat.le_refl _, heap_alloc_new w.drew _, Nat.zero_le _, hG2, hsz, by simp⟩⟩, Pairs.nil _ _ _, fun _ _ => foot_none _ _⟩)
    unfold maxLen at hG2
    have hp2 : (0 : Int) < n := by omega
    clear hG hCS hsz hi hz0 hz1 hz2
    go_enter Try.func100, Try.ntmps100
    go_wp2_with (at_builtin; refine Lib.wpList_append_run _ rfl _ _ _ _ rfl _ _ rfl rfl _ _ (hrz _) ?_)
    go_ret
    exact ⟨_, rfl, HO.out, HB.out⟩

set_option maxHeartbeats 1000000 in
theorem concat_ints (w : World) (v : Value) (xss : List (List Int)) (hx : Row (kRow kInt) w (fun _ => False) v xss) (hl : xss.length ≤ 4294967296) (hsum : xss.flatten.length ≤ 1099511627776) :
    Calls Try.prog 57 #[v] w fun e w' => ∃ v', e = .returned v' ∧ Row kInt w' (fun _ => False) v' xss.flatten ∧ Below w.heap.size w w' := by
  obtain ⟨A, c, rfl, -, -⟩ := hx.shape
  have HX := Lib.hid hx
  have hpre : ∀ j, (xss.take j).flatten.length ≤ xss.flatten.length := fun j => by
    have h := congrArg List.length (congrArg List.flatten (List.take_append_drop j xss))
    rw [List.flatten_append, List.length_append] at h
    omega
  have hsucc : ∀ j (h : j < xss.length), (xss.take (j + 1)).flatten = (xss.take j).flatten ++ xss[j] := fun j h => by
    rw [List.take_succ_eq_append_getElem h, List.flatten_append]; simp
  have HP := Lib.hid hpre
  have HS := Lib.hid hsucc
  clear hx hpre hsucc
  go_enter Try.func57, Try.ntmps57
  go_wp2
  go_loop [3, 11] (fun s i => ∃ (j n : Nat), i = .int .i64 (j : Nat) ∧ s = .int .i64 (n : Nat) ∧ j ≤ xss.length ∧ Hid (n = (xss.take j).flatten.length)) (fun _ i => xss.length - (intOf i).toNat)
  case atStart => exact ⟨0, 0, rfl, rfl, Nat.zero_le _, Lib.hid (by simp)⟩
  case round =>
    obtain ⟨j, n, rfl, rfl, hj, HN⟩ := hrel
    by_cases hlt : j < xss.length
    · obtain ⟨b, off, A2, c2, rfl, hcell, -⟩ := HX.out.row_at hlt
      have hnew : n + xss[j].length = (xss.take (j + 1)).flatten.length := by rw [HS.out j hlt, List.length_append, HN.out]
      have hle := HP.out (j + 1)
      rw [← hnew] at hle
      have HNEW := Lib.hid hnew
      obtain ⟨m, hm⟩ : ∃ m, xss[j].length = m := ⟨_, rfl⟩
      rw [hm] at hcell hle HNEW
      clear hnew hm
      go_wp2
      go_round
      case rel => exact ⟨j + 1, n + m, by go_num, by go_num, by omega, HNEW⟩
      case measure => simp [intOf]; omega
    · obtain rfl : j = xss.length := by omega
      have hn : n ≤ 1099511627776 := by rw [HN.out, List.take_length]; exact hsum
      go_wp2_with fail
      refine (grow_ints w n hn).mono ?_
      rintro e w1 ⟨v1, rfl, hO, hb⟩
      obtain ⟨A1, c1, rfl, -, -⟩ := hO.shape
      have HO := Lib.hid hO
      have HB := Lib.hid hb
      clear hO hb
      go_wp2_with fail
      go_loopw [6, 27] (fun nv i wr => ∃ j : Nat, i = .int .i64 (j : Nat) ∧ j ≤ xss.length ∧ Hid (Own kInt 3 wr none w.heap.size nv (xss.take j).flatten) ∧ Hid (Below w.heap.size w wr)) (fun _ i _ => xss.length - (intOf i).toNat)
      case atStart => exact ⟨0, rfl, Nat.zero_le _, Lib.hid (by simpa using HO.out), HB⟩
      case round =>
        obtain ⟨j, rfl, hj, HO2, HB2⟩ := hrel
        by_cases hlt2 : j < xss.length
        · obtain ⟨b, off, A2, c2, rfl, hcell0, hrow⟩ := HX.out.row_at hlt2
          have hcell := (HB2.out.cell (World.block_lt_of_cell? _ _ hcell0)).trans hcell0
          have hR : Row kInt w (may w none w.heap.size) (.slice A2 xss[j].length c2) xss[j] := hrow.mono fun i hi hm => hm.elim (fun h => by omega) fun h => foot_none _ _ h
          have HR := Lib.hid hR
          have hle := HP.out (j + 1)
          rw [HS.out j hlt2, List.length_append] at hle
          have hlen : ((xss.take j).flatten.length + xss[j].length) * 8 ≤ 140737488355328 := by omega
          clear hrow hR hcell0
          obtain ⟨A3, c3, hv3, -, -⟩ := HO2.out.shape
          have HO3 := HO2.out
          rw [hv3] at HO3
          subst hv3
          have HO4 := Lib.hid HO3
          clear HO3
          go_wp2_with (at_builtin; refine wpList_plain rfl fun K hK => wp_app_row kInt 3 28 (.int .i64 0) 8 (.tmp 31) (.tmp 32) rfl Try.underlying28 infoIntK rfl (by decide) (by decide) w.heap.size HO4.out HB2.out.size rfl A2 xss[j].length c2 xss[j] HR.out HB2.out (Nat.le_refl _) rfl hlen ?_; intro v4 w4 q4 b4; refine hK _ _ ?_; clear hK K)
          go_roundw
          case rel => exact ⟨j + 1, by go_num, by omega, Lib.hid (by rw [HS.out j hlt2]; exact q4), Lib.hid (HB2.out.trans b4)⟩
          case measure => simp [intOf]; omega
        · obtain rfl : j = xss.length := by omega
          rw [List.take_length] at HO2
          go_wp2
          go_ret
          exact ⟨_, rfl, (HO2.out.row (by decide) (Nat.le_refl _)).mono fun _ _ h => h.elim, HB2.out⟩
set_option maxHeartbeats 1000000 in
theorem concat_ports (w : World) (v : Value) (xss : List (List Port)) (hx : Row (kRow kPort) w (fun _ => False) v xss) (hl : xss.length ≤ 4294967296) (hsum : xss.flatten.length ≤ 1099511627776) :
    Calls Try.prog 87 #[v] w fun e w' => ∃ v', e = .returned v' ∧ Row kPort w' (fun _ => False) v' xss.flatten ∧ Below w.heap.size w w' := by
  obtain ⟨A, c, rfl, -, -⟩ := hx.shape
  have HX := Lib.hid hx
  have hpre : ∀ j, (xss.take j).flatten.length ≤ xss.flatten.length := fun j => by
    have h := congrArg List.length (congrArg List.flatten (List.take_append_drop j xss))
    rw [List.flatten_append, List.length_append] at h
    omega
  have hsucc : ∀ j (h : j < xss.length), (xss.take (j + 1)).flatten = (xss.take j).flatten ++ xss[j] := fun j h => by
    rw [List.take_succ_eq_append_getElem h, List.flatten_append]; simp
  have HP := Lib.hid hpre
  have HS := Lib.hid hsucc
  clear hx hpre hsucc
  go_enter Try.func87, Try.ntmps87
  go_wp2
  go_loop [3, 11] (fun s i => ∃ (j n : Nat), i = .int .i64 (j : Nat) ∧ s = .int .i64 (n : Nat) ∧ j ≤ xss.length ∧ Hid (n = (xss.take j).flatten.length)) (fun _ i => xss.length - (intOf i).toNat)
  case atStart => exact ⟨0, 0, rfl, rfl, Nat.zero_le _, Lib.hid (by simp)⟩
  case round =>
    obtain ⟨j, n, rfl, rfl, hj, HN⟩ := hrel
    by_cases hlt : j < xss.length
    · obtain ⟨b, off, A2, c2, rfl, hcell, -⟩ := HX.out.row_at hlt
      have hnew : n + xss[j].length = (xss.take (j + 1)).flatten.length := by rw [HS.out j hlt, List.length_append, HN.out]
      have hle := HP.out (j + 1)
      rw [← hnew] at hle
      have HNEW := Lib.hid hnew
      obtain ⟨m, hm⟩ : ∃ m, xss[j].length = m := ⟨_, rfl⟩
      rw [hm] at hcell hle HNEW
      clear hnew hm
      go_wp2
      go_round
      case rel => exact ⟨j + 1, n + m, by go_num, by go_num, by omega, HNEW⟩
      case measure => simp [intOf]; omega
    · obtain rfl : j = xss.length := by omega
      have hn : n ≤ 1099511627776 := by rw [HN.out, List.take_length]; exact hsum
      go_wp2_with fail
      refine (grow_ports w n hn).mono ?_
      rintro e w1 ⟨v1, rfl, hO, hb⟩
      obtain ⟨A1, c1, rfl, -, -⟩ := hO.shape
      have HO := Lib.hid hO
      have HB := Lib.hid hb
      clear hO hb
      go_wp2_with fail
      go_loopw [6, 27] (fun nv i wr => ∃ j : Nat, i = .int .i64 (j : Nat) ∧ j ≤ xss.length ∧ Hid (Own kPort 53 wr none w.heap.size nv (xss.take j).flatten) ∧ Hid (Below w.heap.size w wr)) (fun _ i _ => xss.length - (intOf i).toNat)
      case atStart => exact ⟨0, rfl, Nat.zero_le _, Lib.hid (by simpa using HO.out), HB⟩
      case round =>
        obtain ⟨j, rfl, hj, HO2, HB2⟩ := hrel
        by_cases hlt2 : j < xss.length
        · obtain ⟨b, off, A2, c2, rfl, hcell0, hrow⟩ := HX.out.row_at hlt2
          have hcell := (HB2.out.cell (World.block_lt_of_cell? _ _ hcell0)).trans hcell0
          have hR : Row kPort w (may w none w.heap.size) (.slice A2 xss[j].length c2) xss[j] := hrow.mono fun i hi hm => hm.elim (fun h => by omega) fun h => foot_none _ _ h
          have HR := Lib.hid hR
          have hle := HP.out (j + 1)
          rw [HS.out j hlt2, List.length_append] at hle
          have hlen : ((xss.take j).flatten.length + xss[j].length) * 40 ≤ 140737488355328 := by omega
          clear hrow hR hcell0
          obtain ⟨A3, c3, hv3, -, -⟩ := HO2.out.shape
          have HO3 := HO2.out
          rw [hv3] at HO3
          subst hv3
          have HO4 := Lib.hid HO3
          clear HO3
          go_wp2_with (at_builtin; refine wpList_plain rfl fun K hK => wp_app_row kPort 53 23 (.agg #[.string ⟨#[]⟩, .slice none 0 0]) 40 (.tmp 31) (.tmp 32) rfl Try.underlying23 infoPortK rfl (by decide) (by decide) w.heap.size HO4.out HB2.out.size rfl A2 xss[j].length c2 xss[j] HR.out HB2.out (Nat.le_refl _) rfl hlen ?_; intro v4 w4 q4 b4; refine hK _ _ ?_; clear hK K)
          go_roundw
          case rel => exact ⟨j + 1, by go_num, by omega, Lib.hid (by rw [HS.out j hlt2]; exact q4), Lib.hid (HB2.out.trans b4)⟩
          case measure => simp [intOf]; omega
        · obtain rfl : j = xss.length := by omega
          rw [List.take_length] at HO2
          go_wp2
          go_ret
          exact ⟨_, rfl, (HO2.out.row (by decide) (Nat.le_refl _)).mono fun _ _ h => h.elim, HB2.out⟩
end Go.Proofs.Ytbfjacgfifecpaa
