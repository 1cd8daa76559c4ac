/- slipsticklaw08.BuildLater: the walk. -/
import Derived.Test.YtdljgifoboiaeaaL08
import Derived.Test.YtdljgifoboiaeaaLater
namespace Go.Proofs.Ytdljgifoboiaeaa
open Go.RowKit

theorem later_formed (n k : Nat) (hn : 0 < n) (a b : ByteArray) : formedB (laterNodes n k) [⟨a, placesOf n⟩] [⟨b, laterPlaces n k⟩] = true := by
  have h1 : portB ⟨a, placesOf n⟩ (laterNodes n k).length = true := by
    simp only [portB, Bool.and_eq_true, decide_eq_true_eq, List.all_eq_true]
    refine ⟨fun h => ?_, fun x hx => ?_⟩
    · have := places_length n; rw [h] at this; simp at this; omega
    · obtain ⟨i, hi, rfl⟩ := List.mem_iff_getElem.1 hx
      rw [places_at, laterNodes_length]; rw [places_length] at hi; omega
  have h2 : portB ⟨b, laterPlaces n k⟩ (laterNodes n k).length = true := by
    simp only [portB, Bool.and_eq_true, decide_eq_true_eq, List.all_eq_true]
    refine ⟨fun h => ?_, fun x hx => ?_⟩
    · have : (laterPlaces n k).length = n := by simp [laterPlaces]
      rw [h] at this; simp at this; omega
    · simp only [laterPlaces, List.mem_map, List.mem_range] at hx
      obtain ⟨t, ht, rfl⟩ := hx
      rw [laterNodes_length]; omega
  rw [formedB, (later_ordered n k).all, Bool.true_and]
  simp [h1, h2]
theorem later_ports (n k : Nat) (hn : n ≤ 20) (a b : ByteArray) : okPorts (laterNodes n k) [⟨a, placesOf n⟩] ∧ okPorts (laterNodes n k) [⟨b, laterPlaces n k⟩] := by
  refine ⟨⟨by simp, fun q hq => ?_⟩, ⟨by simp, fun q hq => ?_⟩⟩
  · simp at hq; subst hq
    refine ⟨by simp only [places_length]; omega, fun x hx => ?_⟩
    obtain ⟨i, hi, rfl⟩ := List.mem_iff_getElem.1 hx
    simp only at hi
    rw [places_at, laterNodes_length]; rw [places_length] at hi; omega
  · simp at hq; subst hq
    refine ⟨by simp [laterPlaces]; omega, fun x hx => ?_⟩
    simp only [laterPlaces, List.mem_map, List.mem_range] at hx
    obtain ⟨t, ht, rfl⟩ := hx
    rw [laterNodes_length]; omega

theorem later_through (n k : Nat) (hn : 0 < n) (a b : ByteArray) (ms : List Nat) (hm : ∀ m ∈ ms, m < 2 ^ n) :
    throughR (laterNodes n k) [⟨a, placesOf n⟩] [⟨b, laterPlaces n k⟩] ((ms.map fun m => [parts32 m]).map fun r => r.map partsVal) = (List.range ms.length).map fun i => [parts32 (if k ≤ i then ms.getD (i - k) 0 else 0)] := by
  have e : (ms.map fun m => [parts32 m]).map (fun r => r.map partsVal) = ms.map fun m => [m] := by
    rw [List.map_map]
    refine List.map_congr_left fun m _ => ?_
    simp [partsVal_parts32]
  rw [e, throughR, List.length_map]
  refine List.map_congr_left fun i hi => ?_
  rw [outsR, List.map_cons, List.map_nil, later_out n k hn a ms hm i (by simpa using hi)]

set_option maxHeartbeats 8000000 in
set_option maxRecDepth 100000 in
theorem later_walk (w : World) (a b : Nat) (ha : a < 256) (hb : b < 256) (v : Value) (xss : List (List Int)) (hx : Row (kRow (kNum .u32)) w (fun _ => False) v xss) (hok : ∀ xs ∈ xss, okParts xs) :
    Calls Try.prog 3 #[.int .u8 a, .int .u8 b, v] w fun e w' => e = .returned (.bool true) ∧ Below w.heap.size w w' := by
  obtain ⟨n, hn⟩ : ∃ n : Nat, (a : Int) % 20 + 1 = n := ⟨a % 20 + 1, by omega⟩
  obtain ⟨k, hk⟩ : ∃ k : Nat, (b : Int) % 6 = k := ⟨b % 6, by omega⟩
  have hn1 : 0 < n := by omega
  have hn2 : n ≤ 20 := by omega
  have hk2 : k ≤ 5 := by omega
  have hnk : n * k ≤ 100 := Nat.mul_le_mul hn2 hk2
  obtain ⟨A0, c0, rfl, -, hc0⟩ := hx.shape
  unfold maxLen at hc0
  have HX := Lib.hid (hx.mono (S' := fun i => w.heap.size ≤ i) fun i hi h => by omega)
  have HOK := Lib.hid hok
  clear hx hok
  go_enter Try.func3, Try.ntmps3
  go_wp2_with fail
  refine (awake08 w).mono ?_
  rintro e w1 ⟨rfl, hb1⟩
  have HB1 := Lib.hid hb1
  clear hb1
  go_wp2_with fail
  refine (new_mine w1).mono ?_
  rintro e w2 ⟨rfl, hM⟩
  obtain ⟨p, hp⟩ : ∃ p : Nat, w1.heap.size = p := ⟨_, rfl⟩
  rw [hp] at hM ⊢
  have HP := Lib.hid hp
  have M2 := Lib.hid hM
  clear hM hp
  go_wp2_with fail
  refine (in_calls _ p ⟨[], [], []⟩ ⟨#[120]⟩ n M2.out.1 (by omega) (by simp) (by rw [Int.toNat_natCast, later_in]; simp only; rw [laterNodes_length]; omega)).mono ?_
  rintro e w3 ⟨v3, rfl, ho, hb3, hk3⟩
  have M3 := Lib.hid (M2.out.laid ⟨hb3, hk3⟩)
  rw [Int.toNat_natCast, later_in] at ho M3
  simp only at ho M3
  obtain ⟨A3, c3, hv3, -, -⟩ := ho.shape
  rw [places_length] at hv3
  subst hv3
  have HO := Lib.hid ho
  clear ho hb3 hk3
  go_wp2_with fail
  refine (regs_calls _ p _ (fun _ => False) _ (placesOf n) k M3.out.1 (HO.out.rowS _ (fun _ _ h => h)) (by rw [places_length]; omega) (by omega) (by rw [later_regs]; simp only; rw [laterNodes_length]; omega)).mono ?_
  rintro e w4 ⟨v4, rfl, ho4, hL4⟩
  rw [later_regs] at ho4 hL4
  simp only at ho4 hL4
  have M4 := Lib.hid (M3.out.laid hL4)
  have HO4 := Lib.hid ho4
  clear ho4 hL4
  go_wp2_with fail
  refine (out_calls _ p _ (fun _ => False) ⟨#[122]⟩ _ (laterPlaces n k) M4.out.1 (HO4.out.rowS _ (fun _ _ h => h)) (by simp [laterPlaces]; omega) (by simp)).mono ?_
  rintro e w5 ⟨rfl, hb5, hk5⟩
  have M5 := Lib.hid (M4.out.laid ⟨hb5, hk5⟩)
  have hst : bOut ⟨#[122]⟩ (laterPlaces n k) ⟨laterNodes n k, [⟨⟨#[120]⟩, placesOf n⟩], []⟩ = ⟨laterNodes n k, [⟨⟨#[120]⟩, placesOf n⟩], [⟨⟨#[122]⟩, laterPlaces n k⟩]⟩ := rfl
  rw [hst] at M5
  clear hb5 hk5 hst
  have HLN := Lib.hid (laterNodes_length n k)
  have HIP := Lib.hid (later_ports n k hn2 ⟨#[120]⟩ ⟨#[122]⟩)
  have hnl : (laterNodes n k).length ≤ 120 := by rw [laterNodes_length]; omega
  go_wp2_with fail
  refine (net_calls _ (fun _ => False) (fun _ h => h.elim) p _ M5.out.1 (by simp only; omega) (by simp) (by simp) (by intro q hq; have := (HIP.out.1.2 q hq).1; omega) (by intro q hq; have := (HIP.out.2.2 q hq).1; omega)).mono ?_
  rintro e w6 ⟨vn, vi, vo, rfl, hn1', hn2', hn3', hb6⟩
  obtain ⟨An, cn, Ai, ci, Ao, co, hve, hbox⟩ := NetV.box (show NetV w6 (.agg #[vn, vi, vo]) (laterNodes n k) [⟨⟨#[120]⟩, placesOf n⟩] [⟨⟨#[122]⟩, laterPlaces n k⟩] from ⟨vn, vi, vo, rfl, hn1', hn2', hn3'⟩)
  injection hve with hve
  simp only [Array.mk.injEq, List.cons.injEq, and_true] at hve
  obtain ⟨rfl, rfl, rfl⟩ := hve
  have hw5 : Below w.heap.size w w5 := HB1.out.trans (M5.out.2.2.1.mono (by rw [← HP.out]; exact HB1.out.size))
  have HW6 := Lib.hid (hw5.trans (hb6.mono hw5.size))
  have HBOX := Lib.hid hbox
  obtain ⟨ob, hob⟩ : ∃ ob, ob = netBox (.slice An (laterNodes n k).length cn) (.slice Ai [(⟨⟨#[120]⟩, placesOf n⟩ : Port)].length ci) (.slice Ao [(⟨⟨#[122]⟩, laterPlaces n k⟩ : Port)].length co) := ⟨_, rfl⟩
  rw [← hob] at HBOX
  have HOB := Lib.hid hob
  have HSZ := Lib.hid (show (w6.alloc ob).heap.size = w6.heap.size + 1 by simp)
  have HNET := Lib.hid (fun (W : World) (hW : Below (w6.heap.size + 1) (w6.alloc ob) W) => show NetV W (.agg #[.slice An (laterNodes n k).length cn, .slice Ai 1 ci, .slice Ao 1 co]) (laterNodes n k) [⟨⟨#[120]⟩, placesOf n⟩] [⟨⟨#[122]⟩, laterPlaces n k⟩] from ⟨_, _, _, rfl, (HBOX.out W hW).2.2.2.1, (HBOX.out W hW).2.2.2.2.1, (HBOX.out W hW).2.2.2.2.2.1⟩)
  have HZ := Lib.hid (fun (W : World) (hW : Below (w6.heap.size + 1) (w6.alloc ob) W) => And.intro (HBOX.out W hW).1 (And.intro (HBOX.out W hW).2.1 (HBOX.out W hW).2.2.1))
  obtain ⟨z0, z1, z2⟩ := HZ.out _ (Below.refl _ _)
  rw [HOB.out] at z0 z1 z2
  simp only [List.length_cons, List.length_nil, Nat.zero_add] at z0 z1 z2
  have HF := Lib.hid (later_formed n k hn1 ⟨#[120]⟩ ⟨#[122]⟩)
  clear hbox hob hn1' hn2' hn3' hb6 hw5
  generalize hNL : (laterNodes n k).length = NL at *
  have HNL := Lib.hid hNL
  clear hNL
  go_wp2_with fail
  rw [show Obj.cells #[.slice An NL cn, .slice Ai 1 ci, .slice Ao 1 co] 33 = ob from HOB.out.symm]
  have HNL2 : NL ≤ 120 := hnl
  refine (fast_ref _ (fun _ => False) (fun _ h => h.elim) _ (laterNodes n k) [⟨⟨#[120]⟩, placesOf n⟩] [⟨⟨#[122]⟩, laterPlaces n k⟩] (HNET.out _ (Below.refl _ _)) (by rw [HNL.out]; omega) (by simp) (by simp) (later_ordered n k) HF.out).mono ?_
  rintro e w8 ⟨v8, rfl, hr8, hb8⟩
  obtain ⟨A8, c8, hv8, -, -⟩ := hr8.shape
  rw [places_length, HNL.out] at hv8
  subst hv8
  rw [HSZ.out] at hb8
  have HR8 := Lib.hid hr8
  have HB8 := Lib.hid hb8
  obtain ⟨z0, z1, z2⟩ := HZ.out _ hb8
  have HW8 := Lib.hid (HBOX.out _ hb8).2.2.2.2.2.2
  have hsz8 : w6.heap.size + 1 ≤ w8.heap.size := by have := hb8.size; rw [HSZ.out] at this; exact this
  have hw68 := HW6.out.size
  clear hr8 hb8
  go_wp2_with fail
  go_loopw [14, 15] (fun vs i wr => ∃ j : Nat, j ≤ xss.length ∧ j ≤ 20 ∧ i = .int .i64 j ∧ Own (kOff (fun _ => False) (kRow (kNum .u32))) 45 wr none w8.heap.size vs ((xss.take j).map fun xs => [parts32 (partsVal xs % 2 ^ n)]) ∧ Below w8.heap.size w8 wr) (fun _ i _ => 20 - (intOf i).toNat)
  case atStart => exact ⟨0, Nat.zero_le _, by omega, rfl, Own.nil _ _ _ _ _, Below.refl _ _⟩
  case round =>
    obtain ⟨j, hj, hj20, rfl, ho, hb⟩ := hrel
    obtain ⟨A9, c9, rfl, -, -⟩ := ho.shape
    have HO9 := Lib.hid ho
    have HB9 := Lib.hid hb
    have HWR := Lib.hid (show Below w.heap.size w wr from (HW6.out.trans (HW8.out.mono HW6.out.size)).trans (hb.mono (by omega)))
    have hszr := hb.size
    clear z0 z1 z2
    obtain ⟨z0, z1, z2⟩ := HZ.out _ (HB8.out.trans (hb.mono hsz8))
    clear ho hb
    by_cases hgo : j < xss.length ∧ j < 20
    · obtain ⟨hlt, hlt20⟩ := hgo
      obtain ⟨b1, o1, A1, c1, rfl, x1, hrow⟩ := (HX.out.later HWR.out).row_at hlt
      have HXO := Lib.hid (HOK.out _ (List.getElem_mem hlt))
      have HT := Lib.hid (show ((xss.take (j + 1)).map fun xs => [parts32 (partsVal xs % 2 ^ n)]) = ((xss.take j).map fun xs => [parts32 (partsVal xs % 2 ^ n)]) ++ [[parts32 (partsVal xss[j] % 2 ^ n)]] by rw [List.take_succ_eq_append_getElem hlt, List.map_append]; rfl)
      have hdl : ((xss.take j).map fun xs => [parts32 (partsVal xs % 2 ^ n)]).length ≤ 20 := by simp; omega
      have HROW := Lib.hid hrow
      generalize ((xss.take j).map fun xs => [parts32 (partsVal xs % 2 ^ n)]) = done at *
      generalize xss[j] = xs at *
      clear hrow
      by_cases h20 : xs.length ≤ 20
      · have hlt' : ¬ (20 < xs.length) := by omega
        go_wp2_with fail
        refine (of_ref _ (fun i => Value.ownBlock (.slice A9 done.length c9) = some i) (fun i hi => (HO9.out.base hi).2) _ xs (HROW.out.mono fun i hi h => by have := (HO9.out.base h).1; have := HW8.out.size; omega) HXO.out (by omega)).mono ?_
        rintro e w9 ⟨v9, rfl, hr9, hb9⟩
        have HR9 := Lib.hid hr9
        have HB10 := Lib.hid hb9
        obtain ⟨A10, c10, rfl, -, -⟩ := hr9.shape
        have hnb : nbits (partsVal xs) ≤ 32 * xs.length := nbits_le (by rw [Nat.pow_mul]; exact partsVal_lt xs HXO.out)
        clear hr9 hb9
        go_wp2_with fail
        refine (low_ref _ (fun i => Value.ownBlock (.slice A9 done.length c9) = some i) (fun i hi => Nat.lt_of_lt_of_le (HO9.out.base hi).2 HB10.out.size) _ (partsVal xs) n HR9.out (by omega) (by omega)).mono ?_
        rintro e w10 ⟨v10, rfl, hr10, hb10⟩
        have HR10 := Lib.hid hr10
        have HB11 := Lib.hid (HB10.out.trans (hb10.mono HB10.out.size))
        obtain ⟨A11, c11, rfl, -, -⟩ := hr10.shape
        clear hr10 hb10
        have hnb2 : nbits (partsVal xs % 2 ^ n) ≤ 1000 := by have := nbits_le (Nat.mod_lt (partsVal xs) (Nat.two_pow_pos n)); omega
        generalize partsVal xs % 2 ^ n = m at *
        go_wp2_with fail
        refine (parts_ref _ (fun i => Value.ownBlock (.slice A9 done.length c9) = some i) (fun i hi => Nat.lt_of_lt_of_le (HO9.out.base hi).2 HB11.out.size) _ m HR10.out (by omega)).mono ?_
        rintro e w11 ⟨v11, rfl, hr11, hb11⟩
        obtain ⟨A12, c12, rfl, -, -⟩ := hr11.shape
        have hb12 := HB11.out.trans (hb11.mono HB11.out.size)
        have HL := Lib.hid (lit_row (k := kNum .u32) (S := fun i => Value.ownBlock (.slice A9 done.length c9) = some i) 38 w11 [parts32 m] [.slice A12 (parts32 m).length c12] rfl (by simp) (fun i x v hx hv => by
          match i, hx, hv with
          | 0, hx, hv => simp at hx hv; subst hx; subst hv; exact hr11) (fun i hi => Nat.lt_of_lt_of_le (HO9.out.base hi).2 hb12.size))
        have hb13 : Below wr.heap.size wr (w11.alloc (.cells #[.slice A12 (parts32 m).length c12] 38)) := hb12.alloc hb12.size _
        have HO13 := Lib.hid (HO9.out.kept (Kept.of_below_all hb13 (FootIn.none _) (Nat.le_refl _)))
        have HB13 := Lib.hid (HB9.out.trans (hb13.mono hszr))
        have hsz13 : w8.heap.size ≤ (w11.alloc (.cells #[.slice A12 (parts32 m).length c12] 38)).heap.size := Nat.le_trans hszr hb13.size
        clear hr11 hb11 hb12 hb13
        generalize parts32 m = pm at *
        go_wp2_with (at_builtin; refine app1 (kOff (fun _ => False) (kRow (kNum .u32))) 45 37 (.slice none 0 0) 24 rfl (.tmp 70) (.tmp 80) rfl Try.underlying37 infoU32ss rfl Nat.zero_lt_one (by decide) none w8.heap.size HO13.out (FootIn.none _) hsz13 rfl [pm] [.slice (some ⟨w11.heap.size, 0, none⟩) 1 1] (by simp; rfl) ⟨_, rfl, HL.out.mono (fun i _ h => h.elim (fun h => h.elim (fun h => (foot_none _ _ h).elim) (fun h => h)) (fun h => h.elim))⟩ (by omega) ?_; intro v' w14 q1 q2 _ _ _ _)
        go_roundw
        case rel => exact ⟨j + 1, by omega, by omega, by go_num, by rw [HT.out]; exact q1, HB13.out.trans q2.below⟩
        case measure => simp [intOf]; omega
      · have hlt' : 20 < xs.length := by omega
        go_wp2
        go_ret
        exact ⟨rfl, HWR.out⟩
    · have hj2 : (decide ((j : Int) < xss.length) && decide ((j : Int) < 20)) = false := by
        simp only [Bool.and_eq_false_iff, decide_eq_false_iff_not]; omega
      obtain ⟨ms, hms⟩ : ∃ ms, ms = (xss.take j).map fun xs => partsVal xs % 2 ^ n := ⟨_, rfl⟩
      have hml : ms.length = j := by rw [hms]; simp; omega
      have hscr : ((xss.take j).map fun xs => [parts32 (partsVal xs % 2 ^ n)]) = ms.map fun m => [parts32 m] := by rw [hms, List.map_map]; rfl
      have hmb : ∀ m ∈ ms, m < 2 ^ n := fun m hm => by rw [hms] at hm; simp only [List.mem_map] at hm; obtain ⟨_, _, rfl⟩ := hm; exact Nat.mod_lt _ (Nat.two_pow_pos n)
      have hsl : (ms.map fun m => [parts32 m]).length = j := by simp [hml]
      have HROWS := HO9.out.rowOff (fun _ _ h => h)
      rw [hscr, hsl] at HROWS
      rw [hscr, hsl]
      have HRS := Lib.hid HROWS
      have HML := Lib.hid hml
      have HTH := Lib.hid (later_through n k hn1 ⟨#[120]⟩ ⟨#[122]⟩ ms hmb)
      have HMB := Lib.hid hmb
      clear hms hscr HROWS HO9 hmb hml hsl
      have hgo' : ¬ ((j : Int) < xss.length ∧ (j : Int) < 20) := by omega
      go_wp2_with fail
      all_goals
        refine (through_ref _ (fun _ => False) _ _ (fun _ h => h.elim) _ _ _ (laterNodes n k) [⟨⟨#[120]⟩, placesOf n⟩] [⟨⟨#[122]⟩, laterPlaces n k⟩] (ms.map fun m => [parts32 m]) (HNET.out _ (HB8.out.trans (HB9.out.mono hsz8))) (HR8.out.later HB9.out) HRS.out (by rw [HNL.out]; omega) (later_ordered n k) HIP.out.1 HIP.out.2 (by rw [List.length_map, HML.out]; omega) (fun row hrow => by
          simp only [List.mem_map] at hrow
          obtain ⟨m, hm, rfl⟩ := hrow
          refine ⟨rfl, fun i h h' => ?_⟩
          have hi0 : i = 0 := by simp at h'; exact h'
          subst hi0
          have hnm := nbits_le (HMB.out m hm)
          simp only [List.getElem_cons_zero]
          exact ⟨parts32_ok m, by rw [parts32_length]; omega, by rw [partsVal_parts32, places_length]; exact hnm⟩)).mono ?_
        rintro e w12 ⟨v12, rfl, hr12, hb12⟩
        rw [HTH.out] at hr12
        obtain ⟨A12, c12, hv12, -, -⟩ := hr12.shape
        rw [List.length_map, List.length_range, HML.out] at hv12
        subst hv12
        have HR12 := Lib.hid hr12
        have HRS12 := Lib.hid (HRS.out.later hb12)
        have HW12 := Lib.hid (HWR.out.trans (hb12.mono HWR.out.size))
        have hsz12 := HW12.out.size
        clear hr12 hb12 z0 z1 z2
        go_wp2_with fail
        go_loopw [93] (fun i wq => ∃ q : Nat, q ≤ j ∧ i = .int .i64 q ∧ Below w12.heap.size w12 wq) (fun i _ => j - (intOf i).toNat)
        case atStart => exact ⟨0, Nat.zero_le _, rfl, Below.refl _ _⟩
        case round =>
          obtain ⟨q, hq, rfl, hbq⟩ := hrel
          have HBQ := Lib.hid hbq
          clear hbq
          by_cases hql : q < j
          · have hbz : Below w12.heap.size w12 (wr.alloc (.cells #[] 128)) := HBQ.out.alloc HBQ.out.size _
            have HBZ := Lib.hid hbz
            have hq1 : q < ((List.range ms.length).map fun i => [parts32 (if k ≤ i then ms.getD (i - k) 0 else 0)]).length := by rw [List.length_map, List.length_range, HML.out]; exact hql
            obtain ⟨b2, o2, A13, c13, rfl, y0, hrq⟩ := (HR12.out.later hbz).row_at hq1
            have hqe : ((List.range ms.length).map fun i => [parts32 (if k ≤ i then ms.getD (i - k) 0 else 0)])[q] = [parts32 (if k ≤ q then ms.getD (q - k) 0 else 0)] := by simp
            rw [hqe] at y0 hrq
            obtain ⟨b3, o3, A14, c14, rfl, y1, hrp⟩ := hrq.row_at (i := 0) (by simp)
            simp only [List.getElem_cons_zero, Nat.add_zero, List.length_cons, List.length_nil, Nat.zero_add] at y0 y1 hrp
            have HRP := Lib.hid hrp
            clear hqe hrq hrp hbz
            by_cases hkq : k ≤ q
            · rw [if_pos hkq] at y1 HRP
              have hk1 : q - k < (ms.map fun m => [parts32 m]).length := by rw [List.length_map, HML.out]; omega
              obtain ⟨b4, o4, A15, c15, rfl, x0, hsq⟩ := (HRS12.out.later HBZ.out).row_at hk1
              have hse : (ms.map fun m => [parts32 m])[q - k] = [parts32 (ms.getD (q - k) 0)] := by
                rw [List.getElem_map, List.getD_eq_getElem?_getD, List.getElem?_eq_getElem (by rw [HML.out]; omega)]; rfl
              rw [hse] at x0 hsq
              obtain ⟨b5, o5, A16, c16, rfl, x1, hsp⟩ := hsq.row_at (i := 0) (by simp)
              simp only [List.getElem_cons_zero, Nat.add_zero, List.length_cons, List.length_nil, Nat.zero_add] at x0 x1 hsp
              have HSP := Lib.hid hsp
              have hmm : (parts32 (ms.getD (q - k) 0)).length ≤ 1099511627776 := by
                have hm : ms.getD (q - k) 0 < 2 ^ n := HMB.out _ (by rw [List.getD_eq_getElem?_getD, List.getElem?_eq_getElem (by rw [HML.out]; omega)]; exact List.getElem_mem _)
                have := nbits_le hm
                rw [parts32_length]; omega
              have hsub : (q : Int) - (k : Int) = ((q - k : Nat) : Int) := by omega
              have hqk : q - k < j := by omega
              generalize q - k = qk at *
              clear hse hsq hsp
              generalize parts32 (ms.getD qk 0) = pm at *
              go_wp2_with fail
              refine (same_ref _ _ _ _ _ pm pm HRP.out HSP.out hmm hmm).mono ?_
              rintro e w13 ⟨rfl, hb13⟩
              rw [decide_eq_true rfl]
              have HB13 := Lib.hid (HBZ.out.trans (hb13.mono HBZ.out.size))
              clear hb13
              go_wp2_with fail
              go_roundw
              case rel => exact ⟨q + 1, by omega, by go_num, HB13.out⟩
              case measure => simp [intOf]; omega
            · rw [if_neg hkq] at y1 HRP
              have HLE := Lib.hid (lit_u32s wr [] (by simp) (fun _ => False) (fun _ h => h.elim))
              have hp0 : parts32 0 = [] := rfl
              rw [hp0] at y1 HRP
              go_wp2_with fail
              refine (same_ref _ _ _ _ _ [] [] HRP.out HLE.out (by simp) (by simp)).mono ?_
              rintro e w13 ⟨rfl, hb13⟩
              rw [decide_eq_true rfl]
              have HB13 := Lib.hid (HBZ.out.trans (hb13.mono HBZ.out.size))
              clear hb13
              go_wp2_with fail
              go_roundw
              case rel => exact ⟨q + 1, by omega, by go_num, HB13.out⟩
              case measure => simp [intOf]; omega
          · obtain rfl : q = j := by omega
            go_wp2
            go_ret
            exact ⟨rfl, HW12.out.trans (HBQ.out.mono hsz12)⟩
end Go.Proofs.Ytdljgifoboiaeaa
