/- The reference's Levels. -/
import Derived.Test.YtbfjacgfifecpaaNm
import Derived.Test.YtbfjacgfifecpaaNv
import Derived.Test.YtbfjacgfifecpaaNw
namespace Go.Proofs.Ytbfjacgfifecpaa
open Go.RowKit

theorem dupAt_names {L : List Port} {i : Nat} (hi : i < L.length) : dupAt (L.map (·.name)) i = (L.take i).any fun q => L[i].name.toList == q.name.toList := by
  rw [dupAt, ← List.map_take, List.any_map]
  have : (L.map (·.name)).getD i ByteArray.empty = L[i].name := by
    rw [List.getD_eq_getElem?_getD, List.getElem?_map, List.getElem?_eq_getElem hi]; rfl
  rw [this]
  rfl
theorem kindAt_eq {nodes : List Node} {i : Nat} {x : Node} (h : nodes[i]? = some x) : kindAt nodes i = x.kind := by rw [kindAt, h]

set_option maxHeartbeats 4000000 in
set_option maxRecDepth 100000 in
theorem lev_ref (w : World) (v : Value) (nodes : List Node) (ins outs : List Port) (hN : NetV w v nodes ins outs) (hF : Fits nodes ins outs) :
    Calls Try.prog 16 #[v] w fun e w' => ∃ v' l x, e = .returned (.tuple #[v', .int .i64 x]) ∧ Row kInt w' (fun _ => False) v' l ∧ LevOut nodes ins outs x l ∧ Below w.heap.size w w' := by
  obtain ⟨An, cn, Ai, ci, Ao, co, rfl, hbox⟩ := hN.box
  obtain ⟨w1, hw1⟩ : ∃ w1, w1 = w.alloc (netBox (.slice An nodes.length cn) (.slice Ai ins.length ci) (.slice Ao outs.length co)) := ⟨_, rfl⟩
  have hs1 : w1.heap.size = w.heap.size + 1 := by rw [hw1]; simp
  rw [← hw1, ← hs1] at hbox
  obtain ⟨L, hL⟩ : ∃ L, L = ([] ++ ins ++ outs : List Port) := ⟨_, rfl⟩
  have hLe : L = ins ++ outs := by rw [hL]; simp
  have hll : L.length = ins.length + outs.length := by rw [hLe, List.length_append]
  have il := hF.il
  have ol := hF.ol
  have nl := hF.nl
  have hk0 : Below w1.heap.size w1 (w1.alloc (.cells #[] 53)).drew := ((Below.refl _ _).alloc (Nat.le_refl _) _).drew
  have HO1 : Hid (Own kPort 53 (w1.alloc (.cells #[] 53)).drew none w1.heap.size (.slice (some ⟨w1.heap.size, 0, none⟩) 0 0) []) := (Own.lit0 kPort 53 w1).drew (FootIn.none _)
  have hrow := fun W (hW : Below w1.heap.size w1 W) => (hbox W hW).2.2.2
  have hcells := fun W (hW : Below w1.heap.size w1 W) => (show W.cell? ⟨w.heap.size, 0, none⟩ = some (.slice An nodes.length cn) ∧ W.cell? ⟨w.heap.size, 1, none⟩ = some (.slice Ai ins.length ci) ∧ W.cell? ⟨w.heap.size, 2, none⟩ = some (.slice Ao outs.length co) from ⟨(hbox W hW).1, (hbox W hW).2.1, (hbox W hW).2.2.1⟩)
  have HZ0 := Lib.hid (hcells _ hk0)
  have HZX := Lib.hid (hcells w1 (Below.refl _ _))
  have HZD := Lib.hid (hcells w1.drew (Below.refl _ _).drew)
  have HROWS := Lib.hid hrow
  have HCELLS := Lib.hid hcells
  have HK0 := Lib.hid hk0
  have HI := Lib.hid ((hrow w1 (Below.refl _ _)).2.1.bare0)
  have HO := Lib.hid ((hrow w1 (Below.refl _ _)).2.2.1.bare0)
  have HW1 := Lib.hid hw1
  have HS1 := Lib.hid hs1
  have HL := Lib.hid hL
  have HLE := Lib.hid hLe
  have HLL := Lib.hid hll
  have HF := Lib.hid hF
  clear hN hbox hw1 hs1 hL hLe hll hk0 hrow hcells hF
  go_enter Try.func16, Try.ntmps16
  go_wp2_with fail
  rw [← HW1.out]
  go_region_held3 (fun W => W.cell? ⟨w.heap.size, 0, none⟩ = some (.slice An nodes.length cn) ∧ W.cell? ⟨w.heap.size, 1, none⟩ = some (.slice Ai ins.length ci) ∧ W.cell? ⟨w.heap.size, 2, none⟩ = some (.slice Ao outs.length co))
    (first | with_reducible exact HZ0.out | with_reducible exact HZX.out | with_reducible exact HZD.out | with_reducible exact HZ2.out | with_reducible exact HZ3.out)
    (first
      | (refine step_app rfl (wp_app_row kPort 53 23 (.agg #[.string ⟨#[]⟩, .slice none 0 0]) 40 (.tmp 12) (.tmp 14) rfl Try.underlying23 infoPort rfl (by decide) (by decide) w1.heap.size HO1.out (by simp) rfl Ai ins.length ci ins HI.out HK0.out (by omega) rfl (by simp; omega) ?_); intro v1 w2 q1 b1; obtain ⟨A1, d1, rfl, -, -⟩ := q1.shape; have HQ1 := Lib.hid q1; have HB2 := Lib.hid (HK0.out.trans b1); have HZ2 := Lib.hid (HCELLS.out _ HB2.out); clear q1 b1)
      | (refine step_app rfl (wp_app_row kPort 53 23 (.agg #[.string ⟨#[]⟩, .slice none 0 0]) 40 (.tmp 15) (.tmp 17) rfl Try.underlying23 infoPort rfl (by decide) (by decide) w1.heap.size HQ1.out HB2.out.size rfl Ao outs.length co outs HO.out HB2.out (by omega) rfl (by simp; omega) ?_); intro v2 w3 q2 b2; rw [← HL.out] at q2; obtain ⟨A2, d2, rfl, -, -⟩ := q2.shape; have HQ2 := Lib.hid q2; have HB3 := Lib.hid (HB2.out.trans b2); have HZ3 := Lib.hid (HCELLS.out _ HB3.out); clear q2 b2))
  have HROW := Lib.hid ((HQ2.out.row (by decide) (Nat.le_refl _)).mono (S' := fun _ => False) fun _ _ h => h.elim)
  have HBW3 := Lib.hid ((HROWS.out _ HB3.out).2.2.2)
  obtain ⟨z0, z1, z2⟩ := HCELLS.out _ HB3.out
  have hll := HLL.out
  by_cases h1 : 262144 < nodes.length
  · have HE := Lib.hid (LevOut.err (nodes := nodes) (ins := ins) (outs := outs) (e := 4) (by decide) (fun b => by rw [errP, if_pos (.inl h1)]))
    go_wp2
    go_ret2
    exact ⟨_, [], _, rfl, nilRowInt _ _, HE.out, HBW3.out⟩
  by_cases h2 : 64 < L.length
  · have HE := Lib.hid (LevOut.err (nodes := nodes) (ins := ins) (outs := outs) (e := 4) (by decide) (fun b => by rw [errP, if_pos (.inr (by omega))]))
    go_wp2
    go_ret2
    exact ⟨_, [], _, rfl, nilRowInt _ _, HE.out, HBW3.out⟩
  have hno : ¬ (262144 < nodes.length ∨ 64 < ins.length + outs.length) := by omega
  have HNO := Lib.hid hno
  have hnl2 : nodes.length ≤ 1073741824 := by omega
  have HNL2 := Lib.hid hnl2
  have hl64 : L.length ≤ 64 := by omega
  have HFN := Lib.hid (formed_ref w3 _ _ _ nodes ins outs (HROWS.out _ HB3.out).1.bare0 (HROWS.out _ HB3.out).2.1.bare0 (HROWS.out _ HB3.out).2.2.1.bare0 nl il ol)
  clear hno hll hnl2
  go_wp2_with fail
  refine HFN.out.mono ?_
  rintro e w4 ⟨rfl, hb4⟩
  have HB34 := Lib.hid hb4
  have HB4 := Lib.hid (HB3.out.trans (hb4.mono HB3.out.size))
  clear hb4 z0 z1 z2 HFN
  cases hf : formedB nodes ins outs with
  | false =>
    have HE := Lib.hid (LevOut.err (nodes := nodes) (ins := ins) (outs := outs) (e := 2) (by decide) (fun b => by rw [errP, if_neg HNO.out, if_pos hf]))
    have HBW4 := Lib.hid ((HROWS.out _ HB4.out).2.2.2)
    clear hf
    go_wp2
    go_ret2
    exact ⟨_, [], _, rfl, nilRowInt _ _, HE.out, HBW4.out⟩
  | true =>
    have HFORM := Lib.hid hf
    have HR4 := Lib.hid (HROW.out.later HB34.out)
    clear hf h1 h2
    go_wp2_with fail
    obtain ⟨wn, hwn⟩ : ∃ wn, wn = w4 := ⟨_, rfl⟩
    go_loopw [5] (fun iv wr => ∃ i : Nat, iv = .int .i64 i ∧ i ≤ L.length ∧ Hid (∀ q ∈ L.take i, badName q = false) ∧ Hid (wr = w4)) (fun iv _ => L.length - (intOf iv).toNat)
    case atStart => exact ⟨0, rfl, Nat.zero_le _, Lib.hid (by simp), Lib.hid rfl⟩
    case round =>
      clear hwn
      obtain ⟨i, rfl, hi, HQ, HE⟩ := hrel
      obtain rfl := HE.out
      by_cases hlt : i < L.length
      · obtain ⟨b, off, A3, d3, rfl, x0, x1, hxb⟩ := HR4.out.port_at hlt
        have HM := Lib.hid (List.getElem_mem hlt)
        have HT := Lib.hid (List.take_succ_eq_append_getElem hlt)
        have hsz := HF.out.names L[i] (by rw [← HLE.out]; exact List.getElem_mem hlt)
        obtain ⟨x, hxx⟩ : ∃ x, L[i] = x := ⟨_, rfl⟩
        rw [hxx] at x0 HM HT hsz
        clear hxx hxb x1
        obtain ⟨s, bs⟩ := x
        dsimp only at x0 hsz
        have HC := Lib.hid (name_ref wr s hsz)
        clear hsz
        go_wp2_with fail
        refine HC.out.mono ?_
        rintro e w5 ⟨rfl, rfl⟩
        cases hb : nameB s with
        | false =>
          have hany : (ins ++ outs).any badName = true := by
            rw [← HLE.out, List.any_eq_true]
            exact ⟨_, HM.out, by simp [badName, hb]⟩
          have HE7 := Lib.hid (LevOut.err (nodes := nodes) (ins := ins) (outs := outs) (e := 7) (by decide) (fun b => by rw [errP, if_neg HNO.out, if_neg (by rw [HFORM.out]; simp), if_pos hany]))
          have HBW4 := Lib.hid ((HROWS.out _ HB4.out).2.2.2)
          clear hb hany
          go_wp2
          go_ret2
          exact ⟨_, [], _, rfl, nilRowInt _ _, HE7.out, HBW4.out⟩
        | true =>
          have HQ2 := Lib.hid (show ∀ q ∈ L.take (i + 1), badName q = false from fun q hq => by
            rw [HT.out] at hq
            rcases List.mem_append.1 hq with h | h
            · exact HQ.out q h
            · simp at h; subst h; simp [badName, hb])
          clear hb
          go_wp2
          refine ⟨⟨i + 1, by go_num, by omega, HQ2, Lib.hid trivial⟩, ?_⟩
          simp [intOf]; omega
      · obtain rfl : i = L.length := by omega
        have HNAME := Lib.hid (show (ins ++ outs).any badName = false by
          rw [← HLE.out]
          have := HQ.out
          rw [List.take_length] at this
          exact any_take this)
        clear hlt HQ HE
        go_wp2_with fail
        obtain ⟨w5, hw5⟩ : ∃ w5, w5 = wr := ⟨_, rfl⟩
        subst hw5
        go_loopw [6, 7] (fun iv kv wr => ∃ i : Nat, iv = .int .i64 i ∧ i ≤ L.length ∧ Hid (∀ m, m < i → dupAt (L.map (·.name)) m = false) ∧ Hid (Below w5.heap.size w5 wr)) (fun iv kv _ => L.length - (intOf iv).toNat)
        case atStart => exact ⟨0, rfl, Nat.zero_le _, Lib.hid (fun m hm => by omega), Lib.hid (Below.refl _ _)⟩
        case round =>
          obtain ⟨i, rfl, hi, HD, HB⟩ := hrel
          by_cases hlt : i < L.length
          · have HB0 := Lib.hid HB.out
            have HDA := Lib.hid (dupAt_names hlt)
            clear HB
            go_wp2_with fail
            obtain ⟨w6, hw6⟩ : ∃ w6, w6 = wr := ⟨_, rfl⟩
            subst hw6
            go_loopw [7] (fun kv wr => ∃ k : Nat, kv = .int .i64 k ∧ k ≤ i ∧ Hid (∀ q ∈ L.take k, (L[i].name.toList == q.name.toList) = false) ∧ Hid (Below w5.heap.size w5 wr)) (fun kv _ => i - (intOf kv).toNat)
            case atStart => exact ⟨0, rfl, Nat.zero_le _, Lib.hid (by simp), HB0⟩
            case round =>
              clear HB0
              obtain ⟨k, rfl, hk, HQ, HB⟩ := hrel
              by_cases hkt : k < i
              · have hkl : k < L.length := by omega
                obtain ⟨b, off, A3, d3, rfl, x0, -, -⟩ := (HR4.out.later HB.out).port_at hlt
                obtain ⟨b2, off2, A4, d4, he, y0, -, -⟩ := (HR4.out.later HB.out).port_at hkl
                injection he with he
                injection he with he1 he2 he3
                subst he1
                subst he2
                have HMK := Lib.hid (show L[k] ∈ L.take i by rw [List.mem_take_iff_getElem]; exact ⟨k, by omega, rfl⟩)
                have HT := Lib.hid (List.take_succ_eq_append_getElem hkl)
                obtain ⟨y, hyy⟩ : ∃ y, L[k] = y := ⟨_, rfl⟩
                rw [hyy] at y0 HMK HT
                obtain ⟨s, hs⟩ : ∃ s, L[i].name = s := ⟨_, rfl⟩
                rw [hs] at x0
                have HS := Lib.hid hs
                have hil : (i : Int) < L.length := by omega
                have hkl2 : (k : Int) < L.length := by omega
                clear he3 hyy hs hkl
                cases hst : (s.toList == y.name.toList) with
                | true =>
                  have hdup : dupB ((ins ++ outs).map (·.name)) = true := by
                    rw [← HLE.out]
                    refine dupB_true (i := i) (by rw [List.length_map]; exact hlt) ?_
                    rw [HDA.out, List.any_eq_true]
                    exact ⟨_, HMK.out, by rw [HS.out]; exact hst⟩
                  have HE8 := Lib.hid (LevOut.err (nodes := nodes) (ins := ins) (outs := outs) (e := 8) (by decide) (fun b => by rw [errP, if_neg HNO.out, if_neg (by rw [HFORM.out]; simp), if_neg (by rw [HNAME.out]; simp), if_pos hdup]))
                  have HBW5 := Lib.hid ((HROWS.out _ (HB4.out.trans (HB.out.mono HB4.out.size))).2.2.2)
                  clear hdup
                  go_wp2
                  go_quiet (fail)
                  go_wp2
                  go_ret2
                  exact ⟨_, [], _, rfl, nilRowInt _ _, HE8.out, HBW5.out.trans ((pw_drewN _ _).mono HBW5.out.size)⟩
                | false =>
                  have HQ2 := Lib.hid (show ∀ q ∈ L.take (k + 1), (L[i].name.toList == q.name.toList) = false from fun q hq => by
                    rw [HT.out] at hq
                    rcases List.mem_append.1 hq with h | h
                    · exact HQ.out q h
                    · simp at h; subst h; rw [HS.out]; exact hst)
                  go_wp2
                  go_quiet (fail)
                  go_wp2
                  refine ⟨⟨k + 1, by go_num, by omega, HQ2, Lib.hid (HB.out.trans ((pw_drewN _ _).mono HB.out.size))⟩, ?_⟩
                  simp [intOf]; omega
              · obtain rfl : k = i := by omega
                have HD2 := Lib.hid (show ∀ m, m < k + 1 → dupAt (L.map (·.name)) m = false from fun m hm => by
                  by_cases e : m = k
                  · subst e
                    rw [HDA.out]
                    exact any_take HQ.out
                  · exact HD.out m (by omega))
                go_wp2
                refine ⟨⟨k + 1, by go_num, by omega, HD2, HB⟩, ?_⟩
                simp [intOf]; omega
          · obtain rfl : i = L.length := by omega
            have HDUP := Lib.hid (show dupB ((ins ++ outs).map (·.name)) = false by
              rw [← HLE.out]
              exact dupB_false fun i hi => HD.out i (by rw [List.length_map] at hi; exact hi))
            have HB6 := Lib.hid (HB4.out.trans (HB.out.mono HB4.out.size))
            clear hlt HD HB hi hl64
            go_wp2_with fail
            obtain ⟨w6, hw6⟩ : ∃ w6, w6 = wr := ⟨_, rfl⟩
            subst hw6
            go_loopw [8, 9] (fun iv cv wr => ∃ i : Nat, iv = .int .i64 i ∧ i ≤ nodes.length ∧ Hid (∀ m, m < i → homeAt nodes (ins.flatMap (·.bits)) m = true) ∧ Hid (Below w1.heap.size w1 wr)) (fun iv cv _ => nodes.length - (intOf iv).toNat)
            case atStart => exact ⟨0, rfl, Nat.zero_le _, Lib.hid (fun m hm => by omega), HB6⟩
            case round =>
              clear HB6
              obtain ⟨i, rfl, hi, HH, HB⟩ := hrel
              obtain ⟨z0, z1, z2⟩ := HCELLS.out _ HB.out
              by_cases hlt : i < nodes.length
              · have hrn := HROWS.out _ HB.out
                have HC := Lib.hid (times_ref wr _ nodes ins outs i ⟨_, _, _, rfl, hrn.1, hrn.2.1, hrn.2.2.1⟩ il HF.out.sum)
                clear hrn
                go_wp2_with fail
                refine HC.out.mono ?_
                rintro e w8 ⟨rfl, hb8⟩
                have HB8 := Lib.hid (HB.out.trans (hb8.mono HB.out.size))
                clear hb8 z0 z1 z2 HC
                obtain ⟨z0, z1, z2⟩ := HCELLS.out _ HB8.out
                have hr8 := HROWS.out _ HB8.out
                have HBW8 := Lib.hid hr8.2.2.2
                obtain ⟨b, off, rfl, x0, x1, x2, x3⟩ := hr8.1.node_at hlt
                have hka : kindAt nodes i = nodes[i].kind := kindAt_eq (List.getElem?_eq_getElem hlt)
                obtain ⟨kk, hkk⟩ : ∃ k, nodes[i].kind = k := ⟨_, rfl⟩
                rw [hkk] at x0 hka
                have hha : homeAt nodes (ins.flatMap (·.bits)) i = decide ((((ins.flatMap (·.bits)).count (i : Int) : Nat) : Int) = wantK kk) := by rw [homeAt, hka]
                obtain ⟨cc, hcc⟩ : ∃ c, (((ins.flatMap (·.bits)).count (i : Int) : Nat) : Int) = c := ⟨_, rfl⟩
                rw [hcc] at hha ⊢
                clear hr8 hka hkk hcc x1 x2 x3
                by_cases hk1 : kk = 1
                · subst hk1
                  by_cases hc1 : cc = 1
                  · subst hc1
                    have hyes : homeAt nodes (ins.flatMap (·.bits)) i = true := by rw [hha]; rfl
                    clear hha
                    have HHN := Lib.hid (show ∀ m, m < i + 1 → homeAt nodes (ins.flatMap (·.bits)) m = true from fun m hm => by
                      by_cases e : m = i
                      · subst e; exact hyes
                      · exact HH.out m (by omega))
                    clear hyes
                    go_wp2
                    refine ⟨⟨i + 1, by go_num, by omega, HHN, HB8⟩, ?_⟩
                    simp [intOf]; omega
                  · have hne : homeAt nodes (ins.flatMap (·.bits)) i = false := by rw [hha]; exact decide_eq_false hc1
                    have hq : (cc != 1) = true := by simpa using hc1
                    clear hha hc1
                    have HE := Lib.hid (LevOut.err (nodes := nodes) (ins := ins) (outs := outs) (e := 10) (by decide) (fun b => by rw [errP, if_neg HNO.out, if_neg (by rw [HFORM.out]; simp), if_neg (by rw [HNAME.out]; simp), if_neg (by rw [HDUP.out]; simp), if_pos (homeB_false hlt hne)]))
                    clear hne
                    go_wp2
                    go_ret2
                    exact ⟨_, [], _, rfl, nilRowInt _ _, HE.out, HBW8.out⟩
                · have hq1 : (kk == 1) = false := by simpa using hk1
                  have hq2 : (kk != 1) = true := by simpa using hk1
                  have hw : wantK kk = 0 := by rw [wantK, if_neg hk1]
                  rw [hw] at hha
                  by_cases hc0 : cc = 0
                  · subst hc0
                    have hyes : homeAt nodes (ins.flatMap (·.bits)) i = true := by rw [hha]; rfl
                    clear hha hw hk1
                    have HHN := Lib.hid (show ∀ m, m < i + 1 → homeAt nodes (ins.flatMap (·.bits)) m = true from fun m hm => by
                      by_cases e : m = i
                      · subst e; exact hyes
                      · exact HH.out m (by omega))
                    clear hyes
                    go_wp2
                    refine ⟨⟨i + 1, by go_num, by omega, HHN, HB8⟩, ?_⟩
                    simp [intOf]; omega
                  · have hne : homeAt nodes (ins.flatMap (·.bits)) i = false := by rw [hha]; exact decide_eq_false hc0
                    have hq : (cc != 0) = true := by simpa using hc0
                    clear hha hc0 hw hk1
                    have HE := Lib.hid (LevOut.err (nodes := nodes) (ins := ins) (outs := outs) (e := 10) (by decide) (fun b => by rw [errP, if_neg HNO.out, if_neg (by rw [HFORM.out]; simp), if_neg (by rw [HNAME.out]; simp), if_neg (by rw [HDUP.out]; simp), if_pos (homeB_false hlt hne)]))
                    clear hne
                    go_wp2
                    go_ret2
                    exact ⟨_, [], _, rfl, nilRowInt _ _, HE.out, HBW8.out⟩
              · obtain rfl : i = nodes.length := by omega
                have hhome : homeB nodes ins = true := homeB_true fun i hi => HH.out i hi
                have hrn := HROWS.out _ HB.out
                have HC := Lib.hid (levels_ref wr _ nodes ins outs ⟨_, _, _, rfl, hrn.1, hrn.2.1, hrn.2.2.1⟩ HNL2.out (formed_in HFORM.out).1)
                have HHOME := Lib.hid hhome
                clear hhome hrn
                go_wp2_with fail
                refine HC.out.mono ?_
                rintro e w8 ⟨v8, l, b, rfl, hr8, hl1, hl2, hb8⟩
                have HB8 := Lib.hid (HB.out.trans (hb8.mono HB.out.size))
                have HBW8 := Lib.hid ((HROWS.out _ HB8.out).2.2.2)
                have HR8 := Lib.hid hr8
                have herr : ∀ b, errP nodes ins outs b = if b = false then 9 else 0 := fun b => by rw [errP, if_neg HNO.out, if_neg (by rw [HFORM.out]; simp), if_neg (by rw [HNAME.out]; simp), if_neg (by rw [HDUP.out]; simp), if_neg (by rw [HHOME.out]; simp)]
                cases b with
                | false =>
                  have HE : Hid (LevOut nodes ins outs 9 []) := Lib.hid ⟨false, (herr false).symm, fun h => by simp at h, fun _ => hl2 rfl, fun h => by simp at h, fun _ => rfl⟩
                  clear hb8 HC z0 z1 z2 hr8 hl1 hl2 herr
                  go_wp2
                  go_ret2
                  exact ⟨_, [], _, rfl, nilRowInt _ _, HE.out, HBW8.out⟩
                | true =>
                  have HE : Hid (LevOut nodes ins outs 0 l) := Lib.hid ⟨true, (herr true).symm, fun _ => ⟨l, hl1 rfl⟩, fun h => by simp at h, fun _ => hl1 rfl, fun h => absurd rfl h⟩
                  clear hb8 HC z0 z1 z2 hr8 hl1 hl2 herr
                  go_wp2
                  go_ret2
                  exact ⟨_, l, _, rfl, HR8.out, HE.out, HBW8.out⟩
end Go.Proofs.Ytbfjacgfifecpaa
