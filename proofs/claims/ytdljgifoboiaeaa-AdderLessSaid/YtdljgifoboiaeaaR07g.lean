/- The order that is found: slipstickref07. -/
import Derived.Test.YtdljgifoboiaeaaR07f
import Derived.WalkSmall
namespace Go.Proofs.Ytdljgifoboiaeaa
open Go.RowKit

def lenOf : Value → Nat
  | .slice _ n _ => n
  | _ => 0
def doneRow (n j : Nat) : List Int := List.replicate j 2 ++ List.replicate (n - j) 0
theorem doneRow_zero (n : Nat) : doneRow n 0 = List.replicate n 0 := by simp [doneRow]
theorem doneRow_length (n j : Nat) (h : j ≤ n) : (doneRow n j).length = n := by simp [doneRow]; omega
theorem doneRow_at (n j : Nat) (h : j < n) : (doneRow n j)[j]? = some 0 := by
  rw [doneRow, List.getElem?_append_right (by simp), List.length_replicate, Nat.sub_self, List.getElem?_replicate, if_pos (by omega)]
theorem doneRow_lt (n j i : Nat) (h : i < j) : (doneRow n j)[i]? = some 2 := by
  rw [doneRow, List.getElem?_append_left (by simpa using h), List.getElem?_replicate, if_pos h]
theorem doneRow_mid (n j : Nat) (h : j < n) : ((doneRow n j).set j 1)[j]? = some 1 := by
  rw [List.getElem?_set_self (by rw [doneRow_length n j (by omega)]; exact h)]
theorem doneRow_succ (n j : Nat) (h : j < n) : ((doneRow n j).set j 1).set j 2 = doneRow n (j + 1) := by
  rw [List.set_set]
  obtain ⟨m, hm⟩ : ∃ m, n - j = m + 1 := ⟨n - j - 1, by omega⟩
  rw [doneRow, List.set_append_right _ _ (by simp), List.length_replicate, Nat.sub_self, hm, List.replicate_succ, List.set_cons_zero, doneRow, show n - (j + 1) = m by omega, List.replicate_succ', List.append_assoc]
  rfl
theorem places_succ (j : Nat) : placesOf (j + 1) = placesOf j ++ [(j : Int)] := by rw [placesOf, List.range_succ, List.map_append]; rfl
theorem Own.pop {e : TypeId} {w : World} {B g c : Nat} {j : Int} (h : Own kInt e w none B (.slice (some ⟨g, 0, none⟩) 1 c) [j]) : Own kInt e w none B (.slice (some ⟨g, 0, none⟩) 0 c) [] := by
  refine Own.of_ints ?_ (fun _ _ => foot_none _ _)
  exact ownsRow_pop (n := 0) (xs := []) (last := [Value.int .i64 j]) rfl h.ints

set_option maxHeartbeats 4000000 in
set_option maxRecDepth 100000 in
theorem fast_bad (w : World) (v : Value) (nodes : List Node) (ins outs : List Port) (hN : NetV w v nodes ins outs) (hnl : nodes.length ≤ 1099511627776) (hil : ins.length ≤ 1073741824) (hol : outs.length ≤ 1073741824) (hf : formedB nodes ins outs = false) :
    Calls Try.prog 20 #[v] w fun e w' => e = .returned (.tuple #[.slice none 0 0, .bool false]) ∧ Below w.heap.size w w' := by
  obtain ⟨An, cn, Ai, ci, Ao, co, rfl, hbox⟩ := hN.box
  let ob := netBox (.slice An nodes.length cn) (.slice Ai ins.length ci) (.slice Ao outs.length co)
  obtain ⟨z0, z1, z2, hr1, hr2, hr3, hbw⟩ := hbox (w.alloc ob) (Below.refl _ _)
  have HR1 := Lib.hid hr1
  have HR2 := Lib.hid hr2
  have HR3 := Lib.hid hr3
  have HBW := Lib.hid hbw
  have HF := Lib.hid hf
  clear hbox hr1 hr2 hr3 hbw hf hN
  go_enter Try.func20, Try.ntmps20
  go_wp2_with fail
  refine (formed_ref _ _ _ _ nodes ins outs HR1.out.bare0 HR2.out.bare0 HR3.out.bare0 hnl hil hol).mono ?_
  rintro e w1 ⟨rfl, hb1⟩
  rw [HF.out]
  have HB := Lib.hid (HBW.out.trans (hb1.mono HBW.out.size))
  clear hb1
  go_wp2
  go_ret2
  exact ⟨rfl, HB.out⟩

attribute [local go_sem] max2_int min2_int max_two min_two in
set_option maxHeartbeats 8000000 in
set_option maxRecDepth 100000 in
theorem fast_ref (w : World) (S : Nat → Prop) (hS : There S w) (v : Value) (nodes : List Node) (ins outs : List Port) (hN : NetV w v nodes ins outs) (hnl : nodes.length ≤ 1099511627776) (hil : ins.length ≤ 1073741824) (hol : outs.length ≤ 1073741824)
    (hk : Ordered nodes) (hf : formedB nodes ins outs = true) :
    Calls Try.prog 20 #[v] w fun e w' => ∃ v', e = .returned (.tuple #[v', .bool true]) ∧ Row kInt w' S v' (placesOf nodes.length) ∧ Below w.heap.size w w' := by
  obtain ⟨An, cn, Ai, ci, Ao, co, rfl, hbox⟩ := hN.box
  let ob := netBox (.slice An nodes.length cn) (.slice Ai ins.length ci) (.slice Ao outs.length co)
  have hsz : (w.alloc ob).heap.size = w.heap.size + 1 := by simp
  obtain ⟨z0, z1, z2, hr1, hr2, hr3, -⟩ := hbox (w.alloc ob) (Below.refl _ _)
  have hmk := make_ints nodes.length hnl
  have HR1 := Lib.hid hr1
  have HR2 := Lib.hid hr2
  have HR3 := Lib.hid hr3
  have HF := Lib.hid hf
  have HBOX := Lib.hid hbox
  have HK := Lib.hid hk
  have HSZ := Lib.hid hsz
  clear hbox hr1 hr2 hr3 hf hN hk hsz
  go_enter Try.func20, Try.ntmps20
  go_wp2_with fail
  refine (formed_ref _ _ _ _ nodes ins outs HR1.out.bare0 HR2.out.bare0 HR3.out.bare0 hnl hil hol).mono ?_
  rintro e w1 ⟨rfl, hb1⟩
  rw [HF.out]
  rw [HSZ.out] at hb1
  have hg0 : w.heap.size + 1 ≤ w1.heap.size := by have := hb1.size; rw [HSZ.out] at this; exact this
  obtain ⟨z0a, -, -, -⟩ := HBOX.out _ hb1
  have HB1 := Lib.hid hb1
  clear z0 z1 z2 hb1
  let m1 := w1.alloc (.cells (madeCells #[.int .i64 0] nodes.length) 3)
  have hm1 : m1.heap.size = w1.heap.size + 1 := by simp [m1]
  have HM1 := Lib.hid (made_ints nodes.length hnl w1)
  have hk2 : Below m1.heap.size m1 ((m1.alloc (.cells #[] 3)).alloc (.cells #[] 3)) := ((Below.refl _ _).alloc (Nat.le_refl _) _).alloc (by simp) _
  have HM2 := Lib.hid (HM1.out.kept (Kept.of_below_all hk2 (FootIn.none _) (Nat.le_refl _)))
  have HO0 := Lib.hid ((Own.lit0 kInt 3 m1).kept (Kept.of_below_all ((Below.refl _ _).alloc (Nat.le_refl _) (.cells #[] 3)) (FootIn.none _) (Nat.le_refl _)))
  have HT0 := Lib.hid (Own.lit0 kInt 3 (m1.alloc (.cells #[] 3)))
  have HB2 := Lib.hid (((HB1.out.alloc hg0 (.cells (madeCells #[.int .i64 0] nodes.length) 3)).alloc (by simp; omega) (.cells #[] 3)).alloc (by simp; omega) (.cells #[] 3))
  clear hk2
  have hm2 : (m1.alloc (.cells #[] 3)).heap.size = w1.heap.size + 1 + 1 := by simp [hm1]
  rw [hm2] at HT0
  rw [hm1] at HO0
  go_wp2_with fail
  go_loopw [5, 6, 7] (fun vo vs i wr => ∃ j : Nat, j ≤ nodes.length ∧ i = .int .i64 j ∧ Own kInt 3 wr none w1.heap.size (.slice (some ⟨w1.heap.size, 0, none⟩) nodes.length nodes.length) (doneRow nodes.length j) ∧
      Own kInt 3 wr none (w1.heap.size + 1) vo (placesOf j) ∧ Own kInt 3 wr none (w1.heap.size + 1) vs [] ∧ (∀ g, vo.ownBlock = some g → vs.ownBlock ≠ some g) ∧ Below (w.heap.size + 1) (w.alloc ob) wr) (fun _ _ i _ => nodes.length - (intOf i).toNat)
  case atStart => exact ⟨0, Nat.zero_le _, rfl, by rw [doneRow_zero]; exact HM2.out, HO0.out, HT0.out.lower (by omega), (fun g hg he => by
    have hg := Option.some.inj hg; have he := Option.some.inj he; simp at hg he; omega), HB2.out⟩
  case round =>
    obtain ⟨wo, rfl⟩ : ∃ wo : World, wo = wr := ⟨_, rfl⟩
    obtain ⟨j, hj, rfl, hst, ho, hs, hd, hb⟩ := hrel
    obtain ⟨A5, c5, rfl, -, -⟩ := ho.shape
    obtain ⟨A6, c6, rfl, -, -⟩ := hs.shape
    clear z0a
    obtain ⟨z0, -, -, -, -, -, hbw⟩ := HBOX.out _ hb
    have HST := Lib.hid hst
    have HO := Lib.hid ho
    have HS0 := Lib.hid hs
    have HD := Lib.hid hd
    have HB := Lib.hid hb
    have HBW := Lib.hid hbw
    clear ho hs hd hb hbw
    by_cases hlt : j < nodes.length
    · obtain ⟨x0, x1⟩ := hst.cellAt? (doneRow_at nodes.length j hlt)
      have hsz0 : w1.heap.size + 1 ≤ wo.heap.size := (HST.out.base (g := w1.heap.size) rfl).2
      clear hst
      go_wp2_with (at_builtin; refine app1 kInt 3 26 (.int .i64 0) 8 rfl (.tmp 33) (.tmp 35) rfl Try.underlying26 infoInt rfl (by decide) (by decide) none (w1.heap.size + 1) HS0.out (FootIn.none _) hsz0 rfl (j : Int) [.int .i64 j] rfl rfl (by simp) ?_; intro v' w3 q1 q2 _ q4 q5 q6; have HST3 := Lib.hid (HST.out.other q5 q4 (.inr fun h => by have := (HS0.out.base (g := w1.heap.size) h.symm).1; omega) (fun _ _ h => h)); have HO3 := Lib.hid (HO.out.other q5 q4 (by
          rcases hv : (Value.slice A5 (placesOf j).length c5).ownBlock with _ | g
          · exact .inl rfl
          · exact .inr fun h => HD.out g hv h.symm) (fun _ _ h => h)); have HQ1 := Lib.hid q1; have HD3 := Lib.hid (show ∀ g, (Value.slice A5 (placesOf j).length c5).ownBlock = some g → v'.ownBlock ≠ some g from fun g hg he => by
          rcases q6 with h | ⟨b, h, hb⟩
          · exact HD.out g hg (h.symm.trans he)
          · rw [h] at he; have he := Option.some.inj he; subst he; have := (HO.out.base hg).2; omega); have HB3 := Lib.hid (HB.out.trans (q2.below.mono (by omega))); clear q1 q2 q4 q5 q6)
      clear x0 x1 z0
      go_loopw [5, 6] (fun vo vs wr => (Own kInt 3 wr none w1.heap.size (.slice (some ⟨w1.heap.size, 0, none⟩) nodes.length nodes.length) (doneRow nodes.length j) ∧
          Own kInt 3 wr none (w1.heap.size + 1) vo (placesOf j) ∧ Own kInt 3 wr none (w1.heap.size + 1) vs [(j : Int)] ∧ (∀ g, vo.ownBlock = some g → vs.ownBlock ≠ some g) ∧ Below (w.heap.size + 1) (w.alloc ob) wr) ∨
          (Own kInt 3 wr none w1.heap.size (.slice (some ⟨w1.heap.size, 0, none⟩) nodes.length nodes.length) (doneRow nodes.length (j + 1)) ∧
          Own kInt 3 wr none (w1.heap.size + 1) vo (placesOf (j + 1)) ∧ Own kInt 3 wr none (w1.heap.size + 1) vs [] ∧ (∀ g, vo.ownBlock = some g → vs.ownBlock ≠ some g) ∧ Below (w.heap.size + 1) (w.alloc ob) wr)) (fun _ vs _ => lenOf vs)
      case atStart => exact .inl ⟨HST3.out, HO3.out, HQ1.out, HD3.out, HB3.out⟩
      case round =>
        clear HST HO HS0 HD HB HBW HST3 HO3 HQ1 HD3 HB3
        rcases hrel with ⟨hst, ho, hs, hd, hb⟩ | ⟨hst, ho, hs, hd, hb⟩
        · obtain ⟨A7, c7, rfl, -, -⟩ := ho.shape
          obtain ⟨gs, c8, rfl, -, -⟩ := hs.form (by simp)
          obtain ⟨s0, s1⟩ := hs.cellAt? (i := 0) (r := (j : Int)) rfl
          obtain ⟨z0, -, -, hrn, -, -, -⟩ := HBOX.out _ hb
          obtain ⟨b, off, rfl, y0, y1, y2, y3⟩ := hrn.node_at hlt
          have HR := Lib.hid (HK.out j nodes[j] (by simp [hlt]))
          have HSwr := Lib.hid hst
          have HOwr := Lib.hid ho
          have HTwr := Lib.hid hs
          have HD := Lib.hid hd
          have HBwr := Lib.hid hb
          clear hst ho hs hd hb hrn
          generalize nodes[j] = x at *
          obtain ⟨kind, xa, xb, xc⟩ := x
          dsimp only at *
          have hszw : w1.heap.size + 1 ≤ wr.heap.size := (HSwr.out.base (g := w1.heap.size) rfl).2
          by_cases h7 : kind = 7
          · subst h7
            obtain ⟨x0, x1⟩ := HSwr.out.cellAt? (doneRow_at nodes.length j hlt)
            have hs1 := HSwr.out.store (FootIn.none _) (Nat.le_of_lt (HSwr.out.base (g := w1.heap.size) rfl).2) j 1
            have HS1 := Lib.hid hs1.1
            have HO1 := Lib.hid (HOwr.out.other hs1.2.1 hs1.2.2.2 (.inr fun h => by have := (HOwr.out.base (g := w1.heap.size) h).1; omega) (fun _ _ h => h))
            have HT1 := Lib.hid (HTwr.out.other hs1.2.1 hs1.2.2.2 (.inr fun h => by have := (HTwr.out.base (g := w1.heap.size) h).1; omega) (fun _ _ h => h))
            have HB1 := Lib.hid (HBwr.out.setCell (p := ⟨w1.heap.size, j, none⟩) hg0 (.int .i64 1))
            have hsb : w1.heap.size + 1 ≤ (wr.setCell ⟨w1.heap.size, j, none⟩ (.int .i64 1)).heap.size := (HS1.out.base (g := w1.heap.size) rfl).2
            have hpl : (placesOf j).length ≤ 1099511627776 := by rw [places_length]; omega
            have hss : (wr.setCell ⟨w1.heap.size, j, none⟩ (.int .i64 1)).heap.size = wr.heap.size := by simp
            clear hs1
            go_wp2_with (at_builtin; refine app1 kInt 3 26 (.int .i64 0) 8 rfl (.tmp 92) (.tmp 94) rfl Try.underlying26 infoInt rfl (by decide) (by decide) none (w1.heap.size + 1) HO1.out (FootIn.none _) hsb rfl (j : Int) [.int .i64 j] (by rw [hss]; rfl) rfl (by omega) ?_; intro v' w3 q1 q2 _ q4 q5 q6; have HS3 := Lib.hid (HS1.out.other q5 q4 (.inr fun h => by have := (HO1.out.base (g := w1.heap.size) h.symm).1; omega) (fun _ _ h => h)); have HT3 := Lib.hid (HT1.out.other q5 q4 (.inr fun h => HD.out _ h.symm rfl) (fun _ _ h => h)); have hat3 := HS3.out.cellAt? (doneRow_mid nodes.length j hlt); obtain ⟨u0, u1⟩ := hat3; have HQ1 := Lib.hid q1; have HQ6 := Lib.hid q6; have HB3 := Lib.hid (HB1.out.trans (q2.below.mono (by omega))); clear q1 q2 q4 q5 q6)
            have hs4 := HS3.out.store (FootIn.none _) (Nat.le_of_lt (HS3.out.base (g := w1.heap.size) rfl).2) j 2
            have HO4 := Lib.hid (HQ1.out.other hs4.2.1 hs4.2.2.2 (.inr fun h => by have := (HQ1.out.base (g := w1.heap.size) h).1; omega) (fun _ _ h => h))
            have HT4 := Lib.hid (HT3.out.other hs4.2.1 hs4.2.2.2 (.inr fun h => by have := (HT3.out.base (g := w1.heap.size) h).1; omega) (fun _ _ h => h)).pop
            have HB4 := Lib.hid (HB3.out.setCell (p := ⟨w1.heap.size, j, none⟩) hg0 (.int .i64 2))
            have HS4 := Lib.hid hs4.1
            rw [doneRow_succ nodes.length j hlt] at HS4
            clear hs4 u0 u1 x0 x1
            go_roundw
            case rel => exact .inr ⟨HS4.out, by rw [places_succ]; exact HO4.out, HT4.out, (fun g hg he => by
                have he := Option.some.inj he
                subst he
                rcases HQ6.out with h | ⟨b, h, hb⟩
                · exact HD.out _ (h.symm.trans hg) rfl
                · rw [h] at hg; have hg := Option.some.inj hg; subst hg; have := (HT1.out.base (g := b) rfl).2; omega), HB4.out⟩
            case measure => simp [lenOf]
          · have h7' : (kind == 7) = false := by simpa using h7
            go_wp2_with (go_at_call 94; refine (uses_ref _ (fun _ => False) (fun _ h => h.elim) ⟨kind, xa, xb, xc⟩).mono ?_; rintro e w2 ⟨vu, rfl, hru, hbu⟩; obtain ⟨A9, c9, rfl, -, -⟩ := hru.shape; have HRU := Lib.hid hru; have HSw2 := Lib.hid (HSwr.out.kept (Kept.of_below_all hbu (FootIn.none _) (Nat.le_refl _))); have HOw2 := Lib.hid (HOwr.out.kept (Kept.of_below_all hbu (FootIn.none _) (Nat.le_refl _))); have HTw2 := Lib.hid (HTwr.out.kept (Kept.of_below_all hbu (FootIn.none _) (Nat.le_refl _))); have HBw2 := Lib.hid (HBwr.out.trans (hbu.mono (by omega))); have HUS := Lib.hid (rightB_uses HR.out); clear hru hbu)
            have hul : (usesR ⟨kind, xa, xb, xc⟩).length ≤ 3 := by unfold usesR; simp; omega
            generalize usesR ⟨kind, xa, xb, xc⟩ = l at *
            clear z0 y0 y1 y2 y3 s0 s1
            go_loop [9, 11] (fun wt i => wt = .int .i64 (-1) ∧ ∃ q : Nat, q ≤ l.length ∧ i = .int .i64 q) (fun _ i => l.length - (intOf i).toNat)
            case atStart => exact ⟨rfl, 0, Nat.zero_le _, rfl⟩
            case round =>
              obtain ⟨rfl, q, hq, rfl⟩ := hrel
              by_cases hql : q < l.length
              · obtain ⟨b4, o4, rfl, l0⟩ := HRU.out.int_at hql
                have hu := HUS.out _ (List.getElem_mem hql)
                generalize l[q] = u at *
                obtain ⟨uu, rfl⟩ := Int.eq_ofNat_of_zero_le hu.1
                obtain ⟨t0, t1⟩ := HSw2.out.cellAt? (doneRow_lt nodes.length j uu (by omega))
                have hun : uu < nodes.length := by omega
                clear hu
                go_wp2
                go_round
                case rel => exact ⟨rfl, q + 1, by omega, by go_num⟩
                case measure => simp [intOf]; omega
              · obtain rfl : q = l.length := by omega
                have hszw2 : w1.heap.size + 1 ≤ w2.heap.size := (HSw2.out.base (g := w1.heap.size) rfl).2
                obtain ⟨x0, x1⟩ := HSw2.out.cellAt? (doneRow_at nodes.length j hlt)
                have hs1 := HSw2.out.store (FootIn.none _) (Nat.le_of_lt (HSw2.out.base (g := w1.heap.size) rfl).2) j 1
                have HS1 := Lib.hid hs1.1
                have HO1 := Lib.hid (HOw2.out.other hs1.2.1 hs1.2.2.2 (.inr fun h => by have := (HOw2.out.base (g := w1.heap.size) h).1; omega) (fun _ _ h => h))
                have HT1 := Lib.hid (HTw2.out.other hs1.2.1 hs1.2.2.2 (.inr fun h => by have := (HTw2.out.base (g := w1.heap.size) h).1; omega) (fun _ _ h => h))
                have HB1 := Lib.hid (HBw2.out.setCell (p := ⟨w1.heap.size, j, none⟩) hg0 (.int .i64 1))
                have hsb : w1.heap.size + 1 ≤ (w2.setCell ⟨w1.heap.size, j, none⟩ (.int .i64 1)).heap.size := (HS1.out.base (g := w1.heap.size) rfl).2
                have hpl : (placesOf j).length ≤ 1099511627776 := by rw [places_length]; omega
                have hss : (w2.setCell ⟨w1.heap.size, j, none⟩ (.int .i64 1)).heap.size = w2.heap.size := by simp
                clear hs1
                go_wp2_with (at_builtin; refine app1 kInt 3 26 (.int .i64 0) 8 rfl (.tmp 92) (.tmp 94) rfl Try.underlying26 infoInt rfl (by decide) (by decide) none (w1.heap.size + 1) HO1.out (FootIn.none _) hsb rfl (j : Int) [.int .i64 j] (by rw [hss]; rfl) rfl (by omega) ?_; intro v' w3 q1 q2 _ q4 q5 q6; have HS3 := Lib.hid (HS1.out.other q5 q4 (.inr fun h => by have := (HO1.out.base (g := w1.heap.size) h.symm).1; omega) (fun _ _ h => h)); have HT3 := Lib.hid (HT1.out.other q5 q4 (.inr fun h => HD.out _ h.symm rfl) (fun _ _ h => h)); have hat3 := HS3.out.cellAt? (doneRow_mid nodes.length j hlt); obtain ⟨u0, u1⟩ := hat3; have HQ1 := Lib.hid q1; have HQ6 := Lib.hid q6; have HB3 := Lib.hid (HB1.out.trans (q2.below.mono (by omega))); clear q1 q2 q4 q5 q6)
                have hs4 := HS3.out.store (FootIn.none _) (Nat.le_of_lt (HS3.out.base (g := w1.heap.size) rfl).2) j 2
                have HO4 := Lib.hid (HQ1.out.other hs4.2.1 hs4.2.2.2 (.inr fun h => by have := (HQ1.out.base (g := w1.heap.size) h).1; omega) (fun _ _ h => h))
                have HT4 := Lib.hid (HT3.out.other hs4.2.1 hs4.2.2.2 (.inr fun h => by have := (HT3.out.base (g := w1.heap.size) h).1; omega) (fun _ _ h => h)).pop
                have HB4 := Lib.hid (HB3.out.setCell (p := ⟨w1.heap.size, j, none⟩) hg0 (.int .i64 2))
                have HS4 := Lib.hid hs4.1
                rw [doneRow_succ nodes.length j hlt] at HS4
                clear hs4 u0 u1 x0 x1
                go_roundw
                case rel => exact .inr ⟨HS4.out, by rw [places_succ]; exact HO4.out, HT4.out, (fun g hg he => by
                    have he := Option.some.inj he
                    subst he
                    rcases HQ6.out with h | ⟨b, h, hb⟩
                    · exact HD.out _ (h.symm.trans hg) rfl
                    · rw [h] at hg; have hg := Option.some.inj hg; subst hg; have := (HT1.out.base (g := b) rfl).2; omega), HB4.out⟩
                case measure => simp [lenOf]
        · obtain ⟨A7, c7, rfl, -, -⟩ := ho.shape
          obtain ⟨A8, c8, rfl, -, -⟩ := hs.shape
          have HH := Lib.hid (And.intro hst (And.intro ho (And.intro hs (And.intro hd hb))))
          clear hst ho hs hd hb
          go_wp2
          go_roundw
          case rel => exact ⟨j + 1, by omega, by go_num, HH.out⟩
          case measure => simp [intOf]; omega
    · obtain rfl : j = nodes.length := by omega
      clear hst
      go_wp2
      go_ret2
      have hpl := places_length nodes.length
      exact ⟨_, rfl, HO.out.rowS S (fun g hg hs => by have h1 := (HO.out.base hg).1; have := hS g hs; omega), HBW.out⟩
end Go.Proofs.Ytdljgifoboiaeaa
