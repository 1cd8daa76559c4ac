/- slipstickref11.Count, Cone. -/
import Derived.Test.YtbfjacgfifecpaaSwF
namespace Go.Proofs.Ytbfjacgfifecpaa
open Go.RowKit

def Ind (l : List Bool) (n : Nat) (P : Nat → Prop) : Prop := l.length = n ∧ ∀ j, l.getD j false = true ↔ P j
theorem Ind.set {l : List Bool} {n : Nat} {P : Nat → Prop} (h : Ind l n P) {a : Nat} (ha : a < n) : Ind (l.set a true) n (fun j => P j ∨ j = a) := by
  refine ⟨by rw [List.length_set]; exact h.1, fun j => ?_⟩
  rw [getDB_set _ _ _ (by rw [h.1]; exact ha)]
  by_cases e : j = a
  · simp [e]
  · rw [if_neg e, h.2 j]; simp [e]
theorem Ind.congr {l : List Bool} {n : Nat} {P Q : Nat → Prop} (h : Ind l n P) (hq : ∀ j, P j ↔ Q j) : Ind l n Q := ⟨h.1, fun j => (h.2 j).trans (hq j)⟩
theorem Ind.zero (n : Nat) : Ind (List.replicate n false) n (fun _ => False) := ⟨by simp, fun j => by
  rw [List.getD_eq_getElem?_getD, List.getElem?_replicate]
  split <;> simp⟩
theorem Ind.setB {l : List Bool} {n : Nat} {P : Nat → Prop} (h : Ind l n P) {a : Nat} (ha : a < n) (hn : ¬ P a) (b : Bool) : Ind (l.set a b) n (fun j => P j ∨ (j = a ∧ b = true)) := by
  cases b with
  | true => simpa using h.set ha
  | false =>
    have he : l.set a false = l := by
      apply List.ext_getElem (by simp)
      intro i h1 h2
      rw [List.getElem_set]
      split
      · rename_i e; subst e
        have h3 := h.2 a
        rw [List.getD_eq_getElem?_getD, List.getElem?_eq_getElem h2, Option.getD_some] at h3
        cases hc : l[a] with
        | false => rfl
        | true => exact absurd (h3.1 hc) hn
      · rfl
    rw [he]
    simpa using h
theorem home_iff {nodes : List Node} {ins : List Port} (hb : homeB nodes ins = true) (hin : ∀ b ∈ ins.flatMap (·.bits), 0 ≤ b ∧ b < (nodes.length : Int)) (j : Nat) : kindAt nodes j = 1 ↔ j ∈ (ins.flatMap (·.bits)).map Int.toNat := by
  have hmem : j ∈ (ins.flatMap (·.bits)).map Int.toNat ↔ (j : Int) ∈ ins.flatMap (·.bits) := by
    rw [List.mem_map]
    constructor
    · rintro ⟨z, hz, rfl⟩
      have := hin z hz
      rwa [Int.toNat_of_nonneg this.1]
    · exact fun h => ⟨_, h, by simp⟩
  rw [hmem]
  rcases Nat.lt_or_ge j nodes.length with hj | hj
  · have h := List.all_eq_true.1 hb j (by simpa using hj)
    unfold homeAt wantK at h
    have h := of_decide_eq_true h
    by_cases hk : kindAt nodes j = 1
    · rw [if_pos hk] at h
      exact ⟨fun _ => List.count_pos_iff.1 (by omega), fun _ => hk⟩
    · rw [if_neg hk] at h
      exact ⟨fun h' => absurd h' hk, fun h' => by have := List.count_pos_iff.2 h'; omega⟩
  · constructor
    · intro h
      rw [kindAt, List.getElem?_eq_none hj] at h
      simp at h
    · intro h
      have := hin _ h
      omega

set_option maxHeartbeats 2000000 in
set_option maxRecDepth 4096 in
theorem countR_ref (w : World) (v : Value) (nodes : List Node) (ins outs : List Port) (hN : NetV w v nodes ins outs) (hF : Fits nodes ins outs) :
    Calls Try.prog 41 #[v] w fun e w' => ∃ v' l x, e = .returned (.tuple #[v', .int .i64 x]) ∧ Row kBool w' (fun _ => False) v' l ∧ CntOut nodes ins outs x l ∧ Below w.heap.size w w' := by
  obtain ⟨An, cn, Ai, ci, Ao, co, rfl, hbox⟩ := hN.box
  let ob := netBox (.slice An nodes.length cn) (.slice Ai ins.length ci) (.slice Ao outs.length co)
  obtain ⟨w1, hw1⟩ : ∃ w1, w1 = w.alloc ob := ⟨_, rfl⟩
  have hs1 : w1.heap.size = w.heap.size + 1 := by rw [hw1]; simp
  have hb01 : Below w.heap.size w w1 := by rw [hw1]; exact (Below.refl _ _).alloc (Nat.le_refl _) _
  rw [← hw1, ← hs1] at hbox
  obtain ⟨z0, z1, z2, -, -, -, -⟩ := hbox w1 (Below.refl _ _)
  have HC := Lib.hid (lev_ref w1 _ nodes ins outs (hN.later hb01) hF)
  have HBOX := Lib.hid hbox
  have HW1 := Lib.hid hw1
  have HN := Lib.hid (fun W (hW : Below w.heap.size w W) => hN.later hW)
  have hol := hF.ol
  have hnl := hF.nl
  have HQL := Lib.hid hF.bits
  clear hN hbox hs1 hb01 hw1 hF
  go_enter Try.func41, Try.ntmps41
  go_wp2_with fail
  rw [← HW1.out]
  go_wp2_with fail
  refine HC.out.mono ?_
  rintro e w2 ⟨v2, k, x, rfl, -, hl, hb2⟩
  have HL := Lib.hid hl
  have HB2 := Lib.hid hb2
  obtain ⟨y0, y1, y2, -, -, -, hbw⟩ := HBOX.out _ hb2
  have HBW2 := Lib.hid hbw
  clear hl hb2 HC z0 z1 z2 hbw
  by_cases hx : x = 0
  · subst hx
    have hez := errP_zero (HL.out.choose_spec.1.symm)
    have HFB := Lib.hid (formed_in hez.2.1)
    have hn62 : nodes.length ≤ 1073741824 := by omega
    have HH := Lib.hid (home_iff hez.2.2.2.2.1 (fun b hb => by
      obtain ⟨q, hq, hb⟩ := List.mem_flatMap.1 hb
      exact (HFB.out.2 q (List.mem_append_left _ hq)).2 b hb))
    have hmk := make_bools2 nodes.length hnl
    have HO3 := Lib.hid (made_bools nodes.length hnl w2)
    have hb23 : Below w2.heap.size w2 (w2.alloc (.cells (madeCells #[.bool false] nodes.length) 4)) := (Below.refl _ _).alloc (Nat.le_refl _) _
    have HB23 := Lib.hid hb23
    have HT2 := Lib.hid (fun W (hW : Below w2.heap.size w2 W) => HBOX.out W (HB2.out.trans (hW.mono HB2.out.size)))
    clear hb23 hez
    go_wp2_with fail
    clear y0 y1 y2
    go_loopw [7] (fun iv wr => ∃ i : Nat, iv = .int .i64 i ∧ i ≤ nodes.length ∧ Hid (∃ l, Own kBool 4 wr none w2.heap.size (.slice (some ⟨w2.heap.size, 0, none⟩) nodes.length nodes.length) l ∧ Ind l nodes.length (fun j => j < i ∧ kindAt nodes j = 1)) ∧ Hid (Below w2.heap.size w2 wr)) (fun iv _ => nodes.length - (intOf iv).toNat)
    case atStart => exact ⟨0, rfl, Nat.zero_le _, Lib.hid ⟨_, HO3.out, (Ind.zero _).congr fun j => by simp⟩, HB23⟩
    case round =>
      obtain ⟨i, rfl, hi, HE, HB⟩ := hrel
      obtain ⟨z0, z1, z2, hrn, -, -, -⟩ := HT2.out _ HB.out
      obtain ⟨l, hO, hI⟩ := HE.out
      by_cases hlt : i < nodes.length
      · obtain ⟨b, off, rfl, y0, y1, y2, y3⟩ := hrn.node_at hlt
        have hka := kindAt_eq (List.getElem?_eq_getElem hlt)
        obtain ⟨x, hxx⟩ : ∃ x, nodes[i] = x := ⟨_, rfl⟩
        rw [hxx] at y0 y1 y2 y3 hka
        obtain ⟨xk, xa, xb, xc⟩ := x
        dsimp only at y0 y1 y2 y3 hka
        have hil : i < l.length := by rw [hI.1]; exact hlt
        obtain ⟨c0, c1⟩ := hO.boolAt? (List.getElem?_eq_getElem hil)
        have HOS := Lib.hid (hO.storeBool i (xk == 1))
        have HIS : Hid (Ind (l.set i (xk == 1)) nodes.length (fun j => j < i + 1 ∧ kindAt nodes j = 1)) := Lib.hid ((hI.setB hlt (fun h => absurd h.1 (by omega)) (xk == 1)).congr fun j => by
          constructor
          · rintro (⟨h1, h2⟩ | ⟨rfl, h⟩)
            · exact ⟨by omega, h2⟩
            · exact ⟨by omega, by rw [hka]; simpa using h⟩
          · rintro ⟨h1, h2⟩
            rcases Nat.lt_or_ge j i with h | h
            · exact .inl ⟨h, h2⟩
            · obtain rfl : j = i := by omega
              exact .inr ⟨rfl, by rw [hka] at h2; simpa using h2⟩)
        have HBS := Lib.hid (HB.out.setCell (p := ⟨w2.heap.size, i, none⟩) (Nat.le_refl _) (.bool (xk == 1)))
        clear hO hI hrn hka hxx HE
        go_wp2_with fail
        refine ⟨⟨i + 1, by go_num, by omega, Lib.hid ⟨_, HOS.out, HIS.out⟩, HBS⟩, ?_⟩
        simp [intOf]; omega
      · obtain rfl : i = nodes.length := by omega
        have HE2 : Hid (∃ l, Own kBool 4 wr none w2.heap.size (.slice (some ⟨w2.heap.size, 0, none⟩) nodes.length nodes.length) l ∧ Ind l nodes.length (fun j => kindAt nodes j = 1 ∨ j ∈ ((outs.take 0).flatMap (·.bits)).map Int.toNat)) := Lib.hid ⟨l, hO, hI.congr fun j => by
          rcases Nat.lt_or_ge j nodes.length with h | h
          · simp [h]
          · rw [kindAt, List.getElem?_eq_none h]; simp⟩
        clear hrn hO hI HE z0 z1 hlt hi
        go_wp2_with fail
        go_loopw [8] (fun iv wr => ∃ i : Nat, iv = .int .i64 i ∧ i ≤ outs.length ∧ Hid (∃ l, Own kBool 4 wr none w2.heap.size (.slice (some ⟨w2.heap.size, 0, none⟩) nodes.length nodes.length) l ∧ Ind l nodes.length (fun j => kindAt nodes j = 1 ∨ j ∈ ((outs.take i).flatMap (·.bits)).map Int.toNat)) ∧ Hid (Below w2.heap.size w2 wr)) (fun iv _ => outs.length - (intOf iv).toNat)
        case atStart => exact ⟨0, rfl, Nat.zero_le _, HE2, HB⟩
        case round =>
          clear HE2 HB z2
          obtain ⟨i, rfl, hi, HE, HB⟩ := hrel
          obtain ⟨z0, z1, z2, -, -, hro, -⟩ := HT2.out _ HB.out
          by_cases hlt : i < outs.length
          · clear hro
            go_wp2_with fail
            obtain ⟨wo, hwo⟩ : ∃ wo, wo = wr := ⟨_, rfl⟩
            subst hwo
            have HM := Lib.hid (List.getElem_mem hlt)
            have HFT := Lib.hid (flatMap_take hlt)
            have HAT := Lib.hid (List.getElem?_eq_getElem hlt)
            obtain ⟨q, hq⟩ : ∃ q, outs[i] = q := ⟨_, rfl⟩
            rw [hq] at HM HFT HAT
            obtain ⟨s, bs⟩ := q
            dsimp only at HFT
            have HQB := Lib.hid (HFB.out.2 _ (List.mem_append_right _ HM.out)).2
            have hbl := HQL.out _ (List.mem_append_right _ HM.out)
            dsimp only at hbl
            go_loopw [9] (fun kv wr => ∃ k : Nat, kv = .int .i64 k ∧ k ≤ bs.length ∧ Hid (∃ l, Own kBool 4 wr none w2.heap.size (.slice (some ⟨w2.heap.size, 0, none⟩) nodes.length nodes.length) l ∧ Ind l nodes.length (fun j => kindAt nodes j = 1 ∨ j ∈ ((outs.take i).flatMap (·.bits) ++ bs.take k).map Int.toNat)) ∧ Hid (Below w2.heap.size w2 wr)) (fun kv _ => bs.length - (intOf kv).toNat)
            case atStart => exact ⟨0, rfl, Nat.zero_le _, by rw [List.take_zero, List.append_nil]; exact HE, HB⟩
            case round =>
              clear HE HB z0 z1 z2
              obtain ⟨k, rfl, hk, HE, HB⟩ := hrel
              obtain ⟨z0, z1, z2, -, -, hro, -⟩ := HT2.out _ HB.out
              obtain ⟨b, off, A3, d3, rfl, y0, y1, hxb⟩ := hro.port_at hlt
              rw [hq] at y0 y1 hxb
              dsimp only at y0 y1 hxb
              obtain ⟨l, hO, hI⟩ := HE.out
              by_cases hkt : k < bs.length
              · obtain ⟨b2, off2, rfl, x0⟩ := hxb.int_at hkt
                have HT := Lib.hid (List.take_succ_eq_append_getElem hkt)
                have hm := HQB.out _ (List.getElem_mem hkt)
                obtain ⟨a, ha⟩ := Int.eq_ofNat_of_zero_le hm.1
                rw [ha] at hm x0 HT
                have han : a < nodes.length := by omega
                have hil : a < l.length := by rw [hI.1]; exact han
                obtain ⟨c0, c1⟩ := hO.boolAt? (List.getElem?_eq_getElem hil)
                have HOS := Lib.hid (hO.storeBool a true)
                have HIS : Hid (Ind (l.set a true) nodes.length (fun j => kindAt nodes j = 1 ∨ j ∈ ((outs.take i).flatMap (·.bits) ++ bs.take (k + 1)).map Int.toNat)) := Lib.hid ((hI.set han).congr fun j => by
                  rw [HT.out]
                  simp only [List.map_append, List.mem_append, List.map_cons, List.map_nil, List.mem_singleton, Int.toNat_natCast]
                  simp only [or_assoc])
                have HBS := Lib.hid (HB.out.setCell (p := ⟨w2.heap.size, a, none⟩) (Nat.le_refl _) (.bool true))
                clear hO hI hro hxb ha HE
                go_wp2_with fail
                refine ⟨⟨k + 1, by go_num, by omega, Lib.hid ⟨_, HOS.out, HIS.out⟩, HBS⟩, ?_⟩
                simp [intOf]; omega
              · obtain rfl : k = bs.length := by omega
                have HE3 : Hid (∃ l, Own kBool 4 wr none w2.heap.size (.slice (some ⟨w2.heap.size, 0, none⟩) nodes.length nodes.length) l ∧ Ind l nodes.length (fun j => kindAt nodes j = 1 ∨ j ∈ ((outs.take (i + 1)).flatMap (·.bits)).map Int.toNat)) := by
                  have h := HE.out
                  rw [List.take_length, ← HFT.out] at h
                  exact Lib.hid h
                clear hro hxb hO hI HE
                go_wp2_with fail
                refine ⟨⟨i + 1, by go_num, by omega, HE3, HB⟩, ?_⟩
                simp [intOf]; omega
          · obtain rfl : i = outs.length := by omega
            obtain ⟨l, hO, hI⟩ := HE.out
            rw [List.take_length] at hI
            have HI := Lib.hid hI
            have HC := Lib.hid (grow_ref w2 wr (.agg #[.slice An nodes.length cn, .slice Ai ins.length ci, .slice Ao outs.length co]) nodes ins outs (HN.out _ HBW2.out) HB.out _ _ l hO hI.1 hn62 HFB.out.1)
            clear hro hO hI HE
            go_wp2_with fail
            refine HC.out.mono ?_
            rintro e w6 ⟨rfl, ho6, hb6, -⟩
            have HR6 := Lib.hid ho6.boolsFree
            have HB6 := Lib.hid (HBW2.out.trans (hb6.mono HBW2.out.size))
            clear ho6 hb6 HC z0 z1 z2
            go_wp2
            go_ret2
            refine ⟨_, _, 0, rfl, HR6.out, ⟨⟨_, HL.out⟩, fun _ => ?_, fun h => absurd rfl h⟩, HB6.out⟩
            refine grow_is (inU_of HFB.out.1) HI.out.1 fun j => (HI.out.2 j).trans ?_
            show kindAt nodes j = 1 ∨ j ∈ (outs.flatMap (·.bits)).map Int.toNat ↔ _
            rw [HH.out j, frC, List.flatMap_append, List.map_append, List.mem_append, or_comm]
  · go_wp2
    go_ret2
    exact ⟨_, [], x, rfl, nilRowBool _ _, ⟨⟨_, HL.out⟩, fun h => absurd h hx, fun _ => rfl⟩, HBW2.out⟩
end Go.Proofs.Ytbfjacgfifecpaa
