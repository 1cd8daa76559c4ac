/- Joined texts: SwF, SwG, SwH. -/
import Derived.Test.YtbfjacgfifecpaaJReach
import Derived.Test.YtbfjacgfifecpaaJNE

/-! ## slipstickref11.grow. -/
namespace Go.Proofs.Ytbfjacgfifecpaa
open Go.RowKit

abbrev isg (g i : Nat) : Prop := i = g
theorem Same.refl' (S : Nat → Prop) (w : World) : Same S w w := ⟨Nat.le_refl _, fun _ _ _ => rfl⟩
theorem Same.trans' {S : Nat → Prop} {a b c : World} (h : Same S a b) (k : Same S b c) : Same S a c := ⟨Nat.le_trans h.1 k.1, fun i hi hn => (k.2 i (Nat.lt_of_lt_of_le hi h.1) hn).trans (h.2 i hi hn)⟩
theorem Same.below' {S : Nat → Prop} {a b : World} (h : Below a.heap.size a b) : Same S a b := ⟨h.size, fun i hi _ => h.block i hi⟩
theorem Same.store' {g : Nat} (w : World) (j : Nat) (u : Value) : Same (isg g) w (w.setCell ⟨g, j, none⟩ u) := ⟨by simp, fun i _ hn => heap_setCell_other _ ⟨g, j, none⟩ i _ hn⟩
theorem Same.cell' {S : Nat → Prop} {w w' : World} (h : Same S w w') {b j : Nat} (hb : b < w.heap.size) (hn : ¬ S b) {u : Value} (hc : w.cell? ⟨b, j, none⟩ = some u) : w'.cell? ⟨b, j, none⟩ = some u := (World.cell?_of_block (h.2 b hb hn)).trans hc
theorem setU_snoc (l : List Bool) (us : List Nat) (a : Nat) : setU l (us ++ [a]) = (setU l us).set a true := by simp [setU]

set_option maxHeartbeats 2000000 in
set_option maxRecDepth 4096 in
theorem grow_ref (w0 w : World) (v : Value) (nodes : List Node) (ins outs : List Port) (hN : NetV w0 v nodes ins outs) (hB : Below w0.heap.size w0 w) (g n : Nat) (l : List Bool) (hO : Own kBool 4 w none w0.heap.size (.slice (some ⟨g, 0, none⟩) n n) l)
    (hl : l.length = nodes.length) (hnl : nodes.length ≤ 1073741824) (hin : ∀ x ∈ nodes, ∀ u ∈ usesR x, 0 ≤ u ∧ u < nodes.length) :
    Calls Try.prog 78 #[v, .slice (some ⟨g, 0, none⟩) n n] w fun e w' => e = .returned (.slice (some ⟨g, 0, none⟩) n n) ∧ Own kBool 4 w' none w0.heap.size (.slice (some ⟨g, 0, none⟩) n n) (grow nodes (nodes.length + 1) l) ∧ Below w0.heap.size w0 w' ∧ Same (isg g) w w' := by
  obtain ⟨An, cn, Ai, ci, Ao, co, rfl, hbox⟩ := (hN.later hB).box
  let ob := netBox (.slice An nodes.length cn) (.slice Ai ins.length ci) (.slice Ao outs.length co)
  obtain ⟨w1, hw1⟩ : ∃ w1, w1 = w.alloc ob := ⟨_, rfl⟩
  have hs1 : w1.heap.size = w.heap.size + 1 := by rw [hw1]; simp
  have hb01 : Below w.heap.size w w1 := by rw [hw1]; exact (Below.refl _ _).alloc (Nat.le_refl _) _
  rw [← hw1, ← hs1] at hbox
  obtain ⟨z0, -, -, -, -, -, -⟩ := hbox w1 (Below.refl _ _)
  have hgb := hO.base (g := g) rfl
  obtain rfl : n = nodes.length := by rw [← hl]; obtain ⟨_, _, he, _⟩ := hO.shape; injection he
  have HZ := Lib.hid (fun W (hW : Same (isg g) w1 W) => hW.cell' (by omega) (by show ¬ (w.heap.size = g); omega) z0)
  have HN := Lib.hid (fun W (hW : Below w0.heap.size w0 W) => hN.later hW)
  have HO1 := Lib.hid (hO.kept (Kept.of_below_all hb01 (FootIn.none _) (Nat.le_refl _)))
  have HB1 := Lib.hid (hB.trans (hb01.mono hB.size))
  have HW1 := Lib.hid hw1
  have HIN := Lib.hid hin
  have HINU := Lib.hid (inU_of hin)
  have HL := Lib.hid hl
  have HGB := Lib.hid hgb
  have HW01 := Lib.hid (Same.below' (S := isg g) hb01)
  clear hN hbox hs1 hb01 hw1 hO hgb hl hB hin
  go_enter Try.func78, Try.ntmps78
  go_wp2_with fail
  rw [← HW1.out]
  go_loopw [5] (fun rv wr => ∃ r : Nat, rv = .int .i64 r ∧ r ≤ nodes.length + 1 ∧ Hid (Own kBool 4 wr none w0.heap.size (.slice (some ⟨g, 0, none⟩) nodes.length nodes.length) (grow nodes r l)) ∧ Hid (Below w0.heap.size w0 wr) ∧ Hid (Same (isg g) w1 wr)) (fun rv _ => nodes.length + 1 - (intOf rv).toNat)
  case atStart => exact ⟨0, rfl, Nat.zero_le _, HO1, HB1, Lib.hid (Same.refl' _ _)⟩
  case round =>
    clear HO1 HB1 z0
    obtain ⟨r, rfl, hr, HO, HB, HS⟩ := hrel
    have z0 := HZ.out _ HS.out
    by_cases hlt : r ≤ nodes.length
    · go_wp2_with fail
      obtain ⟨wo, hwo⟩ : ∃ wo, wo = wr := ⟨_, rfl⟩
      subst hwo
      go_loopw [6] (fun iv wp => ∃ i : Nat, iv = .int .i64 i ∧ i ≤ nodes.length ∧ Hid (Own kBool 4 wp none w0.heap.size (.slice (some ⟨g, 0, none⟩) nodes.length nodes.length) (grU nodes i (grow nodes r l))) ∧ Hid (Below w0.heap.size w0 wp) ∧ Hid (Same (isg g) w1 wp)) (fun iv _ => nodes.length - (intOf iv).toNat)
      case atStart => exact ⟨0, rfl, Nat.zero_le _, HO, HB, HS⟩
      case round =>
        clear HO HB HS z0
        obtain ⟨i, rfl, hi, HO, HB, HS⟩ := hrel
        have z0 := HZ.out _ HS.out
        by_cases hit : i < nodes.length
        · obtain ⟨vn, vi, vo, he, hrn, -, -⟩ := HN.out _ HB.out
          simp only [Value.agg.injEq, Array.mk.injEq, List.cons.injEq, and_true] at he
          obtain ⟨rfl, -, -⟩ := he
          obtain ⟨b, off, rfl, y0, y1, y2, y3⟩ := hrn.node_at hit
          have hua : useI nodes i = (usesR nodes[i]).map Int.toNat := useI_at (List.getElem?_eq_getElem hit)
          have hiu := HIN.out _ (List.getElem_mem hit)
          have hul : (usesR nodes[i]).length ≤ 3 := by simp [usesR]; omega
          obtain ⟨x, hxx⟩ : ∃ x, nodes[i] = x := ⟨_, rfl⟩
          rw [hxx] at y0 y1 y2 y3 hua hiu hul
          clear hxx hrn
          have HU := Lib.hid (uses_ref wr (isg g) (fun j hj => by have := HGB.out; have := HS.out.1; have := HW01.out.1; show j < _; rw [show j = g from hj]; omega) x)
          obtain ⟨xk, xa, xb, xc⟩ := x
          dsimp only at y0 y1 y2 y3
          have HUA := Lib.hid hua
          have HIU := Lib.hid hiu
          have HUL := Lib.hid hul
          obtain ⟨cur, hcur⟩ : ∃ cur, grU nodes i (grow nodes r l) = cur := ⟨_, rfl⟩
          have HNX := Lib.hid (show grU nodes (i + 1) (grow nodes r l) = if cur.getD i false = true then setU cur (useI nodes i) else cur by rw [grU_succ, hcur, gr1])
          have hcl : cur.length = nodes.length := by rw [← hcur, grU_length, grow_length, HL.out]
          rw [hcur] at HO
          have HCL := Lib.hid hcl
          clear hua hiu hul hcur hcl
          go_wp2_with fail
          refine HU.out.mono ?_
          rintro e w4 ⟨v4, rfl, hr4, hb4⟩
          obtain ⟨us, hus⟩ : ∃ us, useI nodes i = us := ⟨_, rfl⟩
          have HUN := Lib.hid (show ∀ a ∈ us, a < nodes.length from fun a ha => HINU.out i a (by rw [hus]; exact ha))
          have hnu : usesR ⟨xk, xa, xb, xc⟩ = nats us := by rw [← hus, HUA.out, nats_toNat (fun u hu => (HIU.out u hu).1)]
          have hul : us.length ≤ 3 := by have := HUL.out; rw [hnu, List.length_map] at this; exact this
          rw [hnu] at hr4
          rw [hus] at HNX
          obtain ⟨A4, c4, he4, -, -⟩ := hr4.shape
          rw [List.length_map] at he4
          subst he4
          have HR4 := Lib.hid hr4
          have HO4 := Lib.hid (HO.out.kept (Kept.of_below_all hb4 (FootIn.none _) (Nat.le_refl _)))
          have HB4 := Lib.hid (HB.out.trans (hb4.mono HB.out.size))
          have HS4 := Lib.hid (HS.out.trans' (Same.below' hb4))
          clear hr4 hb4 HU HUA HIU HUL hus hnu y0 y1 y2 y3 z0
          go_wp2_with fail
          obtain ⟨b0, hb0⟩ : ∃ b0, cur.getD i false = b0 := ⟨_, rfl⟩
          rw [hb0] at HNX
          have HB0 := Lib.hid hb0
          clear hb0
          obtain ⟨wo2, hwo2⟩ : ∃ wo2, wo2 = wr := ⟨_, rfl⟩
          subst hwo2
          go_loopw [8] (fun kv wq => ∃ k : Nat, kv = .int .i64 k ∧ k ≤ us.length ∧ (b0 = false → k = 0) ∧ Hid (Own kBool 4 wq none w0.heap.size (.slice (some ⟨g, 0, none⟩) nodes.length nodes.length) (setU cur (us.take k))) ∧ Hid (Below w0.heap.size w0 wq) ∧ Hid (Same (isg g) w1 wq) ∧ Hid (Same (isg g) w4 wq)) (fun kv _ => us.length - (intOf kv).toNat)
          case atStart => exact ⟨0, rfl, Nat.zero_le _, fun _ => rfl, by simpa [setU] using HO4, HB4, HS4, Lib.hid (Same.refl' _ _)⟩
          case round =>
            clear HO HB HS HO4 HB4 HS4
            obtain ⟨k, rfl, hk, hk0, HO, HB, HS, HSS⟩ := hrel
            have hgl := HGB.out
            by_cases hkt : k < us.length
            · have hcell : (setU cur (us.take k))[i]? = some b0 := by
                have hl2 : i < (setU cur (us.take k)).length := by rw [setU_length, HCL.out]; exact hit
                have h1 := setU_at (us.take k) cur (fun a ha => by rw [HCL.out]; exact HUN.out a (List.mem_of_mem_take ha)) i
                rw [List.getD_eq_getElem?_getD, List.getElem?_eq_getElem hl2, Option.getD_some] at h1
                rw [List.getElem?_eq_getElem hl2, h1, HB0.out]
                cases hbb : b0 with
                | true => simp
                | false => rw [hk0 hbb]; simp
              obtain ⟨c0, c1⟩ := HO.out.boolAt? hcell
              cases hbb : b0 with
              | true =>
                rw [hbb] at c0
                obtain ⟨b2, off2, rfl, x0⟩ := (HR4.out.keep (S' := fun _ => False) HSS.out (fun _ _ h => h.elim)).int_at (by simpa using hkt)
                have HT := Lib.hid (List.take_succ_eq_append_getElem hkt)
                have hm := HUN.out _ (List.getElem_mem hkt)
                have x0' : wr.cell? ⟨b2, off2 + k, none⟩ = some (.int .i64 ((us[k] : Nat) : Int)) := by simpa using x0
                obtain ⟨a, ha⟩ : ∃ a, us[k] = a := ⟨_, rfl⟩
                rw [ha] at x0' HT hm
                have hal : a < (setU cur (us.take k)).length := by rw [setU_length, HCL.out]; exact hm
                obtain ⟨d0, d1⟩ := HO.out.boolAt? (List.getElem?_eq_getElem hal)
                have HOS := Lib.hid (HO.out.storeBool a true)
                rw [← setU_snoc, ← HT.out] at HOS
                have HBS := Lib.hid (HB.out.setCell (p := ⟨g, a, none⟩) hgl.1 (.bool true))
                clear ha x0 hcell hk0 hbb
                go_wp2_with fail
                refine ⟨⟨k + 1, by go_num, by omega, by simp, HOS, HBS, Lib.hid (HS.out.trans' (Same.store' _ _ _)), Lib.hid (HSS.out.trans' (Same.store' _ _ _))⟩, ?_⟩
                simp [intOf]; omega
              | false =>
                rw [hbb] at c0
                rw [hbb] at HNX
                obtain rfl := hk0 hbb
                have HON : Hid (Own kBool 4 wr none w0.heap.size (.slice (some ⟨g, 0, none⟩) nodes.length nodes.length) (grU nodes (i + 1) (grow nodes r l))) := by rw [HNX.out]; exact HO
                clear hcell
                go_wp2_with fail
                refine ⟨⟨i + 1, by go_num, by omega, HON, HB, HS⟩, ?_⟩
                simp [intOf]; omega
            · obtain rfl : k = us.length := by omega
              rw [List.take_length] at HO
              have HON : Hid (Own kBool 4 wr none w0.heap.size (.slice (some ⟨g, 0, none⟩) nodes.length nodes.length) (grU nodes (i + 1) (grow nodes r l))) := by
                rw [HNX.out]
                cases hbb : b0 with
                | true => exact HO
                | false => rw [List.length_eq_zero_iff.1 (hk0 hbb)] at HO; exact HO
              clear hk0
              go_wp2_with fail
              refine ⟨⟨i + 1, by go_num, by omega, HON, HB, HS⟩, ?_⟩
              simp [intOf]; omega
        · obtain rfl : i = nodes.length := by omega
          go_wp2_with fail
          refine ⟨⟨r + 1, by go_num, by omega, HO, HB, HS⟩, ?_⟩
          simp [intOf]; omega
    · obtain rfl : r = nodes.length + 1 := by omega
      go_wp2
      go_ret
      exact ⟨rfl, HO.out, HB.out, HW01.out.trans' HS.out⟩
end Go.Proofs.Ytbfjacgfifecpaa

/-! ## slipstickref11.Count, Cone. -/
namespace Go.Proofs.Ytbfjacgfifecpaa
open Go.RowKit

def Ind (l : List Bool) (n : Nat) (P : Nat → Prop) : Prop := l.length = n ∧ ∀ j, l.getD j false = true ↔ P j
theorem Ind.set {l : List Bool} {n : Nat} {P : Nat → Prop} (h : Ind l n P) {a : Nat} (ha : a < n) : Ind (l.set a true) n (fun j => P j ∨ j = a) := by
  refine ⟨by rw [List.length_set]; exact h.1, fun j => ?_⟩
  rw [getDB_set _ _ _ (by rw [h.1]; exact ha)]
  by_cases e : j = a
  · simp [e]
  · rw [if_neg e, h.2 j]; simp [e]
theorem Ind.congr {l : List Bool} {n : Nat} {P Q : Nat → Prop} (h : Ind l n P) (hq : ∀ j, P j ↔ Q j) : Ind l n Q := ⟨h.1, fun j => (h.2 j).trans (hq j)⟩
theorem Ind.zero (n : Nat) : Ind (List.replicate n false) n (fun _ => False) := ⟨by simp, fun j => by
  rw [List.getD_eq_getElem?_getD, List.getElem?_replicate]
  split <;> simp⟩
theorem Ind.setB {l : List Bool} {n : Nat} {P : Nat → Prop} (h : Ind l n P) {a : Nat} (ha : a < n) (hn : ¬ P a) (b : Bool) : Ind (l.set a b) n (fun j => P j ∨ (j = a ∧ b = true)) := by
  cases b with
  | true => simpa using h.set ha
  | false =>
    have he : l.set a false = l := by
      apply List.ext_getElem (by simp)
      intro i h1 h2
      rw [List.getElem_set]
      split
      · rename_i e; subst e
        have h3 := h.2 a
        rw [List.getD_eq_getElem?_getD, List.getElem?_eq_getElem h2, Option.getD_some] at h3
        cases hc : l[a] with
        | false => rfl
        | true => exact absurd (h3.1 hc) hn
      · rfl
    rw [he]
    simpa using h
theorem home_iff {nodes : List Node} {ins : List Port} (hb : homeB nodes ins = true) (hin : ∀ b ∈ ins.flatMap (·.bits), 0 ≤ b ∧ b < (nodes.length : Int)) (j : Nat) : kindAt nodes j = 1 ↔ j ∈ (ins.flatMap (·.bits)).map Int.toNat := by
  have hmem : j ∈ (ins.flatMap (·.bits)).map Int.toNat ↔ (j : Int) ∈ ins.flatMap (·.bits) := by
    rw [List.mem_map]
    constructor
    · rintro ⟨z, hz, rfl⟩
      have := hin z hz
      rwa [Int.toNat_of_nonneg this.1]
    · exact fun h => ⟨_, h, by simp⟩
  rw [hmem]
  rcases Nat.lt_or_ge j nodes.length with hj | hj
  · have h := List.all_eq_true.1 hb j (by simpa using hj)
    unfold homeAt wantK at h
    have h := of_decide_eq_true h
    by_cases hk : kindAt nodes j = 1
    · rw [if_pos hk] at h
      exact ⟨fun _ => List.count_pos_iff.1 (by omega), fun _ => hk⟩
    · rw [if_neg hk] at h
      exact ⟨fun h' => absurd h' hk, fun h' => by have := List.count_pos_iff.2 h'; omega⟩
  · constructor
    · intro h
      rw [kindAt, List.getElem?_eq_none hj] at h
      simp at h
    · intro h
      have := hin _ h
      omega

set_option maxHeartbeats 2000000 in
set_option maxRecDepth 4096 in
theorem countR_ref (w : World) (v : Value) (nodes : List Node) (ins outs : List Port) (hN : NetV w v nodes ins outs) (hF : Fits nodes ins outs) :
    Calls Try.prog 41 #[v] w fun e w' => ∃ v' l x, e = .returned (.tuple #[v', .int .i64 x]) ∧ Row kBool w' (fun _ => False) v' l ∧ CntOut nodes ins outs x l ∧ Below w.heap.size w w' := by
  obtain ⟨An, cn, Ai, ci, Ao, co, rfl, hbox⟩ := hN.box
  let ob := netBox (.slice An nodes.length cn) (.slice Ai ins.length ci) (.slice Ao outs.length co)
  obtain ⟨w1, hw1⟩ : ∃ w1, w1 = w.alloc ob := ⟨_, rfl⟩
  have hs1 : w1.heap.size = w.heap.size + 1 := by rw [hw1]; simp
  have hb01 : Below w.heap.size w w1 := by rw [hw1]; exact (Below.refl _ _).alloc (Nat.le_refl _) _
  rw [← hw1, ← hs1] at hbox
  obtain ⟨z0, z1, z2, -, -, -, -⟩ := hbox w1 (Below.refl _ _)
  have HC := Lib.hid (lev_ref w1 _ nodes ins outs (hN.later hb01) hF)
  have HBOX := Lib.hid hbox
  have HW1 := Lib.hid hw1
  have HN := Lib.hid (fun W (hW : Below w.heap.size w W) => hN.later hW)
  have hol := hF.ol
  have hnl := hF.nl
  have HQL := Lib.hid hF.bits
  clear hN hbox hs1 hb01 hw1 hF
  go_enter Try.func41, Try.ntmps41
  go_wp2_with fail
  rw [← HW1.out]
  go_wp2_with fail
  refine HC.out.mono ?_
  rintro e w2 ⟨v2, k, x, rfl, -, hl, hb2⟩
  have HL := Lib.hid hl
  have HB2 := Lib.hid hb2
  obtain ⟨y0, y1, y2, -, -, -, hbw⟩ := HBOX.out _ hb2
  have HBW2 := Lib.hid hbw
  clear hl hb2 HC z0 z1 z2 hbw
  by_cases hx : x = 0
  · subst hx
    have hez := errP_zero (HL.out.choose_spec.1.symm)
    have HFB := Lib.hid (formed_in hez.2.1)
    have hn62 : nodes.length ≤ 1073741824 := by omega
    have HH := Lib.hid (home_iff hez.2.2.2.2.1 (fun b hb => by
      obtain ⟨q, hq, hb⟩ := List.mem_flatMap.1 hb
      exact (HFB.out.2 q (List.mem_append_left _ hq)).2 b hb))
    have hmk := make_bools2 nodes.length hnl
    have HO3 := Lib.hid (made_bools nodes.length hnl w2)
    have hb23 : Below w2.heap.size w2 (w2.alloc (.cells (madeCells #[.bool false] nodes.length) 4)) := (Below.refl _ _).alloc (Nat.le_refl _) _
    have HB23 := Lib.hid hb23
    have HT2 := Lib.hid (fun W (hW : Below w2.heap.size w2 W) => HBOX.out W (HB2.out.trans (hW.mono HB2.out.size)))
    clear hb23 hez
    go_wp2_with fail
    clear y0 y1 y2
    go_loopw [7] (fun iv wr => ∃ i : Nat, iv = .int .i64 i ∧ i ≤ nodes.length ∧ Hid (∃ l, Own kBool 4 wr none w2.heap.size (.slice (some ⟨w2.heap.size, 0, none⟩) nodes.length nodes.length) l ∧ Ind l nodes.length (fun j => j < i ∧ kindAt nodes j = 1)) ∧ Hid (Below w2.heap.size w2 wr)) (fun iv _ => nodes.length - (intOf iv).toNat)
    case atStart => exact ⟨0, rfl, Nat.zero_le _, Lib.hid ⟨_, HO3.out, (Ind.zero _).congr fun j => by simp⟩, HB23⟩
    case round =>
      obtain ⟨i, rfl, hi, HE, HB⟩ := hrel
      obtain ⟨z0, z1, z2, hrn, -, -, -⟩ := HT2.out _ HB.out
      obtain ⟨l, hO, hI⟩ := HE.out
      by_cases hlt : i < nodes.length
      · obtain ⟨b, off, rfl, y0, y1, y2, y3⟩ := hrn.node_at hlt
        have hka := kindAt_eq (List.getElem?_eq_getElem hlt)
        obtain ⟨x, hxx⟩ : ∃ x, nodes[i] = x := ⟨_, rfl⟩
        rw [hxx] at y0 y1 y2 y3 hka
        obtain ⟨xk, xa, xb, xc⟩ := x
        dsimp only at y0 y1 y2 y3 hka
        have hil : i < l.length := by rw [hI.1]; exact hlt
        obtain ⟨c0, c1⟩ := hO.boolAt? (List.getElem?_eq_getElem hil)
        have HOS := Lib.hid (hO.storeBool i (xk == 1))
        have HIS : Hid (Ind (l.set i (xk == 1)) nodes.length (fun j => j < i + 1 ∧ kindAt nodes j = 1)) := Lib.hid ((hI.setB hlt (fun h => absurd h.1 (by omega)) (xk == 1)).congr fun j => by
          constructor
          · rintro (⟨h1, h2⟩ | ⟨rfl, h⟩)
            · exact ⟨by omega, h2⟩
            · exact ⟨by omega, by rw [hka]; simpa using h⟩
          · rintro ⟨h1, h2⟩
            rcases Nat.lt_or_ge j i with h | h
            · exact .inl ⟨h, h2⟩
            · obtain rfl : j = i := by omega
              exact .inr ⟨rfl, by rw [hka] at h2; simpa using h2⟩)
        have HBS := Lib.hid (HB.out.setCell (p := ⟨w2.heap.size, i, none⟩) (Nat.le_refl _) (.bool (xk == 1)))
        clear hO hI hrn hka hxx HE
        go_wp2_with fail
        refine ⟨⟨i + 1, by go_num, by omega, Lib.hid ⟨_, HOS.out, HIS.out⟩, HBS⟩, ?_⟩
        simp [intOf]; omega
      · obtain rfl : i = nodes.length := by omega
        have HE2 : Hid (∃ l, Own kBool 4 wr none w2.heap.size (.slice (some ⟨w2.heap.size, 0, none⟩) nodes.length nodes.length) l ∧ Ind l nodes.length (fun j => kindAt nodes j = 1 ∨ j ∈ ((outs.take 0).flatMap (·.bits)).map Int.toNat)) := Lib.hid ⟨l, hO, hI.congr fun j => by
          rcases Nat.lt_or_ge j nodes.length with h | h
          · simp [h]
          · rw [kindAt, List.getElem?_eq_none h]; simp⟩
        clear hrn hO hI HE z0 z1 hlt hi
        go_wp2_with fail
        go_loopw [8] (fun iv wr => ∃ i : Nat, iv = .int .i64 i ∧ i ≤ outs.length ∧ Hid (∃ l, Own kBool 4 wr none w2.heap.size (.slice (some ⟨w2.heap.size, 0, none⟩) nodes.length nodes.length) l ∧ Ind l nodes.length (fun j => kindAt nodes j = 1 ∨ j ∈ ((outs.take i).flatMap (·.bits)).map Int.toNat)) ∧ Hid (Below w2.heap.size w2 wr)) (fun iv _ => outs.length - (intOf iv).toNat)
        case atStart => exact ⟨0, rfl, Nat.zero_le _, HE2, HB⟩
        case round =>
          clear HE2 HB z2
          obtain ⟨i, rfl, hi, HE, HB⟩ := hrel
          obtain ⟨z0, z1, z2, -, -, hro, -⟩ := HT2.out _ HB.out
          by_cases hlt : i < outs.length
          · clear hro
            go_wp2_with fail
            obtain ⟨wo, hwo⟩ : ∃ wo, wo = wr := ⟨_, rfl⟩
            subst hwo
            have HM := Lib.hid (List.getElem_mem hlt)
            have HFT := Lib.hid (flatMap_take hlt)
            have HAT := Lib.hid (List.getElem?_eq_getElem hlt)
            obtain ⟨q, hq⟩ : ∃ q, outs[i] = q := ⟨_, rfl⟩
            rw [hq] at HM HFT HAT
            obtain ⟨s, bs⟩ := q
            dsimp only at HFT
            have HQB := Lib.hid (HFB.out.2 _ (List.mem_append_right _ HM.out)).2
            have hbl := HQL.out _ (List.mem_append_right _ HM.out)
            dsimp only at hbl
            go_loopw [9] (fun kv wr => ∃ k : Nat, kv = .int .i64 k ∧ k ≤ bs.length ∧ Hid (∃ l, Own kBool 4 wr none w2.heap.size (.slice (some ⟨w2.heap.size, 0, none⟩) nodes.length nodes.length) l ∧ Ind l nodes.length (fun j => kindAt nodes j = 1 ∨ j ∈ ((outs.take i).flatMap (·.bits) ++ bs.take k).map Int.toNat)) ∧ Hid (Below w2.heap.size w2 wr)) (fun kv _ => bs.length - (intOf kv).toNat)
            case atStart => exact ⟨0, rfl, Nat.zero_le _, by rw [List.take_zero, List.append_nil]; exact HE, HB⟩
            case round =>
              clear HE HB z0 z1 z2
              obtain ⟨k, rfl, hk, HE, HB⟩ := hrel
              obtain ⟨z0, z1, z2, -, -, hro, -⟩ := HT2.out _ HB.out
              obtain ⟨b, off, A3, d3, rfl, y0, y1, hxb⟩ := hro.port_at hlt
              rw [hq] at y0 y1 hxb
              dsimp only at y0 y1 hxb
              obtain ⟨l, hO, hI⟩ := HE.out
              by_cases hkt : k < bs.length
              · obtain ⟨b2, off2, rfl, x0⟩ := hxb.int_at hkt
                have HT := Lib.hid (List.take_succ_eq_append_getElem hkt)
                have hm := HQB.out _ (List.getElem_mem hkt)
                obtain ⟨a, ha⟩ := Int.eq_ofNat_of_zero_le hm.1
                rw [ha] at hm x0 HT
                have han : a < nodes.length := by omega
                have hil : a < l.length := by rw [hI.1]; exact han
                obtain ⟨c0, c1⟩ := hO.boolAt? (List.getElem?_eq_getElem hil)
                have HOS := Lib.hid (hO.storeBool a true)
                have HIS : Hid (Ind (l.set a true) nodes.length (fun j => kindAt nodes j = 1 ∨ j ∈ ((outs.take i).flatMap (·.bits) ++ bs.take (k + 1)).map Int.toNat)) := Lib.hid ((hI.set han).congr fun j => by
                  rw [HT.out]
                  simp only [List.map_append, List.mem_append, List.map_cons, List.map_nil, List.mem_singleton, Int.toNat_natCast]
                  simp only [or_assoc])
                have HBS := Lib.hid (HB.out.setCell (p := ⟨w2.heap.size, a, none⟩) (Nat.le_refl _) (.bool true))
                clear hO hI hro hxb ha HE
                go_wp2_with fail
                refine ⟨⟨k + 1, by go_num, by omega, Lib.hid ⟨_, HOS.out, HIS.out⟩, HBS⟩, ?_⟩
                simp [intOf]; omega
              · obtain rfl : k = bs.length := by omega
                have HE3 : Hid (∃ l, Own kBool 4 wr none w2.heap.size (.slice (some ⟨w2.heap.size, 0, none⟩) nodes.length nodes.length) l ∧ Ind l nodes.length (fun j => kindAt nodes j = 1 ∨ j ∈ ((outs.take (i + 1)).flatMap (·.bits)).map Int.toNat)) := by
                  have h := HE.out
                  rw [List.take_length, ← HFT.out] at h
                  exact Lib.hid h
                clear hro hxb hO hI HE
                go_wp2_with fail
                refine ⟨⟨i + 1, by go_num, by omega, HE3, HB⟩, ?_⟩
                simp [intOf]; omega
          · obtain rfl : i = outs.length := by omega
            obtain ⟨l, hO, hI⟩ := HE.out
            rw [List.take_length] at hI
            have HI := Lib.hid hI
            have HC := Lib.hid (grow_ref w2 wr (.agg #[.slice An nodes.length cn, .slice Ai ins.length ci, .slice Ao outs.length co]) nodes ins outs (HN.out _ HBW2.out) HB.out _ _ l hO hI.1 hn62 HFB.out.1)
            clear hro hO hI HE
            go_wp2_with fail
            refine HC.out.mono ?_
            rintro e w6 ⟨rfl, ho6, hb6, -⟩
            have HR6 := Lib.hid ho6.boolsFree
            have HB6 := Lib.hid (HBW2.out.trans (hb6.mono HBW2.out.size))
            clear ho6 hb6 HC z0 z1 z2
            go_wp2
            go_ret2
            refine ⟨_, _, 0, rfl, HR6.out, ⟨⟨_, HL.out⟩, fun _ => ?_, fun h => absurd rfl h⟩, HB6.out⟩
            refine grow_is (inU_of HFB.out.1) HI.out.1 fun j => (HI.out.2 j).trans ?_
            show kindAt nodes j = 1 ∨ j ∈ (outs.flatMap (·.bits)).map Int.toNat ↔ _
            rw [HH.out j, frC, List.flatMap_append, List.map_append, List.mem_append, or_comm]
  · go_wp2
    go_ret2
    exact ⟨_, [], x, rfl, nilRowBool _ _, ⟨⟨_, HL.out⟩, fun h => absurd h hx, fun _ => rfl⟩, HBW2.out⟩
end Go.Proofs.Ytbfjacgfifecpaa

/-! ## slipstickref11.Cone. -/
namespace Go.Proofs.Ytbfjacgfifecpaa
open Go.RowKit

set_option maxHeartbeats 2000000 in
set_option maxRecDepth 4096 in
theorem coneR_ref (w : World) (v : Value) (nodes : List Node) (ins outs : List Port) (hN : NetV w v nodes ins outs) (hF : Fits nodes ins outs) (a : Int) (ha : -9223372036854775808 ≤ a ∧ a < 9223372036854775808) :
    Calls Try.prog 43 #[v, .int .i64 a] w fun e w' => ∃ v' l x, e = .returned (.tuple #[v', .int .i64 x]) ∧ Row kInt w' (fun _ => False) v' l ∧ ConOut nodes ins outs a x l ∧ Below w.heap.size w w' := by
  obtain ⟨An, cn, Ai, ci, Ao, co, rfl, hbox⟩ := hN.box
  let ob := netBox (.slice An nodes.length cn) (.slice Ai ins.length ci) (.slice Ao outs.length co)
  obtain ⟨w1, hw1⟩ : ∃ w1, w1 = w.alloc ob := ⟨_, rfl⟩
  have hs1 : w1.heap.size = w.heap.size + 1 := by rw [hw1]; simp
  have hb01 : Below w.heap.size w w1 := by rw [hw1]; exact (Below.refl _ _).alloc (Nat.le_refl _) _
  rw [← hw1, ← hs1] at hbox
  obtain ⟨z0, z1, z2, -, -, -, -⟩ := hbox w1 (Below.refl _ _)
  have HC := Lib.hid (lev_ref w1 _ nodes ins outs (hN.later hb01) hF)
  have HBOX := Lib.hid hbox
  have HS1 := Lib.hid hs1
  have HW1 := Lib.hid hw1
  have HN := Lib.hid (fun W (hW : Below w.heap.size w W) => hN.later hW)
  have hnl := hF.nl
  clear hN hbox hs1 hb01 hw1 hF
  go_enter Try.func43, Try.ntmps43
  go_wp2_with fail
  rw [← HW1.out]
  go_wp2_with fail
  refine HC.out.mono ?_
  rintro e w2 ⟨v2, k, x, rfl, -, hl, hb2⟩
  have HL := Lib.hid hl
  have HB2 := Lib.hid hb2
  obtain ⟨y0, y1, y2, -, -, -, hbw⟩ := HBOX.out _ hb2
  have HBW2 := Lib.hid hbw
  clear hl hb2 HC z0 z1 z2 hbw
  by_cases hx : x = 0
  · subst hx
    have hez := errP_zero (HL.out.choose_spec.1.symm)
    have HFB := Lib.hid (formed_in hez.2.1)
    have hn62 : nodes.length ≤ 1073741824 := by omega
    have hmk := make_bools2 nodes.length hnl
    clear hez
    by_cases hneg : a < 0
    · have hd1 : decide (a < 0) = true := decide_eq_true hneg
      have HNG := Lib.hid hneg
      clear hneg hmk
      go_wp2
      go_ret2
      exact ⟨_, [], 3, rfl, nilRowInt _ _, ⟨0, ⟨_, HL.out⟩, fun h => absurd rfl h, fun _ _ => ⟨rfl, rfl⟩, fun _ h => by have := HNG.out; omega⟩, HBW2.out⟩
    · obtain ⟨k, rfl⟩ := Int.eq_ofNat_of_zero_le (Int.not_lt.1 hneg)
      have hd1 : decide ((k : Int) < 0) = false := decide_eq_false (by omega)
      by_cases hk : k < nodes.length
      · have hd2 : decide ((nodes.length : Int) ≤ (k : Int)) = false := decide_eq_false (by omega)
        have hO3 := made_bools nodes.length hnl w2
        have hb23 : Below w2.heap.size w2 (w2.alloc (.cells (madeCells #[.bool false] nodes.length) 4)) := (Below.refl _ _).alloc (Nat.le_refl _) _
        obtain ⟨y0', -⟩ := HBOX.out _ (HB2.out.trans (hb23.mono HB2.out.size))
        have e3 : (w2.alloc (.cells (madeCells #[.bool false] nodes.length) 4)).setCell ⟨w2.heap.size, k, none⟩ (.bool true) = w2.alloc (.cells ((madeCells #[.bool false] nodes.length).setIfInBounds k (.bool true)) 4) := by go_simp
        have hmc : (madeCells #[Value.bool false] nodes.length)[k]? = some (.bool false) := by simp [madeCells, hk, Nat.mod_one]
        have ho4 := hO3.storeBool k true
        have hb24 := hb23.setCell (p := ⟨w2.heap.size, k, none⟩) (Nat.le_refl _) (.bool true)
        rw [e3] at ho4 hb24
        have HO4 := Lib.hid ho4
        have HI4 := Lib.hid ((Ind.zero nodes.length).set hk)
        have HB24 := Lib.hid hb24
        obtain ⟨y0'', y1'', y2'', -⟩ := HBOX.out _ (HB2.out.trans (HB24.out.mono HB2.out.size))
        have HC := Lib.hid (grow_ref w2 _ (.agg #[.slice An nodes.length cn, .slice Ai ins.length ci, .slice Ao outs.length co]) nodes ins outs (HN.out _ HBW2.out) HB24.out _ _ _ HO4.out HI4.out.1 hn62 HFB.out.1)
        have HG := Lib.hid (grow_is (inU_of HFB.out.1) (fr := [k]) HI4.out.1 fun j => (HI4.out.2 j).trans (by simp))
        clear hneg hO3 hb23 ho4 hb24 e3
        go_wp2_with fail
        refine HC.out.mono ?_
        rintro e w4 ⟨rfl, ho4, hb4, -⟩
        obtain ⟨b4, hb4'⟩ : ∃ b4, grow nodes (nodes.length + 1) ((List.replicate nodes.length false).set k true) = b4 := ⟨_, rfl⟩
        rw [hb4'] at ho4 HG
        have HR4 := Lib.hid ho4.boolsFree
        have HB4 := Lib.hid (HBW2.out.trans (hb4.mono HBW2.out.size))
        have hbl : b4.length = nodes.length := HG.out.1
        have hb5 : Below w4.heap.size w4 (w4.alloc (.cells #[] 3)) := (Below.refl _ _).alloc (Nat.le_refl _) _
        have HO5 := Lib.hid (show Own kInt 3 (w4.alloc (.cells #[] 3)) none w4.heap.size (.slice (some ⟨w4.heap.size, 0, none⟩) 0 0) (nats (idxT b4 0)) from lit_ints w4 [] (by simp))
        have HB5 := Lib.hid hb5
        clear ho4 hb4 hb4' HC y0 y1 y2 y0' y0'' y1'' y2'' hmc hmk hb5
        go_wp2_with fail
        go_loopw [9, 10] (fun fv iv wr => ∃ i : Nat, iv = .int .i64 i ∧ i ≤ nodes.length ∧ Hid (Own kInt 3 wr none w4.heap.size fv (nats (idxT b4 i))) ∧ Hid (Below w4.heap.size w4 wr)) (fun fv iv _ => nodes.length - (intOf iv).toNat)
        case atStart => exact ⟨0, rfl, Nat.zero_le _, HO5, HB5⟩
        case round =>
          clear HO5 HB5
          obtain ⟨i, rfl, hi, HO, HBB⟩ := hrel
          have HB := Lib.hid (HB4.out.trans (HBB.out.mono HB4.out.size))
          by_cases hlt : i < nodes.length
          · have hlt' : i < b4.length := by omega
            obtain ⟨b, off, he, x0⟩ := (HR4.out.later HBB.out).bool_at hlt'
            simp only [Option.some.injEq, Addr.mk.injEq, and_true] at he
            obtain ⟨rfl, rfl⟩ := he
            rw [Nat.zero_add] at x0
            have HT := Lib.hid (idxT_succ b4 i)
            have hget : b4.getD i false = b4[i] := by rw [List.getD_eq_getElem?_getD, List.getElem?_eq_getElem hlt']; rfl
            rw [← hget] at x0
            have hle := idxT_len b4 i
            clear hget
            cases hg : b4.getD i false with
            | true =>
              rw [hg] at x0
              have HN2 : Hid (nats (idxT b4 (i + 1)) = nats (idxT b4 i) ++ [(i : Int)]) := Lib.hid (by rw [HT.out, hg]; simp)
              have hlen : ((nats (idxT b4 i)).length + 1) * 8 ≤ 140737488355328 := by rw [List.length_map]; omega
              have hbs := HBB.out.size
              clear hg
              go_wp2_with (at_builtin; go_loud (refine appI rfl (.tmp 49) (.tmp 51) rfl HO.out hbs rfl (i : Int) _ rfl rfl hlen ?_; intro v' w5 q1 q5 q6))
              refine ⟨⟨i + 1, by go_num, by omega, by rw [HN2.out]; exact Lib.hid q1, Lib.hid (HBB.out.grown q5 hbs (fun g hg => (HO.out.base hg).1))⟩, ?_⟩
              simp [intOf]; omega
            | false =>
              rw [hg] at x0
              have HN2 : Hid (nats (idxT b4 (i + 1)) = nats (idxT b4 i)) := Lib.hid (by rw [HT.out, hg]; simp)
              clear hg
              go_wp2_with fail
              refine ⟨⟨i + 1, by go_num, by omega, by rw [HN2.out]; exact HO, HBB⟩, ?_⟩
              simp [intOf]; omega
          · obtain rfl : i = nodes.length := by omega
            have HR := Lib.hid (HO.out.rowS (fun _ => False) (fun _ _ h => h))
            go_wp2
            go_ret2
            refine ⟨_, _, 0, rfl, HR.out, ⟨0, ⟨_, HL.out⟩, fun h => absurd rfl h, fun _ h => absurd ⟨Int.natCast_nonneg _, by omega⟩ h, fun _ _ => ⟨rfl, b4, HG.out, by rw [idxs, hbl]; rfl⟩⟩, HB.out⟩
      · have hd2 : decide ((nodes.length : Int) ≤ (k : Int)) = true := decide_eq_true (by omega)
        clear hneg hmk
        go_wp2
        go_ret2
        exact ⟨_, [], 3, rfl, nilRowInt _ _, ⟨0, ⟨_, HL.out⟩, fun h => absurd rfl h, fun _ _ => ⟨rfl, rfl⟩, fun _ h => by omega⟩, HBW2.out⟩
  · go_wp2
    go_ret2
    exact ⟨_, [], x, rfl, nilRowInt _ _, ⟨x, ⟨_, HL.out⟩, fun _ => ⟨rfl, rfl⟩, fun h => absurd h hx, fun h => absurd h hx⟩, HBW2.out⟩
end Go.Proofs.Ytbfjacgfifecpaa
