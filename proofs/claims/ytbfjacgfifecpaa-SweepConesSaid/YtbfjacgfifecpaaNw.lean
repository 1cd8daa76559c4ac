/- The reference's levels: round by round. -/
import Derived.Test.YtbfjacgfifecpaaNl
namespace Go.Proofs.Ytbfjacgfifecpaa
open Go.RowKit

/-- the greatest that is told, -1 at first -/
def mostF (us : List Nat) (out : List Int) : Int := us.foldl (fun m u => max m (out.getD u 0)) (-1)
theorem mostF_snoc (us : List Nat) (u : Nat) (out : List Int) : mostF (us ++ [u]) out = max (mostF us out) (out.getD u 0) := by simp [mostF]
theorem mostF_lvl (us : List Nat) (out : List Int) : mostF us out + 1 = lvl us out := by
  have : ∀ (us : List Nat) (m : Int), us.foldl (fun m u => max m (out.getD u 0)) m + 1 = us.foldl (fun m u => max m (out.getD u 0 + 1)) (m + 1) := by
    intro us
    induction us with
    | nil => intro m; rfl
    | cons u us ih =>
      intro m
      rw [List.foldl_cons, List.foldl_cons, ih]
      congr 1
      omega
  exact this us (-1)
theorem rKnown_snoc (us : List Nat) (u : Nat) (out : List Int) : rKnown (us ++ [u]) out = (rKnown us out && decide (0 ≤ out.getD u 0)) := by simp [rKnown]
def OutB (n : Nat) (out : List Int) : Prop := ∀ i, -1 ≤ out.getD i 0 ∧ out.getD i 0 ≤ n
theorem mostF_bd {n : Nat} {out : List Int} (h : OutB n out) (us : List Nat) : -1 ≤ mostF us out ∧ mostF us out ≤ n := by
  have : ∀ (us : List Nat) (m : Int), -1 ≤ m → m ≤ n → -1 ≤ us.foldl (fun m u => max m (out.getD u 0)) m ∧ us.foldl (fun m u => max m (out.getD u 0)) m ≤ n := by
    intro us
    induction us with
    | nil => intro m h1 h2; exact ⟨h1, h2⟩
    | cons u us ih =>
      intro m h1 h2
      rw [List.foldl_cons]
      have := h u
      exact ih _ (by omega) (by omega)
  exact this us (-1) (by omega) (by omega)
theorem RInv.reach {nodes : List Node} {out : List Int} (hN : InN nodes) (h : RInv nodes out) :
    ∀ (v : Nat) (i : Nat), i < nodes.length → out.getD i 0 = (v : Int) → ∃ k : List Nat, k.Nodup ∧ (∀ x ∈ k, x < nodes.length ∧ out.getD x 0 ≤ (v : Int)) ∧ k.length = v + 1 := by
  intro v
  induction v with
  | zero => exact fun i hi he => ⟨[i], by simp, fun x hx => by simp at hx; subst hx; exact ⟨hi, by rw [he]; exact Int.le_refl _⟩, rfl⟩
  | succ v ih =>
    intro i hi he
    have hx := (h.is i hi (by rw [he]; omega)).2
    rcases lvl_is (useAt nodes i) out with h0 | ⟨a, ha, hl⟩
    · rw [he] at hx; omega
    · obtain ⟨k, l1, l2, l3⟩ := ih a (useAt_in hN ha) (by rw [he] at hx; omega)
      refine ⟨i :: k, List.nodup_cons.2 ⟨fun hm => ?_, l1⟩, fun x hx => ?_, by rw [List.length_cons, l3]⟩
      · have := (l2 i hm).2; rw [he] at this; omega
      · rcases List.mem_cons.1 hx with rfl | hx
        · exact ⟨hi, by rw [he]; exact Int.le_refl _⟩
        · exact ⟨(l2 x hx).1, by have := (l2 x hx).2; omega⟩
theorem RInv.bound {nodes : List Node} {out : List Int} (hN : InN nodes) (h : RInv nodes out) : OutB nodes.length out := by
  intro i
  by_cases hi : i < nodes.length
  · have h1 := h.low i hi
    refine ⟨h1, ?_⟩
    by_cases h0 : 0 ≤ out.getD i 0
    · obtain ⟨v, hv⟩ := Int.eq_ofNat_of_zero_le h0
      obtain ⟨k, l1, l2, l3⟩ := h.reach hN v i hi hv
      have := nodup_le nodes.length k l1 (fun x hx => (l2 x hx).1)
      omega
    · omega
  · have : out.getD i 0 = 0 := by rw [List.getD_eq_getElem?_getD, List.getElem?_eq_none (by rw [h.len]; omega)]; rfl
    omega
def fillM (n i : Nat) : List Int := List.replicate i (-1) ++ List.replicate (n - i) 0
theorem fillM_length {n i : Nat} (h : i ≤ n) : (fillM n i).length = n := by simp [fillM]; omega
theorem fillM_at {n i : Nat} (h : i < n) : (fillM n i)[i]? = some 0 := by
  rw [fillM, List.getElem?_append_right (by simp), List.length_replicate, Nat.sub_self, List.getElem?_replicate, if_pos (by omega)]
theorem fillM_set {n i : Nat} (h : i < n) : (fillM n i).set i (-1) = fillM n (i + 1) := by
  rw [fillM, List.set_append_right _ _ (by simp), List.length_replicate, Nat.sub_self, show n - i = (n - (i + 1)) + 1 by omega, List.replicate_succ, List.set_cons_zero, fillM, List.replicate_succ', List.append_assoc]
  rfl
theorem fillM_zero (n : Nat) : fillM n 0 = List.replicate n 0 := by simp [fillM]
theorem fillM_all (n : Nat) : fillM n n = List.replicate n (-1) := by simp [fillM]

attribute [local go_sem] max2_int max_two in
set_option maxHeartbeats 4000000 in
set_option maxRecDepth 100000 in
theorem levels_ref (w : World) (v : Value) (nodes : List Node) (ins outs : List Port) (hN : NetV w v nodes ins outs) (hnl : nodes.length ≤ 1073741824)
    (hin : ∀ x ∈ nodes, ∀ u ∈ usesR x, 0 ≤ u ∧ u < nodes.length) :
    Calls Try.prog 48 #[v] w fun e w' => ∃ v' l b, e = .returned (.tuple #[v', .bool b]) ∧ Row kInt w' (fun _ => False) v' l ∧ (b = true → IsLev nodes l) ∧ (b = false → ¬ ∃ l, IsLev nodes l) ∧ Below w.heap.size w w' := by
  have hInN : InN nodes := fun x hx u hu => by
    unfold usesN at hu
    split at hu
    · simp at hu
    · obtain ⟨z, hz, rfl⟩ := List.mem_map.1 hu
      have := hin x hx z hz
      omega
  obtain ⟨An, cn, Ai, ci, Ao, co, rfl, hbox⟩ := hN.box
  let ob := netBox (.slice An nodes.length cn) (.slice Ai ins.length ci) (.slice Ao outs.length co)
  have hmk := make_ints nodes.length (by omega)
  have hsz : (w.alloc ob).heap.size = w.heap.size + 1 := by simp
  have hO := made_ints nodes.length (by omega) (w.alloc ob)
  rw [hsz, ← fillM_zero] at hO
  have hb1 : Below (w.heap.size + 1) (w.alloc ob) ((w.alloc ob).alloc (.cells (madeCells #[.int .i64 0] nodes.length) 3)) := (Below.refl _ _).alloc (by rw [hsz]; exact Nat.le_refl _) _
  obtain ⟨z0, -, -, -, -, -, -⟩ := hbox (w.alloc ob) (Below.refl _ _)
  have HO := Lib.hid hO
  have HB1 := Lib.hid hb1
  have HBOX := Lib.hid hbox
  have HSZ := Lib.hid hsz
  have HIN := Lib.hid hin
  have HINN := Lib.hid hInN
  clear hO hbox hsz hb1 hN hin hInN
  go_enter Try.func48, Try.ntmps48
  go_wp2_with fail
  clear z0
  go_loopw [5] (fun iv wr => ∃ i : Nat, iv = .int .i64 i ∧ i ≤ nodes.length ∧ Hid (Own kInt 3 wr none (w.heap.size + 1) (.slice (some ⟨w.heap.size + 1, 0, none⟩) nodes.length nodes.length) (fillM nodes.length i)) ∧ Hid (Below (w.heap.size + 1) (w.alloc ob) wr)) (fun iv _ => nodes.length - (intOf iv).toNat)
  case atStart => exact ⟨0, rfl, Nat.zero_le _, HO, HB1⟩
  case round =>
    clear HO HB1
    obtain ⟨i, rfl, hi, HO, HB⟩ := hrel
    by_cases hlt : i < nodes.length
    · obtain ⟨c0, c1⟩ := HO.out.cellAt? (fillM_at hlt)
      have hsx : w.heap.size + 1 ≤ wr.heap.size := by have := HB.out.size; have := HSZ.out; omega
      go_wp2
      refine ⟨⟨i + 1, by go_num, by omega, Lib.hid ?_, Lib.hid (HB.out.setCell (p := ⟨w.heap.size + 1, i, none⟩) (by simp) _)⟩, ?_⟩
      · rw [← fillM_set hlt]
        exact (HO.out.store (FootIn.none _) hsx i (-1)).1
      · simp [intOf]; omega
    · obtain rfl : i = nodes.length := by omega
      have HO0 : Hid (Own kInt 3 wr none (w.heap.size + 1) (.slice (some ⟨w.heap.size + 1, 0, none⟩) nodes.length nodes.length) (rRounds nodes 0 (List.replicate nodes.length (-1)))) := Lib.hid (by have := HO.out; rw [fillM_all] at this; exact this)
      have HB0 := Lib.hid HB.out
      clear hlt hi HO HB
      go_wp2_with fail
      obtain ⟨wo, hwo⟩ : ∃ wo, wo = wr := ⟨_, rfl⟩
      subst hwo
      go_loopw [6, 7, 8, 9, 10, 11, 12] (fun rv a1 a2 a3 a4 a5 a6 wr => ∃ r : Nat, rv = .int .i64 r ∧ r ≤ nodes.length + 1 ∧ Hid (Own kInt 3 wr none (w.heap.size + 1) (.slice (some ⟨w.heap.size + 1, 0, none⟩) nodes.length nodes.length) (rRounds nodes r (List.replicate nodes.length (-1)))) ∧ Hid (Below (w.heap.size + 1) (w.alloc ob) wr)) (fun rv a1 a2 a3 a4 a5 a6 _ => nodes.length + 1 - (intOf rv).toNat)
      case atStart => exact ⟨0, rfl, Nat.zero_le _, HO0, HB0⟩
      case round =>
        clear HO0 HB0
        obtain ⟨r, rfl, hr, HO, HB⟩ := hrel
        obtain ⟨z0, -, -, -, -, -, -⟩ := HBOX.out _ HB.out
        by_cases hlt : r ≤ nodes.length
        · have HRI := Lib.hid ((rRounds_inv (RInv.first nodes) r).1)
          have HRR := Lib.hid (show rRounds nodes (r + 1) (List.replicate nodes.length (-1)) = rTurn nodes nodes.length (rRounds nodes r (List.replicate nodes.length (-1))) from rfl)
          obtain ⟨R, hR⟩ : ∃ R, rRounds nodes r (List.replicate nodes.length (-1)) = R := ⟨_, rfl⟩
          rw [hR] at HO HRI HRR
          have HO0 := Lib.hid HO.out
          have HB0 := Lib.hid HB.out
          clear hR HO HB
          go_wp2_with fail
          clear z0
          obtain ⟨wo2, hwo2⟩ : ∃ wo, wo = wr := ⟨_, rfl⟩
          subst hwo2
          go_loopw [7, 8, 9, 10, 11, 12] (fun iv a2 a3 a4 a5 a6 wr => ∃ i : Nat, iv = .int .i64 i ∧ i ≤ nodes.length ∧ Hid (Own kInt 3 wr none (w.heap.size + 1) (.slice (some ⟨w.heap.size + 1, 0, none⟩) nodes.length nodes.length) (rTurn nodes i R)) ∧ Hid (Below (w.heap.size + 1) (w.alloc ob) wr)) (fun iv a2 a3 a4 a5 a6 _ => nodes.length - (intOf iv).toNat)
          case atStart => exact ⟨0, rfl, Nat.zero_le _, HO0, HB0⟩
          case round =>
            clear HO0 HB0
            obtain ⟨i, rfl, hi, HO, HB⟩ := hrel
            obtain ⟨z0, -, -, hrn, -, -, -⟩ := HBOX.out _ HB.out
            by_cases hlt : i < nodes.length
            · have HTI := Lib.hid ((rTurn_inv HRI.out i (by omega)).1)
              obtain ⟨out, hout⟩ : ∃ out, rTurn nodes i R = out := ⟨_, rfl⟩
              have HOUT := Lib.hid hout
              rw [hout] at HO HTI
              have HOB := Lib.hid (HTI.out.bound HINN.out)
              have hol := HTI.out.len
              obtain ⟨b, off, rfl, x0, x1, x2, x3⟩ := hrn.node_at hlt
              have hua : useAt nodes i = usesN nodes[i] := useAt_eq (List.getElem?_eq_getElem hlt)
              have hiu := HIN.out _ (List.getElem_mem hlt)
              obtain ⟨x, hxx⟩ : ∃ x, nodes[i] = x := ⟨_, rfl⟩
              rw [hxx] at x0 x1 x2 x3 hua hiu
              clear hxx hout hrn
              obtain ⟨xk, xa, xb, xc⟩ := x
              dsimp only at x0 x1 x2 x3
              have hsx : w.heap.size + 1 ≤ wr.heap.size := by have := HB.out.size; have := HSZ.out; omega
              have hox0 := HO.out.alloc (FootIn.none _) (.cells #[.int .i64 xk, .int .i64 xa, .int .i64 xb, .int .i64 xc] 38)
              have hbx0 := HB.out.alloc hsx (.cells #[.int .i64 xk, .int .i64 xa, .int .i64 xb, .int .i64 xc] 38)
              obtain ⟨l0, hl0⟩ : ∃ l, out[i]? = some l := ⟨_, List.getElem?_eq_getElem (by omega)⟩
              by_cases h7 : xk = 7
              · subst h7
                have HUA : Hid (useAt nodes i = []) := Lib.hid (by rw [hua]; simp [usesN])
                obtain ⟨c0, c1⟩ := hox0.cellAt? hl0
                have HOX := Lib.hid hox0
                have HBX := Lib.hid hbx0
                have HSX := Lib.hid (show w.heap.size + 1 ≤ (wr.alloc (.cells #[.int .i64 7, .int .i64 xa, .int .i64 xb, .int .i64 xc] 38)).heap.size by simp; omega)
                have HRS := Lib.hid (show rTurn nodes (i + 1) R = out.set i 0 by rw [rTurn, HOUT.out, rStep, HUA.out]; rfl)
                clear hox0 hbx0 hua hiu hol hl0
                go_wp2
                refine ⟨⟨i + 1, by go_num, by omega, Lib.hid ?_, Lib.hid (HBX.out.setCell (p := ⟨w.heap.size + 1, i, none⟩) (by simp) _)⟩, ?_⟩
                · rw [HRS.out]
                  exact (HOX.out.store (FootIn.none _) HSX.out i 0).1
                · simp [intOf]; omega
              · have hq : (xk != 7) = true := by simpa using h7
                have hua2 : useAt nodes i = (usesR ⟨xk, xa, xb, xc⟩).map Int.toNat := by rw [hua, usesN, if_neg h7]
                have hul : (usesR ⟨xk, xa, xb, xc⟩).length ≤ 3 := by simp [usesR]; omega
                have hU := uses_ref (wr.alloc (.cells #[.int .i64 xk, .int .i64 xa, .int .i64 xb, .int .i64 xc] 38)) (fun _ => False) (fun _ h => h.elim) ⟨xk, xa, xb, xc⟩
                obtain ⟨uu, huu⟩ : ∃ uu, usesR ⟨xk, xa, xb, xc⟩ = uu := ⟨_, rfl⟩
                rw [huu] at hua2 hul hU hiu
                have HU := Lib.hid hU
                have HUA := Lib.hid hua2
                have HIU := Lib.hid hiu
                have HOX0 := Lib.hid hox0
                have HBX0 := Lib.hid hbx0
                have HL0 := Lib.hid hl0
                have HOL := Lib.hid hol
                have HSX0 := Lib.hid (show w.heap.size + 1 ≤ (wr.alloc (.cells #[.int .i64 xk, .int .i64 xa, .int .i64 xb, .int .i64 xc] 38)).heap.size by simp; omega)
                clear hox0 hbx0 hl0 hua hua2 hU hiu huu hol h7
                go_wp2_with fail
                refine HU.out.mono ?_
                rintro e w4 ⟨v4, rfl, hr4, hb4⟩
                obtain ⟨A4, c4, rfl, -, -⟩ := hr4.shape
                have HR4 := Lib.hid hr4
                have HOX := Lib.hid (HOX0.out.kept (Kept.of_below_all hb4 (FootIn.none _) (Nat.le_refl _)))
                have HBX := Lib.hid (HBX0.out.trans (hb4.mono HSX0.out))
                have HSX := Lib.hid (Nat.le_trans HSX0.out hb4.size)
                obtain ⟨c0, c1⟩ := HOX.out.cellAt? HL0.out
                clear hr4 hb4 HU hq
                go_wp2_with fail
                go_loopw [9, 10, 12] (fun mv kv jv wp => ∃ k : Nat, jv = .int .i64 k ∧ k ≤ uu.length ∧ mv = .int .i64 (mostF ((uu.take k).map Int.toNat) out) ∧ kv = .bool (rKnown ((uu.take k).map Int.toNat) out) ∧ Hid (wp = w4)) (fun mv kv jv _ => uu.length - (intOf jv).toNat)
                case atStart => exact ⟨0, rfl, Nat.zero_le _, rfl, rfl, Lib.hid rfl⟩
                case round =>
                  obtain ⟨k, rfl, hk, rfl, rfl, HE⟩ := hrel
                  obtain rfl := HE.out
                  by_cases hkt : k < uu.length
                  · obtain ⟨b2, off2, rfl, y0⟩ := HR4.out.int_at hkt
                    have hub := HIU.out _ (List.getElem_mem hkt)
                    have htk := List.take_succ_eq_append_getElem hkt
                    obtain ⟨u, hu⟩ := Int.eq_ofNat_of_zero_le hub.1
                    rw [hu] at y0 hub htk
                    have hun : u < nodes.length := by omega
                    obtain ⟨l1, hl1⟩ : ∃ l, out[u]? = some l := ⟨_, List.getElem?_eq_getElem (by have := HOL.out; omega)⟩
                    have hgu : out.getD u 0 = l1 := by rw [List.getD_eq_getElem?_getD, hl1]; rfl
                    obtain ⟨d0, d1⟩ := HOX.out.cellAt? hl1
                    have hM : mostF ((uu.take (k + 1)).map Int.toNat) out = max (mostF ((uu.take k).map Int.toNat) out) l1 := by
                      rw [htk, List.map_append, List.map_cons, List.map_nil, Int.toNat_natCast, mostF_snoc, hgu]
                    have hK : rKnown ((uu.take (k + 1)).map Int.toNat) out = (rKnown ((uu.take k).map Int.toNat) out && decide (0 ≤ l1)) := by
                      rw [htk, List.map_append, List.map_cons, List.map_nil, Int.toNat_natCast, rKnown_snoc, hgu]
                    have HM := Lib.hid hM
                    have HK := Lib.hid hK
                    obtain ⟨m0, hm0⟩ : ∃ m, mostF ((uu.take k).map Int.toNat) out = m := ⟨_, rfl⟩
                    obtain ⟨k0, hk0⟩ : ∃ m, rKnown ((uu.take k).map Int.toNat) out = m := ⟨_, rfl⟩
                    rw [hm0] at HM ⊢
                    rw [hk0] at HK ⊢
                    clear hM hK hm0 hk0 hub htk hu hl1 hgu c0 c1
                    cases k0 with
                    | true =>
                      go_wp2
                      refine ⟨⟨k + 1, by go_num, by omega, by rw [HM.out], by rw [HK.out]; rfl, Lib.hid trivial⟩, ?_⟩
                      simp [intOf]; omega
                    | false =>
                      go_wp2
                      refine ⟨⟨k + 1, by go_num, by omega, by rw [HM.out], by rw [HK.out]; rfl, Lib.hid trivial⟩, ?_⟩
                      simp [intOf]; omega
                  · obtain rfl : k = uu.length := by omega
                    rw [List.take_length]
                    clear hk hkt hul
                    obtain ⟨US, hUS⟩ : ∃ US, uu.map Int.toNat = US := ⟨_, rfl⟩
                    rw [hUS] at HUA ⊢
                    clear hUS
                    have hmb := mostF_bd HOB.out US
                    have w1 : IntKind.i64.wrap (mostF US out + 1) = mostF US out + 1 := IntWalk.i64_in _ (by omega)
                    have HRS := Lib.hid (show rTurn nodes (i + 1) R = if rKnown US out then out.set i (mostF US out + 1) else out by rw [rTurn, HOUT.out, rStep, HUA.out, mostF_lvl])
                    clear hmb
                    cases hk : rKnown US out with
                    | true =>
                      rw [hk, if_pos rfl] at HRS
                      clear hk
                      go_wp2
                      refine ⟨⟨i + 1, by go_num, by omega, Lib.hid ?_, Lib.hid (HBX.out.setCell (p := ⟨w.heap.size + 1, i, none⟩) (by simp) _)⟩, ?_⟩
                      · rw [HRS.out]
                        exact (HOX.out.store (FootIn.none _) HSX.out i (mostF US out + 1)).1
                      · simp [intOf]; omega
                    | false =>
                      rw [hk, if_neg (by simp)] at HRS
                      clear hk
                      go_wp2
                      refine ⟨⟨i + 1, by go_num, by omega, by rw [HRS.out]; exact HOX, HBX⟩, ?_⟩
                      simp [intOf]; omega
            · obtain rfl : i = nodes.length := by omega
              rw [← HRR.out] at HO
              go_wp2
              refine ⟨⟨r + 1, by go_num, by omega, HO, HB⟩, ?_⟩
              simp [intOf]; omega
        · obtain rfl : r = nodes.length + 1 := by omega
          have HDONE := Lib.hid (rounds_done HINN.out (rfl : rRounds nodes (nodes.length + 1) (List.replicate nodes.length (-1)) = _))
          have HO2 := Lib.hid HO.out
          have HB2 := Lib.hid HB.out
          have HLEN := Lib.hid ((rRounds_inv (RInv.first nodes) (nodes.length + 1)).1.len)
          obtain ⟨out, hout⟩ : ∃ out, rRounds nodes (nodes.length + 1) (List.replicate nodes.length (-1)) = out := ⟨_, rfl⟩
          rw [hout] at HO2 HDONE HLEN
          clear hout HO HB hr hlt
          go_wp2_with fail
          clear z0
          obtain ⟨wo2, hwo2⟩ : ∃ wo, wo = wr := ⟨_, rfl⟩
          subst hwo2
          go_loopw [13] (fun iv wp => ∃ i : Nat, iv = .int .i64 i ∧ i ≤ nodes.length ∧ Hid (∀ j, j < i → 0 ≤ out.getD j 0) ∧ Hid (wp = wo2)) (fun iv _ => nodes.length - (intOf iv).toNat)
          case atStart => exact ⟨0, rfl, Nat.zero_le _, Lib.hid (fun j hj => by omega), Lib.hid rfl⟩
          case round =>
            obtain ⟨i, rfl, hi, HJ, HE⟩ := hrel
            obtain rfl := HE.out
            obtain ⟨-, -, -, -, -, -, hbw⟩ := HBOX.out _ HB2.out
            have HBW := Lib.hid hbw
            clear hbw
            by_cases hlt : i < nodes.length
            · obtain ⟨l0, hl0⟩ : ∃ l, out[i]? = some l := ⟨_, List.getElem?_eq_getElem (by have := HLEN.out; omega)⟩
              have hg : out.getD i 0 = l0 := by rw [List.getD_eq_getElem?_getD, hl0]; rfl
              have HG := Lib.hid hg
              obtain ⟨c0, c1⟩ := HO2.out.cellAt? hl0
              clear hl0 hg
              by_cases hneg : l0 < 0
              · have HNO := Lib.hid (HDONE.out.2 ⟨i, hlt, by rw [HG.out]; exact hneg⟩)
                go_wp2
                go_ret2
                exact ⟨_, [], .inl ⟨rfl, nilRowInt _ _, by first | exact HNO.out | simpa using HNO.out, HBW.out⟩⟩
              · have HJ2 := Lib.hid (show ∀ j, j < i + 1 → 0 ≤ out.getD j 0 from fun j hj => by
                  by_cases e : j = i
                  · subst e; rw [HG.out]; omega
                  · exact HJ.out j (by omega))
                go_wp2
                refine ⟨⟨i + 1, by go_num, by omega, HJ2, Lib.hid trivial⟩, ?_⟩
                simp [intOf]; omega
            · obtain rfl : i = nodes.length := by omega
              have HYES := Lib.hid (HDONE.out.1 HJ.out)
              have HROW := Lib.hid (HO2.out.rowS (fun _ => False) (fun _ _ h => h))
              go_wp2
              go_ret2
              exact ⟨_, out, .inr ⟨rfl, HROW.out, HYES.out, HBW.out⟩⟩
end Go.Proofs.Ytbfjacgfifecpaa
