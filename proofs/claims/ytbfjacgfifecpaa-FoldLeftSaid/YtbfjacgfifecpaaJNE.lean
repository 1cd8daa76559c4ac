/- Joined texts: Nw, Nx, Ny, Nz. -/
import Derived.Test.YtbfjacgfifecpaaJNB
import Derived.Test.YtbfjacgfifecpaaJNC
import Derived.Test.YtbfjacgfifecpaaJND

/-! ## The reference's levels: round by round. -/
namespace Go.Proofs.Ytbfjacgfifecpaa
open Go.RowKit

/-- the greatest that is told, -1 at first -/
def mostF (us : List Nat) (out : List Int) : Int := us.foldl (fun m u => max m (out.getD u 0)) (-1)
theorem mostF_snoc (us : List Nat) (u : Nat) (out : List Int) : mostF (us ++ [u]) out = max (mostF us out) (out.getD u 0) := by simp [mostF]
theorem mostF_lvl (us : List Nat) (out : List Int) : mostF us out + 1 = lvl us out := by
  have : ∀ (us : List Nat) (m : Int), us.foldl (fun m u => max m (out.getD u 0)) m + 1 = us.foldl (fun m u => max m (out.getD u 0 + 1)) (m + 1) := by
    intro us
    induction us with
    | nil => intro m; rfl
    | cons u us ih =>
      intro m
      rw [List.foldl_cons, List.foldl_cons, ih]
      congr 1
      omega
  exact this us (-1)
theorem rKnown_snoc (us : List Nat) (u : Nat) (out : List Int) : rKnown (us ++ [u]) out = (rKnown us out && decide (0 ≤ out.getD u 0)) := by simp [rKnown]
def OutB (n : Nat) (out : List Int) : Prop := ∀ i, -1 ≤ out.getD i 0 ∧ out.getD i 0 ≤ n
theorem mostF_bd {n : Nat} {out : List Int} (h : OutB n out) (us : List Nat) : -1 ≤ mostF us out ∧ mostF us out ≤ n := by
  have : ∀ (us : List Nat) (m : Int), -1 ≤ m → m ≤ n → -1 ≤ us.foldl (fun m u => max m (out.getD u 0)) m ∧ us.foldl (fun m u => max m (out.getD u 0)) m ≤ n := by
    intro us
    induction us with
    | nil => intro m h1 h2; exact ⟨h1, h2⟩
    | cons u us ih =>
      intro m h1 h2
      rw [List.foldl_cons]
      have := h u
      exact ih _ (by omega) (by omega)
  exact this us (-1) (by omega) (by omega)
theorem RInv.reach {nodes : List Node} {out : List Int} (hN : InN nodes) (h : RInv nodes out) :
    ∀ (v : Nat) (i : Nat), i < nodes.length → out.getD i 0 = (v : Int) → ∃ k : List Nat, k.Nodup ∧ (∀ x ∈ k, x < nodes.length ∧ out.getD x 0 ≤ (v : Int)) ∧ k.length = v + 1 := by
  intro v
  induction v with
  | zero => exact fun i hi he => ⟨[i], by simp, fun x hx => by simp at hx; subst hx; exact ⟨hi, by rw [he]; exact Int.le_refl _⟩, rfl⟩
  | succ v ih =>
    intro i hi he
    have hx := (h.is i hi (by rw [he]; omega)).2
    rcases lvl_is (useAt nodes i) out with h0 | ⟨a, ha, hl⟩
    · rw [he] at hx; omega
    · obtain ⟨k, l1, l2, l3⟩ := ih a (useAt_in hN ha) (by rw [he] at hx; omega)
      refine ⟨i :: k, List.nodup_cons.2 ⟨fun hm => ?_, l1⟩, fun x hx => ?_, by rw [List.length_cons, l3]⟩
      · have := (l2 i hm).2; rw [he] at this; omega
      · rcases List.mem_cons.1 hx with rfl | hx
        · exact ⟨hi, by rw [he]; exact Int.le_refl _⟩
        · exact ⟨(l2 x hx).1, by have := (l2 x hx).2; omega⟩
theorem RInv.bound {nodes : List Node} {out : List Int} (hN : InN nodes) (h : RInv nodes out) : OutB nodes.length out := by
  intro i
  by_cases hi : i < nodes.length
  · have h1 := h.low i hi
    refine ⟨h1, ?_⟩
    by_cases h0 : 0 ≤ out.getD i 0
    · obtain ⟨v, hv⟩ := Int.eq_ofNat_of_zero_le h0
      obtain ⟨k, l1, l2, l3⟩ := h.reach hN v i hi hv
      have := nodup_le nodes.length k l1 (fun x hx => (l2 x hx).1)
      omega
    · omega
  · have : out.getD i 0 = 0 := by rw [List.getD_eq_getElem?_getD, List.getElem?_eq_none (by rw [h.len]; omega)]; rfl
    omega
def fillM (n i : Nat) : List Int := List.replicate i (-1) ++ List.replicate (n - i) 0
theorem fillM_length {n i : Nat} (h : i ≤ n) : (fillM n i).length = n := by simp [fillM]; omega
theorem fillM_at {n i : Nat} (h : i < n) : (fillM n i)[i]? = some 0 := by
  rw [fillM, List.getElem?_append_right (by simp), List.length_replicate, Nat.sub_self, List.getElem?_replicate, if_pos (by omega)]
theorem fillM_set {n i : Nat} (h : i < n) : (fillM n i).set i (-1) = fillM n (i + 1) := by
  rw [fillM, List.set_append_right _ _ (by simp), List.length_replicate, Nat.sub_self, show n - i = (n - (i + 1)) + 1 by omega, List.replicate_succ, List.set_cons_zero, fillM, List.replicate_succ', List.append_assoc]
  rfl
theorem fillM_zero (n : Nat) : fillM n 0 = List.replicate n 0 := by simp [fillM]
theorem fillM_all (n : Nat) : fillM n n = List.replicate n (-1) := by simp [fillM]

attribute [local go_sem] max2_int max_two in
set_option maxHeartbeats 4000000 in
set_option maxRecDepth 100000 in
theorem levels_ref (w : World) (v : Value) (nodes : List Node) (ins outs : List Port) (hN : NetV w v nodes ins outs) (hnl : nodes.length ≤ 1073741824)
    (hin : ∀ x ∈ nodes, ∀ u ∈ usesR x, 0 ≤ u ∧ u < nodes.length) :
    Calls Try.prog 48 #[v] w fun e w' => ∃ v' l b, e = .returned (.tuple #[v', .bool b]) ∧ Row kInt w' (fun _ => False) v' l ∧ (b = true → IsLev nodes l) ∧ (b = false → ¬ ∃ l, IsLev nodes l) ∧ Below w.heap.size w w' := by
  have hInN : InN nodes := fun x hx u hu => by
    unfold usesN at hu
    split at hu
    · simp at hu
    · obtain ⟨z, hz, rfl⟩ := List.mem_map.1 hu
      have := hin x hx z hz
      omega
  obtain ⟨An, cn, Ai, ci, Ao, co, rfl, hbox⟩ := hN.box
  let ob := netBox (.slice An nodes.length cn) (.slice Ai ins.length ci) (.slice Ao outs.length co)
  have hmk := make_ints nodes.length (by omega)
  have hsz : (w.alloc ob).heap.size = w.heap.size + 1 := by simp
  have hO := made_ints nodes.length (by omega) (w.alloc ob)
  rw [hsz, ← fillM_zero] at hO
  have hb1 : Below (w.heap.size + 1) (w.alloc ob) ((w.alloc ob).alloc (.cells (madeCells #[.int .i64 0] nodes.length) 3)) := (Below.refl _ _).alloc (by rw [hsz]; exact Nat.le_refl _) _
  obtain ⟨z0, -, -, -, -, -, -⟩ := hbox (w.alloc ob) (Below.refl _ _)
  have HO := Lib.hid hO
  have HB1 := Lib.hid hb1
  have HBOX := Lib.hid hbox
  have HSZ := Lib.hid hsz
  have HIN := Lib.hid hin
  have HINN := Lib.hid hInN
  clear hO hbox hsz hb1 hN hin hInN
  go_enter Try.func48, Try.ntmps48
  go_wp2_with fail
  clear z0
  go_loopw [5] (fun iv wr => ∃ i : Nat, iv = .int .i64 i ∧ i ≤ nodes.length ∧ Hid (Own kInt 3 wr none (w.heap.size + 1) (.slice (some ⟨w.heap.size + 1, 0, none⟩) nodes.length nodes.length) (fillM nodes.length i)) ∧ Hid (Below (w.heap.size + 1) (w.alloc ob) wr)) (fun iv _ => nodes.length - (intOf iv).toNat)
  case atStart => exact ⟨0, rfl, Nat.zero_le _, HO, HB1⟩
  case round =>
    clear HO HB1
    obtain ⟨i, rfl, hi, HO, HB⟩ := hrel
    by_cases hlt : i < nodes.length
    · obtain ⟨c0, c1⟩ := HO.out.cellAt? (fillM_at hlt)
      have hsx : w.heap.size + 1 ≤ wr.heap.size := by have := HB.out.size; have := HSZ.out; omega
      go_wp2
      refine ⟨⟨i + 1, by go_num, by omega, Lib.hid ?_, Lib.hid (HB.out.setCell (p := ⟨w.heap.size + 1, i, none⟩) (by simp) _)⟩, ?_⟩
      · rw [← fillM_set hlt]
        exact (HO.out.store (FootIn.none _) hsx i (-1)).1
      · simp [intOf]; omega
    · obtain rfl : i = nodes.length := by omega
      have HO0 : Hid (Own kInt 3 wr none (w.heap.size + 1) (.slice (some ⟨w.heap.size + 1, 0, none⟩) nodes.length nodes.length) (rRounds nodes 0 (List.replicate nodes.length (-1)))) := Lib.hid (by have := HO.out; rw [fillM_all] at this; exact this)
      have HB0 := Lib.hid HB.out
      clear hlt hi HO HB
      go_wp2_with fail
      obtain ⟨wo, hwo⟩ : ∃ wo, wo = wr := ⟨_, rfl⟩
      subst hwo
      go_loopw [6, 7, 8, 9, 10, 11, 12] (fun rv a1 a2 a3 a4 a5 a6 wr => ∃ r : Nat, rv = .int .i64 r ∧ r ≤ nodes.length + 1 ∧ Hid (Own kInt 3 wr none (w.heap.size + 1) (.slice (some ⟨w.heap.size + 1, 0, none⟩) nodes.length nodes.length) (rRounds nodes r (List.replicate nodes.length (-1)))) ∧ Hid (Below (w.heap.size + 1) (w.alloc ob) wr)) (fun rv a1 a2 a3 a4 a5 a6 _ => nodes.length + 1 - (intOf rv).toNat)
      case atStart => exact ⟨0, rfl, Nat.zero_le _, HO0, HB0⟩
      case round =>
        clear HO0 HB0
        obtain ⟨r, rfl, hr, HO, HB⟩ := hrel
        obtain ⟨z0, -, -, -, -, -, -⟩ := HBOX.out _ HB.out
        by_cases hlt : r ≤ nodes.length
        · have HRI := Lib.hid ((rRounds_inv (RInv.first nodes) r).1)
          have HRR := Lib.hid (show rRounds nodes (r + 1) (List.replicate nodes.length (-1)) = rTurn nodes nodes.length (rRounds nodes r (List.replicate nodes.length (-1))) from rfl)
          obtain ⟨R, hR⟩ : ∃ R, rRounds nodes r (List.replicate nodes.length (-1)) = R := ⟨_, rfl⟩
          rw [hR] at HO HRI HRR
          have HO0 := Lib.hid HO.out
          have HB0 := Lib.hid HB.out
          clear hR HO HB
          go_wp2_with fail
          clear z0
          obtain ⟨wo2, hwo2⟩ : ∃ wo, wo = wr := ⟨_, rfl⟩
          subst hwo2
          go_loopw [7, 8, 9, 10, 11, 12] (fun iv a2 a3 a4 a5 a6 wr => ∃ i : Nat, iv = .int .i64 i ∧ i ≤ nodes.length ∧ Hid (Own kInt 3 wr none (w.heap.size + 1) (.slice (some ⟨w.heap.size + 1, 0, none⟩) nodes.length nodes.length) (rTurn nodes i R)) ∧ Hid (Below (w.heap.size + 1) (w.alloc ob) wr)) (fun iv a2 a3 a4 a5 a6 _ => nodes.length - (intOf iv).toNat)
          case atStart => exact ⟨0, rfl, Nat.zero_le _, HO0, HB0⟩
          case round =>
            clear HO0 HB0
            obtain ⟨i, rfl, hi, HO, HB⟩ := hrel
            obtain ⟨z0, -, -, hrn, -, -, -⟩ := HBOX.out _ HB.out
            by_cases hlt : i < nodes.length
            · have HTI := Lib.hid ((rTurn_inv HRI.out i (by omega)).1)
              obtain ⟨out, hout⟩ : ∃ out, rTurn nodes i R = out := ⟨_, rfl⟩
              have HOUT := Lib.hid hout
              rw [hout] at HO HTI
              have HOB := Lib.hid (HTI.out.bound HINN.out)
              have hol := HTI.out.len
              obtain ⟨b, off, rfl, x0, x1, x2, x3⟩ := hrn.node_at hlt
              have hua : useAt nodes i = usesN nodes[i] := useAt_eq (List.getElem?_eq_getElem hlt)
              have hiu := HIN.out _ (List.getElem_mem hlt)
              obtain ⟨x, hxx⟩ : ∃ x, nodes[i] = x := ⟨_, rfl⟩
              rw [hxx] at x0 x1 x2 x3 hua hiu
              clear hxx hout hrn
              obtain ⟨xk, xa, xb, xc⟩ := x
              dsimp only at x0 x1 x2 x3
              have hsx : w.heap.size + 1 ≤ wr.heap.size := by have := HB.out.size; have := HSZ.out; omega
              have hox0 := HO.out.alloc (FootIn.none _) (.cells #[.int .i64 xk, .int .i64 xa, .int .i64 xb, .int .i64 xc] 38)
              have hbx0 := HB.out.alloc hsx (.cells #[.int .i64 xk, .int .i64 xa, .int .i64 xb, .int .i64 xc] 38)
              obtain ⟨l0, hl0⟩ : ∃ l, out[i]? = some l := ⟨_, List.getElem?_eq_getElem (by omega)⟩
              by_cases h7 : xk = 7
              · subst h7
                have HUA : Hid (useAt nodes i = []) := Lib.hid (by rw [hua]; simp [usesN])
                obtain ⟨c0, c1⟩ := hox0.cellAt? hl0
                have HOX := Lib.hid hox0
                have HBX := Lib.hid hbx0
                have HSX := Lib.hid (show w.heap.size + 1 ≤ (wr.alloc (.cells #[.int .i64 7, .int .i64 xa, .int .i64 xb, .int .i64 xc] 38)).heap.size by simp; omega)
                have HRS := Lib.hid (show rTurn nodes (i + 1) R = out.set i 0 by rw [rTurn, HOUT.out, rStep, HUA.out]; rfl)
                clear hox0 hbx0 hua hiu hol hl0
                go_wp2
                refine ⟨⟨i + 1, by go_num, by omega, Lib.hid ?_, Lib.hid (HBX.out.setCell (p := ⟨w.heap.size + 1, i, none⟩) (by simp) _)⟩, ?_⟩
                · rw [HRS.out]
                  exact (HOX.out.store (FootIn.none _) HSX.out i 0).1
                · simp [intOf]; omega
              · have hq : (xk != 7) = true := by simpa using h7
                have hua2 : useAt nodes i = (usesR ⟨xk, xa, xb, xc⟩).map Int.toNat := by rw [hua, usesN, if_neg h7]
                have hul : (usesR ⟨xk, xa, xb, xc⟩).length ≤ 3 := by simp [usesR]; omega
                have hU := uses_ref (wr.alloc (.cells #[.int .i64 xk, .int .i64 xa, .int .i64 xb, .int .i64 xc] 38)) (fun _ => False) (fun _ h => h.elim) ⟨xk, xa, xb, xc⟩
                obtain ⟨uu, huu⟩ : ∃ uu, usesR ⟨xk, xa, xb, xc⟩ = uu := ⟨_, rfl⟩
                rw [huu] at hua2 hul hU hiu
                have HU := Lib.hid hU
                have HUA := Lib.hid hua2
                have HIU := Lib.hid hiu
                have HOX0 := Lib.hid hox0
                have HBX0 := Lib.hid hbx0
                have HL0 := Lib.hid hl0
                have HOL := Lib.hid hol
                have HSX0 := Lib.hid (show w.heap.size + 1 ≤ (wr.alloc (.cells #[.int .i64 xk, .int .i64 xa, .int .i64 xb, .int .i64 xc] 38)).heap.size by simp; omega)
                clear hox0 hbx0 hl0 hua hua2 hU hiu huu hol h7
                go_wp2_with fail
                refine HU.out.mono ?_
                rintro e w4 ⟨v4, rfl, hr4, hb4⟩
                obtain ⟨A4, c4, rfl, -, -⟩ := hr4.shape
                have HR4 := Lib.hid hr4
                have HOX := Lib.hid (HOX0.out.kept (Kept.of_below_all hb4 (FootIn.none _) (Nat.le_refl _)))
                have HBX := Lib.hid (HBX0.out.trans (hb4.mono HSX0.out))
                have HSX := Lib.hid (Nat.le_trans HSX0.out hb4.size)
                obtain ⟨c0, c1⟩ := HOX.out.cellAt? HL0.out
                clear hr4 hb4 HU hq
                go_wp2_with fail
                go_loopw [9, 10, 12] (fun mv kv jv wp => ∃ k : Nat, jv = .int .i64 k ∧ k ≤ uu.length ∧ mv = .int .i64 (mostF ((uu.take k).map Int.toNat) out) ∧ kv = .bool (rKnown ((uu.take k).map Int.toNat) out) ∧ Hid (wp = w4)) (fun mv kv jv _ => uu.length - (intOf jv).toNat)
                case atStart => exact ⟨0, rfl, Nat.zero_le _, rfl, rfl, Lib.hid rfl⟩
                case round =>
                  obtain ⟨k, rfl, hk, rfl, rfl, HE⟩ := hrel
                  obtain rfl := HE.out
                  by_cases hkt : k < uu.length
                  · obtain ⟨b2, off2, rfl, y0⟩ := HR4.out.int_at hkt
                    have hub := HIU.out _ (List.getElem_mem hkt)
                    have htk := List.take_succ_eq_append_getElem hkt
                    obtain ⟨u, hu⟩ := Int.eq_ofNat_of_zero_le hub.1
                    rw [hu] at y0 hub htk
                    have hun : u < nodes.length := by omega
                    obtain ⟨l1, hl1⟩ : ∃ l, out[u]? = some l := ⟨_, List.getElem?_eq_getElem (by have := HOL.out; omega)⟩
                    have hgu : out.getD u 0 = l1 := by rw [List.getD_eq_getElem?_getD, hl1]; rfl
                    obtain ⟨d0, d1⟩ := HOX.out.cellAt? hl1
                    have hM : mostF ((uu.take (k + 1)).map Int.toNat) out = max (mostF ((uu.take k).map Int.toNat) out) l1 := by
                      rw [htk, List.map_append, List.map_cons, List.map_nil, Int.toNat_natCast, mostF_snoc, hgu]
                    have hK : rKnown ((uu.take (k + 1)).map Int.toNat) out = (rKnown ((uu.take k).map Int.toNat) out && decide (0 ≤ l1)) := by
                      rw [htk, List.map_append, List.map_cons, List.map_nil, Int.toNat_natCast, rKnown_snoc, hgu]
                    have HM := Lib.hid hM
                    have HK := Lib.hid hK
                    obtain ⟨m0, hm0⟩ : ∃ m, mostF ((uu.take k).map Int.toNat) out = m := ⟨_, rfl⟩
                    obtain ⟨k0, hk0⟩ : ∃ m, rKnown ((uu.take k).map Int.toNat) out = m := ⟨_, rfl⟩
                    rw [hm0] at HM ⊢
                    rw [hk0] at HK ⊢
                    clear hM hK hm0 hk0 hub htk hu hl1 hgu c0 c1
                    cases k0 with
                    | true =>
                      go_wp2
                      refine ⟨⟨k + 1, by go_num, by omega, by rw [HM.out], by rw [HK.out]; rfl, Lib.hid trivial⟩, ?_⟩
                      simp [intOf]; omega
                    | false =>
                      go_wp2
                      refine ⟨⟨k + 1, by go_num, by omega, by rw [HM.out], by rw [HK.out]; rfl, Lib.hid trivial⟩, ?_⟩
                      simp [intOf]; omega
                  · obtain rfl : k = uu.length := by omega
                    rw [List.take_length]
                    clear hk hkt hul
                    obtain ⟨US, hUS⟩ : ∃ US, uu.map Int.toNat = US := ⟨_, rfl⟩
                    rw [hUS] at HUA ⊢
                    clear hUS
                    have hmb := mostF_bd HOB.out US
                    have w1 : IntKind.i64.wrap (mostF US out + 1) = mostF US out + 1 := IntWalk.i64_in _ (by omega)
                    have HRS := Lib.hid (show rTurn nodes (i + 1) R = if rKnown US out then out.set i (mostF US out + 1) else out by rw [rTurn, HOUT.out, rStep, HUA.out, mostF_lvl])
                    clear hmb
                    cases hk : rKnown US out with
                    | true =>
                      rw [hk, if_pos rfl] at HRS
                      clear hk
                      go_wp2
                      refine ⟨⟨i + 1, by go_num, by omega, Lib.hid ?_, Lib.hid (HBX.out.setCell (p := ⟨w.heap.size + 1, i, none⟩) (by simp) _)⟩, ?_⟩
                      · rw [HRS.out]
                        exact (HOX.out.store (FootIn.none _) HSX.out i (mostF US out + 1)).1
                      · simp [intOf]; omega
                    | false =>
                      rw [hk, if_neg (by simp)] at HRS
                      clear hk
                      go_wp2
                      refine ⟨⟨i + 1, by go_num, by omega, by rw [HRS.out]; exact HOX, HBX⟩, ?_⟩
                      simp [intOf]; omega
            · obtain rfl : i = nodes.length := by omega
              rw [← HRR.out] at HO
              go_wp2
              refine ⟨⟨r + 1, by go_num, by omega, HO, HB⟩, ?_⟩
              simp [intOf]; omega
        · obtain rfl : r = nodes.length + 1 := by omega
          have HDONE := Lib.hid (rounds_done HINN.out (rfl : rRounds nodes (nodes.length + 1) (List.replicate nodes.length (-1)) = _))
          have HO2 := Lib.hid HO.out
          have HB2 := Lib.hid HB.out
          have HLEN := Lib.hid ((rRounds_inv (RInv.first nodes) (nodes.length + 1)).1.len)
          obtain ⟨out, hout⟩ : ∃ out, rRounds nodes (nodes.length + 1) (List.replicate nodes.length (-1)) = out := ⟨_, rfl⟩
          rw [hout] at HO2 HDONE HLEN
          clear hout HO HB hr hlt
          go_wp2_with fail
          clear z0
          obtain ⟨wo2, hwo2⟩ : ∃ wo, wo = wr := ⟨_, rfl⟩
          subst hwo2
          go_loopw [13] (fun iv wp => ∃ i : Nat, iv = .int .i64 i ∧ i ≤ nodes.length ∧ Hid (∀ j, j < i → 0 ≤ out.getD j 0) ∧ Hid (wp = wo2)) (fun iv _ => nodes.length - (intOf iv).toNat)
          case atStart => exact ⟨0, rfl, Nat.zero_le _, Lib.hid (fun j hj => by omega), Lib.hid rfl⟩
          case round =>
            obtain ⟨i, rfl, hi, HJ, HE⟩ := hrel
            obtain rfl := HE.out
            obtain ⟨-, -, -, -, -, -, hbw⟩ := HBOX.out _ HB2.out
            have HBW := Lib.hid hbw
            clear hbw
            by_cases hlt : i < nodes.length
            · obtain ⟨l0, hl0⟩ : ∃ l, out[i]? = some l := ⟨_, List.getElem?_eq_getElem (by have := HLEN.out; omega)⟩
              have hg : out.getD i 0 = l0 := by rw [List.getD_eq_getElem?_getD, hl0]; rfl
              have HG := Lib.hid hg
              obtain ⟨c0, c1⟩ := HO2.out.cellAt? hl0
              clear hl0 hg
              by_cases hneg : l0 < 0
              · have HNO := Lib.hid (HDONE.out.2 ⟨i, hlt, by rw [HG.out]; exact hneg⟩)
                go_wp2
                go_ret2
                exact ⟨_, [], .inl ⟨rfl, nilRowInt _ _, by first | exact HNO.out | simpa using HNO.out, HBW.out⟩⟩
              · have HJ2 := Lib.hid (show ∀ j, j < i + 1 → 0 ≤ out.getD j 0 from fun j hj => by
                  by_cases e : j = i
                  · subst e; rw [HG.out]; omega
                  · exact HJ.out j (by omega))
                go_wp2
                refine ⟨⟨i + 1, by go_num, by omega, HJ2, Lib.hid trivial⟩, ?_⟩
                simp [intOf]; omega
            · obtain rfl : i = nodes.length := by omega
              have HYES := Lib.hid (HDONE.out.1 HJ.out)
              have HROW := Lib.hid (HO2.out.rowS (fun _ => False) (fun _ _ h => h))
              go_wp2
              go_ret2
              exact ⟨_, out, .inr ⟨rfl, HROW.out, HYES.out, HBW.out⟩⟩
end Go.Proofs.Ytbfjacgfifecpaa

/-! ## The reference's Levels. -/
namespace Go.Proofs.Ytbfjacgfifecpaa
open Go.RowKit

theorem dupAt_names {L : List Port} {i : Nat} (hi : i < L.length) : dupAt (L.map (·.name)) i = (L.take i).any fun q => L[i].name.toList == q.name.toList := by
  rw [dupAt, ← List.map_take, List.any_map]
  have : (L.map (·.name)).getD i ByteArray.empty = L[i].name := by
    rw [List.getD_eq_getElem?_getD, List.getElem?_map, List.getElem?_eq_getElem hi]; rfl
  rw [this]
  rfl
theorem kindAt_eq {nodes : List Node} {i : Nat} {x : Node} (h : nodes[i]? = some x) : kindAt nodes i = x.kind := by rw [kindAt, h]

set_option maxHeartbeats 4000000 in
set_option maxRecDepth 100000 in
theorem lev_ref (w : World) (v : Value) (nodes : List Node) (ins outs : List Port) (hN : NetV w v nodes ins outs) (hF : Fits nodes ins outs) :
    Calls Try.prog 16 #[v] w fun e w' => ∃ v' l x, e = .returned (.tuple #[v', .int .i64 x]) ∧ Row kInt w' (fun _ => False) v' l ∧ LevOut nodes ins outs x l ∧ Below w.heap.size w w' := by
  obtain ⟨An, cn, Ai, ci, Ao, co, rfl, hbox⟩ := hN.box
  obtain ⟨w1, hw1⟩ : ∃ w1, w1 = w.alloc (netBox (.slice An nodes.length cn) (.slice Ai ins.length ci) (.slice Ao outs.length co)) := ⟨_, rfl⟩
  have hs1 : w1.heap.size = w.heap.size + 1 := by rw [hw1]; simp
  rw [← hw1, ← hs1] at hbox
  obtain ⟨L, hL⟩ : ∃ L, L = ([] ++ ins ++ outs : List Port) := ⟨_, rfl⟩
  have hLe : L = ins ++ outs := by rw [hL]; simp
  have hll : L.length = ins.length + outs.length := by rw [hLe, List.length_append]
  have il := hF.il
  have ol := hF.ol
  have nl := hF.nl
  have hk0 : Below w1.heap.size w1 (w1.alloc (.cells #[] 53)).drew := ((Below.refl _ _).alloc (Nat.le_refl _) _).drew
  have HO1 : Hid (Own kPort 53 (w1.alloc (.cells #[] 53)).drew none w1.heap.size (.slice (some ⟨w1.heap.size, 0, none⟩) 0 0) []) := (Own.lit0 kPort 53 w1).drew (FootIn.none _)
  have hrow := fun W (hW : Below w1.heap.size w1 W) => (hbox W hW).2.2.2
  have hcells := fun W (hW : Below w1.heap.size w1 W) => (show W.cell? ⟨w.heap.size, 0, none⟩ = some (.slice An nodes.length cn) ∧ W.cell? ⟨w.heap.size, 1, none⟩ = some (.slice Ai ins.length ci) ∧ W.cell? ⟨w.heap.size, 2, none⟩ = some (.slice Ao outs.length co) from ⟨(hbox W hW).1, (hbox W hW).2.1, (hbox W hW).2.2.1⟩)
  have HZ0 := Lib.hid (hcells _ hk0)
  have HZX := Lib.hid (hcells w1 (Below.refl _ _))
  have HZD := Lib.hid (hcells w1.drew (Below.refl _ _).drew)
  have HROWS := Lib.hid hrow
  have HCELLS := Lib.hid hcells
  have HK0 := Lib.hid hk0
  have HI := Lib.hid ((hrow w1 (Below.refl _ _)).2.1.bare0)
  have HO := Lib.hid ((hrow w1 (Below.refl _ _)).2.2.1.bare0)
  have HW1 := Lib.hid hw1
  have HS1 := Lib.hid hs1
  have HL := Lib.hid hL
  have HLE := Lib.hid hLe
  have HLL := Lib.hid hll
  have HF := Lib.hid hF
  clear hN hbox hw1 hs1 hL hLe hll hk0 hrow hcells hF
  go_enter Try.func16, Try.ntmps16
  go_wp2_with fail
  rw [← HW1.out]
  go_region_held3 (fun W => W.cell? ⟨w.heap.size, 0, none⟩ = some (.slice An nodes.length cn) ∧ W.cell? ⟨w.heap.size, 1, none⟩ = some (.slice Ai ins.length ci) ∧ W.cell? ⟨w.heap.size, 2, none⟩ = some (.slice Ao outs.length co))
    (first | with_reducible exact HZ0.out | with_reducible exact HZX.out | with_reducible exact HZD.out | with_reducible exact HZ2.out | with_reducible exact HZ3.out)
    (first
      | (refine step_app rfl (wp_app_row kPort 53 23 (.agg #[.string ⟨#[]⟩, .slice none 0 0]) 40 (.tmp 12) (.tmp 14) rfl Try.underlying23 infoPort rfl (by decide) (by decide) w1.heap.size HO1.out (by simp) rfl Ai ins.length ci ins HI.out HK0.out (by omega) rfl (by simp; omega) ?_); intro v1 w2 q1 b1; obtain ⟨A1, d1, rfl, -, -⟩ := q1.shape; have HQ1 := Lib.hid q1; have HB2 := Lib.hid (HK0.out.trans b1); have HZ2 := Lib.hid (HCELLS.out _ HB2.out); clear q1 b1)
      | (refine step_app rfl (wp_app_row kPort 53 23 (.agg #[.string ⟨#[]⟩, .slice none 0 0]) 40 (.tmp 15) (.tmp 17) rfl Try.underlying23 infoPort rfl (by decide) (by decide) w1.heap.size HQ1.out HB2.out.size rfl Ao outs.length co outs HO.out HB2.out (by omega) rfl (by simp; omega) ?_); intro v2 w3 q2 b2; rw [← HL.out] at q2; obtain ⟨A2, d2, rfl, -, -⟩ := q2.shape; have HQ2 := Lib.hid q2; have HB3 := Lib.hid (HB2.out.trans b2); have HZ3 := Lib.hid (HCELLS.out _ HB3.out); clear q2 b2))
  have HROW := Lib.hid ((HQ2.out.row (by decide) (Nat.le_refl _)).mono (S' := fun _ => False) fun _ _ h => h.elim)
  have HBW3 := Lib.hid ((HROWS.out _ HB3.out).2.2.2)
  obtain ⟨z0, z1, z2⟩ := HCELLS.out _ HB3.out
  have hll := HLL.out
  by_cases h1 : 262144 < nodes.length
  · have HE := Lib.hid (LevOut.err (nodes := nodes) (ins := ins) (outs := outs) (e := 4) (by decide) (fun b => by rw [errP, if_pos (.inl h1)]))
    go_wp2
    go_ret2
    exact ⟨_, [], _, rfl, nilRowInt _ _, HE.out, HBW3.out⟩
  by_cases h2 : 64 < L.length
  · have HE := Lib.hid (LevOut.err (nodes := nodes) (ins := ins) (outs := outs) (e := 4) (by decide) (fun b => by rw [errP, if_pos (.inr (by omega))]))
    go_wp2
    go_ret2
    exact ⟨_, [], _, rfl, nilRowInt _ _, HE.out, HBW3.out⟩
  have hno : ¬ (262144 < nodes.length ∨ 64 < ins.length + outs.length) := by omega
  have HNO := Lib.hid hno
  have hnl2 : nodes.length ≤ 1073741824 := by omega
  have HNL2 := Lib.hid hnl2
  have hl64 : L.length ≤ 64 := by omega
  have HFN := Lib.hid (formed_ref w3 _ _ _ nodes ins outs (HROWS.out _ HB3.out).1.bare0 (HROWS.out _ HB3.out).2.1.bare0 (HROWS.out _ HB3.out).2.2.1.bare0 nl il ol)
  clear hno hll hnl2
  go_wp2_with fail
  refine HFN.out.mono ?_
  rintro e w4 ⟨rfl, hb4⟩
  have HB34 := Lib.hid hb4
  have HB4 := Lib.hid (HB3.out.trans (hb4.mono HB3.out.size))
  clear hb4 z0 z1 z2 HFN
  cases hf : formedB nodes ins outs with
  | false =>
    have HE := Lib.hid (LevOut.err (nodes := nodes) (ins := ins) (outs := outs) (e := 2) (by decide) (fun b => by rw [errP, if_neg HNO.out, if_pos hf]))
    have HBW4 := Lib.hid ((HROWS.out _ HB4.out).2.2.2)
    clear hf
    go_wp2
    go_ret2
    exact ⟨_, [], _, rfl, nilRowInt _ _, HE.out, HBW4.out⟩
  | true =>
    have HFORM := Lib.hid hf
    have HR4 := Lib.hid (HROW.out.later HB34.out)
    clear hf h1 h2
    go_wp2_with fail
    obtain ⟨wn, hwn⟩ : ∃ wn, wn = w4 := ⟨_, rfl⟩
    go_loopw [5] (fun iv wr => ∃ i : Nat, iv = .int .i64 i ∧ i ≤ L.length ∧ Hid (∀ q ∈ L.take i, badName q = false) ∧ Hid (wr = w4)) (fun iv _ => L.length - (intOf iv).toNat)
    case atStart => exact ⟨0, rfl, Nat.zero_le _, Lib.hid (by simp), Lib.hid rfl⟩
    case round =>
      clear hwn
      obtain ⟨i, rfl, hi, HQ, HE⟩ := hrel
      obtain rfl := HE.out
      by_cases hlt : i < L.length
      · obtain ⟨b, off, A3, d3, rfl, x0, x1, hxb⟩ := HR4.out.port_at hlt
        have HM := Lib.hid (List.getElem_mem hlt)
        have HT := Lib.hid (List.take_succ_eq_append_getElem hlt)
        have hsz := HF.out.names L[i] (by rw [← HLE.out]; exact List.getElem_mem hlt)
        obtain ⟨x, hxx⟩ : ∃ x, L[i] = x := ⟨_, rfl⟩
        rw [hxx] at x0 HM HT hsz
        clear hxx hxb x1
        obtain ⟨s, bs⟩ := x
        dsimp only at x0 hsz
        have HC := Lib.hid (name_ref wr s hsz)
        clear hsz
        go_wp2_with fail
        refine HC.out.mono ?_
        rintro e w5 ⟨rfl, rfl⟩
        cases hb : nameB s with
        | false =>
          have hany : (ins ++ outs).any badName = true := by
            rw [← HLE.out, List.any_eq_true]
            exact ⟨_, HM.out, by simp [badName, hb]⟩
          have HE7 := Lib.hid (LevOut.err (nodes := nodes) (ins := ins) (outs := outs) (e := 7) (by decide) (fun b => by rw [errP, if_neg HNO.out, if_neg (by rw [HFORM.out]; simp), if_pos hany]))
          have HBW4 := Lib.hid ((HROWS.out _ HB4.out).2.2.2)
          clear hb hany
          go_wp2
          go_ret2
          exact ⟨_, [], _, rfl, nilRowInt _ _, HE7.out, HBW4.out⟩
        | true =>
          have HQ2 := Lib.hid (show ∀ q ∈ L.take (i + 1), badName q = false from fun q hq => by
            rw [HT.out] at hq
            rcases List.mem_append.1 hq with h | h
            · exact HQ.out q h
            · simp at h; subst h; simp [badName, hb])
          clear hb
          go_wp2
          refine ⟨⟨i + 1, by go_num, by omega, HQ2, Lib.hid trivial⟩, ?_⟩
          simp [intOf]; omega
      · obtain rfl : i = L.length := by omega
        have HNAME := Lib.hid (show (ins ++ outs).any badName = false by
          rw [← HLE.out]
          have := HQ.out
          rw [List.take_length] at this
          exact any_take this)
        clear hlt HQ HE
        go_wp2_with fail
        obtain ⟨w5, hw5⟩ : ∃ w5, w5 = wr := ⟨_, rfl⟩
        subst hw5
        go_loopw [6, 7] (fun iv kv wr => ∃ i : Nat, iv = .int .i64 i ∧ i ≤ L.length ∧ Hid (∀ m, m < i → dupAt (L.map (·.name)) m = false) ∧ Hid (Below w5.heap.size w5 wr)) (fun iv kv _ => L.length - (intOf iv).toNat)
        case atStart => exact ⟨0, rfl, Nat.zero_le _, Lib.hid (fun m hm => by omega), Lib.hid (Below.refl _ _)⟩
        case round =>
          obtain ⟨i, rfl, hi, HD, HB⟩ := hrel
          by_cases hlt : i < L.length
          · have HB0 := Lib.hid HB.out
            have HDA := Lib.hid (dupAt_names hlt)
            clear HB
            go_wp2_with fail
            obtain ⟨w6, hw6⟩ : ∃ w6, w6 = wr := ⟨_, rfl⟩
            subst hw6
            go_loopw [7] (fun kv wr => ∃ k : Nat, kv = .int .i64 k ∧ k ≤ i ∧ Hid (∀ q ∈ L.take k, (L[i].name.toList == q.name.toList) = false) ∧ Hid (Below w5.heap.size w5 wr)) (fun kv _ => i - (intOf kv).toNat)
            case atStart => exact ⟨0, rfl, Nat.zero_le _, Lib.hid (by simp), HB0⟩
            case round =>
              clear HB0
              obtain ⟨k, rfl, hk, HQ, HB⟩ := hrel
              by_cases hkt : k < i
              · have hkl : k < L.length := by omega
                obtain ⟨b, off, A3, d3, rfl, x0, -, -⟩ := (HR4.out.later HB.out).port_at hlt
                obtain ⟨b2, off2, A4, d4, he, y0, -, -⟩ := (HR4.out.later HB.out).port_at hkl
                injection he with he
                injection he with he1 he2 he3
                subst he1
                subst he2
                have HMK := Lib.hid (show L[k] ∈ L.take i by rw [List.mem_take_iff_getElem]; exact ⟨k, by omega, rfl⟩)
                have HT := Lib.hid (List.take_succ_eq_append_getElem hkl)
                obtain ⟨y, hyy⟩ : ∃ y, L[k] = y := ⟨_, rfl⟩
                rw [hyy] at y0 HMK HT
                obtain ⟨s, hs⟩ : ∃ s, L[i].name = s := ⟨_, rfl⟩
                rw [hs] at x0
                have HS := Lib.hid hs
                have hil : (i : Int) < L.length := by omega
                have hkl2 : (k : Int) < L.length := by omega
                clear he3 hyy hs hkl
                cases hst : (s.toList == y.name.toList) with
                | true =>
                  have hdup : dupB ((ins ++ outs).map (·.name)) = true := by
                    rw [← HLE.out]
                    refine dupB_true (i := i) (by rw [List.length_map]; exact hlt) ?_
                    rw [HDA.out, List.any_eq_true]
                    exact ⟨_, HMK.out, by rw [HS.out]; exact hst⟩
                  have HE8 := Lib.hid (LevOut.err (nodes := nodes) (ins := ins) (outs := outs) (e := 8) (by decide) (fun b => by rw [errP, if_neg HNO.out, if_neg (by rw [HFORM.out]; simp), if_neg (by rw [HNAME.out]; simp), if_pos hdup]))
                  have HBW5 := Lib.hid ((HROWS.out _ (HB4.out.trans (HB.out.mono HB4.out.size))).2.2.2)
                  clear hdup
                  go_wp2
                  go_quiet (fail)
                  go_wp2
                  go_ret2
                  exact ⟨_, [], _, rfl, nilRowInt _ _, HE8.out, HBW5.out.trans ((pw_drewN _ _).mono HBW5.out.size)⟩
                | false =>
                  have HQ2 := Lib.hid (show ∀ q ∈ L.take (k + 1), (L[i].name.toList == q.name.toList) = false from fun q hq => by
                    rw [HT.out] at hq
                    rcases List.mem_append.1 hq with h | h
                    · exact HQ.out q h
                    · simp at h; subst h; rw [HS.out]; exact hst)
                  go_wp2
                  go_quiet (fail)
                  go_wp2
                  refine ⟨⟨k + 1, by go_num, by omega, HQ2, Lib.hid (HB.out.trans ((pw_drewN _ _).mono HB.out.size))⟩, ?_⟩
                  simp [intOf]; omega
              · obtain rfl : k = i := by omega
                have HD2 := Lib.hid (show ∀ m, m < k + 1 → dupAt (L.map (·.name)) m = false from fun m hm => by
                  by_cases e : m = k
                  · subst e
                    rw [HDA.out]
                    exact any_take HQ.out
                  · exact HD.out m (by omega))
                go_wp2
                refine ⟨⟨k + 1, by go_num, by omega, HD2, HB⟩, ?_⟩
                simp [intOf]; omega
          · obtain rfl : i = L.length := by omega
            have HDUP := Lib.hid (show dupB ((ins ++ outs).map (·.name)) = false by
              rw [← HLE.out]
              exact dupB_false fun i hi => HD.out i (by rw [List.length_map] at hi; exact hi))
            have HB6 := Lib.hid (HB4.out.trans (HB.out.mono HB4.out.size))
            clear hlt HD HB hi hl64
            go_wp2_with fail
            obtain ⟨w6, hw6⟩ : ∃ w6, w6 = wr := ⟨_, rfl⟩
            subst hw6
            go_loopw [8, 9] (fun iv cv wr => ∃ i : Nat, iv = .int .i64 i ∧ i ≤ nodes.length ∧ Hid (∀ m, m < i → homeAt nodes (ins.flatMap (·.bits)) m = true) ∧ Hid (Below w1.heap.size w1 wr)) (fun iv cv _ => nodes.length - (intOf iv).toNat)
            case atStart => exact ⟨0, rfl, Nat.zero_le _, Lib.hid (fun m hm => by omega), HB6⟩
            case round =>
              clear HB6
              obtain ⟨i, rfl, hi, HH, HB⟩ := hrel
              obtain ⟨z0, z1, z2⟩ := HCELLS.out _ HB.out
              by_cases hlt : i < nodes.length
              · have hrn := HROWS.out _ HB.out
                have HC := Lib.hid (times_ref wr _ nodes ins outs i ⟨_, _, _, rfl, hrn.1, hrn.2.1, hrn.2.2.1⟩ il HF.out.sum)
                clear hrn
                go_wp2_with fail
                refine HC.out.mono ?_
                rintro e w8 ⟨rfl, hb8⟩
                have HB8 := Lib.hid (HB.out.trans (hb8.mono HB.out.size))
                clear hb8 z0 z1 z2 HC
                obtain ⟨z0, z1, z2⟩ := HCELLS.out _ HB8.out
                have hr8 := HROWS.out _ HB8.out
                have HBW8 := Lib.hid hr8.2.2.2
                obtain ⟨b, off, rfl, x0, x1, x2, x3⟩ := hr8.1.node_at hlt
                have hka : kindAt nodes i = nodes[i].kind := kindAt_eq (List.getElem?_eq_getElem hlt)
                obtain ⟨kk, hkk⟩ : ∃ k, nodes[i].kind = k := ⟨_, rfl⟩
                rw [hkk] at x0 hka
                have hha : homeAt nodes (ins.flatMap (·.bits)) i = decide ((((ins.flatMap (·.bits)).count (i : Int) : Nat) : Int) = wantK kk) := by rw [homeAt, hka]
                obtain ⟨cc, hcc⟩ : ∃ c, (((ins.flatMap (·.bits)).count (i : Int) : Nat) : Int) = c := ⟨_, rfl⟩
                rw [hcc] at hha ⊢
                clear hr8 hka hkk hcc x1 x2 x3
                by_cases hk1 : kk = 1
                · subst hk1
                  by_cases hc1 : cc = 1
                  · subst hc1
                    have hyes : homeAt nodes (ins.flatMap (·.bits)) i = true := by rw [hha]; rfl
                    clear hha
                    have HHN := Lib.hid (show ∀ m, m < i + 1 → homeAt nodes (ins.flatMap (·.bits)) m = true from fun m hm => by
                      by_cases e : m = i
                      · subst e; exact hyes
                      · exact HH.out m (by omega))
                    clear hyes
                    go_wp2
                    refine ⟨⟨i + 1, by go_num, by omega, HHN, HB8⟩, ?_⟩
                    simp [intOf]; omega
                  · have hne : homeAt nodes (ins.flatMap (·.bits)) i = false := by rw [hha]; exact decide_eq_false hc1
                    have hq : (cc != 1) = true := by simpa using hc1
                    clear hha hc1
                    have HE := Lib.hid (LevOut.err (nodes := nodes) (ins := ins) (outs := outs) (e := 10) (by decide) (fun b => by rw [errP, if_neg HNO.out, if_neg (by rw [HFORM.out]; simp), if_neg (by rw [HNAME.out]; simp), if_neg (by rw [HDUP.out]; simp), if_pos (homeB_false hlt hne)]))
                    clear hne
                    go_wp2
                    go_ret2
                    exact ⟨_, [], _, rfl, nilRowInt _ _, HE.out, HBW8.out⟩
                · have hq1 : (kk == 1) = false := by simpa using hk1
                  have hq2 : (kk != 1) = true := by simpa using hk1
                  have hw : wantK kk = 0 := by rw [wantK, if_neg hk1]
                  rw [hw] at hha
                  by_cases hc0 : cc = 0
                  · subst hc0
                    have hyes : homeAt nodes (ins.flatMap (·.bits)) i = true := by rw [hha]; rfl
                    clear hha hw hk1
                    have HHN := Lib.hid (show ∀ m, m < i + 1 → homeAt nodes (ins.flatMap (·.bits)) m = true from fun m hm => by
                      by_cases e : m = i
                      · subst e; exact hyes
                      · exact HH.out m (by omega))
                    clear hyes
                    go_wp2
                    refine ⟨⟨i + 1, by go_num, by omega, HHN, HB8⟩, ?_⟩
                    simp [intOf]; omega
                  · have hne : homeAt nodes (ins.flatMap (·.bits)) i = false := by rw [hha]; exact decide_eq_false hc0
                    have hq : (cc != 0) = true := by simpa using hc0
                    clear hha hc0 hw hk1
                    have HE := Lib.hid (LevOut.err (nodes := nodes) (ins := ins) (outs := outs) (e := 10) (by decide) (fun b => by rw [errP, if_neg HNO.out, if_neg (by rw [HFORM.out]; simp), if_neg (by rw [HNAME.out]; simp), if_neg (by rw [HDUP.out]; simp), if_pos (homeB_false hlt hne)]))
                    clear hne
                    go_wp2
                    go_ret2
                    exact ⟨_, [], _, rfl, nilRowInt _ _, HE.out, HBW8.out⟩
              · obtain rfl : i = nodes.length := by omega
                have hhome : homeB nodes ins = true := homeB_true fun i hi => HH.out i hi
                have hrn := HROWS.out _ HB.out
                have HC := Lib.hid (levels_ref wr _ nodes ins outs ⟨_, _, _, rfl, hrn.1, hrn.2.1, hrn.2.2.1⟩ HNL2.out (formed_in HFORM.out).1)
                have HHOME := Lib.hid hhome
                clear hhome hrn
                go_wp2_with fail
                refine HC.out.mono ?_
                rintro e w8 ⟨v8, l, b, rfl, hr8, hl1, hl2, hb8⟩
                have HB8 := Lib.hid (HB.out.trans (hb8.mono HB.out.size))
                have HBW8 := Lib.hid ((HROWS.out _ HB8.out).2.2.2)
                have HR8 := Lib.hid hr8
                have herr : ∀ b, errP nodes ins outs b = if b = false then 9 else 0 := fun b => by rw [errP, if_neg HNO.out, if_neg (by rw [HFORM.out]; simp), if_neg (by rw [HNAME.out]; simp), if_neg (by rw [HDUP.out]; simp), if_neg (by rw [HHOME.out]; simp)]
                cases b with
                | false =>
                  have HE : Hid (LevOut nodes ins outs 9 []) := Lib.hid ⟨false, (herr false).symm, fun h => by simp at h, fun _ => hl2 rfl, fun h => by simp at h, fun _ => rfl⟩
                  clear hb8 HC z0 z1 z2 hr8 hl1 hl2 herr
                  go_wp2
                  go_ret2
                  exact ⟨_, [], _, rfl, nilRowInt _ _, HE.out, HBW8.out⟩
                | true =>
                  have HE : Hid (LevOut nodes ins outs 0 l) := Lib.hid ⟨true, (herr true).symm, fun _ => ⟨l, hl1 rfl⟩, fun h => by simp at h, fun _ => hl1 rfl, fun h => absurd rfl h⟩
                  clear hb8 HC z0 z1 z2 hr8 hl1 hl2 herr
                  go_wp2
                  go_ret2
                  exact ⟨_, l, _, rfl, HR8.out, HE.out, HBW8.out⟩
end Go.Proofs.Ytbfjacgfifecpaa

/-! ## The reference's Order. -/
namespace Go.Proofs.Ytbfjacgfifecpaa
open Go.RowKit

theorem bins_take {l : List Int} {r m n : Nat} (h : r ≤ m) : (bins l m n).take r = bins l r n := by
  rw [bins, bins, ← List.map_take, List.take_range, Nat.min_eq_left h]
theorem bins_pre {l : List Int} {r m n : Nat} (h : r ≤ m) : (bins l m n).flatten = (bins l r n).flatten ++ ((bins l m n).drop r).flatten := by
  rw [← bins_take h, ← List.flatten_append, List.take_append_drop]
theorem top_lt {l : List Int} (h0 : ∀ x ∈ l, 0 ≤ x) : ∀ x ∈ l, 0 ≤ x ∧ x < (((maxF l + 1).toNat : Nat) : Int) := fun x hx => by
  have := h0 x hx
  have := le_maxF hx
  omega
theorem bins_enough {l : List Int} (h0 : ∀ x ∈ l, 0 ≤ x) {r : Nat} (h : (maxF l + 1).toNat ≤ r) : (bins l r l.length).flatten.length = l.length := by
  refine bins_flat_len (fun x hx => ?_) l.length (Nat.le_refl _)
  have := top_lt h0 x hx
  omega
theorem bins_done {l : List Int} (h0 : ∀ x ∈ l, 0 ≤ x) {r : Nat} (hr : r ≤ (maxF l + 1).toNat) (h : l.length ≤ (bins l r l.length).flatten.length) : (bins l r l.length).flatten = ordL l := by
  have h1 := bins_enough h0 (Nat.le_refl _)
  have h2 := bins_pre (l := l) (n := l.length) hr
  have h3 := congrArg List.length h2
  rw [h1, List.length_append] at h3
  rw [ordL, h2, List.eq_nil_of_length_eq_zero (show ((bins l (maxF l + 1).toNat l.length).drop r).flatten.length = 0 by omega), List.append_nil]
theorem bins_le {l : List Int} (h0 : ∀ x ∈ l, 0 ≤ x) {r : Nat} (hr : r ≤ (maxF l + 1).toNat) : (bins l r l.length).flatten.length ≤ l.length := by
  have h1 := bins_enough h0 (Nat.le_refl _)
  have h3 := congrArg List.length (bins_pre (l := l) (n := l.length) hr)
  rw [h1, List.length_append] at h3
  omega
theorem bins_next {l : List Int} {r n : Nat} : (bins l (r + 1) n).flatten = (bins l r n).flatten ++ binL l n r := by
  rw [bins, bins, List.range_succ, List.map_append, List.flatten_append]
  simp

set_option maxHeartbeats 2000000 in
set_option maxRecDepth 100000 in
theorem order_ref (w : World) (v : Value) (nodes : List Node) (ins outs : List Port) (hN : NetV w v nodes ins outs) (hF : Fits nodes ins outs) :
    Calls Try.prog 19 #[v] w fun e w' => ∃ v' o x, e = .returned (.tuple #[v', .int .i64 x]) ∧ Row kInt w' (fun _ => False) v' o ∧ OrdOut nodes ins outs x o ∧ Below w.heap.size w w' := by
  obtain ⟨An, cn, Ai, ci, Ao, co, rfl, hbox⟩ := hN.box
  let ob := netBox (.slice An nodes.length cn) (.slice Ai ins.length ci) (.slice Ao outs.length co)
  have hb0 : Below w.heap.size w (w.alloc ob) := (Below.refl _ _).alloc (Nat.le_refl _) _
  obtain ⟨z0, z1, z2, -, -, -, -⟩ := hbox (w.alloc ob) (Below.refl _ _)
  have HC := Lib.hid (lev_ref (w.alloc ob) _ nodes ins outs (hN.later hb0) hF)
  have HB0 := Lib.hid hb0
  have HF := Lib.hid hF
  clear hbox hN hF hb0
  go_enter Try.func19, Try.ntmps19
  go_wp2_with fail
  refine HC.out.mono ?_
  rintro e w1 ⟨v1, l, x, rfl, hr, hl, hb1⟩
  obtain ⟨A, c, rfl, -, -⟩ := hr.shape
  have HR := Lib.hid hr
  have HB1 := Lib.hid (HB0.out.trans (hb1.mono (by simp)))
  have hlen : l.length ≤ 1099511627776 := Nat.le_trans hl.length HF.out.nl
  have hnn := hl.nonneg
  have HL := Lib.hid hl
  have hbd : maxF l < 262144 := by
    obtain ⟨bb, h1, h2, h3, h4, h5⟩ := hl
    by_cases h0 : x = 0
    · have hz := errP_zero (h1.symm.trans h0)
      have hm := maxF_le (l := l) (m := 262143) (by omega) fun y hy => by
        have := (h4 h0).bound (formed_inN hz.2.1) y hy
        omega
      omega
    · rw [h5 h0]; decide
  obtain ⟨m, hm⟩ : ∃ m : Nat, m = (maxF l + 1).toNat := ⟨_, rfl⟩
  have hm2 : m ≤ 1048576 := by omega
  have HM := Lib.hid hm
  have HNN := Lib.hid hnn
  have HDONE := Lib.hid (fun r (hr : r ≤ m) (h : l.length ≤ (bins l r l.length).flatten.length) => bins_done hnn (by rw [← hm]; exact hr) h)
  have HENO := Lib.hid (fun r (hr : m ≤ r) => bins_enough hnn (show (maxF l + 1).toNat ≤ r by rw [← hm]; exact hr))
  have HLEB := Lib.hid (fun r (hr : r ≤ m) => bins_le hnn (show r ≤ (maxF l + 1).toNat by rw [← hm]; exact hr))
  have HO0 := Lib.hid (show Own kInt 3 (w1.alloc (.cells #[] 3)) none w1.heap.size (.slice (some ⟨w1.heap.size, 0, none⟩) 0 0) (nats (bins l 0 l.length).flatten) from Own.lit0 kInt 3 w1)
  have HBB0 := Lib.hid ((Below.refl w1.heap.size w1).alloc (Nat.le_refl _) (.cells #[] 3))
  clear hb1 HC z0 z1 z2 hr hl hnn hbd hm
  go_wp2_with fail
  go_loopw [6, 7, 8] (fun ov lv iv wr => ∃ r : Nat, lv = .int .i64 r ∧ r ≤ m ∧ Hid (Own kInt 3 wr none w1.heap.size ov (nats (bins l r l.length).flatten)) ∧ Hid (Below w1.heap.size w1 wr)) (fun ov lv iv _ => m - (intOf lv).toNat)
  case atStart => exact ⟨0, rfl, Nat.zero_le _, HO0, HBB0⟩
  case round =>
    clear HO0 HBB0
    obtain ⟨r, rfl, hr, HO, HB⟩ := hrel
    obtain ⟨Ab, cb, rfl, -, -⟩ := HO.out.shape
    have hfl : (nats (bins l r l.length).flatten).length = (bins l r l.length).flatten.length := List.length_map _
    rw [hfl] at HO
    rw [hfl]
    obtain ⟨F, hFF⟩ : ∃ F, (bins l r l.length).flatten = F := ⟨_, rfl⟩
    have HFF := Lib.hid hFF
    rw [hFF] at HO ⊢
    clear hfl
    by_cases hgo : F.length < l.length
    · have hrm : r < m := by
        rcases Nat.lt_or_ge r m with h | h
        · exact h
        · have := HENO.out r h
          rw [hFF] at this
          omega
      have HO0 := Lib.hid (show Own kInt 3 wr none w1.heap.size (.slice Ab F.length cb) (nats (F ++ binL l 0 r)) by rw [show binL l 0 r = [] from rfl, List.append_nil]; exact HO.out)
      have HB0' := Lib.hid HB.out
      clear hFF HO HB
      go_wp2_with fail
      obtain ⟨wo, hwo⟩ : ∃ wo, wo = wr := ⟨_, rfl⟩
      subst hwo
      go_loopw [6, 8] (fun ov iv wr => ∃ i : Nat, iv = .int .i64 i ∧ i ≤ l.length ∧ Hid (Own kInt 3 wr none w1.heap.size ov (nats (F ++ binL l i r))) ∧ Hid (Below w1.heap.size w1 wr)) (fun ov iv _ => l.length - (intOf iv).toNat)
      case atStart => exact ⟨0, rfl, Nat.zero_le _, HO0, HB0'⟩
      case round =>
        clear HO0 HB0'
        obtain ⟨i, rfl, hi, HO, HB⟩ := hrel
        by_cases hlt : i < l.length
        · obtain ⟨b, off, rfl, x0⟩ := HR.out.int_at hlt
          replace x0 := cellBelow HB.out x0
          have hg : l.getD i 0 = l[i] := by rw [List.getD_eq_getElem?_getD, List.getElem?_eq_getElem hlt]; rfl
          have HS := Lib.hid (binL_succ l i r)
          rw [hg] at HS
          obtain ⟨y, hy⟩ : ∃ y, l[i] = y := ⟨_, rfl⟩
          rw [hy] at x0 HS
          clear hg hy
          by_cases he : y = (r : Int)
          · have hq : (y == (r : Int)) = true := by simpa using he
            have HON := Lib.hid (show nats (F ++ binL l (i + 1) r) = nats (F ++ binL l i r) ++ [(i : Int)] by rw [HS.out, if_pos he]; simp)
            have hbl : (binL l i r).length ≤ i := by have := List.length_filter_le (fun k => decide (l.getD k 0 = (r : Int))) (List.range i); rw [List.length_range] at this; exact this
            have hun : ((nats (F ++ binL l i r)).length + 1) * 8 ≤ 140737488355328 := by rw [List.length_map, List.length_append]; omega
            have hb1 := HB.out.size
            clear he hbl
            go_wp2_with (at_builtin; go_loud (refine appI rfl (.tmp 34) (.tmp 36) rfl HO.out hb1 rfl (i : Int) _ rfl rfl hun ?_; intro v' w5 q1 q5 q6; rw [← HON.out] at q1; have HQ1 := Lib.hid q1; have HQ5 := Lib.hid q5; clear q1 q5 q6))
            refine ⟨⟨i + 1, by go_num, by omega, HQ1, Lib.hid (HB.out.grown HQ5.out HB.out.size (fun g hg => (HO.out.base hg).1))⟩, ?_⟩
            simp [intOf]; omega
          · have hq : (y == (r : Int)) = false := by simpa using he
            have HON := Lib.hid (show nats (F ++ binL l (i + 1) r) = nats (F ++ binL l i r) by rw [HS.out, if_neg he, List.append_nil])
            clear he
            go_wp2
            refine ⟨⟨i + 1, by go_num, by omega, by rw [HON.out]; exact HO, HB⟩, ?_⟩
            simp [intOf]; omega
        · obtain rfl : i = l.length := by omega
          have HON := Lib.hid (show nats (bins l (r + 1) l.length).flatten = nats (F ++ binL l l.length r) by rw [bins_next, HFF.out])
          go_wp2
          refine ⟨⟨r + 1, by go_num, by omega, by rw [HON.out]; exact HO, HB⟩, ?_⟩
          simp [intOf]; omega
    · have HEQ := Lib.hid (HDONE.out r hr (by rw [hFF]; omega))
      have HROW := Lib.hid (HO.out.rowS (fun _ => False) (fun _ _ h => h))
      have HBW := Lib.hid (HB1.out.trans (HB.out.mono HB1.out.size))
      clear hFF
      go_wp2
      go_ret2
      exact ⟨_, _, x, rfl, HROW.out, ⟨l, HL.out, by rw [← HFF.out, HEQ.out]⟩, HBW.out⟩
end Go.Proofs.Ytbfjacgfifecpaa

/-! ## What law 06's awake asks, plain. -/
namespace Go.Proofs.Ytbfjacgfifecpaa
open Go.RowKit

def a6 : ByteArray := ⟨#[97]⟩
def z6 : ByteArray := ⟨#[122]⟩
def nodesA : List Node := [⟨1, 0, 0, 0⟩, ⟨1, 0, 0, 0⟩, ⟨3, 0, 1, 0⟩, ⟨2, 2, 0, 0⟩, ⟨7, 3, 1, 0⟩]
def nodesC : List Node := [⟨1, 0, 0, 0⟩, ⟨1, 0, 0, 0⟩, ⟨3, 3, 1, 0⟩, ⟨2, 2, 0, 0⟩, ⟨7, 3, 1, 0⟩]
abbrev insA : List Port := [⟨a6, [0, 1]⟩]
abbrev outsA : List Port := [⟨z6, [4, 2]⟩]
theorem name_a6 : nameB a6 = true := by unfold nameB a6; simp only [Lib.toList_data]; decide
theorem name_z6 : nameB z6 = true := by unfold nameB z6; simp only [Lib.toList_data]; decide
theorem name_a1 : nameB ⟨#[97, 95, 49]⟩ = true := by unfold nameB; simp only [Lib.toList_data]; decide
theorem name_wire : nameB ⟨#[119, 105, 114, 101]⟩ = false := by unfold nameB; simp only [Lib.toList_data]; decide
theorem name_ua : nameB ⟨#[95, 97]⟩ = false := by unfold nameB; simp only [Lib.toList_data]; decide
theorem dupA : dupB ((insA ++ outsA).map (·.name)) = false := by
  refine dupB_false fun i hi => ?_
  have hi : i < 2 := hi
  have e : (z6.toList == a6.toList) = false := by rw [Lib.toList_data, Lib.toList_data]; decide
  match i, hi with
  | 0, _ => rfl
  | 1, _ =>
    rw [dupAt_names (L := insA ++ outsA) (by decide)]
    show (z6.toList == a6.toList || false) = false
    rw [e]; rfl
theorem errA (b : Bool) : errP nodesA insA outsA b = if b = false then 9 else 0 := by
  have h1 : ¬ (262144 < nodesA.length ∨ 64 < insA.length + outsA.length) := by decide
  have h2 : formedB nodesA insA outsA = true := by decide
  have h3 : (insA ++ outsA).any badName = false := by simp [badName, name_a6, name_z6]
  have h4 := dupA
  have h5 : homeB nodesA insA = true := by decide
  rw [errP, if_neg h1, if_neg (by rw [h2]; simp), if_neg (by rw [h3]; simp), if_neg (by rw [h4]; simp), if_neg (by rw [h5]; simp)]
theorem errC (b : Bool) : errP nodesC insA outsA b = if b = false then 9 else 0 := by
  have h1 : ¬ (262144 < nodesC.length ∨ 64 < insA.length + outsA.length) := by decide
  have h2 : formedB nodesC insA outsA = true := by decide
  have h3 : (insA ++ outsA).any badName = false := by simp [badName, name_a6, name_z6]
  have h4 := dupA
  have h5 : homeB nodesC insA = true := by decide
  rw [errP, if_neg h1, if_neg (by rw [h2]; simp), if_neg (by rw [h3]; simp), if_neg (by rw [h4]; simp), if_neg (by rw [h5]; simp)]
theorem isLevA : IsLev nodesA [0, 0, 1, 2, 0] := by
  refine ⟨rfl, fun i x hx => ?_⟩
  match i, hx with
  | 0, hx => injection hx with hx; subst hx; decide
  | 1, hx => injection hx with hx; subst hx; decide
  | 2, hx => injection hx with hx; subst hx; decide
  | 3, hx => injection hx with hx; subst hx; decide
  | 4, hx => injection hx with hx; subst hx; decide
  | i + 5, hx => simp [nodesA] at hx
theorem levA : LevOut nodesA insA outsA 0 [0, 0, 1, 2, 0] := ⟨true, by rw [errA]; rfl, fun _ => ⟨_, isLevA⟩, fun h => by simp at h, fun _ => isLevA, fun h => absurd rfl h⟩
theorem levC : LevOut nodesC insA outsA 9 [] := by
  refine ⟨false, by rw [errC]; rfl, fun h => by simp at h, fun _ => ?_, fun h => by simp at h, fun _ => rfl⟩
  rintro ⟨l, hl⟩
  have h2 := hl.2 2 ⟨3, 3, 1, 0⟩ rfl
  have h3 := hl.2 3 ⟨2, 2, 0, 0⟩ rfl
  have q2 := lvl_ge (us := usesN ⟨3, 3, 1, 0⟩) (l := l) (u := 3) (by decide)
  have q3 := lvl_ge (us := usesN ⟨2, 2, 0, 0⟩) (l := l) (u := 2) (by decide)
  omega
def nodesF : List Node := [⟨8, 0, 0, 0⟩]
theorem levF : LevOut nodesF [] [] 2 [] := LevOut.err (by decide) fun b => by
  have h1 : ¬ (262144 < nodesF.length ∨ 64 < ([] : List Port).length + ([] : List Port).length) := by decide
  have h2 : formedB nodesF [] [] = false := by decide
  rw [errP, if_neg h1, if_pos h2]
theorem ordA {e : Int} {o : List Int} (h : OrdOut nodesA insA outsA e o) : e = 0 ∧ o = [0, 1, 4, 2, 3] := by
  obtain ⟨l, hl, rfl⟩ := h
  obtain ⟨rfl, rfl⟩ := hl.unique levA
  exact ⟨rfl, by decide⟩
theorem depA {e d : Int} (h : DepOut nodesA insA outsA e d) : e = 0 ∧ d = 2 := by
  obtain ⟨l, hl, rfl⟩ := h
  obtain ⟨rfl, rfl⟩ := hl.unique levA
  exact ⟨rfl, by decide⟩
theorem cntA : cntV nodesA = .agg #[.int .i64 0, .int .i64 2, .int .i64 1, .int .i64 1, .int .i64 0, .int .i64 0, .int .i64 0, .int .i64 1] := by rfl
theorem usesA : usesR ⟨3, 0, 1, 0⟩ = [0, 1] := by decide
theorem fitsA : Fits nodesA insA outsA := ⟨by decide, by decide, by decide, by decide, by decide, by decide⟩
theorem fitsC : Fits nodesC insA outsA := ⟨by decide, by decide, by decide, by decide, by decide, by decide⟩
theorem fitsF : Fits nodesF [] [] := ⟨by decide, by decide, by decide, by decide, by decide, by decide⟩

theorem NetV.boxV {w : World} {vn vi vo : Value} {nodes : List Node} {ins outs : List Port} (h : NetV w (.agg #[vn, vi, vo]) nodes ins outs) :
    ∀ W, Below (w.heap.size + 1) (w.alloc (netBox vn vi vo)) W → (W.cell? ⟨w.heap.size, 0, none⟩ = some vn ∧ W.cell? ⟨w.heap.size, 1, none⟩ = some vi ∧ W.cell? ⟨w.heap.size, 2, none⟩ = some vo) ∧ NetV W (.agg #[vn, vi, vo]) nodes ins outs ∧ Below w.heap.size w W := fun W hW => by
  have hb : Below w.heap.size w W := ((Below.refl _ _).alloc (Nat.le_refl _) _).trans (hW.mono (by omega))
  exact ⟨⟨(hW.cell (p := ⟨w.heap.size, 0, none⟩) (by simp)).trans (World.cell?_alloc_new _ _ _ 0), (hW.cell (p := ⟨w.heap.size, 1, none⟩) (by simp)).trans (World.cell?_alloc_new _ _ _ 1), (hW.cell (p := ⟨w.heap.size, 2, none⟩) (by simp)).trans (World.cell?_alloc_new _ _ _ 2)⟩, h.later hb, hb⟩
theorem ints_same (w : World) (v u : Value) (xs : List Int) (hx : Row kInt w (fun _ => False) v xs) (hy : Row kInt w (fun _ => False) u xs) (hl : xs.length ≤ 1099511627776) :
    Calls Try.prog 21 #[v, u] w fun e w' => e = .returned (.bool true) ∧ Below w.heap.size w w' :=
  (ints_ref w v u xs xs hx hy hl).mono fun e w' h => ⟨by rw [h.1, decide_eq_true rfl], h.2⟩
/-- a row that is written out -/
theorem lit_any {α : Type} (k : Kd α) (e : TypeId) (w : World) (S : Nat → Prop) (hS : There S w) (l : List α) (css : List (List Value)) (cs : Array Value) (hcs : cs.toList = css.flatten) (hP : Pairs k w S l css) (hl : l.length ≤ 1099511627776) :
    Row k (w.alloc (.cells cs e)) S (.slice (some ⟨w.heap.size, 0, none⟩) l.length l.length) l := by
  have hb : Below w.heap.size w (w.alloc (.cells cs e)) := (Below.refl _ _).alloc (Nat.le_refl _) _
  refine ⟨_, _, css, rfl, Nat.le_refl _, by simp only [maxLen]; omega, (fun h => nomatch h), hP.keep ⟨hb.size, fun i hi _ => hb.block i hi⟩ (fun _ _ h => h), fun hn => ⟨_, _, rfl, by simp, fun hs => by have := hS _ hs; omega, fun j u hu => ?_⟩⟩
  rw [Nat.zero_add, World.cell?_alloc_new, ← hcs] at *
  simpa using hu
theorem pairs_nodes (w : World) (S : Nat → Prop) (l : List Node) : Pairs kNode w S l (l.map Node.cells) :=
  ⟨by simp, fun i x cs hx hc => by rw [List.getElem?_map, hx] at hc; injection hc with hc; exact hc.symm⟩
theorem pairs_port {w : World} {S : Nat → Prop} (name : ByteArray) (bits : List Int) (v : Value) (h : Row kInt w S v bits) : Pairs kPort w S [⟨name, bits⟩] [[.string name, v]] := by
  refine ⟨rfl, fun i x cs hx hc => ?_⟩
  match i, hx, hc with
  | 0, hx, hc =>
    injection hx with hx; injection hc with hc
    subst hx; subst hc
    exact ⟨v, rfl, h⟩
theorem nodes_css {w : World} {S : Nat → Prop} {l : List Node} {css : List (List Value)} (h : Pairs kNode w S l css) : css = l.map Node.cells := by
  apply List.ext_getElem?
  intro i
  by_cases hi : i < l.length
  · have hc : i < css.length := by rw [h.1]; exact hi
    have := h.2 i l[i] css[i] (List.getElem?_eq_getElem hi) (List.getElem?_eq_getElem hc)
    rw [List.getElem?_eq_getElem hc, List.getElem?_map, List.getElem?_eq_getElem hi]
    exact congrArg some this
  · rw [List.getElem?_eq_none (by rw [h.1]; omega), List.getElem?_eq_none (by rw [List.length_map]; omega)]
theorem cellA {e : TypeId} {w : World} {B g c : Nat} (h : Own kNode e w none B (.slice (some ⟨g, 0, none⟩) 5 c) nodesA) : w.cell? ⟨g, 9, none⟩ = some (.int .i64 0) ∧ w.frozen? ⟨g, 9, none⟩ = false := by
  obtain ⟨css, h1, h2, h3⟩ := h
  have hc := nodes_css h2
  subst hc
  have h1 : w.ownsRow B e 4 (.slice (some ⟨g, 0, none⟩) 5 c) 5 (nodesA.map Node.cells).flatten := h1
  exact ⟨by rw [h1.cellAt 9 (by decide)]; rfl, h1.frozenAt 9⟩
/-- c.Nodes[2].A = 3 -/
theorem setC {e : TypeId} {w : World} {B g c : Nat} (h : Own kNode e w none B (.slice (some ⟨g, 0, none⟩) 5 c) nodesA) :
    Own kNode e (w.setCell ⟨g, 9, none⟩ (.int .i64 3)) none B (.slice (some ⟨g, 0, none⟩) 5 c) nodesC ∧ w.grownBy (w.setCell ⟨g, 9, none⟩ (.int .i64 3)) (some g) := by
  obtain ⟨css, h1, h2, h3⟩ := h
  have hc := nodes_css h2
  subst hc
  have hs := h1.stored 9 (.int .i64 3)
  refine ⟨⟨nodesC.map Node.cells, ?_, pairs_nodes _ _ _, fun _ _ => foot_none _ _⟩, hs.2⟩
  have e : (nodesA.map Node.cells).flatten.set 9 (.int .i64 3) = (nodesC.map Node.cells).flatten := by rfl
  rw [← e]
  exact hs.1
end Go.Proofs.Ytbfjacgfifecpaa
