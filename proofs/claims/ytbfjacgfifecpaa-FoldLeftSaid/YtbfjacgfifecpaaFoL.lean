/- fold: the walk of (*folder).look. -/
import Derived.Test.YtbfjacgfifecpaaFoE
namespace Go.Proofs.Ytbfjacgfifecpaa
open Go.RowKit



theorem LJ.meas {B X : Nat} {T : List Rw} {w0 W W' : World} {x y : Node} (h : LJ B X T w0 W x) (h2 : LJ B X T w0 W' y) (hk : y.kind < x.kind) (h0 : y.kind = 0 ∨ 2 ≤ y.kind ∧ y.kind ≤ 6) : (intOf ((W'.cell? ⟨X, 0, none⟩).getD undef)).toNat < (intOf ((W.cell? ⟨X, 0, none⟩).getD undef)).toNat := by
  rw [h.c.1, h2.c.1]
  simp [intOf]
  omega

set_option maxHeartbeats 8000000 in
set_option maxRecDepth 100000 in
theorem look_net (w : World) (B G n g c P c2 : Nat) (ns : List Node) (st : List Nat) (vi vo : Value) (is' os' : List Port) (vsi vso : List Value) (hK : Keep w B (foV G (.slice (some ⟨g, 0, none⟩) n c) ns vi is' vsi vo os' vso (.slice (some ⟨P, 0, none⟩) n c2) (nats st))) (hn : ns.length = n) (hs : st.length = n)
    (hst : ∀ u, u < n → stF st u < n) (hm : ∀ x ∈ ns, okNd n x) (a : Nat) (ha : a < n) (x : Node) (hxa : ns[a]? = some x) (hk : 2 ≤ x.kind ∧ x.kind ≤ 6) (hx : okX n x) (r : Node × Int) (hr : look ns (renN (stF st) x) = r) :
    Calls Try.prog 97 #[.pointer (some ⟨G, 0, none⟩), .int .i64 a] w fun e w' => e = .returned (.tuple #[]) ∧ Keep w' B (foV G (.slice (some ⟨g, 0, none⟩) n c) (ns.set a r.1) vi is' vsi vo os' vso (.slice (some ⟨P, 0, none⟩) n c2) (nats (if r.2 = -1 then st else st.set a r.2.toNat))) ∧ Below B w w' := by
  have hB := hK.base
  obtain ⟨X, hX⟩ : ∃ X, w.heap.size = X := ⟨_, rfl⟩
  have HN := Lib.hid hn
  have HS := Lib.hid hs
  have HM := Lib.hid hm
  have HST := Lib.hid hst
  have HR := Lib.hid hr
  have HK := Lib.hid hK
  go_enter Try.func97, Try.ntmps97
  go_wp2_with fail
  refine wp_scope_jumps 0 (fun a' W => (∃ u : Nat → Value, a' = { tmps := ([.pointer (some ⟨G, 0, none⟩), .int .i64 a, u 2, u 3, .pointer (some ⟨X, 0, none⟩), u 5, u 6, u 7, u 8, u 9, u 10, u 11, u 12, u 13, u 14, u 15, u 16, u 17, u 18, u 19, u 20, u 21, u 22, u 23, u 24, u 25, u 26, u 27, u 28, u 29, u 30, u 31, u 32, u 33, u 34, u 35, u 36, u 37, u 38, u 39, u 40, u 41, u 42, u 43, u 44, u 45, u 46, u 47, u 48, u 49, u 50, u 51, u 52, u 53, u 54, u 55, u 56, u 57, u 58, u 59, u 60, u 61, u 62, u 63, u 64, u 65, u 66, u 67, u 68, u 69, u 70, u 71, u 72, u 73, u 74, u 75, u 76, u 77, u 78, u 79, u 80, u 81, u 82, u 83, u 84, u 85, u 86, u 87, u 88, u 89, u 90, u 91, u 92, u 93, u 94, u 95, u 96, u 97, u 98, u 99, u 100, u 101, u 102, u 103, u 104, u 105, u 106, u 107, u 108, u 109, u 110, u 111, u 112, u 113]).toArray, defers := [] }) ∧ ∃ x : Node, Hid (okX n x) ∧ Hid (look ns x = r) ∧ Hid (LJ B X (foV G (.slice (some ⟨g, 0, none⟩) n c) ns vi is' vsi vo os' vso (.slice (some ⟨P, 0, none⟩) n c2) (nats st)) w W x)) (fun _ W => (intOf ((W.cell? ⟨X, 0, none⟩).getD undef)).toNat) rfl ?_ ?_
  · subst hX
    obtain ⟨⟨k0, -, -, k3⟩, -⟩ := foV_cells hK
    have hrow := foV_row hK
    have han : a < ns.length := by omega
    rw [← hn] at hrow
    obtain ⟨b, off, he, y0, y1, y2, y3⟩ := hrow.node_at han
    injection he with he
    injection he with e1 e2
    subst e1 e2
    simp only [Nat.zero_add] at y0 y1 y2 y3
    rw [List.getElem?_eq_getElem han] at hxa
    injection hxa with hxa
    rw [hxa] at y0 y1 y2 y3
    obtain ⟨xk, xa, xb, xc⟩ := x
    dsimp only at hk y0 y1 y2 y3
    have hua : 0 ≤ xa ∧ xa < n := hx.2 xa (by rcases kind6 (.inr hk) with h | h | h | h | h | h <;> subst h <;> simp [usesR, many] <;> omega)
    obtain ⟨ua, rfl⟩ := Int.eq_ofNat_of_zero_le hua.1
    have hual : ua < n := by omega
    obtain ⟨va, hva⟩ : ∃ va, stF st ua = va := ⟨_, rfl⟩
    have hsa := hst ua hual
    rw [hva] at hsa
    have HVA := Lib.hid hva
    have HXX := Lib.hid hx
    have HL0 := Lib.hid (LJ.new hK (Below.refl _ _) ⟨xk, ua, xb, xc⟩)
    obtain ⟨wx, hwx⟩ : ∃ wx, wx = w.alloc (ndBox ⟨xk, ua, xb, xc⟩) := ⟨_, rfl⟩
    rw [← hwx] at HL0
    have HWX := Lib.hid hwx
    have sa := (foV_at (u := ua) hK (by omega)).1
    rw [hva] at sa
    have hbx : Below w.heap.size w wx := by rw [hwx]; exact (Below.refl _ _).alloc (Nat.le_refl _) _
    obtain ⟨q0, q1, q2, q3⟩ := HL0.out.c
    have f0 := HL0.out.f 1
    have k3x := cellBelow hbx k3
    have sax := cellBelow hbx sa
    clear hn hs hm hst hr hK hxa hx hB hrow han hua hva hwx hbx sa k3
    go_upto_region 1 with fail
    rw [← HWX.out]
    go_cut [] from 15 to 23 (fun wz => Hid (LJ B w.heap.size (foV G (.slice (some ⟨g, 0, none⟩) n c) ns vi is' vsi vo os' vso (.slice (some ⟨P, 0, none⟩) n c2) (nats st)) w wz ⟨xk, va, xb, xc⟩))
    case first =>
      go_region_with (fail)
      all_goals
        go_wp2_with fail
        go_meet
        first | exact Lib.hid (HL0.out.set 1 (by omega) _) | exact Lib.hid (HL0.out.set 1 (by omega) _).drew
    case rest =>
    clear q0 q1 q2 q3 f0 k3x sax k0 y0 y1 y2 y3 HL0 HWX
    have HL := hcut
    rename_i hK3
    refine hK3 _ _ ?_
    clear hK3 hcut
    rcases (show xk = 2 ∨ (xk = 3 ∨ xk = 4 ∨ xk = 5) ∨ xk = 6 by omega) with rfl | h345 | rfl
    · have HOX1 : Hid (okX n ⟨2, va, xb, xc⟩) := Lib.hid ⟨.inr ⟨by show (2 : Int) ≤ 2; omega, by show (2 : Int) ≤ 6; omega⟩, fun z hz => by simp [usesR, many] at hz; omega⟩
      have HLKF := Lib.hid (show look ns ⟨2, va, xb, xc⟩ = r by rw [← HR.out, ← HVA.out]; rfl)
      obtain ⟨q0, q1, q2, q3⟩ := HL.out.c
      go_wp2_with fail
      go_step3
      clear q0 q1 q2 q3
      have HLK : Hid (look ns ⟨2, va, xb, xc⟩ = r) := HLKF
      have HOX : Hid (okX n ⟨2, va, xb, xc⟩) := HOX1
      obtain ⟨x, hx1⟩ : ∃ x : Node, x = ⟨2, va, xb, xc⟩ := ⟨_, rfl⟩
      rw [← hx1] at HL HLK HOX
      clear hx1
      obtain ⟨W, hW⟩ : ∃ W, W = wc := ⟨_, rfl⟩
      subst hW
      obtain ⟨q0, q1, q2, q3⟩ := HL.out.c
      obtain ⟨Wy, hwy⟩ : ∃ Wy, Wy = W.alloc (ndBox x) := ⟨_, rfl⟩
      have HLY := Lib.hid (LJ.new HL.out.k HL.out.b x)
      have HLX := Lib.hid (HL.out.below ((Below.refl _ _).alloc (Nat.le_refl _) (ndBox x)))
      have HNE := Lib.hid (show W.heap.size ≠ w.heap.size from fun e => by have := HL.out.lt; omega)
      rw [← hwy] at HLY HLX
      have HWY := Lib.hid hwy
      clear hwy
      obtain ⟨xk, xa, xb, xc⟩ := x
      dsimp only at q0 q1 q2 q3
      obtain ⟨p0, p1, p2, p3⟩ := HLX.out.c
      rw [HWY.out] at p0 p1 p2 p3
      go_upto_region 7 with fail
      go_cut [50] from 49 to 49 (fun s50 wc => s50 = .int .i64 xk ∧ wc = W.alloc (ndBox ⟨xk, xa, xb, xc⟩))
      case first =>
        go_wp2_with fail
        go_meet
        exact ⟨rfl, rfl⟩
      case rest =>
      obtain ⟨rfl, rfl⟩ := hcut
      rename_i hKK
      refine hKK _ _ ?_
      go_cut [6] from 51 to 90 (fun s6 wc => s6 = .int .i64 (fold1 ns ⟨xk, xa, xb, xc⟩).2 ∧ Hid (LJ B w.heap.size (foV G (.slice (some ⟨g, 0, none⟩) n c) ns vi is' vsi vo os' vso (.slice (some ⟨P, 0, none⟩) n c2) (nats st)) w wc ⟨xk, xa, xb, xc⟩ ∧ LJ B W.heap.size (foV G (.slice (some ⟨g, 0, none⟩) n c) ns vi is' vsi vo os' vso (.slice (some ⟨P, 0, none⟩) n c2) (nats st)) w wc (fold1 ns ⟨xk, xa, xb, xc⟩).1))
      case first =>
        obtain ⟨⟨k0, -, -, -⟩, -⟩ := foV_cells HLX.out.k
        have hrow := foV_row HLX.out.k
        rw [← HN.out] at hrow k0
        have huse := HOX.out.2
        rw [← HN.out] at huse
        clear q0 q1 q2 q3
        obtain ⟨q0, q1, q2, q3⟩ := HLX.out.c
        rcases kind6 HOX.out.1 with hk | hk | hk | hk | hk | hk <;> dsimp only at hk <;> subst hk
        · rw [HWY.out] at q0 q1 q2 q3
          clear hrow k0 huse
          go_wp2_with fail
          rw [← HWY.out]
          go_meet
          exact ⟨rfl, Lib.hid ⟨HLX.out, HLY.out⟩⟩
        · simp [usesR, many] at huse
          obtain ⟨ua, rfl⟩ := Int.eq_ofNat_of_zero_le huse.1
          obtain ⟨⟨⟨rk, ra, rb, rc⟩, rs⟩, hfr⟩ : ∃ q, flipN ns ⟨2, ua, xb, xc⟩ = q := ⟨_, rfl⟩
          have HCT := flip_net Wy (fun _ => False) G c _ ns k0 hrow ⟨2, ua, xb, xc⟩ ua (by omega) rfl (fun h => (nd_ok HM.out _).1 h)
          rw [hfr] at HCT
          have HFR := Lib.hid (show fold1 ns ⟨2, ua, xb, xc⟩ = (⟨rk, ra, rb, rc⟩, rs) from hfr)
          have HCC := Lib.hid HCT
          rw [HWY.out] at q0 q1 q2 q3
          clear HCT hfr hrow k0 huse
          go_wp2_with fail
          rw [← HWY.out]
          refine HCC.out.mono ?_
          rintro e w2 ⟨rfl, hb2⟩
          have HX2 := Lib.hid (HLX.out.below hb2)
          have HY2 := Lib.hid (HLY.out.below hb2)
          obtain ⟨t0, t1, t2, t3⟩ := HY2.out.c
          have f0 := HY2.out.f 0
          have f1 := HY2.out.f 1
          have f2 := HY2.out.f 2
          have f3 := HY2.out.f 3
          clear hb2 q0 q1 q2 q3
          go_wp2_with fail
          go_meet
          rw [HFR.out]
          exact ⟨rfl, Lib.hid ⟨HX2.out.skip4 HY2.out HNE.out ⟨rk, ra, rb, rc⟩, HY2.out.put ⟨rk, ra, rb, rc⟩⟩⟩
        · simp [usesR, many] at huse
          obtain ⟨ua, rfl⟩ := Int.eq_ofNat_of_zero_le huse.1.1
          obtain ⟨ub, rfl⟩ := Int.eq_ofNat_of_zero_le huse.2.1
          obtain ⟨⟨⟨rk, ra, rb, rc⟩, rs⟩, hfr⟩ : ∃ q, bothN ns ⟨3, ua, ub, xc⟩ 0 = q := ⟨_, rfl⟩
          have HCT := both_net Wy (fun _ => False) G c _ ns k0 hrow ⟨3, ua, ub, xc⟩ ua ub (by omega) (by omega) rfl rfl 0 (.inl rfl)
          rw [hfr] at HCT
          have HFR := Lib.hid (show fold1 ns ⟨3, ua, ub, xc⟩ = (⟨rk, ra, rb, rc⟩, rs) from hfr)
          have HCC := Lib.hid HCT
          rw [HWY.out] at q0 q1 q2 q3
          clear HCT hfr hrow k0 huse
          go_wp2_with fail
          rw [← HWY.out]
          refine HCC.out.mono ?_
          rintro e w2 ⟨rfl, hb2⟩
          have HX2 := Lib.hid (HLX.out.below hb2)
          have HY2 := Lib.hid (HLY.out.below hb2)
          obtain ⟨t0, t1, t2, t3⟩ := HY2.out.c
          have f0 := HY2.out.f 0
          have f1 := HY2.out.f 1
          have f2 := HY2.out.f 2
          have f3 := HY2.out.f 3
          clear hb2 q0 q1 q2 q3
          go_wp2_with fail
          go_meet
          rw [HFR.out]
          exact ⟨rfl, Lib.hid ⟨HX2.out.skip4 HY2.out HNE.out ⟨rk, ra, rb, rc⟩, HY2.out.put ⟨rk, ra, rb, rc⟩⟩⟩
        · simp [usesR, many] at huse
          obtain ⟨ua, rfl⟩ := Int.eq_ofNat_of_zero_le huse.1.1
          obtain ⟨ub, rfl⟩ := Int.eq_ofNat_of_zero_le huse.2.1
          obtain ⟨⟨⟨rk, ra, rb, rc⟩, rs⟩, hfr⟩ : ∃ q, bothN ns ⟨4, ua, ub, xc⟩ 1 = q := ⟨_, rfl⟩
          have HCT := both_net Wy (fun _ => False) G c _ ns k0 hrow ⟨4, ua, ub, xc⟩ ua ub (by omega) (by omega) rfl rfl 1 (.inr rfl)
          rw [hfr] at HCT
          have HFR := Lib.hid (show fold1 ns ⟨4, ua, ub, xc⟩ = (⟨rk, ra, rb, rc⟩, rs) from hfr)
          have HCC := Lib.hid HCT
          rw [HWY.out] at q0 q1 q2 q3
          clear HCT hfr hrow k0 huse
          go_wp2_with fail
          rw [← HWY.out]
          refine HCC.out.mono ?_
          rintro e w2 ⟨rfl, hb2⟩
          have HX2 := Lib.hid (HLX.out.below hb2)
          have HY2 := Lib.hid (HLY.out.below hb2)
          obtain ⟨t0, t1, t2, t3⟩ := HY2.out.c
          have f0 := HY2.out.f 0
          have f1 := HY2.out.f 1
          have f2 := HY2.out.f 2
          have f3 := HY2.out.f 3
          clear hb2 q0 q1 q2 q3
          go_wp2_with fail
          go_meet
          rw [HFR.out]
          exact ⟨rfl, Lib.hid ⟨HX2.out.skip4 HY2.out HNE.out ⟨rk, ra, rb, rc⟩, HY2.out.put ⟨rk, ra, rb, rc⟩⟩⟩
        · simp [usesR, many] at huse
          obtain ⟨ua, rfl⟩ := Int.eq_ofNat_of_zero_le huse.1.1
          obtain ⟨ub, rfl⟩ := Int.eq_ofNat_of_zero_le huse.2.1
          obtain ⟨⟨⟨rk, ra, rb, rc⟩, rs⟩, hfr⟩ : ∃ q, oddN ns ⟨5, ua, ub, xc⟩ = q := ⟨_, rfl⟩
          have HCT := odd_net Wy (fun _ => False) G c _ ns k0 hrow ⟨5, ua, ub, xc⟩ ua ub (by omega) (by omega) rfl rfl
          rw [hfr] at HCT
          have HFR := Lib.hid (show fold1 ns ⟨5, ua, ub, xc⟩ = (⟨rk, ra, rb, rc⟩, rs) from hfr)
          have HCC := Lib.hid HCT
          rw [HWY.out] at q0 q1 q2 q3
          clear HCT hfr hrow k0 huse
          go_wp2_with fail
          rw [← HWY.out]
          refine HCC.out.mono ?_
          rintro e w2 ⟨rfl, hb2⟩
          have HX2 := Lib.hid (HLX.out.below hb2)
          have HY2 := Lib.hid (HLY.out.below hb2)
          obtain ⟨t0, t1, t2, t3⟩ := HY2.out.c
          have f0 := HY2.out.f 0
          have f1 := HY2.out.f 1
          have f2 := HY2.out.f 2
          have f3 := HY2.out.f 3
          clear hb2 q0 q1 q2 q3
          go_wp2_with fail
          go_meet
          rw [HFR.out]
          exact ⟨rfl, Lib.hid ⟨HX2.out.skip4 HY2.out HNE.out ⟨rk, ra, rb, rc⟩, HY2.out.put ⟨rk, ra, rb, rc⟩⟩⟩
        · simp [usesR, many] at huse
          obtain ⟨ua, rfl⟩ := Int.eq_ofNat_of_zero_le huse.1.1
          obtain ⟨ub, rfl⟩ := Int.eq_ofNat_of_zero_le huse.2.1.1
          obtain ⟨uc, rfl⟩ := Int.eq_ofNat_of_zero_le huse.2.2.1
          obtain ⟨⟨⟨rk, ra, rb, rc⟩, rs⟩, hfr⟩ : ∃ q, choiceN ns ⟨6, ua, ub, uc⟩ = q := ⟨_, rfl⟩
          have HCT := choice_net Wy (fun _ => False) G c _ ns k0 hrow ⟨6, ua, ub, uc⟩ ua ub uc (by omega) (by omega) (by omega) rfl rfl rfl
          rw [hfr] at HCT
          have HFR := Lib.hid (show fold1 ns ⟨6, ua, ub, uc⟩ = (⟨rk, ra, rb, rc⟩, rs) from hfr)
          have HCC := Lib.hid HCT
          rw [HWY.out] at q0 q1 q2 q3
          clear HCT hfr hrow k0 huse
          go_wp2_with fail
          rw [← HWY.out]
          refine HCC.out.mono ?_
          rintro e w2 ⟨rfl, hb2⟩
          have HX2 := Lib.hid (HLX.out.below hb2)
          have HY2 := Lib.hid (HLY.out.below hb2)
          obtain ⟨t0, t1, t2, t3⟩ := HY2.out.c
          have f0 := HY2.out.f 0
          have f1 := HY2.out.f 1
          have f2 := HY2.out.f 2
          have f3 := HY2.out.f 3
          clear hb2 q0 q1 q2 q3
          go_wp2_with fail
          go_meet
          rw [HFR.out]
          exact ⟨rfl, Lib.hid ⟨HX2.out.skip4 HY2.out HNE.out ⟨rk, ra, rb, rc⟩, HY2.out.put ⟨rk, ra, rb, rc⟩⟩⟩
      case rest =>
      obtain ⟨rfl, HL2⟩ := hcut
      rename_i hK2 K2
      clear hKK
      obtain ⟨hfo1, hfo2, hfo3⟩ := fold1_ok HM.out HOX.out
      have hleq := look_eq HM.out HOX.out
      rw [HLK.out] at hleq
      obtain ⟨⟨⟨rk, ra, rb, rc⟩, rs⟩, hfr⟩ : ∃ q, fold1 ns ⟨xk, xa, xb, xc⟩ = q := ⟨_, rfl⟩
      rw [hfr] at HL2 hfo1 hfo2 hfo3 hleq
      rw [hfr]
      dsimp only at hfo1 hfo2 hfo3 hleq
      have HX3 := Lib.hid HL2.out.1
      have HY3 := Lib.hid HL2.out.2
      have HF1 := Lib.hid hfo1
      have HF2 := Lib.hid hfo2
      have HF3 := Lib.hid hfo3
      have HLE := Lib.hid hleq
      clear hfr hfo1 hfo2 hfo3 hleq HL2 p0 p1 p2 p3 q0 q1 q2 q3 HLX HLY HWY
      obtain ⟨q0, q1, q2, q3⟩ := HX3.out.c
      obtain ⟨t0, t1, t2, t3⟩ := HY3.out.c
      refine hK2 _ _ ?_
      clear hK2
      by_cases hkk : rk = xk
      · subst hkk
        have hre := HLE.out
        rw [if_pos rfl] at hre
        have HRE := Lib.hid hre
        have hne : (rk != rk) = false := by simp
        obtain ⟨⟨k0, -, -, -⟩, -⟩ := foV_cells HX3.out.k
        have hk4 := HX3.out.k
        rw [← HN.out] at hk4
        have han : a < ns.length := by rw [HN.out]; exact ha
        have hna := foV_nodeAt hk4 han
        obtain ⟨⟨v0, w0⟩, f0⟩ := hna 0 (by omega)
        obtain ⟨⟨v1, w1⟩, f1⟩ := hna 1 (by omega)
        obtain ⟨⟨v2, w2⟩, f2⟩ := hna 2 (by omega)
        obtain ⟨⟨v3, w3⟩, f3⟩ := hna 3 (by omega)
        rw [Nat.add_zero] at w0 f0
        have hk5 := foV_node hk4 han ⟨rk, ra, rb, rc⟩
        rw [HN.out] at hk5
        have hgB : B ≤ g := (HX3.out.k.lt (i := 2) rfl (b := g) rfl).1
        have hb5 := (((HX3.out.b.setCell (p := ⟨g, a * 4, none⟩) hgB (.int .i64 rk)).setCell (p := ⟨g, a * 4 + 1, none⟩) hgB (.int .i64 ra)).setCell (p := ⟨g, a * 4 + 2, none⟩) hgB (.int .i64 rb)).setCell (p := ⟨g, a * 4 + 3, none⟩) hgB (.int .i64 rc)
        have HK5 := Lib.hid hk5
        have HB5 := Lib.hid hb5
        clear hre hk4 hna hk5 hb5 hgB
        go_upto_region 20 with fail
        go_cut [] from 97 to 104 (fun wz => Hid (Keep wz B (foV G (.slice (some ⟨g, 0, none⟩) n c) (ns.set a ⟨rk, ra, rb, rc⟩) vi is' vsi vo os' vso (.slice (some ⟨P, 0, none⟩) n c2) (nats st)) ∧ Below B w wz))
        case first =>
          go_region_with (fail)
          all_goals
            go_wp2_with fail
            go_meet
            first | exact Lib.hid ⟨HK5.out, HB5.out⟩ | exact Lib.hid ⟨HK5.out.drew, HB5.out.drew⟩
        case rest =>
        rename_i hK3
        refine hK3 _ _ ?_
        clear hK3
        have HKZ := hcut
        obtain ⟨⟨-, -, -, k3⟩, -⟩ := foV_cells HKZ.out.1
        by_cases hs : rs = -1
        · subst hs
          have HRZ := Lib.hid (show Keep wc B (foV G (.slice (some ⟨g, 0, none⟩) n c) (ns.set a r.1) vi is' vsi vo os' vso (.slice (some ⟨P, 0, none⟩) n c2) (nats (if r.2 = -1 then st else st.set a r.2.toNat))) ∧ Below B w wc by rw [HRE.out]; exact HKZ.out)
          go_wp2_with fail
          simp only [Exit.jump]
          go_end0
          exact ⟨rfl, HRZ.out⟩
        · obtain ⟨h1, h2, -⟩ := HF3.out.resolve_left hs
          obtain ⟨ss, rfl⟩ := Int.eq_ofNat_of_zero_le h1
          have hsn : ((ss : Int) != -1) = true := by simp
          obtain ⟨p0, p1⟩ := foV_at (u := a) HKZ.out.1 (by rw [HS.out]; exact ha)
          have hkz := foV_stand HKZ.out.1 a ss
          have hPB : B ≤ P := (HKZ.out.1.lt (i := 1) rfl (b := P) rfl).1
          have hbz := HKZ.out.2.setCell (p := ⟨P, a, none⟩) hPB (.int .i64 (ss : Int))
          have HRZ := Lib.hid (show Keep (wc.setCell ⟨P, a, none⟩ (.int .i64 (ss : Int))) B (foV G (.slice (some ⟨g, 0, none⟩) n c) (ns.set a r.1) vi is' vsi vo os' vso (.slice (some ⟨P, 0, none⟩) n c2) (nats (if r.2 = -1 then st else st.set a r.2.toNat))) ∧ Below B w (wc.setCell ⟨P, a, none⟩ (.int .i64 (ss : Int))) by rw [HRE.out]; dsimp only; rw [if_neg hs, Int.toNat_natCast]; exact ⟨hkz, hbz⟩)
          clear hs h1 h2 hkz hbz hPB
          go_wp2_with fail
          simp only [Exit.jump]
          go_end0
          exact ⟨rfl, HRZ.out⟩
      · have hne : (rk != xk) = true := by simpa using hkk
        have hre := HLE.out
        rw [if_neg hkk] at hre
        have HRE := Lib.hid hre
        have HLT := Lib.hid (HF2.out hkk)
        have f0 := HX3.out.f 0
        have f1 := HX3.out.f 1
        have f2 := HX3.out.f 2
        have f3 := HX3.out.f 3
        have HX4 := Lib.hid (HX3.out.put ⟨rk, ra, rb, rc⟩)
        clear hkk hre
        go_wp2_with fail
        go_step3
        exact ⟨rfl, tmps_pat rfl, ⟨rk, ra, rb, rc⟩, HF1, Lib.hid HRE.out.symm, HX4⟩
        skip
    · have hub : 0 ≤ xb ∧ xb < n := HXX.out.2 xb (by rcases h345 with h | h | h <;> subst h <;> simp [usesR, many])
      obtain ⟨ub, rfl⟩ := Int.eq_ofNat_of_zero_le hub.1
      obtain ⟨vb, hvb⟩ : ∃ vb, stF st ub = vb := ⟨_, rfl⟩
      have hsb := HST.out ub (by omega)
      rw [hvb] at hsb
      have HVB := Lib.hid hvb
      have hk2 : (xk != 2) = true := by simp; omega
      have hk6 : (xk == 6) = false := by simp; omega
      have hubl : ub < n := by omega
      have HOX1 : Hid (okX n ⟨xk, va, vb, xc⟩) := Lib.hid ⟨.inr hk, fun z hz => by rcases h345 with h | h | h <;> subst h <;> simp [usesR, many] at hz <;> omega⟩
      have HLKF := Lib.hid (show look ns ⟨xk, va, vb, xc⟩ = r by
        rw [← HR.out, ← HVA.out, ← HVB.out]
        rcases h345 with h | h | h <;> subst h <;> rfl)
      clear hvb hub
      obtain ⟨q0, q1, q2, q3⟩ := HL.out.c
      have f0 := HL.out.f 2
      obtain ⟨⟨-, -, -, k3⟩, -⟩ := foV_cells HL.out.k
      have sa := (foV_at (u := ub) HL.out.k (by rw [HS.out]; omega)).1
      rw [HVB.out] at sa
      go_upto_region 3 with fail
      go_cut [] from 27 to 35 (fun wz => Hid (LJ B w.heap.size (foV G (.slice (some ⟨g, 0, none⟩) n c) ns vi is' vsi vo os' vso (.slice (some ⟨P, 0, none⟩) n c2) (nats st)) w wz ⟨xk, va, vb, xc⟩))
      case first =>
        go_region_with (fail)
        all_goals
          go_wp2_with fail
          go_meet
          first | exact Lib.hid (HL.out.set 2 (by omega) _) | exact Lib.hid (HL.out.set 2 (by omega) _).drew
      case rest =>
      clear q0 q1 q2 q3 f0 k3 sa HL
      have HL := hcut
      rename_i hK3
      refine hK3 _ _ ?_
      clear hK3 hcut
      clear h345
      obtain ⟨q0, q1, q2, q3⟩ := HL.out.c
      go_wp2_with fail
      go_step3
      clear q0 q1 q2 q3
      have HLK : Hid (look ns ⟨xk, va, vb, xc⟩ = r) := HLKF
      have HOX : Hid (okX n ⟨xk, va, vb, xc⟩) := HOX1
      obtain ⟨x, hx1⟩ : ∃ x : Node, x = ⟨xk, va, vb, xc⟩ := ⟨_, rfl⟩
      rw [← hx1] at HL HLK HOX
      clear hx1
      obtain ⟨W, hW⟩ : ∃ W, W = wc := ⟨_, rfl⟩
      subst hW
      clear hk hk2 hk6
      obtain ⟨q0, q1, q2, q3⟩ := HL.out.c
      obtain ⟨Wy, hwy⟩ : ∃ Wy, Wy = W.alloc (ndBox x) := ⟨_, rfl⟩
      have HLY := Lib.hid (LJ.new HL.out.k HL.out.b x)
      have HLX := Lib.hid (HL.out.below ((Below.refl _ _).alloc (Nat.le_refl _) (ndBox x)))
      have HNE := Lib.hid (show W.heap.size ≠ w.heap.size from fun e => by have := HL.out.lt; omega)
      rw [← hwy] at HLY HLX
      have HWY := Lib.hid hwy
      clear hwy
      obtain ⟨xk, xa, xb, xc⟩ := x
      dsimp only at q0 q1 q2 q3
      obtain ⟨p0, p1, p2, p3⟩ := HLX.out.c
      rw [HWY.out] at p0 p1 p2 p3
      go_upto_region 7 with fail
      go_cut [50] from 49 to 49 (fun s50 wc => s50 = .int .i64 xk ∧ wc = W.alloc (ndBox ⟨xk, xa, xb, xc⟩))
      case first =>
        go_wp2_with fail
        go_meet
        exact ⟨rfl, rfl⟩
      case rest =>
      obtain ⟨rfl, rfl⟩ := hcut
      rename_i hKK
      refine hKK _ _ ?_
      go_cut [6] from 51 to 90 (fun s6 wc => s6 = .int .i64 (fold1 ns ⟨xk, xa, xb, xc⟩).2 ∧ Hid (LJ B w.heap.size (foV G (.slice (some ⟨g, 0, none⟩) n c) ns vi is' vsi vo os' vso (.slice (some ⟨P, 0, none⟩) n c2) (nats st)) w wc ⟨xk, xa, xb, xc⟩ ∧ LJ B W.heap.size (foV G (.slice (some ⟨g, 0, none⟩) n c) ns vi is' vsi vo os' vso (.slice (some ⟨P, 0, none⟩) n c2) (nats st)) w wc (fold1 ns ⟨xk, xa, xb, xc⟩).1))
      case first =>
        obtain ⟨⟨k0, -, -, -⟩, -⟩ := foV_cells HLX.out.k
        have hrow := foV_row HLX.out.k
        rw [← HN.out] at hrow k0
        have huse := HOX.out.2
        rw [← HN.out] at huse
        clear q0 q1 q2 q3
        obtain ⟨q0, q1, q2, q3⟩ := HLX.out.c
        rcases kind6 HOX.out.1 with hk | hk | hk | hk | hk | hk <;> dsimp only at hk <;> subst hk
        · rw [HWY.out] at q0 q1 q2 q3
          clear hrow k0 huse
          go_wp2_with fail
          rw [← HWY.out]
          go_meet
          exact ⟨rfl, Lib.hid ⟨HLX.out, HLY.out⟩⟩
        · simp [usesR, many] at huse
          obtain ⟨ua, rfl⟩ := Int.eq_ofNat_of_zero_le huse.1
          obtain ⟨⟨⟨rk, ra, rb, rc⟩, rs⟩, hfr⟩ : ∃ q, flipN ns ⟨2, ua, xb, xc⟩ = q := ⟨_, rfl⟩
          have HCT := flip_net Wy (fun _ => False) G c _ ns k0 hrow ⟨2, ua, xb, xc⟩ ua (by omega) rfl (fun h => (nd_ok HM.out _).1 h)
          rw [hfr] at HCT
          have HFR := Lib.hid (show fold1 ns ⟨2, ua, xb, xc⟩ = (⟨rk, ra, rb, rc⟩, rs) from hfr)
          have HCC := Lib.hid HCT
          rw [HWY.out] at q0 q1 q2 q3
          clear HCT hfr hrow k0 huse
          go_wp2_with fail
          rw [← HWY.out]
          refine HCC.out.mono ?_
          rintro e w2 ⟨rfl, hb2⟩
          have HX2 := Lib.hid (HLX.out.below hb2)
          have HY2 := Lib.hid (HLY.out.below hb2)
          obtain ⟨t0, t1, t2, t3⟩ := HY2.out.c
          have f0 := HY2.out.f 0
          have f1 := HY2.out.f 1
          have f2 := HY2.out.f 2
          have f3 := HY2.out.f 3
          clear hb2 q0 q1 q2 q3
          go_wp2_with fail
          go_meet
          rw [HFR.out]
          exact ⟨rfl, Lib.hid ⟨HX2.out.skip4 HY2.out HNE.out ⟨rk, ra, rb, rc⟩, HY2.out.put ⟨rk, ra, rb, rc⟩⟩⟩
        · simp [usesR, many] at huse
          obtain ⟨ua, rfl⟩ := Int.eq_ofNat_of_zero_le huse.1.1
          obtain ⟨ub, rfl⟩ := Int.eq_ofNat_of_zero_le huse.2.1
          obtain ⟨⟨⟨rk, ra, rb, rc⟩, rs⟩, hfr⟩ : ∃ q, bothN ns ⟨3, ua, ub, xc⟩ 0 = q := ⟨_, rfl⟩
          have HCT := both_net Wy (fun _ => False) G c _ ns k0 hrow ⟨3, ua, ub, xc⟩ ua ub (by omega) (by omega) rfl rfl 0 (.inl rfl)
          rw [hfr] at HCT
          have HFR := Lib.hid (show fold1 ns ⟨3, ua, ub, xc⟩ = (⟨rk, ra, rb, rc⟩, rs) from hfr)
          have HCC := Lib.hid HCT
          rw [HWY.out] at q0 q1 q2 q3
          clear HCT hfr hrow k0 huse
          go_wp2_with fail
          rw [← HWY.out]
          refine HCC.out.mono ?_
          rintro e w2 ⟨rfl, hb2⟩
          have HX2 := Lib.hid (HLX.out.below hb2)
          have HY2 := Lib.hid (HLY.out.below hb2)
          obtain ⟨t0, t1, t2, t3⟩ := HY2.out.c
          have f0 := HY2.out.f 0
          have f1 := HY2.out.f 1
          have f2 := HY2.out.f 2
          have f3 := HY2.out.f 3
          clear hb2 q0 q1 q2 q3
          go_wp2_with fail
          go_meet
          rw [HFR.out]
          exact ⟨rfl, Lib.hid ⟨HX2.out.skip4 HY2.out HNE.out ⟨rk, ra, rb, rc⟩, HY2.out.put ⟨rk, ra, rb, rc⟩⟩⟩
        · simp [usesR, many] at huse
          obtain ⟨ua, rfl⟩ := Int.eq_ofNat_of_zero_le huse.1.1
          obtain ⟨ub, rfl⟩ := Int.eq_ofNat_of_zero_le huse.2.1
          obtain ⟨⟨⟨rk, ra, rb, rc⟩, rs⟩, hfr⟩ : ∃ q, bothN ns ⟨4, ua, ub, xc⟩ 1 = q := ⟨_, rfl⟩
          have HCT := both_net Wy (fun _ => False) G c _ ns k0 hrow ⟨4, ua, ub, xc⟩ ua ub (by omega) (by omega) rfl rfl 1 (.inr rfl)
          rw [hfr] at HCT
          have HFR := Lib.hid (show fold1 ns ⟨4, ua, ub, xc⟩ = (⟨rk, ra, rb, rc⟩, rs) from hfr)
          have HCC := Lib.hid HCT
          rw [HWY.out] at q0 q1 q2 q3
          clear HCT hfr hrow k0 huse
          go_wp2_with fail
          rw [← HWY.out]
          refine HCC.out.mono ?_
          rintro e w2 ⟨rfl, hb2⟩
          have HX2 := Lib.hid (HLX.out.below hb2)
          have HY2 := Lib.hid (HLY.out.below hb2)
          obtain ⟨t0, t1, t2, t3⟩ := HY2.out.c
          have f0 := HY2.out.f 0
          have f1 := HY2.out.f 1
          have f2 := HY2.out.f 2
          have f3 := HY2.out.f 3
          clear hb2 q0 q1 q2 q3
          go_wp2_with fail
          go_meet
          rw [HFR.out]
          exact ⟨rfl, Lib.hid ⟨HX2.out.skip4 HY2.out HNE.out ⟨rk, ra, rb, rc⟩, HY2.out.put ⟨rk, ra, rb, rc⟩⟩⟩
        · simp [usesR, many] at huse
          obtain ⟨ua, rfl⟩ := Int.eq_ofNat_of_zero_le huse.1.1
          obtain ⟨ub, rfl⟩ := Int.eq_ofNat_of_zero_le huse.2.1
          obtain ⟨⟨⟨rk, ra, rb, rc⟩, rs⟩, hfr⟩ : ∃ q, oddN ns ⟨5, ua, ub, xc⟩ = q := ⟨_, rfl⟩
          have HCT := odd_net Wy (fun _ => False) G c _ ns k0 hrow ⟨5, ua, ub, xc⟩ ua ub (by omega) (by omega) rfl rfl
          rw [hfr] at HCT
          have HFR := Lib.hid (show fold1 ns ⟨5, ua, ub, xc⟩ = (⟨rk, ra, rb, rc⟩, rs) from hfr)
          have HCC := Lib.hid HCT
          rw [HWY.out] at q0 q1 q2 q3
          clear HCT hfr hrow k0 huse
          go_wp2_with fail
          rw [← HWY.out]
          refine HCC.out.mono ?_
          rintro e w2 ⟨rfl, hb2⟩
          have HX2 := Lib.hid (HLX.out.below hb2)
          have HY2 := Lib.hid (HLY.out.below hb2)
          obtain ⟨t0, t1, t2, t3⟩ := HY2.out.c
          have f0 := HY2.out.f 0
          have f1 := HY2.out.f 1
          have f2 := HY2.out.f 2
          have f3 := HY2.out.f 3
          clear hb2 q0 q1 q2 q3
          go_wp2_with fail
          go_meet
          rw [HFR.out]
          exact ⟨rfl, Lib.hid ⟨HX2.out.skip4 HY2.out HNE.out ⟨rk, ra, rb, rc⟩, HY2.out.put ⟨rk, ra, rb, rc⟩⟩⟩
        · simp [usesR, many] at huse
          obtain ⟨ua, rfl⟩ := Int.eq_ofNat_of_zero_le huse.1.1
          obtain ⟨ub, rfl⟩ := Int.eq_ofNat_of_zero_le huse.2.1.1
          obtain ⟨uc, rfl⟩ := Int.eq_ofNat_of_zero_le huse.2.2.1
          obtain ⟨⟨⟨rk, ra, rb, rc⟩, rs⟩, hfr⟩ : ∃ q, choiceN ns ⟨6, ua, ub, uc⟩ = q := ⟨_, rfl⟩
          have HCT := choice_net Wy (fun _ => False) G c _ ns k0 hrow ⟨6, ua, ub, uc⟩ ua ub uc (by omega) (by omega) (by omega) rfl rfl rfl
          rw [hfr] at HCT
          have HFR := Lib.hid (show fold1 ns ⟨6, ua, ub, uc⟩ = (⟨rk, ra, rb, rc⟩, rs) from hfr)
          have HCC := Lib.hid HCT
          rw [HWY.out] at q0 q1 q2 q3
          clear HCT hfr hrow k0 huse
          go_wp2_with fail
          rw [← HWY.out]
          refine HCC.out.mono ?_
          rintro e w2 ⟨rfl, hb2⟩
          have HX2 := Lib.hid (HLX.out.below hb2)
          have HY2 := Lib.hid (HLY.out.below hb2)
          obtain ⟨t0, t1, t2, t3⟩ := HY2.out.c
          have f0 := HY2.out.f 0
          have f1 := HY2.out.f 1
          have f2 := HY2.out.f 2
          have f3 := HY2.out.f 3
          clear hb2 q0 q1 q2 q3
          go_wp2_with fail
          go_meet
          rw [HFR.out]
          exact ⟨rfl, Lib.hid ⟨HX2.out.skip4 HY2.out HNE.out ⟨rk, ra, rb, rc⟩, HY2.out.put ⟨rk, ra, rb, rc⟩⟩⟩
      case rest =>
      obtain ⟨rfl, HL2⟩ := hcut
      rename_i hK2 K2
      clear hKK
      obtain ⟨hfo1, hfo2, hfo3⟩ := fold1_ok HM.out HOX.out
      have hleq := look_eq HM.out HOX.out
      rw [HLK.out] at hleq
      obtain ⟨⟨⟨rk, ra, rb, rc⟩, rs⟩, hfr⟩ : ∃ q, fold1 ns ⟨xk, xa, xb, xc⟩ = q := ⟨_, rfl⟩
      rw [hfr] at HL2 hfo1 hfo2 hfo3 hleq
      rw [hfr]
      dsimp only at hfo1 hfo2 hfo3 hleq
      have HX3 := Lib.hid HL2.out.1
      have HY3 := Lib.hid HL2.out.2
      have HF1 := Lib.hid hfo1
      have HF2 := Lib.hid hfo2
      have HF3 := Lib.hid hfo3
      have HLE := Lib.hid hleq
      clear hfr hfo1 hfo2 hfo3 hleq HL2 p0 p1 p2 p3 q0 q1 q2 q3 HLX HLY HWY
      obtain ⟨q0, q1, q2, q3⟩ := HX3.out.c
      obtain ⟨t0, t1, t2, t3⟩ := HY3.out.c
      refine hK2 _ _ ?_
      clear hK2
      by_cases hkk : rk = xk
      · subst hkk
        have hre := HLE.out
        rw [if_pos rfl] at hre
        have HRE := Lib.hid hre
        have hne : (rk != rk) = false := by simp
        obtain ⟨⟨k0, -, -, -⟩, -⟩ := foV_cells HX3.out.k
        have hk4 := HX3.out.k
        rw [← HN.out] at hk4
        have han : a < ns.length := by rw [HN.out]; exact ha
        have hna := foV_nodeAt hk4 han
        obtain ⟨⟨v0, w0⟩, f0⟩ := hna 0 (by omega)
        obtain ⟨⟨v1, w1⟩, f1⟩ := hna 1 (by omega)
        obtain ⟨⟨v2, w2⟩, f2⟩ := hna 2 (by omega)
        obtain ⟨⟨v3, w3⟩, f3⟩ := hna 3 (by omega)
        rw [Nat.add_zero] at w0 f0
        have hk5 := foV_node hk4 han ⟨rk, ra, rb, rc⟩
        rw [HN.out] at hk5
        have hgB : B ≤ g := (HX3.out.k.lt (i := 2) rfl (b := g) rfl).1
        have hb5 := (((HX3.out.b.setCell (p := ⟨g, a * 4, none⟩) hgB (.int .i64 rk)).setCell (p := ⟨g, a * 4 + 1, none⟩) hgB (.int .i64 ra)).setCell (p := ⟨g, a * 4 + 2, none⟩) hgB (.int .i64 rb)).setCell (p := ⟨g, a * 4 + 3, none⟩) hgB (.int .i64 rc)
        have HK5 := Lib.hid hk5
        have HB5 := Lib.hid hb5
        clear hre hk4 hna hk5 hb5 hgB
        go_upto_region 20 with fail
        go_cut [] from 97 to 104 (fun wz => Hid (Keep wz B (foV G (.slice (some ⟨g, 0, none⟩) n c) (ns.set a ⟨rk, ra, rb, rc⟩) vi is' vsi vo os' vso (.slice (some ⟨P, 0, none⟩) n c2) (nats st)) ∧ Below B w wz))
        case first =>
          go_region_with (fail)
          all_goals
            go_wp2_with fail
            go_meet
            first | exact Lib.hid ⟨HK5.out, HB5.out⟩ | exact Lib.hid ⟨HK5.out.drew, HB5.out.drew⟩
        case rest =>
        rename_i hK3
        refine hK3 _ _ ?_
        clear hK3
        have HKZ := hcut
        obtain ⟨⟨-, -, -, k3⟩, -⟩ := foV_cells HKZ.out.1
        by_cases hs : rs = -1
        · subst hs
          have HRZ := Lib.hid (show Keep wc B (foV G (.slice (some ⟨g, 0, none⟩) n c) (ns.set a r.1) vi is' vsi vo os' vso (.slice (some ⟨P, 0, none⟩) n c2) (nats (if r.2 = -1 then st else st.set a r.2.toNat))) ∧ Below B w wc by rw [HRE.out]; exact HKZ.out)
          go_wp2_with fail
          simp only [Exit.jump]
          go_end0
          exact ⟨rfl, HRZ.out⟩
        · obtain ⟨h1, h2, -⟩ := HF3.out.resolve_left hs
          obtain ⟨ss, rfl⟩ := Int.eq_ofNat_of_zero_le h1
          have hsn : ((ss : Int) != -1) = true := by simp
          obtain ⟨p0, p1⟩ := foV_at (u := a) HKZ.out.1 (by rw [HS.out]; exact ha)
          have hkz := foV_stand HKZ.out.1 a ss
          have hPB : B ≤ P := (HKZ.out.1.lt (i := 1) rfl (b := P) rfl).1
          have hbz := HKZ.out.2.setCell (p := ⟨P, a, none⟩) hPB (.int .i64 (ss : Int))
          have HRZ := Lib.hid (show Keep (wc.setCell ⟨P, a, none⟩ (.int .i64 (ss : Int))) B (foV G (.slice (some ⟨g, 0, none⟩) n c) (ns.set a r.1) vi is' vsi vo os' vso (.slice (some ⟨P, 0, none⟩) n c2) (nats (if r.2 = -1 then st else st.set a r.2.toNat))) ∧ Below B w (wc.setCell ⟨P, a, none⟩ (.int .i64 (ss : Int))) by rw [HRE.out]; dsimp only; rw [if_neg hs, Int.toNat_natCast]; exact ⟨hkz, hbz⟩)
          clear hs h1 h2 hkz hbz hPB
          go_wp2_with fail
          simp only [Exit.jump]
          go_end0
          exact ⟨rfl, HRZ.out⟩
      · have hne : (rk != xk) = true := by simpa using hkk
        have hre := HLE.out
        rw [if_neg hkk] at hre
        have HRE := Lib.hid hre
        have HLT := Lib.hid (HF2.out hkk)
        have f0 := HX3.out.f 0
        have f1 := HX3.out.f 1
        have f2 := HX3.out.f 2
        have f3 := HX3.out.f 3
        have HX4 := Lib.hid (HX3.out.put ⟨rk, ra, rb, rc⟩)
        clear hkk hre
        go_wp2_with fail
        go_step3
        exact ⟨rfl, tmps_pat rfl, ⟨rk, ra, rb, rc⟩, HF1, Lib.hid HRE.out.symm, HX4⟩
        skip
    · have hub : 0 ≤ xb ∧ xb < n := HXX.out.2 xb (by simp [usesR, many])
      have huc : 0 ≤ xc ∧ xc < n := HXX.out.2 xc (by simp [usesR, many])
      obtain ⟨ub, rfl⟩ := Int.eq_ofNat_of_zero_le hub.1
      obtain ⟨uc, rfl⟩ := Int.eq_ofNat_of_zero_le huc.1
      obtain ⟨vb, hvb⟩ : ∃ vb, stF st ub = vb := ⟨_, rfl⟩
      obtain ⟨vc, hvc⟩ : ∃ vc, stF st uc = vc := ⟨_, rfl⟩
      have hsb := HST.out ub (by omega)
      have hsc := HST.out uc (by omega)
      rw [hvb] at hsb
      rw [hvc] at hsc
      have HVB := Lib.hid hvb
      have HVC := Lib.hid hvc
      have hubl : ub < n := by omega
      have hucl : uc < n := by omega
      have HOX1 : Hid (okX n ⟨6, va, vb, vc⟩) := Lib.hid ⟨.inr ⟨by show (2 : Int) ≤ 6; omega, by show (6 : Int) ≤ 6; omega⟩, fun z hz => by simp [usesR, many] at hz; omega⟩
      have HLKF := Lib.hid (show look ns ⟨6, va, vb, vc⟩ = r by
        rw [← HR.out, ← HVA.out, ← HVB.out, ← HVC.out]
        rfl)
      clear hvb hub hvc huc
      obtain ⟨q0, q1, q2, q3⟩ := HL.out.c
      have f0 := HL.out.f 2
      obtain ⟨⟨-, -, -, k3⟩, -⟩ := foV_cells HL.out.k
      have sa := (foV_at (u := ub) HL.out.k (by rw [HS.out]; omega)).1
      rw [HVB.out] at sa
      go_upto_region 3 with fail
      go_cut [] from 27 to 35 (fun wz => Hid (LJ B w.heap.size (foV G (.slice (some ⟨g, 0, none⟩) n c) ns vi is' vsi vo os' vso (.slice (some ⟨P, 0, none⟩) n c2) (nats st)) w wz ⟨6, va, vb, uc⟩))
      case first =>
        go_region_with (fail)
        all_goals
          go_wp2_with fail
          go_meet
          first | exact Lib.hid (HL.out.set 2 (by omega) _) | exact Lib.hid (HL.out.set 2 (by omega) _).drew
      case rest =>
      clear q0 q1 q2 q3 f0 k3 sa HL
      have HL := hcut
      rename_i hK3
      refine hK3 _ _ ?_
      clear hK3 hcut
      obtain ⟨q0, q1, q2, q3⟩ := HL.out.c
      have f0 := HL.out.f 3
      obtain ⟨⟨-, -, -, k3⟩, -⟩ := foV_cells HL.out.k
      have sa := (foV_at (u := uc) HL.out.k (by rw [HS.out]; omega)).1
      rw [HVC.out] at sa
      go_upto_region 5 with fail
      go_cut [] from 39 to 47 (fun wz => Hid (LJ B w.heap.size (foV G (.slice (some ⟨g, 0, none⟩) n c) ns vi is' vsi vo os' vso (.slice (some ⟨P, 0, none⟩) n c2) (nats st)) w wz ⟨6, va, vb, vc⟩))
      case first =>
        go_region_with (fail)
        all_goals
          go_wp2_with fail
          go_meet
          first | exact Lib.hid (HL.out.set 3 (by omega) _) | exact Lib.hid (HL.out.set 3 (by omega) _).drew
      case rest =>
      clear q0 q1 q2 q3 f0 k3 sa HL
      have HL := hcut
      rename_i hK3
      refine hK3 _ _ ?_
      clear hK3 hcut
      obtain ⟨q0, q1, q2, q3⟩ := HL.out.c
      go_wp2_with fail
      go_step3
      clear q0 q1 q2 q3
      have HLK : Hid (look ns ⟨6, va, vb, vc⟩ = r) := HLKF
      have HOX : Hid (okX n ⟨6, va, vb, vc⟩) := HOX1
      obtain ⟨x, hx1⟩ : ∃ x : Node, x = ⟨6, va, vb, vc⟩ := ⟨_, rfl⟩
      rw [← hx1] at HL HLK HOX
      clear hx1
      obtain ⟨W, hW⟩ : ∃ W, W = wc := ⟨_, rfl⟩
      subst hW
      obtain ⟨q0, q1, q2, q3⟩ := HL.out.c
      obtain ⟨Wy, hwy⟩ : ∃ Wy, Wy = W.alloc (ndBox x) := ⟨_, rfl⟩
      have HLY := Lib.hid (LJ.new HL.out.k HL.out.b x)
      have HLX := Lib.hid (HL.out.below ((Below.refl _ _).alloc (Nat.le_refl _) (ndBox x)))
      have HNE := Lib.hid (show W.heap.size ≠ w.heap.size from fun e => by have := HL.out.lt; omega)
      rw [← hwy] at HLY HLX
      have HWY := Lib.hid hwy
      clear hwy
      obtain ⟨xk, xa, xb, xc⟩ := x
      dsimp only at q0 q1 q2 q3
      obtain ⟨p0, p1, p2, p3⟩ := HLX.out.c
      rw [HWY.out] at p0 p1 p2 p3
      go_upto_region 7 with fail
      go_cut [50] from 49 to 49 (fun s50 wc => s50 = .int .i64 xk ∧ wc = W.alloc (ndBox ⟨xk, xa, xb, xc⟩))
      case first =>
        go_wp2_with fail
        go_meet
        exact ⟨rfl, rfl⟩
      case rest =>
      obtain ⟨rfl, rfl⟩ := hcut
      rename_i hKK
      refine hKK _ _ ?_
      go_cut [6] from 51 to 90 (fun s6 wc => s6 = .int .i64 (fold1 ns ⟨xk, xa, xb, xc⟩).2 ∧ Hid (LJ B w.heap.size (foV G (.slice (some ⟨g, 0, none⟩) n c) ns vi is' vsi vo os' vso (.slice (some ⟨P, 0, none⟩) n c2) (nats st)) w wc ⟨xk, xa, xb, xc⟩ ∧ LJ B W.heap.size (foV G (.slice (some ⟨g, 0, none⟩) n c) ns vi is' vsi vo os' vso (.slice (some ⟨P, 0, none⟩) n c2) (nats st)) w wc (fold1 ns ⟨xk, xa, xb, xc⟩).1))
      case first =>
        obtain ⟨⟨k0, -, -, -⟩, -⟩ := foV_cells HLX.out.k
        have hrow := foV_row HLX.out.k
        rw [← HN.out] at hrow k0
        have huse := HOX.out.2
        rw [← HN.out] at huse
        clear q0 q1 q2 q3
        obtain ⟨q0, q1, q2, q3⟩ := HLX.out.c
        rcases kind6 HOX.out.1 with hk | hk | hk | hk | hk | hk <;> dsimp only at hk <;> subst hk
        · rw [HWY.out] at q0 q1 q2 q3
          clear hrow k0 huse
          go_wp2_with fail
          rw [← HWY.out]
          go_meet
          exact ⟨rfl, Lib.hid ⟨HLX.out, HLY.out⟩⟩
        · simp [usesR, many] at huse
          obtain ⟨ua, rfl⟩ := Int.eq_ofNat_of_zero_le huse.1
          obtain ⟨⟨⟨rk, ra, rb, rc⟩, rs⟩, hfr⟩ : ∃ q, flipN ns ⟨2, ua, xb, xc⟩ = q := ⟨_, rfl⟩
          have HCT := flip_net Wy (fun _ => False) G c _ ns k0 hrow ⟨2, ua, xb, xc⟩ ua (by omega) rfl (fun h => (nd_ok HM.out _).1 h)
          rw [hfr] at HCT
          have HFR := Lib.hid (show fold1 ns ⟨2, ua, xb, xc⟩ = (⟨rk, ra, rb, rc⟩, rs) from hfr)
          have HCC := Lib.hid HCT
          rw [HWY.out] at q0 q1 q2 q3
          clear HCT hfr hrow k0 huse
          go_wp2_with fail
          rw [← HWY.out]
          refine HCC.out.mono ?_
          rintro e w2 ⟨rfl, hb2⟩
          have HX2 := Lib.hid (HLX.out.below hb2)
          have HY2 := Lib.hid (HLY.out.below hb2)
          obtain ⟨t0, t1, t2, t3⟩ := HY2.out.c
          have f0 := HY2.out.f 0
          have f1 := HY2.out.f 1
          have f2 := HY2.out.f 2
          have f3 := HY2.out.f 3
          clear hb2 q0 q1 q2 q3
          go_wp2_with fail
          go_meet
          rw [HFR.out]
          exact ⟨rfl, Lib.hid ⟨HX2.out.skip4 HY2.out HNE.out ⟨rk, ra, rb, rc⟩, HY2.out.put ⟨rk, ra, rb, rc⟩⟩⟩
        · simp [usesR, many] at huse
          obtain ⟨ua, rfl⟩ := Int.eq_ofNat_of_zero_le huse.1.1
          obtain ⟨ub, rfl⟩ := Int.eq_ofNat_of_zero_le huse.2.1
          obtain ⟨⟨⟨rk, ra, rb, rc⟩, rs⟩, hfr⟩ : ∃ q, bothN ns ⟨3, ua, ub, xc⟩ 0 = q := ⟨_, rfl⟩
          have HCT := both_net Wy (fun _ => False) G c _ ns k0 hrow ⟨3, ua, ub, xc⟩ ua ub (by omega) (by omega) rfl rfl 0 (.inl rfl)
          rw [hfr] at HCT
          have HFR := Lib.hid (show fold1 ns ⟨3, ua, ub, xc⟩ = (⟨rk, ra, rb, rc⟩, rs) from hfr)
          have HCC := Lib.hid HCT
          rw [HWY.out] at q0 q1 q2 q3
          clear HCT hfr hrow k0 huse
          go_wp2_with fail
          rw [← HWY.out]
          refine HCC.out.mono ?_
          rintro e w2 ⟨rfl, hb2⟩
          have HX2 := Lib.hid (HLX.out.below hb2)
          have HY2 := Lib.hid (HLY.out.below hb2)
          obtain ⟨t0, t1, t2, t3⟩ := HY2.out.c
          have f0 := HY2.out.f 0
          have f1 := HY2.out.f 1
          have f2 := HY2.out.f 2
          have f3 := HY2.out.f 3
          clear hb2 q0 q1 q2 q3
          go_wp2_with fail
          go_meet
          rw [HFR.out]
          exact ⟨rfl, Lib.hid ⟨HX2.out.skip4 HY2.out HNE.out ⟨rk, ra, rb, rc⟩, HY2.out.put ⟨rk, ra, rb, rc⟩⟩⟩
        · simp [usesR, many] at huse
          obtain ⟨ua, rfl⟩ := Int.eq_ofNat_of_zero_le huse.1.1
          obtain ⟨ub, rfl⟩ := Int.eq_ofNat_of_zero_le huse.2.1
          obtain ⟨⟨⟨rk, ra, rb, rc⟩, rs⟩, hfr⟩ : ∃ q, bothN ns ⟨4, ua, ub, xc⟩ 1 = q := ⟨_, rfl⟩
          have HCT := both_net Wy (fun _ => False) G c _ ns k0 hrow ⟨4, ua, ub, xc⟩ ua ub (by omega) (by omega) rfl rfl 1 (.inr rfl)
          rw [hfr] at HCT
          have HFR := Lib.hid (show fold1 ns ⟨4, ua, ub, xc⟩ = (⟨rk, ra, rb, rc⟩, rs) from hfr)
          have HCC := Lib.hid HCT
          rw [HWY.out] at q0 q1 q2 q3
          clear HCT hfr hrow k0 huse
          go_wp2_with fail
          rw [← HWY.out]
          refine HCC.out.mono ?_
          rintro e w2 ⟨rfl, hb2⟩
          have HX2 := Lib.hid (HLX.out.below hb2)
          have HY2 := Lib.hid (HLY.out.below hb2)
          obtain ⟨t0, t1, t2, t3⟩ := HY2.out.c
          have f0 := HY2.out.f 0
          have f1 := HY2.out.f 1
          have f2 := HY2.out.f 2
          have f3 := HY2.out.f 3
          clear hb2 q0 q1 q2 q3
          go_wp2_with fail
          go_meet
          rw [HFR.out]
          exact ⟨rfl, Lib.hid ⟨HX2.out.skip4 HY2.out HNE.out ⟨rk, ra, rb, rc⟩, HY2.out.put ⟨rk, ra, rb, rc⟩⟩⟩
        · simp [usesR, many] at huse
          obtain ⟨ua, rfl⟩ := Int.eq_ofNat_of_zero_le huse.1.1
          obtain ⟨ub, rfl⟩ := Int.eq_ofNat_of_zero_le huse.2.1
          obtain ⟨⟨⟨rk, ra, rb, rc⟩, rs⟩, hfr⟩ : ∃ q, oddN ns ⟨5, ua, ub, xc⟩ = q := ⟨_, rfl⟩
          have HCT := odd_net Wy (fun _ => False) G c _ ns k0 hrow ⟨5, ua, ub, xc⟩ ua ub (by omega) (by omega) rfl rfl
          rw [hfr] at HCT
          have HFR := Lib.hid (show fold1 ns ⟨5, ua, ub, xc⟩ = (⟨rk, ra, rb, rc⟩, rs) from hfr)
          have HCC := Lib.hid HCT
          rw [HWY.out] at q0 q1 q2 q3
          clear HCT hfr hrow k0 huse
          go_wp2_with fail
          rw [← HWY.out]
          refine HCC.out.mono ?_
          rintro e w2 ⟨rfl, hb2⟩
          have HX2 := Lib.hid (HLX.out.below hb2)
          have HY2 := Lib.hid (HLY.out.below hb2)
          obtain ⟨t0, t1, t2, t3⟩ := HY2.out.c
          have f0 := HY2.out.f 0
          have f1 := HY2.out.f 1
          have f2 := HY2.out.f 2
          have f3 := HY2.out.f 3
          clear hb2 q0 q1 q2 q3
          go_wp2_with fail
          go_meet
          rw [HFR.out]
          exact ⟨rfl, Lib.hid ⟨HX2.out.skip4 HY2.out HNE.out ⟨rk, ra, rb, rc⟩, HY2.out.put ⟨rk, ra, rb, rc⟩⟩⟩
        · simp [usesR, many] at huse
          obtain ⟨ua, rfl⟩ := Int.eq_ofNat_of_zero_le huse.1.1
          obtain ⟨ub, rfl⟩ := Int.eq_ofNat_of_zero_le huse.2.1.1
          obtain ⟨uc, rfl⟩ := Int.eq_ofNat_of_zero_le huse.2.2.1
          obtain ⟨⟨⟨rk, ra, rb, rc⟩, rs⟩, hfr⟩ : ∃ q, choiceN ns ⟨6, ua, ub, uc⟩ = q := ⟨_, rfl⟩
          have HCT := choice_net Wy (fun _ => False) G c _ ns k0 hrow ⟨6, ua, ub, uc⟩ ua ub uc (by omega) (by omega) (by omega) rfl rfl rfl
          rw [hfr] at HCT
          have HFR := Lib.hid (show fold1 ns ⟨6, ua, ub, uc⟩ = (⟨rk, ra, rb, rc⟩, rs) from hfr)
          have HCC := Lib.hid HCT
          rw [HWY.out] at q0 q1 q2 q3
          clear HCT hfr hrow k0 huse
          go_wp2_with fail
          rw [← HWY.out]
          refine HCC.out.mono ?_
          rintro e w2 ⟨rfl, hb2⟩
          have HX2 := Lib.hid (HLX.out.below hb2)
          have HY2 := Lib.hid (HLY.out.below hb2)
          obtain ⟨t0, t1, t2, t3⟩ := HY2.out.c
          have f0 := HY2.out.f 0
          have f1 := HY2.out.f 1
          have f2 := HY2.out.f 2
          have f3 := HY2.out.f 3
          clear hb2 q0 q1 q2 q3
          go_wp2_with fail
          go_meet
          rw [HFR.out]
          exact ⟨rfl, Lib.hid ⟨HX2.out.skip4 HY2.out HNE.out ⟨rk, ra, rb, rc⟩, HY2.out.put ⟨rk, ra, rb, rc⟩⟩⟩
      case rest =>
      obtain ⟨rfl, HL2⟩ := hcut
      rename_i hK2 K2
      clear hKK
      obtain ⟨hfo1, hfo2, hfo3⟩ := fold1_ok HM.out HOX.out
      have hleq := look_eq HM.out HOX.out
      rw [HLK.out] at hleq
      obtain ⟨⟨⟨rk, ra, rb, rc⟩, rs⟩, hfr⟩ : ∃ q, fold1 ns ⟨xk, xa, xb, xc⟩ = q := ⟨_, rfl⟩
      rw [hfr] at HL2 hfo1 hfo2 hfo3 hleq
      rw [hfr]
      dsimp only at hfo1 hfo2 hfo3 hleq
      have HX3 := Lib.hid HL2.out.1
      have HY3 := Lib.hid HL2.out.2
      have HF1 := Lib.hid hfo1
      have HF2 := Lib.hid hfo2
      have HF3 := Lib.hid hfo3
      have HLE := Lib.hid hleq
      clear hfr hfo1 hfo2 hfo3 hleq HL2 p0 p1 p2 p3 q0 q1 q2 q3 HLX HLY HWY
      obtain ⟨q0, q1, q2, q3⟩ := HX3.out.c
      obtain ⟨t0, t1, t2, t3⟩ := HY3.out.c
      refine hK2 _ _ ?_
      clear hK2
      by_cases hkk : rk = xk
      · subst hkk
        have hre := HLE.out
        rw [if_pos rfl] at hre
        have HRE := Lib.hid hre
        have hne : (rk != rk) = false := by simp
        obtain ⟨⟨k0, -, -, -⟩, -⟩ := foV_cells HX3.out.k
        have hk4 := HX3.out.k
        rw [← HN.out] at hk4
        have han : a < ns.length := by rw [HN.out]; exact ha
        have hna := foV_nodeAt hk4 han
        obtain ⟨⟨v0, w0⟩, f0⟩ := hna 0 (by omega)
        obtain ⟨⟨v1, w1⟩, f1⟩ := hna 1 (by omega)
        obtain ⟨⟨v2, w2⟩, f2⟩ := hna 2 (by omega)
        obtain ⟨⟨v3, w3⟩, f3⟩ := hna 3 (by omega)
        rw [Nat.add_zero] at w0 f0
        have hk5 := foV_node hk4 han ⟨rk, ra, rb, rc⟩
        rw [HN.out] at hk5
        have hgB : B ≤ g := (HX3.out.k.lt (i := 2) rfl (b := g) rfl).1
        have hb5 := (((HX3.out.b.setCell (p := ⟨g, a * 4, none⟩) hgB (.int .i64 rk)).setCell (p := ⟨g, a * 4 + 1, none⟩) hgB (.int .i64 ra)).setCell (p := ⟨g, a * 4 + 2, none⟩) hgB (.int .i64 rb)).setCell (p := ⟨g, a * 4 + 3, none⟩) hgB (.int .i64 rc)
        have HK5 := Lib.hid hk5
        have HB5 := Lib.hid hb5
        clear hre hk4 hna hk5 hb5 hgB
        go_upto_region 20 with fail
        go_cut [] from 97 to 104 (fun wz => Hid (Keep wz B (foV G (.slice (some ⟨g, 0, none⟩) n c) (ns.set a ⟨rk, ra, rb, rc⟩) vi is' vsi vo os' vso (.slice (some ⟨P, 0, none⟩) n c2) (nats st)) ∧ Below B w wz))
        case first =>
          go_region_with (fail)
          all_goals
            go_wp2_with fail
            go_meet
            first | exact Lib.hid ⟨HK5.out, HB5.out⟩ | exact Lib.hid ⟨HK5.out.drew, HB5.out.drew⟩
        case rest =>
        rename_i hK3
        refine hK3 _ _ ?_
        clear hK3
        have HKZ := hcut
        obtain ⟨⟨-, -, -, k3⟩, -⟩ := foV_cells HKZ.out.1
        by_cases hs : rs = -1
        · subst hs
          have HRZ := Lib.hid (show Keep wc B (foV G (.slice (some ⟨g, 0, none⟩) n c) (ns.set a r.1) vi is' vsi vo os' vso (.slice (some ⟨P, 0, none⟩) n c2) (nats (if r.2 = -1 then st else st.set a r.2.toNat))) ∧ Below B w wc by rw [HRE.out]; exact HKZ.out)
          go_wp2_with fail
          simp only [Exit.jump]
          go_end0
          exact ⟨rfl, HRZ.out⟩
        · obtain ⟨h1, h2, -⟩ := HF3.out.resolve_left hs
          obtain ⟨ss, rfl⟩ := Int.eq_ofNat_of_zero_le h1
          have hsn : ((ss : Int) != -1) = true := by simp
          obtain ⟨p0, p1⟩ := foV_at (u := a) HKZ.out.1 (by rw [HS.out]; exact ha)
          have hkz := foV_stand HKZ.out.1 a ss
          have hPB : B ≤ P := (HKZ.out.1.lt (i := 1) rfl (b := P) rfl).1
          have hbz := HKZ.out.2.setCell (p := ⟨P, a, none⟩) hPB (.int .i64 (ss : Int))
          have HRZ := Lib.hid (show Keep (wc.setCell ⟨P, a, none⟩ (.int .i64 (ss : Int))) B (foV G (.slice (some ⟨g, 0, none⟩) n c) (ns.set a r.1) vi is' vsi vo os' vso (.slice (some ⟨P, 0, none⟩) n c2) (nats (if r.2 = -1 then st else st.set a r.2.toNat))) ∧ Below B w (wc.setCell ⟨P, a, none⟩ (.int .i64 (ss : Int))) by rw [HRE.out]; dsimp only; rw [if_neg hs, Int.toNat_natCast]; exact ⟨hkz, hbz⟩)
          clear hs h1 h2 hkz hbz hPB
          go_wp2_with fail
          simp only [Exit.jump]
          go_end0
          exact ⟨rfl, HRZ.out⟩
      · have hne : (rk != xk) = true := by simpa using hkk
        have hre := HLE.out
        rw [if_neg hkk] at hre
        have HRE := Lib.hid hre
        have HLT := Lib.hid (HF2.out hkk)
        have f0 := HX3.out.f 0
        have f1 := HX3.out.f 1
        have f2 := HX3.out.f 2
        have f3 := HX3.out.f 3
        have HX4 := Lib.hid (HX3.out.put ⟨rk, ra, rb, rc⟩)
        clear hkk hre
        go_wp2_with fail
        go_step3
        exact ⟨rfl, tmps_pat rfl, ⟨rk, ra, rb, rc⟩, HF1, Lib.hid HRE.out.symm, HX4⟩
        skip
  · clear hn hs hm hst hr hK hxa hk hx hB
    rintro a' W ⟨⟨u, rfl⟩, x, HOX, HLK, HL⟩
    obtain ⟨q0, q1, q2, q3⟩ := HL.out.c
    obtain ⟨Wy, hwy⟩ : ∃ Wy, Wy = W.alloc (ndBox x) := ⟨_, rfl⟩
    have HLY := Lib.hid (LJ.new HL.out.k HL.out.b x)
    have HLX := Lib.hid (HL.out.below ((Below.refl _ _).alloc (Nat.le_refl _) (ndBox x)))
    have HNE := Lib.hid (show W.heap.size ≠ X from fun e => by have := HL.out.lt; omega)
    rw [← hwy] at HLY HLX
    have HWY := Lib.hid hwy
    clear hwy
    obtain ⟨xk, xa, xb, xc⟩ := x
    dsimp only at q0 q1 q2 q3
    obtain ⟨p0, p1, p2, p3⟩ := HLX.out.c
    rw [HWY.out] at p0 p1 p2 p3
    go_upto_region 7 with fail
    go_cut [50] from 49 to 49 (fun s50 wc => s50 = .int .i64 xk ∧ wc = W.alloc (ndBox ⟨xk, xa, xb, xc⟩))
    case first =>
      go_wp2_with fail
      go_meet
      exact ⟨rfl, rfl⟩
    case rest =>
    obtain ⟨rfl, rfl⟩ := hcut
    rename_i hKK
    refine hKK _ _ ?_
    go_cut [6] from 51 to 90 (fun s6 wc => s6 = .int .i64 (fold1 ns ⟨xk, xa, xb, xc⟩).2 ∧ Hid (LJ B X (foV G (.slice (some ⟨g, 0, none⟩) n c) ns vi is' vsi vo os' vso (.slice (some ⟨P, 0, none⟩) n c2) (nats st)) w wc ⟨xk, xa, xb, xc⟩ ∧ LJ B W.heap.size (foV G (.slice (some ⟨g, 0, none⟩) n c) ns vi is' vsi vo os' vso (.slice (some ⟨P, 0, none⟩) n c2) (nats st)) w wc (fold1 ns ⟨xk, xa, xb, xc⟩).1))
    case first =>
      obtain ⟨⟨k0, -, -, -⟩, -⟩ := foV_cells HLX.out.k
      have hrow := foV_row HLX.out.k
      rw [← HN.out] at hrow k0
      have huse := HOX.out.2
      rw [← HN.out] at huse
      clear q0 q1 q2 q3
      obtain ⟨q0, q1, q2, q3⟩ := HLX.out.c
      rcases kind6 HOX.out.1 with hk | hk | hk | hk | hk | hk <;> dsimp only at hk <;> subst hk
      · rw [HWY.out] at q0 q1 q2 q3
        clear hrow k0 huse
        go_wp2_with fail
        rw [← HWY.out]
        go_meet
        exact ⟨rfl, Lib.hid ⟨HLX.out, HLY.out⟩⟩
      · simp [usesR, many] at huse
        obtain ⟨ua, rfl⟩ := Int.eq_ofNat_of_zero_le huse.1
        obtain ⟨⟨⟨rk, ra, rb, rc⟩, rs⟩, hfr⟩ : ∃ q, flipN ns ⟨2, ua, xb, xc⟩ = q := ⟨_, rfl⟩
        have HCT := flip_net Wy (fun _ => False) G c _ ns k0 hrow ⟨2, ua, xb, xc⟩ ua (by omega) rfl (fun h => (nd_ok HM.out _).1 h)
        rw [hfr] at HCT
        have HFR := Lib.hid (show fold1 ns ⟨2, ua, xb, xc⟩ = (⟨rk, ra, rb, rc⟩, rs) from hfr)
        have HCC := Lib.hid HCT
        rw [HWY.out] at q0 q1 q2 q3
        clear HCT hfr hrow k0 huse
        go_wp2_with fail
        rw [← HWY.out]
        refine HCC.out.mono ?_
        rintro e w2 ⟨rfl, hb2⟩
        have HX2 := Lib.hid (HLX.out.below hb2)
        have HY2 := Lib.hid (HLY.out.below hb2)
        obtain ⟨t0, t1, t2, t3⟩ := HY2.out.c
        have f0 := HY2.out.f 0
        have f1 := HY2.out.f 1
        have f2 := HY2.out.f 2
        have f3 := HY2.out.f 3
        clear hb2 q0 q1 q2 q3
        go_wp2_with fail
        go_meet
        rw [HFR.out]
        exact ⟨rfl, Lib.hid ⟨HX2.out.skip4 HY2.out HNE.out ⟨rk, ra, rb, rc⟩, HY2.out.put ⟨rk, ra, rb, rc⟩⟩⟩
      · simp [usesR, many] at huse
        obtain ⟨ua, rfl⟩ := Int.eq_ofNat_of_zero_le huse.1.1
        obtain ⟨ub, rfl⟩ := Int.eq_ofNat_of_zero_le huse.2.1
        obtain ⟨⟨⟨rk, ra, rb, rc⟩, rs⟩, hfr⟩ : ∃ q, bothN ns ⟨3, ua, ub, xc⟩ 0 = q := ⟨_, rfl⟩
        have HCT := both_net Wy (fun _ => False) G c _ ns k0 hrow ⟨3, ua, ub, xc⟩ ua ub (by omega) (by omega) rfl rfl 0 (.inl rfl)
        rw [hfr] at HCT
        have HFR := Lib.hid (show fold1 ns ⟨3, ua, ub, xc⟩ = (⟨rk, ra, rb, rc⟩, rs) from hfr)
        have HCC := Lib.hid HCT
        rw [HWY.out] at q0 q1 q2 q3
        clear HCT hfr hrow k0 huse
        go_wp2_with fail
        rw [← HWY.out]
        refine HCC.out.mono ?_
        rintro e w2 ⟨rfl, hb2⟩
        have HX2 := Lib.hid (HLX.out.below hb2)
        have HY2 := Lib.hid (HLY.out.below hb2)
        obtain ⟨t0, t1, t2, t3⟩ := HY2.out.c
        have f0 := HY2.out.f 0
        have f1 := HY2.out.f 1
        have f2 := HY2.out.f 2
        have f3 := HY2.out.f 3
        clear hb2 q0 q1 q2 q3
        go_wp2_with fail
        go_meet
        rw [HFR.out]
        exact ⟨rfl, Lib.hid ⟨HX2.out.skip4 HY2.out HNE.out ⟨rk, ra, rb, rc⟩, HY2.out.put ⟨rk, ra, rb, rc⟩⟩⟩
      · simp [usesR, many] at huse
        obtain ⟨ua, rfl⟩ := Int.eq_ofNat_of_zero_le huse.1.1
        obtain ⟨ub, rfl⟩ := Int.eq_ofNat_of_zero_le huse.2.1
        obtain ⟨⟨⟨rk, ra, rb, rc⟩, rs⟩, hfr⟩ : ∃ q, bothN ns ⟨4, ua, ub, xc⟩ 1 = q := ⟨_, rfl⟩
        have HCT := both_net Wy (fun _ => False) G c _ ns k0 hrow ⟨4, ua, ub, xc⟩ ua ub (by omega) (by omega) rfl rfl 1 (.inr rfl)
        rw [hfr] at HCT
        have HFR := Lib.hid (show fold1 ns ⟨4, ua, ub, xc⟩ = (⟨rk, ra, rb, rc⟩, rs) from hfr)
        have HCC := Lib.hid HCT
        rw [HWY.out] at q0 q1 q2 q3
        clear HCT hfr hrow k0 huse
        go_wp2_with fail
        rw [← HWY.out]
        refine HCC.out.mono ?_
        rintro e w2 ⟨rfl, hb2⟩
        have HX2 := Lib.hid (HLX.out.below hb2)
        have HY2 := Lib.hid (HLY.out.below hb2)
        obtain ⟨t0, t1, t2, t3⟩ := HY2.out.c
        have f0 := HY2.out.f 0
        have f1 := HY2.out.f 1
        have f2 := HY2.out.f 2
        have f3 := HY2.out.f 3
        clear hb2 q0 q1 q2 q3
        go_wp2_with fail
        go_meet
        rw [HFR.out]
        exact ⟨rfl, Lib.hid ⟨HX2.out.skip4 HY2.out HNE.out ⟨rk, ra, rb, rc⟩, HY2.out.put ⟨rk, ra, rb, rc⟩⟩⟩
      · simp [usesR, many] at huse
        obtain ⟨ua, rfl⟩ := Int.eq_ofNat_of_zero_le huse.1.1
        obtain ⟨ub, rfl⟩ := Int.eq_ofNat_of_zero_le huse.2.1
        obtain ⟨⟨⟨rk, ra, rb, rc⟩, rs⟩, hfr⟩ : ∃ q, oddN ns ⟨5, ua, ub, xc⟩ = q := ⟨_, rfl⟩
        have HCT := odd_net Wy (fun _ => False) G c _ ns k0 hrow ⟨5, ua, ub, xc⟩ ua ub (by omega) (by omega) rfl rfl
        rw [hfr] at HCT
        have HFR := Lib.hid (show fold1 ns ⟨5, ua, ub, xc⟩ = (⟨rk, ra, rb, rc⟩, rs) from hfr)
        have HCC := Lib.hid HCT
        rw [HWY.out] at q0 q1 q2 q3
        clear HCT hfr hrow k0 huse
        go_wp2_with fail
        rw [← HWY.out]
        refine HCC.out.mono ?_
        rintro e w2 ⟨rfl, hb2⟩
        have HX2 := Lib.hid (HLX.out.below hb2)
        have HY2 := Lib.hid (HLY.out.below hb2)
        obtain ⟨t0, t1, t2, t3⟩ := HY2.out.c
        have f0 := HY2.out.f 0
        have f1 := HY2.out.f 1
        have f2 := HY2.out.f 2
        have f3 := HY2.out.f 3
        clear hb2 q0 q1 q2 q3
        go_wp2_with fail
        go_meet
        rw [HFR.out]
        exact ⟨rfl, Lib.hid ⟨HX2.out.skip4 HY2.out HNE.out ⟨rk, ra, rb, rc⟩, HY2.out.put ⟨rk, ra, rb, rc⟩⟩⟩
      · simp [usesR, many] at huse
        obtain ⟨ua, rfl⟩ := Int.eq_ofNat_of_zero_le huse.1.1
        obtain ⟨ub, rfl⟩ := Int.eq_ofNat_of_zero_le huse.2.1.1
        obtain ⟨uc, rfl⟩ := Int.eq_ofNat_of_zero_le huse.2.2.1
        obtain ⟨⟨⟨rk, ra, rb, rc⟩, rs⟩, hfr⟩ : ∃ q, choiceN ns ⟨6, ua, ub, uc⟩ = q := ⟨_, rfl⟩
        have HCT := choice_net Wy (fun _ => False) G c _ ns k0 hrow ⟨6, ua, ub, uc⟩ ua ub uc (by omega) (by omega) (by omega) rfl rfl rfl
        rw [hfr] at HCT
        have HFR := Lib.hid (show fold1 ns ⟨6, ua, ub, uc⟩ = (⟨rk, ra, rb, rc⟩, rs) from hfr)
        have HCC := Lib.hid HCT
        rw [HWY.out] at q0 q1 q2 q3
        clear HCT hfr hrow k0 huse
        go_wp2_with fail
        rw [← HWY.out]
        refine HCC.out.mono ?_
        rintro e w2 ⟨rfl, hb2⟩
        have HX2 := Lib.hid (HLX.out.below hb2)
        have HY2 := Lib.hid (HLY.out.below hb2)
        obtain ⟨t0, t1, t2, t3⟩ := HY2.out.c
        have f0 := HY2.out.f 0
        have f1 := HY2.out.f 1
        have f2 := HY2.out.f 2
        have f3 := HY2.out.f 3
        clear hb2 q0 q1 q2 q3
        go_wp2_with fail
        go_meet
        rw [HFR.out]
        exact ⟨rfl, Lib.hid ⟨HX2.out.skip4 HY2.out HNE.out ⟨rk, ra, rb, rc⟩, HY2.out.put ⟨rk, ra, rb, rc⟩⟩⟩
    case rest =>
    obtain ⟨rfl, HL2⟩ := hcut
    rename_i hK2 K2
    clear hKK
    obtain ⟨hfo1, hfo2, hfo3⟩ := fold1_ok HM.out HOX.out
    have hleq := look_eq HM.out HOX.out
    rw [HLK.out] at hleq
    obtain ⟨⟨⟨rk, ra, rb, rc⟩, rs⟩, hfr⟩ : ∃ q, fold1 ns ⟨xk, xa, xb, xc⟩ = q := ⟨_, rfl⟩
    rw [hfr] at HL2 hfo1 hfo2 hfo3 hleq
    rw [hfr]
    dsimp only at hfo1 hfo2 hfo3 hleq
    have HX3 := Lib.hid HL2.out.1
    have HY3 := Lib.hid HL2.out.2
    have HF1 := Lib.hid hfo1
    have HF2 := Lib.hid hfo2
    have HF3 := Lib.hid hfo3
    have HLE := Lib.hid hleq
    clear hfr hfo1 hfo2 hfo3 hleq HL2 p0 p1 p2 p3 q0 q1 q2 q3 HLX HLY HWY
    obtain ⟨q0, q1, q2, q3⟩ := HX3.out.c
    obtain ⟨t0, t1, t2, t3⟩ := HY3.out.c
    refine hK2 _ _ ?_
    clear hK2
    by_cases hkk : rk = xk
    · subst hkk
      have hre := HLE.out
      rw [if_pos rfl] at hre
      have HRE := Lib.hid hre
      have hne : (rk != rk) = false := by simp
      obtain ⟨⟨k0, -, -, -⟩, -⟩ := foV_cells HX3.out.k
      have hk4 := HX3.out.k
      rw [← HN.out] at hk4
      have han : a < ns.length := by rw [HN.out]; exact ha
      have hna := foV_nodeAt hk4 han
      obtain ⟨⟨v0, w0⟩, f0⟩ := hna 0 (by omega)
      obtain ⟨⟨v1, w1⟩, f1⟩ := hna 1 (by omega)
      obtain ⟨⟨v2, w2⟩, f2⟩ := hna 2 (by omega)
      obtain ⟨⟨v3, w3⟩, f3⟩ := hna 3 (by omega)
      rw [Nat.add_zero] at w0 f0
      have hk5 := foV_node hk4 han ⟨rk, ra, rb, rc⟩
      rw [HN.out] at hk5
      have hgB : B ≤ g := (HX3.out.k.lt (i := 2) rfl (b := g) rfl).1
      have hb5 := (((HX3.out.b.setCell (p := ⟨g, a * 4, none⟩) hgB (.int .i64 rk)).setCell (p := ⟨g, a * 4 + 1, none⟩) hgB (.int .i64 ra)).setCell (p := ⟨g, a * 4 + 2, none⟩) hgB (.int .i64 rb)).setCell (p := ⟨g, a * 4 + 3, none⟩) hgB (.int .i64 rc)
      have HK5 := Lib.hid hk5
      have HB5 := Lib.hid hb5
      clear hre hk4 hna hk5 hb5 hgB
      go_upto_region 20 with fail
      go_cut [] from 97 to 104 (fun wz => Hid (Keep wz B (foV G (.slice (some ⟨g, 0, none⟩) n c) (ns.set a ⟨rk, ra, rb, rc⟩) vi is' vsi vo os' vso (.slice (some ⟨P, 0, none⟩) n c2) (nats st)) ∧ Below B w wz))
      case first =>
        go_region_with (fail)
        all_goals
          go_wp2_with fail
          go_meet
          first | exact Lib.hid ⟨HK5.out, HB5.out⟩ | exact Lib.hid ⟨HK5.out.drew, HB5.out.drew⟩
      case rest =>
      rename_i hK3
      refine hK3 _ _ ?_
      clear hK3
      have HKZ := hcut
      obtain ⟨⟨-, -, -, k3⟩, -⟩ := foV_cells HKZ.out.1
      by_cases hs : rs = -1
      · subst hs
        have HRZ := Lib.hid (show Keep wc B (foV G (.slice (some ⟨g, 0, none⟩) n c) (ns.set a r.1) vi is' vsi vo os' vso (.slice (some ⟨P, 0, none⟩) n c2) (nats (if r.2 = -1 then st else st.set a r.2.toNat))) ∧ Below B w wc by rw [HRE.out]; exact HKZ.out)
        go_wp2_with fail
        simp only [Exit.jump]
        go_end0
        exact ⟨rfl, HRZ.out⟩
      · obtain ⟨h1, h2, -⟩ := HF3.out.resolve_left hs
        obtain ⟨ss, rfl⟩ := Int.eq_ofNat_of_zero_le h1
        have hsn : ((ss : Int) != -1) = true := by simp
        obtain ⟨p0, p1⟩ := foV_at (u := a) HKZ.out.1 (by rw [HS.out]; exact ha)
        have hkz := foV_stand HKZ.out.1 a ss
        have hPB : B ≤ P := (HKZ.out.1.lt (i := 1) rfl (b := P) rfl).1
        have hbz := HKZ.out.2.setCell (p := ⟨P, a, none⟩) hPB (.int .i64 (ss : Int))
        have HRZ := Lib.hid (show Keep (wc.setCell ⟨P, a, none⟩ (.int .i64 (ss : Int))) B (foV G (.slice (some ⟨g, 0, none⟩) n c) (ns.set a r.1) vi is' vsi vo os' vso (.slice (some ⟨P, 0, none⟩) n c2) (nats (if r.2 = -1 then st else st.set a r.2.toNat))) ∧ Below B w (wc.setCell ⟨P, a, none⟩ (.int .i64 (ss : Int))) by rw [HRE.out]; dsimp only; rw [if_neg hs, Int.toNat_natCast]; exact ⟨hkz, hbz⟩)
        clear hs h1 h2 hkz hbz hPB
        go_wp2_with fail
        simp only [Exit.jump]
        go_end0
        exact ⟨rfl, HRZ.out⟩
    · have hne : (rk != xk) = true := by simpa using hkk
      have hre := HLE.out
      rw [if_neg hkk] at hre
      have HRE := Lib.hid hre
      have HLT := Lib.hid (HF2.out hkk)
      have f0 := HX3.out.f 0
      have f1 := HX3.out.f 1
      have f2 := HX3.out.f 2
      have f3 := HX3.out.f 3
      have HX4 := Lib.hid (HX3.out.put ⟨rk, ra, rb, rc⟩)
      clear hkk hre
      go_wp2_with fail
      go_step3
      refine ⟨rfl, ⟨tmps_pat rfl, ⟨rk, ra, rb, rc⟩, HF1, Lib.hid HRE.out.symm, HX4⟩, ?_⟩
      exact HL.out.meas HX4.out HLT.out HF1.out.1
end Go.Proofs.Ytbfjacgfifecpaa
