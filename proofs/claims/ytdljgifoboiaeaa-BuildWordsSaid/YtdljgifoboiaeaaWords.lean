/- slipsticklaw08: words, eval. -/
import Derived.Test.YtdljgifoboiaeaaLawB
import Derived.Test.YtdljgifoboiaeaaL08
import Derived.Test.YtdljgifoboiaeaaShift
namespace Go.Proofs.Ytdljgifoboiaeaa
open Go.RowKit

set_option maxHeartbeats 2000000 in
/-- slipsticklaw08.words -/
theorem words8 (w : World) (n m : Nat) (hn : n ≤ 1000) (hm : m ≤ 1000) :
    Calls Try.prog 26 #[.int .i64 n, .int .i64 m] w fun e w' => ∃ p X vx vy xs ys c st xs' ys', e = .returned (.tuple #[.pointer (some ⟨p, 0, none⟩), vx, vy, .int .i64 c, .bool true]) ∧ Hid (xs.length = n) ∧ Hid (ys.length = m) ∧
      Hid (st.ins = [⟨⟨#[120]⟩, xs'⟩, ⟨⟨#[121]⟩, ys'⟩, ⟨⟨#[99]⟩, [c]⟩] ∧ st.outs = []) ∧ Hid ((xs'.length = n + 1 ∧ ys'.length = m + 1) ∧ xs = xs'.take n ∧ ys = ys'.take m) ∧ PortsOk st ∧
      Env (fun a => Fresh w.heap.size a p ∧ Below w.heap.size w a) p X st w' st 3000 (.pl c :: .word vy ys :: .word vx xs :: []) (fun _ => True) := by
  obtain ⟨n1, hn1⟩ : ∃ n1 : Nat, (n : Int) + 1 = n1 := ⟨n + 1, by omega⟩
  obtain ⟨m1, hm1⟩ : ∃ m1 : Nat, (m : Int) + 1 = m1 := ⟨m + 1, by omega⟩
  have hn2 : n ≤ n1 := by omega
  have hm2 : m ≤ m1 := by omega
  go_enter Try.func26, Try.ntmps26
  go_wp2_with fail
  refine (new_mine w).mono ?_
  rintro e w1 ⟨rfl, hM⟩
  obtain ⟨p, hp⟩ : ∃ p : Nat, w.heap.size = p := ⟨_, rfl⟩
  have E := (Env.ofMine hM HasBits.none Ordered.nil).cntle (N' := 0) (by simp)
  have hP0 := PortsOk.none
  rw [hp] at E
  have hs0 : (⟨[], [], []⟩ : BSt).ins = [] ∧ (⟨[], [], []⟩ : BSt).outs = [] := ⟨rfl, rfl⟩
  generalize (⟨[], [], []⟩ : BSt) = s0 at E hP0 hs0
  have HS := Lib.hid hs0
  have HPW := Lib.hid hp
  clear hM hs0
  rw [hp]
  clear hp
  go_wp2_with fail
  refine (E.in_ hP0 ⟨#[120]⟩ n1 (by omega) (by omega) (by rw [HS.out.1]; decide) (by omega)).mono ?_
  rintro e w2 ⟨vx, xs, s1, rfl, hx, hi1, hP1, -, -, -, E⟩
  rw [HS.out.1, HS.out.2] at hi1
  go_wp2_with fail
  refine (E.in_ hP1 ⟨#[121]⟩ m1 (by omega) (by omega) (by rw [hi1.out.1]; simp) (by omega)).mono ?_
  rintro e w3 ⟨vy, ys, s2, rfl, hy, hi2, hP2, -, -, -, E⟩
  rw [hi1.out.1, hi1.out.2] at hi2
  go_wp2_with fail
  refine (E.in_ hP2 ⟨#[99]⟩ 1 (by decide) (by decide) (by rw [hi2.out.1]; simp) (by omega)).mono ?_
  rintro e w4 ⟨vc, cs, s3, rfl, hc, hi3, hP3, -, -, -, E⟩
  rw [hi2.out.1, hi2.out.2] at hi3
  obtain ⟨c, rfl⟩ : ∃ c, cs = [c] := List.length_eq_one_iff.1 hc.out
  obtain ⟨A1, c1, rfl, hc1, -⟩ := E.shape (xs := xs) (by repeat with_reducible first | apply mem_hd | assumption | apply mem_tl)
  obtain ⟨A2, c2, rfl, hc2, -⟩ := E.shape (xs := ys) (by repeat with_reducible first | apply mem_hd | assumption | apply mem_tl)
  obtain ⟨A3, c3, hv, -, -⟩ := E.shape (xs := [c]) (by repeat with_reducible first | apply mem_hd | assumption | apply mem_tl)
  rw [List.length_singleton] at hv
  subst hv
  obtain ⟨b3, o3, rfl⟩ := E.start_ (xs := [c]) (by repeat with_reducible first | apply mem_hd | assumption | apply mem_tl) (Nat.zero_lt_one)
  have ka : At s3 c := (E.okay (xs := [c]) (by repeat with_reducible first | apply mem_hd | assumption | apply mem_tl)).at (i := 0) Nat.zero_lt_one
  rw [hx.out] at hc1 E
  rw [hy.out] at hc2 E
  rw [hx.out, hy.out]
  have E1 := ((((E.wTake (A := A1) (m := n1) (c := c1) (xs := xs) (by repeat with_reducible first | apply mem_hd | assumption | apply mem_tl) n hn2).wTake (A := A2) (m := m1) (c := c2) (xs := ys) (by repeat with_reducible first | apply mem_hd | assumption | apply mem_tl) m hm2).addPl ka).drew.cntle (N' := 3000) (by omega)).only (L' := .pl c :: .word (.slice A2 m c2) (ys.take m) :: .word (.slice A1 n c1) (xs.take n) :: []) (by repeat with_reducible first | refine sub_cons (by repeat with_reducible first | apply mem_hd | assumption | apply mem_tl) ?_ | exact sub_nil | apply sub_refl | apply sub_tail)
  have q0 := E.cell (xs := [c]) (by repeat with_reducible first | apply mem_hd | assumption | apply mem_tl) (i := 0) Nat.zero_lt_one
  have q1 := E.drew.cell (xs := [c]) (by repeat with_reducible first | apply mem_hd | assumption | apply mem_tl) (i := 0) Nat.zero_lt_one
  simp only [List.getElem_cons_zero, Nat.add_zero] at q0 q1
  have hn3 : n ≤ c1 := by omega
  have hm3 : m ≤ c2 := by omega
  have hl1 : Hid ((xs.take n).length = n) := Lib.hid (by rw [List.length_take, hx.out]; omega)
  have hl2 : Hid ((ys.take m).length = m) := Lib.hid (by rw [List.length_take, hy.out]; omega)
  clear E
  go_wp2_with fail
  go_region_held3 (fun w' => w'.cell? ⟨b3, o3, none⟩ = some (.int .i64 c)) (first | with_reducible exact q0 | with_reducible exact q1) (fail)
  go_wp2
  refine bodyPost_ret (v := .tuple #[.pointer (some ⟨p, 0, none⟩), .slice A1 n c1, .slice A2 m c2, .int .i64 c, .bool true]) (by simp [results, Try.results26, go_sem]) rfl ⟨p, w4.drew.heap.size, _, _, xs.take n, ys.take m, c, s3, xs, ys, rfl, hl1, hl2, Lib.hid ⟨by rw [hi3.out.1]; rfl, hi3.out.2⟩, Lib.hid ⟨⟨by have := hx.out; omega, by have := hy.out; omega⟩, rfl, rfl⟩, hP3, ?_⟩
  rw [HPW.out]
  exact E1.top

section
variable {C : World → Prop} {p X : Nat} {st0 st : BSt} {w : World} {N : Nat} {L : List Ent} {K : (Int → Bool) → Prop}
theorem lit1_row (w : World) (S : Nat → Prop) (hS : There S w) : Row (kNum .u32) (w.alloc (.cells #[.int .u32 1] 128)) S (.slice (some ⟨w.heap.size, 0, none⟩) 1 1) [1] :=
  lit_any (kNum .u32) 128 w S hS [1] [[.int .u32 1]] #[.int .u32 1] rfl ⟨rfl, fun i x cs hx hc => by
    match i, hx, hc with
    | 0, hx, hc => simp at hx hc; subst hx; subst hc; rfl⟩ (by simp)
theorem Env.lit1R (E : Env C p X st0 w st N L K) : Env C p (w.alloc (.cells #[.int .u32 1] 128)).heap.size st0 (w.alloc (.cells #[.int .u32 1] 128)) st N (.row (kNum .u32) (.slice (some ⟨w.heap.size, 0, none⟩) 1 1) [1] :: L) K :=
  E.rowB ((Below.refl _ _).alloc (Nat.le_refl _) _) (lit1_row w _ E.there)

set_option maxHeartbeats 2000000 in
/-- slipsticklaw08.eval -/
theorem Env.eval08 (E : Env C p X st0 w st N L K) (hP : PortsOk st0) (hN : N < 1099511627776) {n1 n2 n3 : ByteArray} {xs' ys' : List Int} {c : Int} (hi : Hid (st0.ins = [⟨n1, xs'⟩, ⟨n2, ys'⟩, ⟨n3, [c]⟩])) {vx vy : Value} {xs ys : List Int} (hx : Ent.row (kNum .u32) vx xs ∈ L) (hy : Ent.row (kNum .u32) vy ys ∈ L) (hxo : okParts xs) (hyo : okParts ys) (hxl : xs.length ≤ 20) (hyl : ys.length ≤ 20)
    (n m : Nat) (hlx : Hid (xs'.length = n + 1)) (hly : Hid (ys'.length = m + 1)) (hn : n ≤ 1000) (hm : m ≤ 1000) (cb : Bool) :
    Calls Try.prog 32 #[.pointer (some ⟨p, 0, none⟩), .int .i64 n, .int .i64 m, vx, vy, .bool cb] w fun e w' => ∃ v' V, e = .returned (.tuple #[v', .bool true]) ∧ Below w.heap.size w w' ∧ Sat V st.nodes ∧ Hid (numV V xs' = partsVal xs % 2 ^ n ∧ numV V ys' = partsVal ys % 2 ^ m ∧ V c = cb) ∧
      Env C p w'.heap.size st0 w' st N (.row (kRow (kNum .u32)) v' (st.outs.map fun q => parts32 (numV V q.bits)) :: L) K := by
  have hie : Hid (st.ins = [⟨n1, xs'⟩, ⟨n2, ys'⟩, ⟨n3, [c]⟩]) := Lib.hid ((ext_ports E.ext).1.trans hi.out)
  have hbx : nbits (partsVal xs) ≤ 640 := by have := nbits_parts hxo; omega
  have hby : nbits (partsVal ys) ≤ 640 := by have := nbits_parts hyo; omega
  go_enter Try.func32, Try.ntmps32
  cases cb
  · have E := E.lit0R (kNum .u32) 128
    have HB0 := Lib.hid (show Below w.heap.size w (w.alloc (.cells #[] 128)) from (Below.refl _ _).alloc (Nat.le_refl _) _)
    obtain ⟨BLK, hBLK⟩ : ∃ b, w.heap.size = b := ⟨_, rfl⟩
    have HBLK := Lib.hid hBLK
    rw [hBLK] at E
    go_wp2_with fail
    refine (E.net hP hN).mono ?_
    rintro e w1 ⟨vn, vi, vo, rfl, hb1, E⟩
    go_wp2_with fail
    refine (E.ref (of_ref _ _ E.there _ xs (E.rwF (by repeat with_reducible first | apply mem_hd | assumption | apply mem_tl)) hxo (by omega))).mono ?_
    rintro e w2 ⟨v2, rfl, hb2, E⟩
    go_wp2_with fail
    refine (E.ref (low_ref _ _ E.there _ (partsVal xs) n (E.rwF (by repeat with_reducible first | apply mem_hd | assumption | apply mem_tl)) (by omega) (by omega))).mono ?_
    rintro e w3 ⟨v3, rfl, hb3, E⟩
    go_wp2_with fail
    refine (E.ref (parts_ref _ _ E.there _ (partsVal xs % 2 ^ n) (E.rwF (by repeat with_reducible first | apply mem_hd | assumption | apply mem_tl)) (by have := nbits_low (partsVal xs) n; omega))).mono ?_
    rintro e w4 ⟨v4, rfl, hb4, E⟩
    go_wp2_with fail
    refine (E.ref (of_ref _ _ E.there _ ys (E.rwF (by repeat with_reducible first | apply mem_hd | assumption | apply mem_tl)) hyo (by omega))).mono ?_
    rintro e w5 ⟨v5, rfl, hb5, E⟩
    go_wp2_with fail
    refine (E.ref (low_ref _ _ E.there _ (partsVal ys) m (E.rwF (by repeat with_reducible first | apply mem_hd | assumption | apply mem_tl)) (by omega) (by omega))).mono ?_
    rintro e w6 ⟨v6, rfl, hb6, E⟩
    go_wp2_with fail
    refine (E.ref (parts_ref _ _ E.there _ (partsVal ys % 2 ^ m) (E.rwF (by repeat with_reducible first | apply mem_hd | assumption | apply mem_tl)) (by have := nbits_low (partsVal ys) m; omega))).mono ?_
    rintro e w7 ⟨v7, rfl, hb7, E⟩
    obtain ⟨A4, c4, hv4⟩ := E.rshape (v := v4) (xs := parts32 (partsVal xs % 2 ^ n)) (by repeat with_reducible first | apply mem_hd | assumption | apply mem_tl)
    obtain ⟨A7, c7, hv7⟩ := E.rshape (v := v7) (xs := parts32 (partsVal ys % 2 ^ m)) (by repeat with_reducible first | apply mem_hd | assumption | apply mem_tl)
    subst hv4; subst hv7
    have E := E.lits (kNum .u32) 38 [parts32 (partsVal xs % 2 ^ n), parts32 (partsVal ys % 2 ^ m), []] [.slice A4 (parts32 (partsVal xs % 2 ^ n)).length c4, .slice A7 (parts32 (partsVal ys % 2 ^ m)).length c7, .slice (some ⟨BLK, 0, none⟩) 0 0] 3 rfl rfl (by simp) (fun i x v hx hv => by
      match i, hx, hv with
      | 0, hx, hv => simp at hx hv; subst hx; subst hv; exact (by repeat with_reducible first | apply mem_hd | assumption | apply mem_tl)
      | 1, hx, hv => simp at hx hv; subst hx; subst hv; exact (by repeat with_reducible first | apply mem_hd | assumption | apply mem_tl)
      | 2, hx, hv => simp at hx hv; subst hx; subst hv; exact (by repeat with_reducible first | apply mem_hd | assumption | apply mem_tl))
    have hbl : Below w.heap.size w w7 := by
      have h2 := HB0.out.trans (hb1.mono HB0.out.size)
      have h3 := h2.trans (hb2.mono h2.size)
      have h4 := h3.trans (hb3.mono h3.size)
      have h5 := h4.trans (hb4.mono h4.size)
      have h6 := h5.trans (hb5.mono h5.size)
      have h7 := h6.trans (hb6.mono h6.size)
      exact h7.trans (hb7.mono h7.size)
    have HBL := Lib.hid (hbl.alloc hbl.size (.cells #[.slice A4 (parts32 (partsVal xs % 2 ^ n)).length c4, .slice A7 (parts32 (partsVal ys % 2 ^ m)).length c7, .slice (some ⟨BLK, 0, none⟩) 0 0] 38))
    clear hb1 hb2 hb3 hb4 hb5 hb6 hb7 hbl
    go_wp2_with fail
    refine (E.eval hP hN (vn := vn) (vi := vi) (vo := vo) (by repeat with_reducible first | apply mem_hd | assumption | apply mem_tl) (by repeat with_reducible first | apply mem_hd | assumption | apply mem_tl) (by repeat with_reducible first | apply mem_hd | assumption | apply mem_tl) (by repeat with_reducible first | apply mem_hd | assumption | apply mem_tl) (by rw [hie.out]; rfl) (fun q hq => ?_) (fun i z hz => ?_)).mono ?_
    · simp only [List.mem_cons, List.not_mem_nil, or_false] at hq
      rcases hq with rfl | rfl | rfl
      · exact parts_fit _ n (Nat.mod_lt _ (Nat.two_pow_pos n)) (by omega)
      · exact parts_fit _ m (Nat.mod_lt _ (Nat.two_pow_pos m)) (by omega)
      · exact ⟨fun _ h => by simp at h; try omega, by simp⟩
    · rw [hie.out] at hz
      match i, hz with
      | 0, hz => simp at hz; subst hz; simp only [List.getD_cons_zero, partsVal_parts32]; rw [hlx.out]; exact Nat.lt_of_lt_of_le (Nat.mod_lt _ (Nat.two_pow_pos n)) (Nat.pow_le_pow_right (by decide) (by omega))
      | 1, hz => simp at hz; subst hz; simp only [List.getD_cons_succ, List.getD_cons_zero, partsVal_parts32]; rw [hly.out]; exact Nat.lt_of_lt_of_le (Nat.mod_lt _ (Nat.two_pow_pos m)) (Nat.pow_le_pow_right (by decide) (by omega))
      | 2, hz => simp at hz; subst hz; simp [partsVal]
    rintro e w8 ⟨v8, V, rfl, hb8, hV, hin, E⟩
    have hvals : Hid (numV V xs' = partsVal xs % 2 ^ n ∧ numV V ys' = partsVal ys % 2 ^ m ∧ (V c).toNat = 0) := Lib.hid (by
      have h0 := hin.out 0 _ (by rw [hie.out]; rfl)
      have h1 := hin.out 1 _ (by rw [hie.out]; rfl)
      have h2 := hin.out 2 _ (by rw [hie.out]; rfl)
      simp only [List.getD_cons_succ, List.getD_cons_zero, partsVal_parts32] at h0 h1 h2
      rw [numV_one] at h2
      exact ⟨h0, h1, h2⟩)
    have HB8 := Lib.hid (HBL.out.trans (hb8.mono HBL.out.size))
    have E := E.only (L' := .row (kRow (kNum .u32)) v8 (st.outs.map fun q => parts32 (numV V q.bits)) :: L) (by repeat with_reducible first | refine sub_cons (by repeat with_reducible first | apply mem_hd | assumption | apply mem_tl) ?_ | exact sub_nil | apply sub_refl | apply sub_tail)
    clear hin hb8
    go_wp2
    go_ret2
    exact ⟨v8, V, rfl, HB8.out, hV, Lib.hid ⟨hvals.out.1, hvals.out.2.1, by have := hvals.out.2.2; revert this; cases V c <;> simp⟩, E⟩
  · have E := (E.alloc (.cells #[] 128)).lit1R
    have HB0 := Lib.hid (show Below w.heap.size w ((w.alloc (.cells #[] 128)).alloc (.cells #[.int .u32 1] 128)) from ((Below.refl _ _).alloc (Nat.le_refl _) _).alloc (by simp) _)
    obtain ⟨BLK, hBLK⟩ : ∃ b, w.heap.size + 1 = b := ⟨_, rfl⟩
    have HBLK := Lib.hid hBLK
    simp only [World.size_alloc] at E
    rw [hBLK] at E
    go_wp2_with fail
    refine (E.net hP hN).mono ?_
    rintro e w1 ⟨vn, vi, vo, rfl, hb1, E⟩
    go_wp2_with fail
    refine (E.ref (of_ref _ _ E.there _ xs (E.rwF (by repeat with_reducible first | apply mem_hd | assumption | apply mem_tl)) hxo (by omega))).mono ?_
    rintro e w2 ⟨v2, rfl, hb2, E⟩
    go_wp2_with fail
    refine (E.ref (low_ref _ _ E.there _ (partsVal xs) n (E.rwF (by repeat with_reducible first | apply mem_hd | assumption | apply mem_tl)) (by omega) (by omega))).mono ?_
    rintro e w3 ⟨v3, rfl, hb3, E⟩
    go_wp2_with fail
    refine (E.ref (parts_ref _ _ E.there _ (partsVal xs % 2 ^ n) (E.rwF (by repeat with_reducible first | apply mem_hd | assumption | apply mem_tl)) (by have := nbits_low (partsVal xs) n; omega))).mono ?_
    rintro e w4 ⟨v4, rfl, hb4, E⟩
    go_wp2_with fail
    refine (E.ref (of_ref _ _ E.there _ ys (E.rwF (by repeat with_reducible first | apply mem_hd | assumption | apply mem_tl)) hyo (by omega))).mono ?_
    rintro e w5 ⟨v5, rfl, hb5, E⟩
    go_wp2_with fail
    refine (E.ref (low_ref _ _ E.there _ (partsVal ys) m (E.rwF (by repeat with_reducible first | apply mem_hd | assumption | apply mem_tl)) (by omega) (by omega))).mono ?_
    rintro e w6 ⟨v6, rfl, hb6, E⟩
    go_wp2_with fail
    refine (E.ref (parts_ref _ _ E.there _ (partsVal ys % 2 ^ m) (E.rwF (by repeat with_reducible first | apply mem_hd | assumption | apply mem_tl)) (by have := nbits_low (partsVal ys) m; omega))).mono ?_
    rintro e w7 ⟨v7, rfl, hb7, E⟩
    obtain ⟨A4, c4, hv4⟩ := E.rshape (v := v4) (xs := parts32 (partsVal xs % 2 ^ n)) (by repeat with_reducible first | apply mem_hd | assumption | apply mem_tl)
    obtain ⟨A7, c7, hv7⟩ := E.rshape (v := v7) (xs := parts32 (partsVal ys % 2 ^ m)) (by repeat with_reducible first | apply mem_hd | assumption | apply mem_tl)
    subst hv4; subst hv7
    have E := E.lits (kNum .u32) 38 [parts32 (partsVal xs % 2 ^ n), parts32 (partsVal ys % 2 ^ m), [1]] [.slice A4 (parts32 (partsVal xs % 2 ^ n)).length c4, .slice A7 (parts32 (partsVal ys % 2 ^ m)).length c7, .slice (some ⟨BLK, 0, none⟩) 1 1] 3 rfl rfl (by simp) (fun i x v hx hv => by
      match i, hx, hv with
      | 0, hx, hv => simp at hx hv; subst hx; subst hv; exact (by repeat with_reducible first | apply mem_hd | assumption | apply mem_tl)
      | 1, hx, hv => simp at hx hv; subst hx; subst hv; exact (by repeat with_reducible first | apply mem_hd | assumption | apply mem_tl)
      | 2, hx, hv => simp at hx hv; subst hx; subst hv; exact (by repeat with_reducible first | apply mem_hd | assumption | apply mem_tl))
    have hbl : Below w.heap.size w w7 := by
      have h2 := HB0.out.trans (hb1.mono HB0.out.size)
      have h3 := h2.trans (hb2.mono h2.size)
      have h4 := h3.trans (hb3.mono h3.size)
      have h5 := h4.trans (hb4.mono h4.size)
      have h6 := h5.trans (hb5.mono h5.size)
      have h7 := h6.trans (hb6.mono h6.size)
      exact h7.trans (hb7.mono h7.size)
    have HBL := Lib.hid (hbl.alloc hbl.size (.cells #[.slice A4 (parts32 (partsVal xs % 2 ^ n)).length c4, .slice A7 (parts32 (partsVal ys % 2 ^ m)).length c7, .slice (some ⟨BLK, 0, none⟩) 1 1] 38))
    clear hb1 hb2 hb3 hb4 hb5 hb6 hb7 hbl
    go_wp2_with fail
    refine (E.eval hP hN (vn := vn) (vi := vi) (vo := vo) (by repeat with_reducible first | apply mem_hd | assumption | apply mem_tl) (by repeat with_reducible first | apply mem_hd | assumption | apply mem_tl) (by repeat with_reducible first | apply mem_hd | assumption | apply mem_tl) (by repeat with_reducible first | apply mem_hd | assumption | apply mem_tl) (by rw [hie.out]; rfl) (fun q hq => ?_) (fun i z hz => ?_)).mono ?_
    · simp only [List.mem_cons, List.not_mem_nil, or_false] at hq
      rcases hq with rfl | rfl | rfl
      · exact parts_fit _ n (Nat.mod_lt _ (Nat.two_pow_pos n)) (by omega)
      · exact parts_fit _ m (Nat.mod_lt _ (Nat.two_pow_pos m)) (by omega)
      · exact ⟨fun _ h => by simp at h; try omega, by simp⟩
    · rw [hie.out] at hz
      match i, hz with
      | 0, hz => simp at hz; subst hz; simp only [List.getD_cons_zero, partsVal_parts32]; rw [hlx.out]; exact Nat.lt_of_lt_of_le (Nat.mod_lt _ (Nat.two_pow_pos n)) (Nat.pow_le_pow_right (by decide) (by omega))
      | 1, hz => simp at hz; subst hz; simp only [List.getD_cons_succ, List.getD_cons_zero, partsVal_parts32]; rw [hly.out]; exact Nat.lt_of_lt_of_le (Nat.mod_lt _ (Nat.two_pow_pos m)) (Nat.pow_le_pow_right (by decide) (by omega))
      | 2, hz => simp at hz; subst hz; simp [partsVal]
    rintro e w8 ⟨v8, V, rfl, hb8, hV, hin, E⟩
    have hvals : Hid (numV V xs' = partsVal xs % 2 ^ n ∧ numV V ys' = partsVal ys % 2 ^ m ∧ (V c).toNat = 1) := Lib.hid (by
      have h0 := hin.out 0 _ (by rw [hie.out]; rfl)
      have h1 := hin.out 1 _ (by rw [hie.out]; rfl)
      have h2 := hin.out 2 _ (by rw [hie.out]; rfl)
      simp only [List.getD_cons_succ, List.getD_cons_zero, partsVal_parts32] at h0 h1 h2
      rw [numV_one] at h2
      exact ⟨h0, h1, h2⟩)
    have HB8 := Lib.hid (HBL.out.trans (hb8.mono HBL.out.size))
    have E := E.only (L' := .row (kRow (kNum .u32)) v8 (st.outs.map fun q => parts32 (numV V q.bits)) :: L) (by repeat with_reducible first | refine sub_cons (by repeat with_reducible first | apply mem_hd | assumption | apply mem_tl) ?_ | exact sub_nil | apply sub_refl | apply sub_tail)
    clear hin hb8
    go_wp2
    go_ret2
    exact ⟨v8, V, rfl, HB8.out, hV, Lib.hid ⟨hvals.out.1, hvals.out.2.1, by have := hvals.out.2.2; revert this; cases V c <;> simp⟩, E⟩
end

theorem There.never (w : World) : There (fun _ => False) w := fun _ h => h.elim
set_option maxHeartbeats 2000000 in
/-- slipsticklaw08.eval, where the net may not be -/
theorem eval08_bad (w : World) (p : Nat) (st : BSt) (hB : BRep w p st) (hn1 : st.nodes.length ≤ 1073741824) (hi1 : st.ins.length ≤ 100) (ho1 : st.outs.length ≤ 100) (hbi : ∀ q ∈ st.ins, q.bits.length ≤ 1099511627776) (hbo : ∀ q ∈ st.outs, q.bits.length ≤ 1099511627776) (hf : formedB st.nodes st.ins st.outs = false)
    (vx vy : Value) (xs ys : List Int) (hx0 : Row (kNum .u32) w (fun _ => False) vx xs) (hy0 : Row (kNum .u32) w (fun _ => False) vy ys) (hxo : okParts xs) (hyo : okParts ys) (hxl : xs.length ≤ 20) (hyl : ys.length ≤ 20) (n m : Nat) (hn : n ≤ 1000) (hm : m ≤ 1000) (cb : Bool) :
    Calls Try.prog 32 #[.pointer (some ⟨p, 0, none⟩), .int .i64 n, .int .i64 m, vx, vy, .bool cb] w fun e w' => e = .returned (.tuple #[.slice none 0 0, .bool false]) ∧ Below w.heap.size w w' := by
  have hbx : nbits (partsVal xs) ≤ 640 := by have := nbits_parts hxo; omega
  have hby : nbits (partsVal ys) ≤ 640 := by have := nbits_parts hyo; omega
  have HX := Lib.hid hx0
  have HY := Lib.hid hy0
  have HF := Lib.hid hf
  clear hx0 hy0 hf
  go_enter Try.func32, Try.ntmps32
  cases cb
  · have HB0 := Lib.hid (show Below w.heap.size w (w.alloc (.cells #[] 128)) from (Below.refl _ _).alloc (Nat.le_refl _) _)
    have HBITS := Lib.hid (show Row (kNum .u32) (w.alloc (.cells #[] 128)) (fun _ => False) (.slice (some ⟨w.heap.size, 0, none⟩) 0 0) [] from ⟨some ⟨w.heap.size, 0, none⟩, 0, [], rfl, Nat.le_refl _, Nat.zero_le _, (fun h => nomatch h), Pairs.nil _ _ _, fun h => by simp at h⟩)
    obtain ⟨BLK, hBLK⟩ : ∃ b, w.heap.size = b := ⟨_, rfl⟩
    rw [hBLK] at HBITS
    have HBLK := Lib.hid hBLK
    go_wp2_with fail
    refine (net_calls _ (fun _ => False) (There.never _) p st (hB.below HB0.out) (by omega) (by omega) (by omega) hbi hbo).mono ?_
    rintro e w1 ⟨vn, vi, vo, rfl, r1, r2, r3, hb1⟩
    have hx := HX.out.later (HB0.out.trans (hb1.mono HB0.out.size))
    go_wp2_with fail
    refine (of_ref _ _ (There.never _) _ xs hx hxo (by omega)).mono ?_
    rintro e w2 ⟨v2, rfl, h2, hb2⟩
    go_wp2_with fail
    refine (low_ref _ _ (There.never _) _ (partsVal xs) n h2 (by omega) (by omega)).mono ?_
    rintro e w3 ⟨v3, rfl, h3, hb3⟩
    go_wp2_with fail
    refine (parts_ref _ _ (There.never _) _ (partsVal xs % 2 ^ n) h3 (by have := nbits_low (partsVal xs) n; omega)).mono ?_
    rintro e w4 ⟨v4, rfl, h4, hb4⟩
    have hb24 : Below w1.heap.size w1 w4 := (hb2.trans (hb3.mono hb2.size)).trans (hb4.mono (Nat.le_trans hb2.size hb3.size))
    have hy := (HY.out.later (HB0.out.trans (hb1.mono HB0.out.size))).later hb24
    go_wp2_with fail
    refine (of_ref _ _ (There.never _) _ ys hy hyo (by omega)).mono ?_
    rintro e w5 ⟨v5, rfl, h5, hb5⟩
    go_wp2_with fail
    refine (low_ref _ _ (There.never _) _ (partsVal ys) m h5 (by omega) (by omega)).mono ?_
    rintro e w6 ⟨v6, rfl, h6, hb6⟩
    go_wp2_with fail
    refine (parts_ref _ _ (There.never _) _ (partsVal ys % 2 ^ m) h6 (by have := nbits_low (partsVal ys) m; omega)).mono ?_
    rintro e w7 ⟨v7, rfl, h7, hb7⟩
    have hb47 : Below w4.heap.size w4 w7 := (hb5.trans (hb6.mono hb5.size)).trans (hb7.mono (Nat.le_trans hb5.size hb6.size))
    have hb17 : Below w1.heap.size w1 w7 := hb24.trans (hb47.mono hb24.size)
    have h4' := h4.later hb47
    obtain ⟨A4, c4, hv4, -, -⟩ := h4'.shape
    obtain ⟨A7, c7, hv7, -, -⟩ := h7.shape
    subst hv4; subst hv7
    have hbits := (HBITS.out.later hb1).later hb17
    have hrow := lit_row (k := kNum .u32) (S := fun _ => False) 38 w7 [parts32 (partsVal xs % 2 ^ n), parts32 (partsVal ys % 2 ^ m), []] [.slice A4 (parts32 (partsVal xs % 2 ^ n)).length c4, .slice A7 (parts32 (partsVal ys % 2 ^ m)).length c7, .slice (some ⟨BLK, 0, none⟩) 0 0] rfl (by simp) (fun i x v hx hv => by
      match i, hx, hv with
      | 0, hx, hv => simp at hx hv; subst hx; subst hv; exact h4'
      | 1, hx, hv => simp at hx hv; subst hx; subst hv; exact h7
      | 2, hx, hv => simp at hx hv; subst hx; subst hv; exact hbits) (There.never _)
    have hal : Below w7.heap.size w7 (w7.alloc (.cells #[.slice A4 (parts32 (partsVal xs % 2 ^ n)).length c4, .slice A7 (parts32 (partsVal ys % 2 ^ m)).length c7, .slice (some ⟨BLK, 0, none⟩) 0 0] 38)) := (Below.refl _ _).alloc (Nat.le_refl _) _
    have hN : NetV (w7.alloc (.cells #[.slice A4 (parts32 (partsVal xs % 2 ^ n)).length c4, .slice A7 (parts32 (partsVal ys % 2 ^ m)).length c7, .slice (some ⟨BLK, 0, none⟩) 0 0] 38)) (.agg #[vn, vi, vo]) st.nodes st.ins st.outs := ⟨vn, vi, vo, rfl, (r1.later hb17).later hal, (r2.later hb17).later hal, (r3.later hb17).later hal⟩
    have HBALL := Lib.hid ((HB0.out.trans (hb1.mono HB0.out.size)).trans ((hb17.trans (hal.mono hb17.size)).mono (Nat.le_trans HB0.out.size hb1.size)))
    have HNET := Lib.hid hN
    have HROW := Lib.hid hrow
    clear hb1 hb2 hb3 hb4 hb5 hb6 hb7 hb24 hb47 hb17 hal hN hrow h4 h4' h7 hbits r1 r2 r3 hx hy h2 h3 h5 h6
    go_wp2_with fail
    refine (eval_bad _ _ _ _ st.nodes st.ins st.outs _ HNET.out HROW.out (by omega) (by omega) (by omega) HF.out).mono ?_
    rintro e w8 ⟨rfl, hb8⟩
    have HB8 := Lib.hid (HBALL.out.trans (hb8.mono HBALL.out.size))
    clear hb8
    go_wp2
    go_ret2
    exact ⟨rfl, HB8.out⟩
  · have HB0 := Lib.hid (show Below w.heap.size w ((w.alloc (.cells #[] 128)).alloc (.cells #[.int .u32 1] 128)) from ((Below.refl _ _).alloc (Nat.le_refl _) _).alloc (by simp) _)
    have HBITS := Lib.hid (lit1_row (w.alloc (.cells #[] 128)) (fun _ => False) (There.never _))
    simp only [World.size_alloc] at HBITS
    obtain ⟨BLK, hBLK⟩ : ∃ b, w.heap.size + 1 = b := ⟨_, rfl⟩
    rw [hBLK] at HBITS
    have HBLK := Lib.hid hBLK
    go_wp2_with fail
    refine (net_calls _ (fun _ => False) (There.never _) p st (hB.below HB0.out) (by omega) (by omega) (by omega) hbi hbo).mono ?_
    rintro e w1 ⟨vn, vi, vo, rfl, r1, r2, r3, hb1⟩
    have hx := HX.out.later (HB0.out.trans (hb1.mono HB0.out.size))
    go_wp2_with fail
    refine (of_ref _ _ (There.never _) _ xs hx hxo (by omega)).mono ?_
    rintro e w2 ⟨v2, rfl, h2, hb2⟩
    go_wp2_with fail
    refine (low_ref _ _ (There.never _) _ (partsVal xs) n h2 (by omega) (by omega)).mono ?_
    rintro e w3 ⟨v3, rfl, h3, hb3⟩
    go_wp2_with fail
    refine (parts_ref _ _ (There.never _) _ (partsVal xs % 2 ^ n) h3 (by have := nbits_low (partsVal xs) n; omega)).mono ?_
    rintro e w4 ⟨v4, rfl, h4, hb4⟩
    have hb24 : Below w1.heap.size w1 w4 := (hb2.trans (hb3.mono hb2.size)).trans (hb4.mono (Nat.le_trans hb2.size hb3.size))
    have hy := (HY.out.later (HB0.out.trans (hb1.mono HB0.out.size))).later hb24
    go_wp2_with fail
    refine (of_ref _ _ (There.never _) _ ys hy hyo (by omega)).mono ?_
    rintro e w5 ⟨v5, rfl, h5, hb5⟩
    go_wp2_with fail
    refine (low_ref _ _ (There.never _) _ (partsVal ys) m h5 (by omega) (by omega)).mono ?_
    rintro e w6 ⟨v6, rfl, h6, hb6⟩
    go_wp2_with fail
    refine (parts_ref _ _ (There.never _) _ (partsVal ys % 2 ^ m) h6 (by have := nbits_low (partsVal ys) m; omega)).mono ?_
    rintro e w7 ⟨v7, rfl, h7, hb7⟩
    have hb47 : Below w4.heap.size w4 w7 := (hb5.trans (hb6.mono hb5.size)).trans (hb7.mono (Nat.le_trans hb5.size hb6.size))
    have hb17 : Below w1.heap.size w1 w7 := hb24.trans (hb47.mono hb24.size)
    have h4' := h4.later hb47
    obtain ⟨A4, c4, hv4, -, -⟩ := h4'.shape
    obtain ⟨A7, c7, hv7, -, -⟩ := h7.shape
    subst hv4; subst hv7
    have hbits := (HBITS.out.later hb1).later hb17
    have hrow := lit_row (k := kNum .u32) (S := fun _ => False) 38 w7 [parts32 (partsVal xs % 2 ^ n), parts32 (partsVal ys % 2 ^ m), [1]] [.slice A4 (parts32 (partsVal xs % 2 ^ n)).length c4, .slice A7 (parts32 (partsVal ys % 2 ^ m)).length c7, .slice (some ⟨BLK, 0, none⟩) 1 1] rfl (by simp) (fun i x v hx hv => by
      match i, hx, hv with
      | 0, hx, hv => simp at hx hv; subst hx; subst hv; exact h4'
      | 1, hx, hv => simp at hx hv; subst hx; subst hv; exact h7
      | 2, hx, hv => simp at hx hv; subst hx; subst hv; exact hbits) (There.never _)
    have hal : Below w7.heap.size w7 (w7.alloc (.cells #[.slice A4 (parts32 (partsVal xs % 2 ^ n)).length c4, .slice A7 (parts32 (partsVal ys % 2 ^ m)).length c7, .slice (some ⟨BLK, 0, none⟩) 1 1] 38)) := (Below.refl _ _).alloc (Nat.le_refl _) _
    have hN : NetV (w7.alloc (.cells #[.slice A4 (parts32 (partsVal xs % 2 ^ n)).length c4, .slice A7 (parts32 (partsVal ys % 2 ^ m)).length c7, .slice (some ⟨BLK, 0, none⟩) 1 1] 38)) (.agg #[vn, vi, vo]) st.nodes st.ins st.outs := ⟨vn, vi, vo, rfl, (r1.later hb17).later hal, (r2.later hb17).later hal, (r3.later hb17).later hal⟩
    have HBALL := Lib.hid ((HB0.out.trans (hb1.mono HB0.out.size)).trans ((hb17.trans (hal.mono hb17.size)).mono (Nat.le_trans HB0.out.size hb1.size)))
    have HNET := Lib.hid hN
    have HROW := Lib.hid hrow
    clear hb1 hb2 hb3 hb4 hb5 hb6 hb7 hb24 hb47 hb17 hal hN hrow h4 h4' h7 hbits r1 r2 r3 hx hy h2 h3 h5 h6
    go_wp2_with fail
    refine (eval_bad _ _ _ _ st.nodes st.ins st.outs _ HNET.out HROW.out (by omega) (by omega) (by omega) HF.out).mono ?_
    rintro e w8 ⟨rfl, hb8⟩
    have HB8 := Lib.hid (HBALL.out.trans (hb8.mono HBALL.out.size))
    clear hb8
    go_wp2
    go_ret2
    exact ⟨rfl, HB8.out⟩
end Go.Proofs.Ytdljgifoboiaeaa
