/- slipsticklaw15.TreeOrder, walked. -/
import Derived.Test.YtdljgifoboiaeaaTree15
import Derived.Test.YtdljgifoboiaeaaTree15c
namespace Go.Proofs.Ytdljgifoboiaeaa
open Go.RowKit

theorem sumV_reverse (V : Int → Bool) (xss : List (List Int)) : sumV V xss.reverse = sumV V xss := by
  induction xss with
  | nil => rfl
  | cons x xs ih => rw [List.reverse_cons, sumV_append, ih, sumV_cons, sumV_cons, sumV_nil]; omega
theorem len_le_sum (xss : List (List Int)) : ∀ xs ∈ xss, xs.length ≤ (xss.map List.length).sum := by
  induction xss with
  | nil => intro xs h; simp at h
  | cons y ys ih =>
    intro xs h
    rw [List.map_cons, List.sum_cons]
    rcases List.mem_cons.1 h with rfl | h
    · omega
    · have := ih xs h; omega
theorem reverse_drop (xss : List (List Int)) {k : Nat} (h : k < xss.length) : (xss.drop k).reverse = (xss.drop (k + 1)).reverse ++ [xss[k]] := by
  rw [List.drop_eq_getElem_cons h, List.reverse_cons]

def cutV (nums : List (List Int)) (ws : List Int) : List Nat := ws.zipIdx.map fun q => partsVal (nums.getD q.2 []) % 2 ^ ((q.1 % 16).toNat + 1)
theorem cuts_nat (nums : List (List Int)) (ws : List Int) : cuts nums ws = (cutV nums ws).map natBits := by
  simp only [cuts, cutV, List.map_map]
  rfl
theorem cutV_at (nums : List (List Int)) (ws : List Int) {i : Nat} {x : Int} (h : ws[i]? = some x) : (cutV nums ws).getD i 0 = partsVal (nums.getD i []) % 2 ^ ((x % 16).toNat + 1) := by
  rw [List.getD_eq_getElem?_getD, cutV, List.getElem?_map, List.getElem?_zipIdx, h]
  simp

set_option maxHeartbeats 8000000 in
set_option maxRecDepth 100000 in
theorem treeOrder_walk (w : World) (a : Nat) (ha : a < 256) (v u : Value) (ws : List Int) (nums : List (List Int)) (hx : Row (kNum .u8) w (fun _ => False) v ws) (hok : ∀ x ∈ ws, 0 ≤ x ∧ x < 256) (hy : Row (kRow (kNum .u32)) w (fun _ => False) u nums) (hyo : ∀ xs ∈ nums, okParts xs) (hnl : nums.length ≤ 1048576) (hsum : (nums.map List.length).sum ≤ 1048576) :
    Calls Try.prog 7 #[v, .int .u8 a, u] w fun e w' => e = .returned (.bool true) ∧ Below w.heap.size w w' := by
  obtain ⟨m0, hm0⟩ : ∃ m0 : Nat, (a : Int) % 40 = m0 := ⟨a % 40, by omega⟩
  obtain ⟨m, hm⟩ : ∃ m : Nat, (m0 : Int) + 1 = m := ⟨m0 + 1, by omega⟩
  have hm1 : m ≤ 40 := by omega
  have hm2 : 0 < m := by omega
  obtain ⟨A1, c1, rfl, -, hc1⟩ := hx.shape
  obtain ⟨A2, c2, rfl, -, hc2⟩ := hy.shape
  have HX := Lib.hid hx
  have HY := Lib.hid hy
  have HYO := Lib.hid hyo
  obtain ⟨s, hs⟩ : ∃ s, (nums.map List.length).sum = s := ⟨_, rfl⟩
  have HYL := Lib.hid (len_le_sum nums)
  rw [hs] at hsum HYL
  have HS := Lib.hid hs
  clear hx hy hyo hs
  go_enter Try.func7, Try.ntmps7
  go_wp2_with fail
  refine (awake15 w).mono ?_
  rintro e w1 ⟨rfl, hb1⟩
  have HX1 := Lib.hid (HX.out.later hb1)
  have HY1 := Lib.hid (HY.out.later hb1)
  have HB1 := Lib.hid hb1
  clear hb1
  go_wp2_with fail
  refine (large15 w1 _ _ nums HY1.out hnl (by rw [HS.out]; exact hsum)).mono ?_
  rintro e w2 ⟨rfl, rfl⟩
  rw [HS.out]
  by_cases hlg : 200 < s
  · rw [decide_eq_true hlg]
    go_wp2
    go_ret
    exact ⟨rfl, HB1.out⟩
  · rw [decide_eq_false hlg]
    by_cases hwl : 24 < ws.length
    · have hwl' : decide (24 < (ws.length : Int)) = true := by simp; omega
      have hwl2 : (24 : Int) < (ws.length : Int) := by omega
      go_wp2
      go_ret
      exact ⟨rfl, HB1.out⟩
    · have hwl' : decide (24 < (ws.length : Int)) = false := by simp; omega
      have hwl2 : ¬ (24 : Int) < (ws.length : Int) := by omega
      have hws : ws.length ≤ 24 := by omega
      go_wp2_with fail
      refine (rows15 w1 _ _ ws HX1.out hok hws).mono ?_
      rintro e w2 ⟨p, X, vl, xss, st, rfl, hlen, hpo, hP, E⟩
      obtain ⟨Al, cl, rfl, -, -⟩ := E.wdsShape (xss := xss) (by repeat with_reducible first | apply mem_hd | assumption | apply mem_tl)
      have hxl : Hid (xss.length = ws.length) := Lib.hid (by have := congrArg List.length hlen.out; simpa using this)
      have hxl2 : xss.length ≤ 24 := by have := hxl.out; omega
      have E := ((E.old' HX1.out).old' HY1.out).top
      obtain ⟨B, hB⟩ : ∃ B, w2.heap.size = B := ⟨_, rfl⟩
      rw [hB] at E
      have HB := Lib.hid hB
      clear hB
      obtain ⟨z0, hz0⟩ : ∃ z0 : Int, (xss.length : Int) - 1 = z0 := ⟨_, rfl⟩
      have hz1 : z0 + 1 = xss.length := by omega
      have HZ := Lib.hid hz1
      have hz2 : IntKind.i64.wrap ((xss.length : Int) - 1) = z0 := by rw [hz0]; exact IntWalk.i64_in _ (by omega)
      go_wp2_with fail
      go_loopw [11, 12] (fun lv iv wr => ∃ (k : Nat) (z : Int), k ≤ xss.length ∧ z + 1 = k ∧ iv = .int .i64 z ∧ FineR wr p st B lv (xss.drop k).reverse ∧
          Env (fun a => Fresh w1.heap.size a p ∧ Below w1.heap.size w1 a) p B st wr st 1000 (.row (kRow (kNum .u32)) (.slice A2 nums.length c2) nums :: .row (kNum .u8) (.slice A1 ws.length c1) ws :: .words (.slice Al xss.length cl) xss :: []) (fun _ => True))
        (fun _ iv _ => (intOf iv + 1).toNat)
      case atStart => exact ⟨xss.length, z0, Nat.le_refl _, HZ.out, rfl, by rw [List.drop_length]; exact FineR.nil _ _ _ _, E⟩
      case round =>
        clear E
        obtain ⟨k, z, hk, hzk, rfl, fl, E⟩ := hrel
        obtain ⟨A9, c9, rfl, -, -⟩ := fl.own.shape
        cases k with
        | succ k =>
          have hzk2 : z = (k : Nat) := by omega
          subst hzk2
          have hlt : k < xss.length := by omega
          obtain ⟨b1, o1, A3, c3, rfl, q1, hent⟩ := E.wdsAt (xss := xss) (by repeat with_reducible first | apply mem_hd | assumption | apply mem_tl) hlt
          have hbl := Lib.hid (fun g (hg : Value.ownBlock (.slice A9 (xss.drop (k + 1)).reverse.length c9) = some g) => (fl.own.base hg).1)
          have t1 := Lib.hid (hu_one (R := fun u ys => Row kInt wr (fun j => foot wr (some p) j ∨ Value.ownBlock (.slice A9 (xss.drop (k + 1)).reverse.length c9) = some j) u ys ∧ Okay st ys ∧ ys.length ≤ 1024) (u := .slice A3 xss[k].length c3) (ys := xss[k]) ⟨hent.1.mono (fun i _ h => h.elim .inr fun h => .inl (hbl.out _ h)), hent.2.1, hent.2.2⟩)
          have HRD := Lib.hid (reverse_drop xss hlt)
          have t2 : (xss.drop (k + 1)).reverse.length + 1 ≤ 1024 := by rw [List.length_reverse, List.length_drop]; omega
          generalize (xss.drop (k + 1)).reverse = rv at fl t1 t2 HRD hbl ⊢
          have t3 : B ≤ wr.heap.size := E.size
          obtain ⟨z', hz'⟩ : ∃ z' : Int, (k : Int) - 1 = z' := ⟨_, rfl⟩
          have hz3 : IntKind.i64.wrap ((k : Int) - 1) = z' := by rw [hz']; exact IntWalk.i64_in _ (by omega)
          have HZ' := Lib.hid (show z' + 1 = (k : Int) by omega)
          generalize xss[k] = y at *
          clear hent hbl
          go_wp2_with (at_builtin; refine appW rfl (.tmp 45) (.tmp 50) rfl Try.underlying80 infoInts E fl (Nat.le_refl _) t3 rfl [.slice A3 y.length c3] [y] 1 ⟨rfl, rfl⟩ #[.slice A3 y.length c3] rfl rfl t1.out t2 ?_; intro v5 w5 k5 fl5 E5)
          go_roundw
          case rel => exact ⟨k, z', by omega, HZ'.out, by go_num, by rw [HRD.out]; exact fl5, E5⟩
          case measure => simp [intOf]; omega
        | zero =>
          have hzk2 : z = -1 := by omega
          subst hzk2
          rw [List.drop_zero] at fl ⊢
          have E := (E.fineR fl).only (L' := .words (.slice A9 xss.reverse.length c9) xss.reverse :: .row (kRow (kNum .u32)) (.slice A2 nums.length c2) nums :: .row (kNum .u8) (.slice A1 ws.length c1) ws :: .words (.slice Al xss.length cl) xss :: []) (by repeat with_reducible first | refine sub_cons (by repeat with_reducible first | apply mem_hd | assumption | apply mem_tl) ?_ | exact sub_nil | apply sub_refl | apply sub_tail)
          have HRV := Lib.hid (fun V => sumV_reverse V xss)
          have hyl : xss.reverse.length ≤ 24 := by rw [List.length_reverse]; omega
          generalize xss.reverse = yss at *
          clear fl
          go_wp2_with fail
          refine (E.total m (by omega) (xss := xss) (by repeat with_reducible first | apply mem_hd | assumption | apply mem_tl) (by omega) (by omega)).mono ?_
          rintro e w3 ⟨v3, r3, st3, h3, rfl, -, -, -, E⟩
          obtain ⟨M, hM⟩ : ∃ M, 1000 + 50000000 = M := ⟨_, rfl⟩
          rw [hM] at E
          have hM2 : M ≤ 100000000 := by omega
          clear hM
          go_wp2_with fail
          refine (E.total m (by omega) (xss := yss) (by repeat with_reducible first | apply mem_hd | assumption | apply mem_tl) (by omega) (by omega)).mono ?_
          rintro e w4 ⟨v4, r4, st4, h4, rfl, -, -, -, E⟩
          obtain ⟨A3, c3, hv3, -, -⟩ := E.shape (xs := r3) (by repeat with_reducible first | apply mem_hd | assumption | apply mem_tl)
          obtain ⟨A4, c4, hv4, -, -⟩ := E.shape (xs := r4) (by repeat with_reducible first | apply mem_hd | assumption | apply mem_tl)
          rw [h3.out] at hv3
          rw [h4.out] at hv4
          subst hv3; subst hv4
          have E := ((E.know (K' := fun V => numV V r3 = numV V r4) fun V ⟨⟨_, f1⟩, f2⟩ => by rw [f1, f2, HRV.out]).cntle (N' := 200000000) (by omega)).only (L' := .word (.slice A4 m c4) r4 :: .word (.slice A3 m c3) r3 :: .row (kRow (kNum .u32)) (.slice A2 nums.length c2) nums :: .row (kNum .u8) (.slice A1 ws.length c1) ws :: []) (by repeat with_reducible first | refine sub_cons (by repeat with_reducible first | apply mem_hd | assumption | apply mem_tl) ?_ | exact sub_nil | apply sub_refl | apply sub_tail)
          have hr3 : 0 < r3.length := by rw [h3.out]; exact hm2
          have hr4 : 0 < r4.length := by rw [h4.out]; exact hm2
          have hou : st.outs.length < 100 := by rw [hpo.out.2]; decide
          go_wp2_with fail
          refine (E.out hP ⟨#[120]⟩ (xs := r3) (by repeat with_reducible first | apply mem_hd | assumption | apply mem_tl) hr3 hou).mono ?_
          rintro e w5 ⟨st5, rfl, hi5, hP5, E⟩
          go_wp2_with fail
          refine (E.out hP5 ⟨#[121]⟩ (xs := r4) (by repeat with_reducible first | apply mem_hd | assumption | apply mem_tl) hr4 (by rw [hi5.out.2, hpo.out.2]; simp)).mono ?_
          rintro e w6 ⟨st6, rfl, hi6, hP6, E⟩
          have hin6 : Hid (st6.ins.map Port.bits = xss) := Lib.hid (by rw [hi6.out.1, hi5.out.1]; exact hpo.out.1)
          have hou6 : Hid (st6.outs = [⟨⟨#[120]⟩, r3⟩, ⟨⟨#[121]⟩, r4⟩]) := Lib.hid (by rw [hi6.out.2, hi5.out.2, hpo.out.2]; rfl)
          have hyl2 : Hid (∀ xs ∈ nums, xs.length ≤ 200) := Lib.hid fun xs h => by have := HYL.out xs h; omega
          go_wp2_with fail
          refine (E.ref (cut15 _ _ _ E.there _ _ ws nums (E.rwF (k := kNum .u8) (by repeat with_reducible first | apply mem_hd | assumption | apply mem_tl)) hok hws (E.rwF (k := kRow (kNum .u32)) (by repeat with_reducible first | apply mem_hd | assumption | apply mem_tl)) HYO.out hyl2.out)).mono ?_
          rintro e w7 ⟨v7, rfl, hb7, E⟩
          rw [cuts_nat] at E
          have hcl : (cutV nums ws).length = ws.length := by simp [cutV]
          have hcn : ∀ i (x : Int), ws[i]? = some x → (cutV nums ws).getD i 0 < 2 ^ ((x % 16).toNat + 1) := fun i x h => by
            rw [cutV_at nums ws h]; exact Nat.mod_lt _ (Nat.two_pow_pos _)
          have hil : st6.ins.length = ws.length := by have h := congrArg List.length hin6.out; rw [List.length_map, hxl.out] at h; exact h
          have HCN := Lib.hid hcn
          have HIL := Lib.hid hil
          have hnb : ∀ n ∈ cutV nums ws, nbits n ≤ 1024 := fun n hn => by
            obtain ⟨i, hi, rfl⟩ := List.mem_iff_getElem.1 hn
            have h := HCN.out i ws[i] (List.getElem?_eq_getElem _)
            rw [List.getD_eq_getElem?_getD, List.getElem?_eq_getElem hi] at h
            refine Nat.le_trans (nbits_le h) ?_
            have := hok ws[i] (List.getElem_mem _)
            omega
          have hfit : ∀ i q, st6.ins[i]? = some q → (cutV nums ws).getD i 0 < 2 ^ q.bits.length := fun i q hq => by
            have hi : i < ws.length := by rw [← HIL.out]; exact (List.getElem?_eq_some_iff.1 hq).1
            have h := HCN.out i ws[i] (List.getElem?_eq_getElem hi)
            have h1 : (st6.ins.map Port.bits)[i]? = some q.bits := by rw [List.getElem?_map, hq]; rfl
            rw [hin6.out] at h1
            have h2 : (xss.map List.length)[i]? = some q.bits.length := by rw [List.getElem?_map, h1]; rfl
            rw [hlen.out, List.getElem?_map, List.getElem?_eq_getElem hi] at h2
            injection h2 with h2
            rw [← h2]; exact h
          have HNB := Lib.hid hnb
          have HFIT := Lib.hid hfit
          have HCL := Lib.hid hcl
          clear hcn hil hnb hfit hcl
          generalize cutV nums ws = cs at *
          have hc2 : cs.length ≤ 100 := by rw [HCL.out]; omega
          go_wp2_with fail
          refine (E.sums15 hP6 (by omega) cs (by repeat with_reducible first | apply mem_hd | assumption | apply mem_tl) (by rw [HCL.out, HIL.out]) hc2 HNB.out HFIT.out).mono ?_
          rintro e w8 ⟨v8, V, rfl, hb8, hV, -, E⟩
          have hK := E.sem V hV
          have e9 : st6.outs.map (fun q => parts32 (numV V q.bits)) = [parts32 (numV V r3), parts32 (numV V r3)] := by rw [hou6.out]; simp [hK]
          rw [e9] at E
          have hnv : (parts32 (numV V r3)).length ≤ 1099511627776 := by
            rw [parts32_length]
            have h := nbits_le (numV_lt V r3)
            rw [h3.out] at h
            omega
          generalize parts32 (numV V r3) = pn at *
          clear e9 hK hV hb7 hb8
          obtain ⟨A8, c8, hv8⟩ := E.rshape (v := v8) (by repeat with_reducible first | apply mem_hd | assumption | apply mem_tl)
          simp only [List.length_cons, List.length_nil, Nat.zero_add, Nat.reduceAdd] at hv8
          subst hv8
          obtain ⟨bo, oo, B0, d0, rfl, q0, E⟩ := E.rowAt (xss := [pn, pn]) (by repeat with_reducible first | apply mem_hd | assumption | apply mem_tl) 0 (by simp)
          obtain ⟨bo1, oo1, B1, d1, he1, q1, E⟩ := E.rowAt (xss := [pn, pn]) (by repeat with_reducible first | apply mem_hd | assumption | apply mem_tl) 1 (by simp)
          injection he1 with he1; injection he1 with he1 he1'; subst he1; subst he1'
          simp only [List.getElem_cons_zero, List.getElem_cons_succ, Nat.add_zero] at q0 q1 E
          have Q := Lib.hid (And.intro q0 q1)
          clear q0 q1
          have E := E.drew
          have QD := Lib.hid (show (w8.drew.cell? ⟨bo, oo, none⟩ = _ ∧ w8.drew.cell? ⟨bo, oo + 1, none⟩ = _) from Q.out)
          have hsm := same_ref _ _ _ (.slice B0 pn.length d0) (.slice B1 pn.length d1) pn pn (E.rw_ (by repeat with_reducible first | apply mem_hd | assumption | apply mem_tl)) (E.rw_ (by repeat with_reducible first | apply mem_hd | assumption | apply mem_tl)) hnv hnv
          rw [decide_eq_true rfl] at hsm
          go_wp2_with fail
          go_region_held3 (fun w' => w'.cell? ⟨bo, oo, none⟩ = some (.slice B0 pn.length d0) ∧ w'.cell? ⟨bo, oo + 1, none⟩ = some (.slice B1 pn.length d1))
            (first | with_reducible exact QD.out | with_reducible exact QA.out)
            ((go_at_call 25; refine hsm.mono ?_; clear hsm; rintro e w9 ⟨rfl, hb9⟩; have QA := Lib.hid (And.intro (cell_below hb9 QD.out.1) (cell_below hb9 QD.out.2)); have E := E.quiet hb9))
          have HE := Lib.hid E.c.2
          clear E
          go_wp2
          go_ret
          exact ⟨rfl, HB1.out.trans (HE.out.mono HB1.out.size)⟩
end Go.Proofs.Ytdljgifoboiaeaa
