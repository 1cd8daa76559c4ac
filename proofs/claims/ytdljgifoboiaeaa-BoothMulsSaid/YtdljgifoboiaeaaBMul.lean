/- booth.Mul, walked. -/
import Derived.Test.YtdljgifoboiaeaaBRows
import Derived.Test.YtdljgifoboiaeaaTotal
namespace Go.Proofs.Ytdljgifoboiaeaa
open Go.RowKit
attribute [local go_sem] Oper.semAt_some

section
variable {C : World → Prop} {p X : Nat} {st0 st : BSt} {w : World} {N : Nat} {L : List Ent} {K : (Int → Bool) → Prop}

set_option maxHeartbeats 4000000 in
set_option maxRecDepth 100000 in
theorem Env.bmul (E : Env C p X st0 w st N L K) {v u : Value} {xs ys : List Int} (hx : Ent.word v xs ∈ L) (hy : Ent.word u ys ∈ L) (hl : 0 < xs.length ∧ xs.length + ys.length ≤ 200) (hN : N + 90000000 < 1099511627776) :
    Calls Try.prog 81 #[.pointer (some ⟨p, 0, none⟩), v, u] w (ToldW C p st0 st w (N + 90000000) L K (xs.length + ys.length) fun V r => numV V r = numV V xs * numV V ys) := by
  obtain ⟨A1, c1, rfl, -, -⟩ := E.shape hx
  obtain ⟨A2, c2, rfl, -, -⟩ := E.shape hy
  have HNN := Lib.hid hN
  obtain ⟨n, hn⟩ : ∃ n, xs.length + ys.length = n := ⟨_, rfl⟩
  have hn2 : 0 < n ∧ n ≤ 200 := by omega
  have hns : ((xs.length : Int) + (ys.length : Int)) = (n : Int) := by omega
  have hns2 : IntKind.i64.wrap ((xs.length : Int) + (ys.length : Int)) = (n : Int) := by rw [hns]; exact IntWalk.i64_in _ (by omega)
  have HN := Lib.hid hn
  clear hN
  refine (callsIn_wide (n := 3)).1 (callsIn_of_wp_marks Try.func81 rfl trivial (wpIn_wide.2 ?_))
  simp only [Try.ntmps81, List.size_toArray, List.length_cons, List.length_nil, Nat.reduceAdd, Nat.reduceSub, Array.replicate_succ, Array.replicate_zero, List.push_toArray, List.append_toArray, List.nil_append, List.cons_append]
  have E1 := E.mark.alloc (.cells #[.slice none 0 0] 80)
  have bl := E.box (.slice none 0 0) 80
  go_wp2_with fail
  refine (E1.rows hx hy).mono ?_
  rintro e W3 ⟨bb, hbb, rfl, k3, E2, b1, b2, b3, b4⟩
  have bl := bl.then k3
  have hbl := bl.lt
  rw [HN.out] at b4
  have HBV := Lib.hid (show bb = w.heap.size + 1 by rw [hbb]; simp)
  have lb4 := b4.lt
  clear hbb E1
  go_wp2_with fail
  have hX : w.heap.size ≤ W3.heap.size := Nat.le_of_lt hbl
  have h0 : MulIx (fun a => C a ∧ Kept w.heap.size (some p) w a) p st w.heap.size N L K W3.heap.size w.heap.size bb (.slice A1 xs.length c1) (.slice A2 ys.length c2) xs ys [] W3 :=
    ⟨.slice none 0 0, st, Lib.hid (by simp), bl, b1, b2, b3, by rw [HN.out]; exact b4, FineB.nil _ _ _ _ _, fun _ h => by simp at h, Nat.le_refl _, (E2.cntle (by omega)).know fun V h => ⟨h, rfl, fun x h => by simp at h⟩⟩
  refine wpIn_wide.1 (range_own (n := 3) (gf := 132) (lb := #[.pointer (some ⟨bb + 1 + 1, 0, none⟩), .pointer (some ⟨bb, 0, none⟩), .pointer (some ⟨bb + 1, 0, none⟩), .pointer (some ⟨bb + 1 + 1 + 1, 0, none⟩)]) (encs := fun x : RowT => #[x.1]) rfl (enters_of Try.func132 (by kernel_rfl) rfl) (fun _ => rfl) W3.heap.size (Nat.le_refl _) _ _
    (rows_iter (X := w.heap.size) (B3 := W3.heap.size) hX hx hy (by omega) (by have := HNN.out; omega)) (MulIx.calm hX) (MulY.calm hX) h0
    (fun x => { tmps := #[.pointer (some ⟨p, 0, none⟩), .slice A1 xs.length c1, .slice A2 ys.length c2, undef, undef, undef, .slice none 0 0, .pointer (some ⟨w.heap.size, 0, none⟩), x.1, .pointer (some ⟨p, 0, none⟩), .slice A1 xs.length c1, .slice A2 ys.length c2, .func (.func 132) #[] #[.pointer (some ⟨bb + 1 + 1, 0, none⟩), .pointer (some ⟨bb, 0, none⟩), .pointer (some ⟨bb + 1, 0, none⟩), .pointer (some ⟨bb + 1 + 1 + 1, 0, none⟩)], x.1, undef, undef, undef, undef, undef, undef, undef, undef, undef, undef, undef, undef], defers := [] }) ?assign ?body ?done)
  case assign =>
    intro l x V K hK
    gi_wp2
    exact hK
  case body =>
    rintro l0 pre ⟨v, r, c⟩ W ⟨lv, st', Bx, hc, hM, f, hbx, hB, hat⟩
    clear h0 b1 b2 b3 b4 bl E2 k3
    obtain ⟨A3, c3, hlv⟩ := hM.fin.shape
    obtain ⟨m3, hm3⟩ : ∃ m, (pre.map fun x => x.2.1).length = m := ⟨_, rfl⟩
    rw [hm3] at hlv
    subst hlv
    have hl3 : (pre.map fun x => x.2.1).length + 1 ≤ 1024 := by rw [List.length_map]; have := hc.out; omega
    have HM3 := Lib.hid hm3
    have q7 := hM.hl.1
    obtain ⟨A4, c4, hv, -, -⟩ := f.own.shape
    obtain ⟨m4, hm4⟩ : ∃ m, r.length = m := ⟨_, rfl⟩
    dsimp only at hv f
    rw [hm4] at hv
    subst hv
    clear hm3 hm4
    gi_wp2_with (gi_at_builtin; refine listRound (fun c h => nomatch h) rfl (fun K hK => appBR (.tmp 14) (.tmp 16) rfl Try.underlying80 infoInts hM.env hM.fin hX hM.size rfl f hbx hB rfl hl3 ?_); intro v9 w9 k9 o9 gr9 f9 E9; refine hK _ _ ?_; clear hK K; have j0 := hM.hl.kept k9 hbl; have q5 := j0.1; have q6 := j0.2.1; obtain ⟨A9, c9, hv9⟩ := f9.shape; obtain ⟨m9, hm9⟩ : ∃ m, ((pre.map fun x => x.2.1) ++ [r]).length = m := ⟨_, rfl⟩; rw [hm9] at hv9; subst hv9; clear hm9)
    have hbv := HBV.out
    obtain ⟨s0, E10, k10, sB, -⟩ := j0.store E9 (Nat.le_refl _) (.slice A9 m9 c9)
    refine ⟨o9.trans (KeepsOthers.setCell _ _ _), .slice A9 m9 c9, st', Lib.hid ?_, s0, sB (hM.hb.kept k9 (by omega)) (by omega), sB (hM.hx.kept k9 (by omega)) (by omega), sB (hM.hy.kept k9 (by omega)) (by omega), sB (hM.hw.kept k9 (by omega)) (by omega), ?_, ?_, ?_, (E10.cntle ?_).know fun V ⟨h1, h2⟩ => h1.snoc h2⟩
    · rw [List.length_append, List.length_singleton]; have := hc.out; omega
    · rw [List.map_append]
      exact f9.stored j0 hbl (fun h => by have := (f9.base h).1; omega)
    · intro y hy'
      rcases List.mem_append.1 hy' with hy' | hy'
      · exact hM.pls y hy'
      · simp at hy'; subst hy'; exact hat
    · have := hM.size
      have := k9.size
      simp
      omega
    · rw [List.length_append, List.length_singleton]; exact Nat.le_refl _
  case done =>
    intro D pre W hD hS hI hd
    obtain ⟨lv, st', hM⟩ := hI
    obtain ⟨A3, c3, hlv⟩ := hM.fin.shape
    obtain ⟨m3, hm3⟩ : ∃ m, (pre.map fun x => x.2.1).length = m := ⟨_, rfl⟩
    rw [hm3] at hlv
    subst hlv
    have q7 := hM.hl.1
    have hm5 : (pre.map fun x => x.2.1).length ≤ 500 := by rw [List.length_map, hS]; omega
    obtain ⟨M, hM2⟩ : ∃ M, N + 20000 * pre.length = M := ⟨_, rfl⟩
    have hbig : M + 50000000 < 1099511627776 := by have := HNN.out; omega
    have E5 := hM.env.fineR hM.fin.toR
    rw [hM2] at E5
    have HM2 := Lib.hid hM2
    have HS := Lib.hid hS
    clear h0 b1 b2 b3 b4 bl E2 k3 hM2 hS hm3
    have hsz := hM.size
    go_wp2_with fail
    refine (E5.total n (by omega) (by repeat with_reducible first | apply mem_hd | assumption | apply mem_tl) hm5 hbig).mono ?_
    rintro e W5 ⟨v5, r5, st5, h5, rfl, k5, x5, f5, E6⟩
    have hd5 := (hM.env.others k5).same D _ hd rfl
    have E7 := ((hM.env.behind k5 x5 E6).only (L' := L) (by repeat with_reducible first | refine sub_cons (by repeat with_reducible first | apply mem_hd | assumption | apply mem_tl) ?_ | exact sub_nil | apply sub_refl | apply sub_tail)).cntle (N' := N + 90000000) (by have := HM2.out; have := HS.out; omega)
    obtain ⟨A5, c5, hv5, -, -⟩ := f5.own.shape
    subst hv5
    clear E5 E6 hM q7
    go_wp2
    refine leave_marks (B := W3.heap.size) (v := .slice A5 r5.length c5) (fun w => by simp [results, Try.results81, go_sem]) (fun U => Fine U p st5 W.heap.size (.slice A5 r5.length c5) r5 ∧ Env (fun a => C a ∧ Kept w.heap.size (some p) w a) p w.heap.size st U st5 (N + 90000000) L (fun V => KI K xs ys pre V ∧ numV V r5 = sumV V (pre.map fun x => x.2.1) % 2 ^ n))
      (fun U U' row ⟨f, EU⟩ hg hr => ?_) (fun U ⟨f, EU⟩ => ?_) _ _ ⟨by simp, fun d hd' => ⟨D, by simpa using hd', hD, hd5⟩⟩ ⟨f5, E7⟩
    · have hr' : ∀ r, row = some r → w.heap.size ≤ r ∧ ∃ o : Obj, U.heap[r]? = some o ∧ o.isCells = false := fun r e => ⟨by have := (hr r e).1; omega, (hr r e).2⟩
      exact ⟨f.turned EU hg hr', (EU.turned hg hr').1⟩
    · refine ⟨.slice A5 r5.length c5, r5, st5, Lib.hid (h5.out.trans HN.out.symm), rfl, EU.c.2, EU.ext, f.lower (by omega), (((EU.top.fine f).only (L' := .word (.slice A5 r5.length c5) r5 :: L) (by repeat with_reducible first | refine sub_cons (by repeat with_reducible first | apply mem_hd | assumption | apply mem_tl) ?_ | exact sub_nil | apply sub_refl | apply sub_tail)).done E).know fun V ⟨⟨h1, h2, _⟩, h3⟩ => ⟨h1, ?_⟩⟩
      have hXV := numV_lt V xs
      have hYV := numV_lt V ys
      show numV V r5 = _
      rw [h3, h2, HS.out, ← HN.out]
      exact sumN_all _ _ _ _ hXV hYV
end
end Go.Proofs.Ytdljgifoboiaeaa
