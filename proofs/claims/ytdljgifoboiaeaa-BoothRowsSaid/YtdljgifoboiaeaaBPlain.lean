/- booth.Plain, walked. -/
import Derived.Test.YtdljgifoboiaeaaTotal
namespace Go.Proofs.Ytdljgifoboiaeaa
open Go.RowKit

theorem plain_step {V : Int → Bool} {xs ys : List Int} {S R k : Nat} {h : k < ys.length} (hS : S = numV V xs * numV V (ys.take k)) (hR : R = 2 ^ k * (numV V xs * (V ys[k]).toNat)) : S + R = numV V xs * numV V (ys.take (k + 1)) := by
  rw [List.take_succ_eq_append_getElem h, numV_snoc, List.length_take, Nat.min_eq_left (Nat.le_of_lt h), hS, hR, Nat.mul_add, Nat.mul_left_comm]

section
variable {C : World → Prop} {p X : Nat} {st0 st : BSt} {w : World} {N : Nat} {L : List Ent} {K : (Int → Bool) → Prop}
set_option maxHeartbeats 4000000 in
set_option maxRecDepth 100000 in
theorem Env.bplain (E : Env C p X st0 w st N L K) {v u : Value} {xs ys : List Int} (hx : Ent.word v xs ∈ L) (hy : Ent.word u ys ∈ L) (hl : 0 < xs.length ∧ xs.length + ys.length ≤ 200) (hN : N + 90000000 < 1099511627776) :
    Calls Try.prog 82 #[.pointer (some ⟨p, 0, none⟩), v, u] w (ToldW C p st0 st w (N + 90000000) L K (xs.length + ys.length) fun V r => numV V r = numV V xs * numV V ys) := by
  obtain ⟨A1, c1, rfl, -, -⟩ := E.shape hx
  obtain ⟨A2, c2, rfl, -, -⟩ := E.shape hy
  obtain ⟨n, hn⟩ : ∃ n, xs.length + ys.length = n := ⟨_, rfl⟩
  have hn2 : 0 < n ∧ n ≤ 200 := by omega
  have hns : ((xs.length : Int) + (ys.length : Int)) = (n : Int) := by omega
  have HN := Lib.hid hn
  have E0 := E
  have E := E.mark
  obtain ⟨B, hB⟩ : ∃ B, w.heap.size = B := ⟨_, rfl⟩
  rw [hB] at E
  have HB := Lib.hid hB
  clear hB
  go_enter Try.func82, Try.ntmps82
  go_wp2_with fail
  go_loopw [7, 15] (fun lv iv wr => ∃ k ls st', k ≤ ys.length ∧ iv = .int .i64 (k : Nat) ∧ Hid (ls.length = k) ∧ FineR wr p st' B lv ls ∧ Env (fun a => C a ∧ Kept B (some p) w a) p B st wr st' (N + 3000 * k) L (fun V => K V ∧ sumV V ls = numV V xs * numV V (ys.take k)))
    (fun _ iv _ => ys.length - (intOf iv).toNat)
  case atStart => exact ⟨0, [], st, by omega, rfl, Lib.hid rfl, FineR.nil _ _ _ _, E.know fun V h => ⟨h, by simp [sumV_nil, numV_nil]⟩⟩
  case round =>
    clear E
    obtain ⟨k, ls, st', hk, rfl, hll, fl, E⟩ := hrel
    obtain ⟨wo, hwo⟩ : ∃ wo, wo = wr := ⟨_, rfl⟩
    subst hwo
    by_cases hlt : k < ys.length
    · obtain ⟨b2, o2, rfl⟩ := E.start_ (xs := ys) hy (by omega)
      have ka := (E.okay hy).at hlt
      have q1 := E.cell hy hlt
      have hk2 : (k : Int) ≤ 1024 := by omega
      have hBr := E.size
      have EM := (E.addPl ka).mark
      have hbl := Lib.hid (fun g (hg : Value.ownBlock _ = some g) => (fl.own.base hg).2)
      obtain ⟨Na, hNa⟩ : ∃ Na, N + 3000 * k = Na := ⟨_, rfl⟩
      have HNa := Lib.hid hNa
      have hbig : Na + 1024 < 1099511627776 := by omega
      rw [hNa] at EM E
      clear hNa
      go_wp2_with fail
      refine (EM.padNil (k : Int) hk2 hbig).mono ?_
      rintro e w2 ⟨v2, r0, st2, h2, rfl, k2, x2, f2, E2⟩
      have E3 := EM.behind k2 x2 E2
      rw [Int.toNat_natCast] at h2
      obtain ⟨Bk, hBk⟩ : ∃ Bk, wo.heap.size = Bk := ⟨_, rfl⟩
      have HBk := Lib.hid hBk
      rw [hBk] at E3 f2 hbl hBr
      obtain ⟨Nb, hNb⟩ : ∃ Nb, Na + 1024 = Nb := ⟨_, rfl⟩
      rw [hNb] at E3
      have HNb := Lib.hid hNb
      have hbig2 : Nb + 2048 < 1099511627776 := by have := HNa.out; omega
      clear k2 x2 E2 EM q1 hBk hNb
      go_wp2_with fail
      go_loopw [10, 25] (fun sv jv wq => ∃ j r st'', j ≤ xs.length ∧ jv = .int .i64 (j : Nat) ∧ Hid (r.length = k + j) ∧ Fine wq p st'' Bk sv r ∧ Env (fun a => (C a ∧ Kept B (some p) w a) ∧ Kept Bk (some p) wo a) p Bk st' wq st'' (Nb + 2 * j) (.pl ys[k] :: L) (fun V => (K V ∧ sumV V ls = numV V xs * numV V (ys.take k)) ∧ numV V r = 2 ^ k * (numV V (xs.take j) * (V ys[k]).toNat)))
        (fun _ jv _ => xs.length - (intOf jv).toNat)
      case atStart => exact ⟨0, r0, st2, by omega, rfl, Lib.hid h2.out, f2, E3.know fun V ⟨h, e⟩ => ⟨h, by simp [numV_nil, e]⟩⟩
      case round =>
        clear E3 f2 h2
        obtain ⟨j, r, st3, hj, rfl, hr, f3, E3⟩ := hrel
        by_cases hlt2 : j < xs.length
        · obtain ⟨b1, o1, rfl⟩ := E3.start_ (xs := xs) (A := A1) (by repeat with_reducible first | apply mem_hd | assumption | apply mem_tl) (by omega)
          have kb := (E3.okay (xs := xs) (v := .slice (some ⟨b1, o1, none⟩) xs.length c1) (by repeat with_reducible first | apply mem_hd | assumption | apply mem_tl)).at hlt2
          have q1 := E3.cell (xs := xs) (b := b1) (off := o1) (m := xs.length) (c := c1) (by repeat with_reducible first | apply mem_hd | assumption | apply mem_tl) hlt2
          have E4 := E3.addPl kb
          go_wp2_with fail
          refine (E4.and (x := xs[j]) (y := ys[k]) (by repeat with_reducible first | apply mem_hd | assumption | apply mem_tl) (by repeat with_reducible first | apply mem_hd | assumption | apply mem_tl) (by omega)).mono ?_
          rintro e w3 ⟨g, st4, rfl, k3, x3, E5⟩
          have f3 := f3.kept k3 x3
          have kg := E5.at_ (c := g) (by repeat with_reducible first | apply mem_hd | assumption | apply mem_tl)
          have hl5 : r.length + 1 ≤ 1024 := by have := hr.out; omega
          go_wp2_with (at_builtin; refine app1E rfl (.tmp 29) (.tmp 34) rfl Try.underlying26 infoInt E5 f3 (Nat.le_refl _) E5.size rfl g rfl kg hl5 ?_; intro v' w4 k5 f3 E5)
          go_wp2
          go_roundw
          case rel =>
            exact ⟨j + 1, r ++ [g], _, by omega, by go_num, Lib.hid (by rw [List.length_append, hr.out]; rfl), f3, ((E5.only (L' := .pl ys[k] :: L) (by repeat with_reducible first | refine sub_cons (by repeat with_reducible first | apply mem_hd | assumption | apply mem_tl) ?_ | exact sub_nil | apply sub_refl | apply sub_tail)).cntle (by omega)).know fun V ⟨⟨h, e1⟩, e2⟩ => ⟨h, by
              rw [numV_snoc, hr.out, e1, e2, List.take_succ_eq_append_getElem hlt2, numV_snoc, List.length_take, Nat.min_eq_left (Nat.le_of_lt hlt2), Nat.pow_add, Nat.add_mul, Nat.mul_add, Nat.mul_assoc (2 ^ k), Nat.mul_assoc (2 ^ j)]
              congr 2
              cases V xs[j] <;> cases V ys[k] <;> rfl⟩⟩
          case measure => simp [intOf]; omega
        · obtain rfl : j = xs.length := by omega
          rw [← HBk.out] at E3
          have kq := E3.c.2
          have kq' : Kept wo.heap.size (some p) wo wr := kq
          have fl := fl.kept kq' E3.ext
          have E6 := E.behind kq' E3.ext (E3.done E)
          obtain ⟨A4, c4, rfl, -, -⟩ := f3.own.shape
          have t1 := Lib.hid (hu_one (R := fun u ys => Row kInt wr (fun j => foot wr (some p) j ∨ Value.ownBlock _ = some j) u ys ∧ Okay st3 ys ∧ ys.length ≤ 1024) (f3.beside hbl.out))
          have t2 : ls.length + 1 ≤ 1024 := by have := hll.out; omega
          have t3 : B ≤ wr.heap.size := E6.size
          clear kq kq' hbl
          go_wp2_with (at_builtin; refine appW rfl (.tmp 37) (.tmp 39) rfl Try.underlying80 infoInts E6 fl (Nat.le_refl _) t3 rfl [.slice A4 r.length c4] [r] 1 ⟨rfl, rfl⟩ #[.slice A4 r.length c4] rfl rfl t1.out t2 ?_; intro v5 w5 k5 fl E7)
          go_wp2
          go_roundw
          case rel =>
            exact ⟨k + 1, ls ++ [r], st3, by omega, by go_num, Lib.hid (by rw [List.length_append, hll.out]; rfl), fl, (E7.cntle (by have := HNa.out; have := HNb.out; omega)).know fun V ⟨⟨h, e1⟩, e2⟩ => ⟨h, by
              rw [sumV_append, sumV_cons, sumV_nil, Nat.add_zero]
              rw [List.take_of_length_le (Nat.le_refl _)] at e2
              exact plain_step e1 e2⟩⟩
          case measure => simp [intOf]; omega
    · obtain rfl : k = ys.length := by omega
      have E1 := E.fineR fl
      obtain ⟨A4, c4, rfl⟩ : ∃ A c, _ = Value.slice A ls.length c := by obtain ⟨A, c, h, -⟩ := E1.wdsShape (by repeat with_reducible first | apply mem_hd | assumption | apply mem_tl); exact ⟨A, c, h⟩
      obtain ⟨Na, hNa⟩ : ∃ Na, N + 3000 * ys.length = Na := ⟨_, rfl⟩
      have HNa := Lib.hid hNa
      have hbig : Na + 50000000 < 1099511627776 := by omega
      rw [hNa] at E1
      have hl5 : ls.length ≤ 500 := by have := hll.out; omega
      clear hNa
      go_wp2_with fail
      refine (E1.total n (by omega) (by repeat with_reducible first | apply mem_hd | assumption | apply mem_tl) hl5 hbig).mono ?_
      rintro e w5 ⟨v5, r5, st5, h5, rfl, k5, x5, f5, E6⟩
      go_wp2
      go_ret
      obtain rfl := HB.out
      refine ⟨v5, r5, st5, Lib.hid (h5.out.trans HN.out.symm), rfl, E6.c.2, E6.ext, f5.lower E.size, (((E6.only (L' := .word v5 r5 :: L) (by repeat with_reducible first | refine sub_cons (by repeat with_reducible first | apply mem_hd | assumption | apply mem_tl) ?_ | exact sub_nil | apply sub_refl | apply sub_tail)).cntle (by have := HNa.out; omega)).done E0).know fun V ⟨⟨h, e1⟩, e2⟩ => ⟨h, ?_⟩⟩
      have hXV := numV_lt V xs
      have hYV := numV_lt V ys
      show numV V r5 = _
      rw [e2, e1, List.take_of_length_le (Nat.le_refl _), ← HN.out, Nat.pow_add]
      exact Nat.mod_eq_of_lt (Nat.mul_lt_mul'' hXV hYV)
end
end Go.Proofs.Ytdljgifoboiaeaa
