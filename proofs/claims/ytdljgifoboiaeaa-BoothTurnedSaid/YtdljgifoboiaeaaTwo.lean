/- tree.Two, Total: two words of many, and one. -/
import Derived.Test.YtdljgifoboiaeaaTree
import Derived.Test.YtdljgifoboiaeaaRowW
namespace Go.Proofs.Ytdljgifoboiaeaa
open Go.RowKit

def sumV (V : Int → Bool) (xss : List (List Int)) : Nat := (xss.map (numV V)).sum
theorem sumV_append (V : Int → Bool) (xss yss : List (List Int)) : sumV V (xss ++ yss) = sumV V xss + sumV V yss := by simp [sumV, List.sum_append]
theorem sumV_nil (V : Int → Bool) : sumV V [] = 0 := rfl
theorem sumV_cons (V : Int → Bool) (xs : List Int) (xss : List (List Int)) : sumV V (xs :: xss) = numV V xs + sumV V xss := by simp [sumV]
/-- all of one width -/
def Wide (m : Nat) (xss : List (List Int)) : Prop := ∀ xs ∈ xss, xs.length = m
theorem Wide.append {m : Nat} {xss yss : List (List Int)} (h : Wide m xss) (k : Wide m yss) : Wide m (xss ++ yss) := fun xs hx => (List.mem_append.1 hx).elim (h xs) (k xs)
theorem Wide.one {m : Nat} {xs : List Int} (h : xs.length = m) : Wide m [xs] := fun ys hy => by simp at hy; subst hy; exact h
theorem Wide.two {m : Nat} {xs ys : List Int} (h : xs.length = m) (k : ys.length = m) : Wide m [xs, ys] := fun zs hz => by
  simp at hz; rcases hz with rfl | rfl <;> assumption
theorem Wide.drop {m : Nat} {xss : List (List Int)} (h : Wide m xss) (n : Nat) : Wide m (xss.drop n) := fun xs hx => h xs (List.mem_of_mem_drop hx)

theorem list_three {α : Type} {xs : List α} (h : 3 ≤ xs.length) : ∃ a b c r, xs = a :: b :: c :: r := by
  match xs, h with
  | a :: b :: c :: r, _ => exact ⟨a, b, c, r, rfl⟩
theorem two_sum {V : Int → Bool} {nn : List (List Int)} {x0 x1 x2 r1 r2 y1 y2 : List Int} {rest : List (List Int)} {m S : Nat} (a : (sumV V nn + sumV V (x0 :: x1 :: x2 :: rest)) % 2 ^ m = S % 2 ^ m)
    (b1 : numV V r1 + numV V r2 = numV V x0 + numV V x1 + numV V x2) (b2 : numV V y1 = numV V r1 % 2 ^ (m : Int).toNat) (b3 : numV V y2 = numV V r2 % 2 ^ (m : Int).toNat) : (sumV V (nn ++ [y1, y2]) + sumV V rest) % 2 ^ m = S % 2 ^ m := by
  rw [Int.toNat_natCast] at b2 b3
  rw [← a, sumV_append, sumV_cons, sumV_cons, sumV_nil, sumV_cons, sumV_cons, sumV_cons, b2, b3]
  have h1 := Nat.div_add_mod (numV V r1) (2 ^ m)
  have h2 := Nat.div_add_mod (numV V r2) (2 ^ m)
  have e : sumV V nn + (numV V x0 + (numV V x1 + (numV V x2 + sumV V rest))) = sumV V nn + (numV V r1 % 2 ^ m + (numV V r2 % 2 ^ m + 0)) + sumV V rest + 2 ^ m * (numV V r1 / 2 ^ m + numV V r2 / 2 ^ m) := by
    rw [Nat.mul_add]; omega
  rw [e, Nat.add_mul_mod_self_left]
/-- two words are told, to be read -/
def ToldS2 (C : World → Prop) (p : Nat) (st0 st : BSt) (w : World) (N : Nat) (L : List Ent) (K : (Int → Bool) → Prop) (len len2 : Nat) (F : (Int → Bool) → List Int → List Int → Prop) (e : Ending) (w' : World) : Prop :=
  ∃ v r u q st', Hid (r.length = len) ∧ Hid (q.length = len2) ∧ e = .returned (.tuple #[v, u]) ∧ Kept w.heap.size (some p) w w' ∧ Ext st st' ∧ Env C p w'.heap.size st0 w' st' N (.word u q :: .word v r :: L) (fun V => K V ∧ F V r q)
def lenV : Value → Nat
  | .slice _ n _ => n
  | _ => 0
theorem list_two {α : Type} {xs : List α} (h : xs.length = 2) : ∃ a b, xs = [a, b] := by
  match xs, h with
  | [a, b], _ => exact ⟨a, b, rfl⟩
section
variable {C : World → Prop} {p X : Nat} {st0 st : BSt} {w : World} {N : Nat} {L : List Ent} {K : (Int → Bool) → Prop}

set_option maxHeartbeats 8000000 in
set_option maxRecDepth 100000 in
theorem Env.two (E : Env C p X st0 w st N L K) {v : Value} {xss : List (List Int)} (m : Nat) (hm : 0 < m ∧ m ≤ 900) (hx : Ent.words v xss ∈ L) (hl : xss.length ≤ 500) (hN : N + 40000000 < 1099511627776) :
    Calls Try.prog 112 #[.pointer (some ⟨p, 0, none⟩), v, .int .i64 m] w (ToldS2 C p st0 st w (N + 40000000) L K m m fun V r q => (numV V r + numV V q) % 2 ^ m = sumV V xss % 2 ^ m) := by
  obtain ⟨A1, c1, rfl, -, -⟩ := E.wdsShape hx
  have E0 := E
  go_enter Try.func112, Try.ntmps112
  go_wp2
  go_step3
  go_wp2_with fail
  obtain ⟨B, hB⟩ : ∃ B, w.heap.size = B := ⟨_, rfl⟩
  have E := E.mark
  rw [hB] at E
  have HB := Lib.hid hB
  clear hB
  go_loopw [8, 16] (fun lv iv wr => ∃ i ls st', i ≤ xss.length ∧ iv = .int .i64 (i : Nat) ∧ Hid (ls.length = i) ∧ Hid (Wide m ls) ∧ FineR wr p st' B lv ls ∧ Env (fun a => C a ∧ Kept B (some p) w a) p B st wr st' (N + 1024 * i) L (fun V => K V ∧ sumV V ls % 2 ^ m = sumV V (xss.take i) % 2 ^ m))
    (fun _ iv _ => xss.length - (intOf iv).toNat)
  case atStart => exact ⟨0, [], st, by omega, rfl, Lib.hid rfl, Lib.hid (fun _ h => by simp at h), FineR.nil _ _ _ _, E.know fun V h => ⟨h, rfl⟩⟩
  case round =>
    clear E
    obtain ⟨i, ls, st', hi, rfl, hll, hwd, fl, E⟩ := hrel
    by_cases hlt : i < xss.length
    · obtain ⟨b1, o1, A2, c2, rfl, q1, hent⟩ := E.wdsAt (xss := xss) (by repeat with_reducible first | apply mem_hd | assumption | apply mem_tl) hlt
      have E1 := E.add (.word _ xss[i]) hent
      have hbl := Lib.hid (fun g (hg : Value.ownBlock _ = some g) => (fl.own.base hg).2)
      go_wp2_with fail
      refine (E1.pad (xs := xss[i]) (by repeat with_reducible first | apply mem_hd | assumption | apply mem_tl) m (by omega) (by omega)).mono ?_
      rintro e w2 ⟨u, ys, st2, hy, rfl, k2, x2, fu, E2⟩
      rw [Int.toNat_natCast] at hy
      have E3 := E.behind k2 x2 E2
      have fl := fl.kept k2 x2
      obtain ⟨A4, c4, rfl, -, -⟩ := fu.own.shape
      have t1 := Lib.hid (hu_one (R := fun u ys => Row kInt w2 (fun j => foot w2 (some p) j ∨ Value.ownBlock _ = some j) u ys ∧ Okay st2 ys ∧ ys.length ≤ 1024) (fu.beside hbl.out))
      have t2 : ls.length + 1 ≤ 1024 := by have := hll.out; omega
      have t3 : B ≤ w2.heap.size := Nat.le_trans E.size k2.size
      go_wp2_with (at_builtin; refine appW rfl (.tmp 20) (.tmp 25) rfl Try.underlying80 infoInts E3 fl (Nat.le_refl _) t3 rfl [.slice A4 ys.length c4] [ys] 1 ⟨rfl, rfl⟩ #[.slice A4 ys.length c4] rfl rfl t1.out t2 ?_; intro v5 w5 k5 fl E5)
      go_roundw
      case rel =>
        exact ⟨i + 1, _, _, by omega, by go_num, Lib.hid (by rw [List.length_append, hll.out]; rfl), Lib.hid (hwd.out.append (Wide.one hy.out)), fl, (E5.cntle (by omega)).know fun V ⟨⟨h, a⟩, b⟩ => ⟨h, by
          rw [sumV_append, List.take_succ_eq_append_getElem hlt, sumV_append, sumV_cons, sumV_cons, sumV_nil, b, Int.toNat_natCast, Nat.add_zero, Nat.add_zero, Nat.add_mod_mod, Nat.add_mod, a, ← Nat.add_mod]⟩⟩
      case measure => simp [intOf]; omega
    · obtain rfl : i = xss.length := by omega
      rw [List.take_length] at E
      go_wp2
      go_step3
      go_wp2
      go_loopw [8] (fun lv wr => ∃ B1 T ls st', Hid (Wide m ls) ∧ ls.length ≤ xss.length ∧ T ≤ B1 ∧ B1 ≤ wr.heap.size ∧ B ≤ T ∧ FineR wr p st' B1 lv ls ∧ Env (fun a => C a ∧ Kept B (some p) w a) p T st wr st' (N + 600000 + 27000 * (xss.length - ls.length)) L (fun V => K V ∧ sumV V ls % 2 ^ m = sumV V xss % 2 ^ m))
        (fun lv _ => lenV lv)
      case atStart => exact ⟨B, B, ls, _, hwd, by rw [hll.out]; exact Nat.le_refl _, Nat.le_refl _, E.size, Nat.le_refl _, fl, E.cntle (by omega)⟩
      case round =>
        clear E fl hwd hll
        obtain ⟨B1, T, ls, st', hwd, hll, hTB, hBz, hBT, fl, E⟩ := hrel
        obtain ⟨Al, cl, rfl, -, -⟩ := fl.own.shape
        by_cases hlt2 : ls.length ≤ 2
        · have hdd : decide ((ls.length : Int) ≤ 2) = true := by simp; omega
          go_wp2
          go_loopw [8] (fun lv wr => ∃ B1 T ls st', Hid (Wide m ls) ∧ ls.length ≤ 2 ∧ T ≤ B1 ∧ B1 ≤ wr.heap.size ∧ B ≤ T ∧ FineR wr p st' B1 lv ls ∧ Env (fun a => C a ∧ Kept B (some p) w a) p T st wr st' (N + 15000000 + 1024 * ls.length) L (fun V => K V ∧ sumV V ls % 2 ^ m = sumV V xss % 2 ^ m))
            (fun lv _ => 2 - lenV lv)
          case atStart => exact ⟨B1, T, ls, _, hwd, hlt2, hTB, hBz, hBT, fl, E.cntle (by omega)⟩
          case round =>
            clear E fl hwd hTB hBT hBz
            obtain ⟨B1, T, ls, st', hwd, hl2, hTB, hBz, hBT, fl, E⟩ := hrel
            obtain ⟨Al, cl, rfl, -, -⟩ := fl.own.shape
            by_cases hlt3 : ls.length < 2
            · have hbl := Lib.hid (fun g (hg : Value.ownBlock _ = some g) => (fl.own.base hg).2)
              go_wp2_with fail
              refine (E.padNil m (by omega) (by omega)).mono ?_
              rintro e w2 ⟨u, ys, st2, hy, rfl, k2, x2, fu, E2⟩
              rw [Int.toNat_natCast] at hy
              have E3 := E.behind k2 x2 E2
              have fl := fl.kept k2 x2
              obtain ⟨A4, c4, rfl, -, -⟩ := fu.own.shape
              have t1 := Lib.hid (hu_one (R := fun u ys => Row kInt w2 (fun j => foot w2 (some p) j ∨ Value.ownBlock _ = some j) u ys ∧ Okay st2 ys ∧ ys.length ≤ 1024) (fu.beside hbl.out))
              have t2 : ls.length + 1 ≤ 1024 := by omega
              have t3 : B1 ≤ w2.heap.size := Nat.le_trans hBz k2.size
              go_wp2_with (at_builtin; refine appW rfl (.tmp 67) (.tmp 71) rfl Try.underlying80 infoInts E3 fl hTB t3 rfl [.slice A4 ys.length c4] [ys] 1 ⟨rfl, rfl⟩ #[.slice A4 ys.length c4] rfl rfl t1.out t2 ?_; intro v5 w5 k5 fl E5)
              go_roundw
              case rel =>
                exact ⟨B1, T, _, _, Lib.hid (hwd.out.append (Wide.one hy.out)), by simp; omega, hTB, Nat.le_trans t3 k5.size, hBT, fl, (E5.cntle (by simp; omega)).know fun V ⟨⟨h, a⟩, b⟩ => ⟨h, by
                  rw [sumV_append, sumV_cons, sumV_nil, b, Nat.add_zero]; exact a⟩⟩
              case measure =>
                obtain ⟨A5, c5, rfl, -, -⟩ := fl.own.shape
                simp [lenV]; omega
            · obtain ⟨r0, r1, rfl⟩ := list_two (show ls.length = 2 by omega)
              have hc2 : N + 15000000 + 1024 * [r0, r1].length ≤ N + 40000000 := by rw [show [r0, r1].length = 2 from rfl]; omega
              have E1 := (E.fineR fl).cntle hc2
              obtain ⟨b, o, A5, c5, rfl, q0, n0⟩ := E1.wdsAt (xss := [r0, r1]) (by repeat with_reducible first | apply mem_hd | assumption | apply mem_tl) (i := 0) (by simp)
              obtain ⟨b', o', A6, c6, he, q1, n1⟩ := E1.wdsAt (xss := [r0, r1]) (by repeat with_reducible first | apply mem_hd | assumption | apply mem_tl) (i := 1) (by simp)
              injection he with he; injection he with he1 he2; subst he1; subst he2
              simp only [List.getElem_cons_zero, List.getElem_cons_succ, Nat.add_zero] at q0 q1 n0 n1
              have E2 := (((E1.add _ n0).add (.word (.slice A6 r1.length c6) r1) n1).only (L' := .word (.slice A6 r1.length c6) r1 :: .word (.slice A5 r0.length c5) r0 :: L) (by repeat with_reducible first | refine sub_cons (by repeat with_reducible first | apply mem_hd | assumption | apply mem_tl) ?_ | exact sub_nil | apply sub_refl | apply sub_tail)).drew
              have g0 : Hid (r0.length = m) := Lib.hid (hwd.out r0 (by simp))
              have g1 : Hid (r1.length = m) := Lib.hid (hwd.out r1 (by simp))
              have q2 : wr.drew.cell? ⟨b, o, none⟩ = _ := q0
              have q3 : wr.drew.cell? ⟨b, o + 1, none⟩ = _ := q1
              clear E E1 n0 n1 fl hwd
              simp only [List.length_cons, List.length_nil, Nat.zero_add, Nat.reduceAdd]
              go_wp2_with fail
              go_region_held3 (fun w' => w'.cell? ⟨b, o, none⟩ = some (.slice A5 r0.length c5) ∧ w'.cell? ⟨b, o + 1, none⟩ = some (.slice A6 r1.length c6)) (first | with_reducible exact ⟨q0, q1⟩ | with_reducible exact ⟨q2, q3⟩) (fail)
              have E3 := E0
              clear q0 q1 q2 q3 E0
              go_wp2
              rw [Exit.noGoto_ret]
              go_ret2
              obtain rfl := HB.out
              exact ⟨_, r0, _, r1, st', g0, g1, rfl, E2.c.2, E2.ext, (E2.done E3).know fun V ⟨h, a⟩ => ⟨h, by
                rw [sumV_cons, sumV_cons, sumV_nil, Nat.add_zero] at a
                exact a⟩⟩
        · have hdd : decide ((ls.length : Int) ≤ 2) = false := by simp; omega
          obtain ⟨wo, rfl⟩ : ∃ wo : World, wo = wr := ⟨_, rfl⟩
          have E1 := E.fineR fl
          obtain ⟨T1, hT1⟩ : ∃ T1, wo.heap.size = T1 := ⟨_, rfl⟩
          have hT1B : B ≤ T1 := hT1 ▸ Nat.le_trans hBT E.size
          rw [hT1] at E1
          clear hT1 E fl
          go_wp2_with fail
          go_loopw [8, 11] (fun lv nv wr => ∃ ll nn st', Hid (Wide m ll) ∧ Hid (Wide m nn) ∧ nn.length + ll.length ≤ ls.length ∧ (ll.length < 3 → nn.length + ll.length < ls.length) ∧ (∃ b o c, lv = .slice (some ⟨b, o, none⟩) ll.length c) ∧ T1 ≤ wr.heap.size ∧ FineR wr p st' T1 nv nn ∧
              Env (fun a => C a ∧ Kept B (some p) w a) p T1 st wr st' (N + 600000 + 27000 * (xss.length - (nn.length + ll.length))) (.words lv ll :: L) (fun V => K V ∧ (sumV V nn + sumV V ll) % 2 ^ m = sumV V xss % 2 ^ m))
            (fun lv _ _ => lenV lv)
          case atStart =>
            obtain ⟨b0, o0, A0, c0, he, -, -⟩ := E1.wdsAt (xss := ls) (by repeat with_reducible first | apply mem_hd | assumption | apply mem_tl) (i := 0) (by omega)
            exact ⟨ls, [], st', hwd, Lib.hid (fun _ h => by simp at h), by simp, fun h => by omega, ⟨b0, o0, cl, by rw [he]⟩, E1.size, FineR.nil _ _ _ _, (E1.cntle (by simp)).know fun V ⟨h, a⟩ => ⟨h, by rw [sumV_nil, Nat.zero_add]; exact a⟩⟩
          case round =>
            clear E1 hwd
            obtain ⟨ll, nn, st', hwd, hwn, hlen, hlen2, ⟨b, o, c, rfl⟩, hTz, fn, E⟩ := hrel
            by_cases hl3 : 3 ≤ ll.length
            · obtain ⟨b1, o1, A5, c5, he1, q0, n0⟩ := E.wdsAt (xss := ll) (by repeat with_reducible first | apply mem_hd | assumption | apply mem_tl) (i := 0) (by omega)
              obtain ⟨b2, o2, A6, c6, he2, q1, n1⟩ := E.wdsAt (xss := ll) (by repeat with_reducible first | apply mem_hd | assumption | apply mem_tl) (i := 1) (by omega)
              obtain ⟨b3, o3, A7, c7, he3, q2, n2⟩ := E.wdsAt (xss := ll) (by repeat with_reducible first | apply mem_hd | assumption | apply mem_tl) (i := 2) (by omega)
              injection he1 with he1; injection he1 with e1 e2; subst e1; subst e2
              injection he2 with he2; injection he2 with e1 e2; subst e1; subst e2
              injection he3 with he3; injection he3 with e1 e2; subst e1; subst e2
              obtain ⟨x0, x1, x2, rest, rfl⟩ := list_three hl3
              have g0 := Lib.hid (hwd.out x0 (by simp))
              have g1 := Lib.hid (hwd.out x1 (by simp))
              have g2 := Lib.hid (hwd.out x2 (by simp))
              have hc1 : rest.length + 3 ≤ c ∧ c ≤ maxLen := by
                obtain ⟨_, c', hcc, h, h'⟩ := E.wdsShape (xss := x0 :: x1 :: x2 :: rest) (by repeat with_reducible first | apply mem_hd | assumption | apply mem_tl)
                injection hcc with _ _ e
                subst e
                exact ⟨h, h'⟩
              unfold maxLen at hc1
              simp only [List.getElem_cons_zero, List.getElem_cons_succ, Nat.add_zero] at q0 q1 q2 n0 n1 n2
              have p0 : wr.drew.cell? ⟨b, o, none⟩ = _ := q0
              have p1 : wr.drew.cell? ⟨b, o + 1, none⟩ = _ := q1
              have p2 : wr.drew.cell? ⟨b, o + 2, none⟩ = _ := q2
              have Ed := E.drew
              have E1 := (((E.add _ n0).add (.word (.slice A6 x1.length c6) x1) n1).add (.word (.slice A7 x2.length c7) x2) n2).drew
              have fn := fn.quiet E (Below.refl _ _).drew
              have hl5 : 0 < x0.length := by rw [g0.out]; omega
              have hl6 : x0.length ≤ 1000 ∧ x1.length ≤ 1000 ∧ x2.length ≤ 1000 := by rw [g0.out, g1.out, g2.out]; omega
              have HN := Lib.hid (And.intro n0 (And.intro n1 n2))
              clear n0 n1 n2
              obtain ⟨n3, hn3⟩ : ∃ n3, (x0 :: x1 :: x2 :: rest).length = n3 := ⟨_, rfl⟩
              have hn4 : Hid (rest.length + 3 = n3) := Lib.hid hn3
              rw [hn3] at hl3 hlen E1 Ed E ⊢
              clear hn3
              have i0 : 0 < n3 := by omega
              have i1 : 1 < n3 := by omega
              have i2 : 2 < n3 := by omega
              have i3 : (1 : Int) < n3 := by omega
              have i5 : 0 < (x0 :: x1 :: x2 :: rest).length := by simp
              have i4 : (2 : Int) < n3 := by omega
              go_wp2_with fail
              go_region_held3 (fun w' => w'.cell? ⟨b, o, none⟩ = some (.slice A5 x0.length c5) ∧ w'.cell? ⟨b, o + 1, none⟩ = some (.slice A6 x1.length c6) ∧ w'.cell? ⟨b, o + 2, none⟩ = some (.slice A7 x2.length c7))
                (first | with_reducible exact ⟨q0, q1, q2⟩ | with_reducible exact ⟨p0, p1, p2⟩ | with_reducible exact ⟨Ed.wdsCell (by repeat with_reducible first | apply mem_hd | assumption | apply mem_tl) i5 k2 p0, Ed.wdsCell (by repeat with_reducible first | apply mem_hd | assumption | apply mem_tl) i5 k2 p1, Ed.wdsCell (by repeat with_reducible first | apply mem_hd | assumption | apply mem_tl) i5 k2 p2⟩)
                (first | (go_at_call 111; refine (E1.three (xs := x0) (ys := x1) (zs := x2) (by repeat with_reducible first | apply mem_hd | assumption | apply mem_tl) (by repeat with_reducible first | apply mem_hd | assumption | apply mem_tl) (by repeat with_reducible first | apply mem_hd | assumption | apply mem_tl) hl5 hl6 (by omega)).mono ?_; rintro e w2 ⟨v1, r1, v2, r2, st2, h1, h2, rfl, k2, x2', f1, f2, E2⟩))
              have E3 := Ed.behind k2 x2' E2
              have fn := fn.kept k2 x2'
              have hbl := Lib.hid (fun g (hg : Value.ownBlock _ = some g) => (fn.own.base hg).2)
              clear p0 p1 p2 q0 q1 q2 E1 E Ed
              go_wp2_with fail
              refine (E2.pad (xs := r1) (by repeat with_reducible first | apply mem_hd | assumption | apply mem_tl) m (by omega) (by omega)).mono ?_
              rintro e w3 ⟨u1, y1, st3, hy1, rfl, k3, x3, fu1, E4⟩
              rw [Int.toNat_natCast] at hy1
              have E3 := E3.behind k3 x3 E4
              have fn := fn.kept k3 x3
              go_wp2_with fail
              refine (E4.pad (xs := r2) (by repeat with_reducible first | apply mem_hd | assumption | apply mem_tl) m (by omega) (by omega)).mono ?_
              rintro e w4 ⟨u2, y2, st4, hy2, rfl, k4, x4, fu2, E5⟩
              rw [Int.toNat_natCast] at hy2
              have E3 := E3.behind k4 x4 E5
              have fn := fn.kept k4 x4
              have fu1 := fu1.kept k4 x4
              obtain ⟨A8, c8, rfl, -, -⟩ := fu1.own.shape
              obtain ⟨A9, c9, rfl, -, -⟩ := fu2.own.shape
              have t1 := Lib.hid (hu_two (R := fun u ys => Row kInt w4 (fun j => foot w4 (some p) j ∨ Value.ownBlock _ = some j) u ys ∧ Okay st4 ys ∧ ys.length ≤ 1024) (fu1.beside hbl.out) (fu2.beside (fun g hg => Nat.lt_of_lt_of_le (hbl.out g hg) k3.size)))
              have t2 : nn.length + 2 ≤ 1024 := by omega
              have t3 : T1 ≤ w4.heap.size := E3.size
              clear E2 E4 E5 hbl
              by_cases hcap : c = 3
              · subst hcap
                have hr0 : rest = [] := List.eq_nil_of_length_eq_zero (by have := hn4.out; omega)
                have z2 : (3 : Int) ≤ n3 := by omega
                have z3 : n3 = 3 := by have := hn4.out; omega
                subst hr0
                subst z3
                go_wp2_with (at_builtin; refine appW rfl (.tmp 50) (.tmp 59) rfl Try.underlying80 infoInts E3 fn (Nat.le_refl _) t3 rfl [.slice A8 y1.length c8, .slice A9 y2.length c9] [y1, y2] 2 ⟨rfl, rfl⟩ #[.slice A8 y1.length c8, .slice A9 y2.length c9] rfl rfl t1.out t2 ?_; intro v5 w5 k5 fn E6)
                have E7 := E6.add (.words (.slice (some ⟨b, o, none⟩) 0 0) []) (Ent.words_nil _)
                refine ⟨⟨[], nn ++ [y1, y2], st4, Lib.hid (fun _ h => by simp at h), Lib.hid (hwn.out.append (Wide.two hy1.out hy2.out)), by simp at hlen ⊢; omega, fun _ => by simp at hlen ⊢; omega, ⟨b, o, 0, rfl⟩, Nat.le_trans t3 k5.size, fn, ((E7.only (by repeat with_reducible first | refine sub_cons (by repeat with_reducible first | apply mem_hd | assumption | apply mem_tl) ?_ | exact sub_nil | apply sub_refl | apply sub_tail)).cntle ?_).know fun V ⟨⟨⟨⟨h, a⟩, b1⟩, b2⟩, b3⟩ => ⟨h, ?_⟩⟩, ?_⟩
                · rw [List.length_append, show [y1, y2].length = 2 from rfl, show ([] : List (List Int)).length = 0 from rfl]
                  omega
                · exact two_sum a b1 b2 b3
                · show 0 < 3
                  omega
              · have z1 : (3 : Int) < c := by have := hn4.out; omega
                have z2 : (3 : Int) ≤ n3 := by omega
                go_wp2_with (at_builtin; refine appW rfl (.tmp 50) (.tmp 59) rfl Try.underlying80 infoInts E3 fn (Nat.le_refl _) t3 rfl [.slice A8 y1.length c8, .slice A9 y2.length c9] [y1, y2] 2 ⟨rfl, rfl⟩ #[.slice A8 y1.length c8, .slice A9 y2.length c9] rfl rfl t1.out t2 ?_; intro v5 w5 k5 fn E6)
                have hrl : rest.length = n3 - 3 := by have := hn4.out; omega
                have E7 := E6.add _ (E6.wdsDrop3 (x0 := x0) (x1 := x1) (x2 := x2) (rest := rest) (by repeat with_reducible first | apply mem_hd | assumption | apply mem_tl) hl3)
                refine ⟨⟨rest, nn ++ [y1, y2], st4, Lib.hid (hwd.out.drop 3), Lib.hid (hwn.out.append (Wide.two hy1.out hy2.out)), by simp at hlen ⊢; omega, fun _ => by simp at hlen ⊢; omega, ⟨b, o + 3, c - 3, by rw [hrl]⟩, Nat.le_trans t3 k5.size, fn, ((E7.only (by repeat with_reducible first | refine sub_cons (by repeat with_reducible first | apply mem_hd | assumption | apply mem_tl) ?_ | exact sub_nil | apply sub_refl | apply sub_tail)).cntle ?_).know fun V ⟨⟨⟨⟨h, a⟩, b1⟩, b2⟩, b3⟩ => ⟨h, ?_⟩⟩, ?_⟩
                · rw [List.length_append, show [y1, y2].length = 2 from rfl]
                  omega
                · exact two_sum a b1 b2 b3
                · show n3 - 3 < n3
                  omega
            · have t2 : nn.length + ll.length ≤ 1024 := by omega
              have t5 : Ent.words (.slice (some ⟨b, o, none⟩) ll.length c) ll ∈ Ent.words (.slice (some ⟨b, o, none⟩) ll.length c) ll :: L := mem_hd
              have hlt4 := hlen2 (by omega)
              clear hlen2
              go_wp2_with (at_builtin; refine appWs rfl (.tmp 61) (.tmp 62) rfl Try.underlying80 infoInts E fn (Nat.le_refl _) hTz rfl rfl t5 t2 ?_; intro v5 w5 k5 fn E6)
              obtain ⟨A5, c5, hv5, -, -⟩ := fn.own.shape
              refine ⟨⟨T1, T1, nn ++ ll, st', Lib.hid (hwn.out.append hwd.out), by simp; omega, Nat.le_refl _, Nat.le_trans hTz k5.size, hT1B, fn, ((E6.only (by repeat with_reducible first | refine sub_cons (by repeat with_reducible first | apply mem_hd | assumption | apply mem_tl) ?_ | exact sub_nil | apply sub_refl | apply sub_tail)).cntle ?_).know fun V ⟨h, a⟩ => ⟨h, by rw [sumV_append]; exact a⟩⟩, ?_⟩
              · rw [List.length_append]; exact Nat.le_refl _
              · rw [hv5]
                show (nn ++ ll).length < ls.length
                rw [List.length_append]; exact hlt4
end
end Go.Proofs.Ytdljgifoboiaeaa
