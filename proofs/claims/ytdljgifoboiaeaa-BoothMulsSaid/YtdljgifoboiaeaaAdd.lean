/- Adders: words of one width, bit by bit, by carries told ahead. -/
import Derived.Test.YtdljgifoboiaeaaCirc
import Derived.Test.YtdljgifoboiaeaaGp
import Derived.StillTailTactics
import Derived.Deep.RegionHeld3
import Derived.Deep.DeepCutAuto
import Derived.Deep.LoopGhost
namespace Go.Proofs.Ytdljgifoboiaeaa
open Go.RowKit

/-- two words are told -/
def ToldW2 (C : World → Prop) (p : Nat) (st0 st : BSt) (w : World) (N : Nat) (L : List Ent) (K : (Int → Bool) → Prop) (len len2 : Nat) (F : (Int → Bool) → List Int → List Int → Prop) (e : Ending) (w' : World) : Prop :=
  ∃ v r u q st', Hid (r.length = len) ∧ Hid (q.length = len2) ∧ e = .returned (.tuple #[v, u]) ∧ Kept w.heap.size (some p) w w' ∧ Ext st st' ∧ Fine w' p st' w.heap.size v r ∧ Fine w' p st' w.heap.size u q ∧ Env C p w'.heap.size st0 w' st' N (.word u q :: .word v r :: L) (fun V => K V ∧ F V r q)
/-- a word and a place are told -/
def ToldWP (C : World → Prop) (p : Nat) (st0 st : BSt) (w : World) (N : Nat) (L : List Ent) (K : (Int → Bool) → Prop) (len : Nat) (F : (Int → Bool) → List Int → Int → Prop) (e : Ending) (w' : World) : Prop :=
  ∃ v r c st', Hid (r.length = len) ∧ e = .returned (.tuple #[v, .int .i64 c]) ∧ Kept w.heap.size (some p) w w' ∧ Ext st st' ∧ Fine w' p st' w.heap.size v r ∧ Env C p w'.heap.size st0 w' st' N (.pl c :: .word v r :: L) (fun V => K V ∧ F V r c)

section
variable {C : World → Prop} {p X : Nat} {st0 st : BSt} {w : World} {N : Nat} {L : List Ent} {K : (Int → Bool) → Prop}


attribute [local go_sem] max2_int min2_int max_two min_two in
theorem Env.level (E : Env C p X st0 w st N L K) {v u : Value} {xs ys : List Int} (hx : Ent.word v xs ∈ L) (hy : Ent.word u ys ∈ L) (hN : N + 2048 < 1099511627776) :
    Calls Try.prog 107 #[.pointer (some ⟨p, 0, none⟩), v, u] w (ToldW2 C p st0 st w (N + 2048) L K (max xs.length ys.length) (max xs.length ys.length) fun V r q => numV V r = numV V xs ∧ numV V q = numV V ys) := by
  obtain ⟨A1, c1, rfl, -, -⟩ := E.shape hx
  obtain ⟨A2, c2, rfl, -, -⟩ := E.shape hy
  have l1 := E.len hx
  have l2 := E.len hy
  go_enter Try.func107, Try.ntmps107
  go_wp2_with fail
  refine (E.pad hx _ (by omega) (by omega)).mono ?_
  rintro e w1 ⟨v1, r1, st1, h1, rfl, k1, x1, f1, E1⟩
  go_wp2_with fail
  refine (E1.pad (by repeat with_reducible first | apply mem_hd | assumption | apply mem_tl) _ (by omega) (by omega)).mono ?_
  rintro e w2 ⟨v2, r2, st2, h2, rfl, k2, x2, f2, E2⟩
  go_wp2
  go_ret2
  exact ⟨v1, r1, v2, r2, st2, Lib.hid (h1.out.trans (by omega)), Lib.hid (h2.out.trans (by omega)), rfl, k1.then k2, x1.trans x2, f1.kept k2 x2, f2.lower k1.size,
    (E2.cntle (by omega)).know fun V ⟨⟨h, a⟩, b⟩ => ⟨h, a.trans (numV_wide V (by omega)), b.trans (numV_wide V (by omega))⟩⟩
end

section
variable {P : Program} {o : Oper} {a : Act} {Q : Exit → Act → World → Prop} {C : World → Prop} {p X : Nat} {st0 st : BSt} {W : World} {N : Nat} {L : List Ent} {K : (Int → Bool) → Prop}
/-- append(v, y), a word of the call's own -/
theorem app1E {ops : Array Oper} {rest : List Oper} (hgd : o.guard = none) (s x : Operand) (ho : o.op = .call { callee := .builtin .append, args := #[s, x], argTypes := #[26, 26] })
    (ht : P.underlying 26 = some (.slice 3)) (hinfo : (P.info? 3).map (fun i => (i.zero, i.size, i.bytes)) = some (some (.int .i64 0), 1, 8))
    (E : Env C p X st0 W st N L K) {B : Nat} {v : Value} {xs : List Int} (hf : Fine W p st B v xs) (hXB : X ≤ B) (hB : B ≤ W.heap.size) (hs : a.eval s = v)
    (y : Int) (hx : a.eval x = .slice (some ⟨W.heap.size, 0, none⟩) 1 1) (hy : At st y) (hl : xs.length + 1 ≤ 1024)
    (hK : ∀ v' w', Kept B (some p) W w' → Fine w' p st B v' (xs ++ [y]) → Env C p X st0 w' st N L K → wpList P ops Q rest (a.put o.dst v') w') :
    wpList P ops Q (o :: rest) a (W.alloc (.cells #[.int .i64 y] 3)) :=
  app1B kInt 3 26 (.int .i64 0) 8 hgd s x ho ht hinfo rfl (by decide) (by decide) p st E.rep B hf.own hB hs y [.int .i64 y] hx rfl (by omega)
    fun v' w' q1 q2 q3 => hK v' w' q3 ⟨q1, hf.okay.append (Okay.one hy), by simp; omega⟩ (E.kept (q3.mono hXB) q2)
/-- likewise, as a step of a region -/
theorem app1R {J : Act → World → Prop} (s x : Operand) (ho : o.op = .call { callee := .builtin .append, args := #[s, x], argTypes := #[26, 26] })
    (ht : P.underlying 26 = some (.slice 3)) (hinfo : (P.info? 3).map (fun i => (i.zero, i.size, i.bytes)) = some (some (.int .i64 0), 1, 8))
    (E : Env C p X st0 W st N L K) {B : Nat} {v : Value} {xs : List Int} (hf : Fine W p st B v xs) (hXB : X ≤ B) (hB : B ≤ W.heap.size) (hs : a.eval s = v)
    (y : Int) (hx : a.eval x = .slice (some ⟨W.heap.size, 0, none⟩) 1 1) (hy : At st y) (hl : xs.length + 1 ≤ 1024)
    (hK : ∀ v' w', Kept B (some p) W w' → Fine w' p st B v' (xs ++ [y]) → Env C p X st0 w' st N L K → J (a.put o.dst v') w') :
    o.wp P a (W.alloc (.cells #[.int .i64 y] 3)) J Q :=
  wp_app1 kInt 3 26 (.int .i64 0) 8 s x ho ht hinfo rfl (by decide) (by decide) (some p) B hf.own E.rep.fin hB hs y [.int .i64 y] hx rfl (by omega)
    fun v' w' q1 q2 _ _ q5 _ => hK v' w' q2 ⟨q1, hf.okay.append (Okay.one hy), by simp; omega⟩ (E.kept (q2.mono hXB) (E.rep.grown q5 fun g hg => hf.own.off hg))
end

section
variable {C : World → Prop} {p X : Nat} {st0 st : BSt} {w : World} {N : Nat} {L : List Ent} {K : (Int → Bool) → Prop}
set_option maxHeartbeats 4000000 in
set_option maxRecDepth 100000 in
theorem Env.ripple (E : Env C p X st0 w st N L K) {v u : Value} {xs ys : List Int} {c : Int} (hx : Ent.word v xs ∈ L) (hy : Ent.word u ys ∈ L) (hc : Ent.pl c ∈ L) (hN : N + 10000 < 1099511627776) :
    Calls Try.prog 53 #[.pointer (some ⟨p, 0, none⟩), v, u, .int .i64 c] w (ToldWP C p st0 st w (N + 10000) L K (max xs.length ys.length) fun V r c' => numV V r + 2 ^ (max xs.length ys.length) * (V c').toNat = numV V xs + numV V ys + (V c).toNat) := by
  have l1 := E.len hx
  have l2 := E.len hy
  obtain ⟨n, hn⟩ : ∃ n, max xs.length ys.length = n := ⟨_, rfl⟩
  have hn2 : n ≤ 1024 := by omega
  go_enter Try.func53, Try.ntmps53
  go_wp2_with fail
  refine (E.mark.level hx hy (by omega)).mono ?_
  rintro e w1 ⟨v1, r1, v2, r2, st1, h1, h2, rfl, k1, -, f1, f2, E1⟩
  rw [hn] at h1 h2
  have HN := Lib.hid hn
  obtain ⟨A1, c1, rfl, -, -⟩ := f1.own.shape
  obtain ⟨A2, c2, rfl, -, -⟩ := f2.own.shape
  have E2 := E1.only (L' := .pl c :: .word (.slice A2 r2.length c2) r2 :: .word (.slice A1 r1.length c1) r1 :: L) (by repeat with_reducible first | refine sub_cons (by repeat with_reducible first | apply mem_hd | assumption | apply mem_tl) ?_ | exact sub_nil | apply sub_refl | apply sub_tail)
  obtain ⟨B, hB⟩ : ∃ B, w1.heap.size = B := ⟨_, rfl⟩
  rw [hB] at E2
  have hwB : w.heap.size ≤ B := hB ▸ k1.size
  clear hn hB f1 f2 E1 k1
  go_wp2_with fail
  go_loopw [3, 10, 22] (fun cv sv iv wr => ∃ k c' r st', k ≤ n ∧ iv = .int .i64 (k : Nat) ∧ cv = .int .i64 c' ∧ Hid (r.length = k) ∧ Fine wr p st' B sv r ∧
      Env (fun a => C a ∧ Kept w.heap.size (some p) w a) p B st wr st' (N + 2048 + 5 * k) (.pl c' :: .word (.slice A2 r2.length c2) r2 :: .word (.slice A1 r1.length c1) r1 :: L) (fun V => ((K V ∧ numV V r1 = numV V xs ∧ numV V r2 = numV V ys) ∧ numV V r + 2 ^ k * (V c').toNat = numV V r1 % 2 ^ k + numV V r2 % 2 ^ k + (V c).toNat)))
    (fun _ _ iv _ => n - (intOf iv).toNat)
  case atStart => exact ⟨0, c, [], st1, by omega, rfl, rfl, Lib.hid rfl, ⟨Own.nil _ _ _ _ _, Okay.nil _, by simp⟩, E2.know fun V h => ⟨h, by simp [numV_nil, Nat.mod_one]⟩⟩
  case round =>
    obtain ⟨k, c', r, st', hk, rfl, rfl, hr, f3, E3⟩ := hrel
    by_cases hlt : k < n
    · have hx1 : k < r1.length := by have := h1.out; omega
      have hx2 : k < r2.length := by have := h2.out; omega
      obtain ⟨b1, o1, rfl⟩ := E3.start_ (A := A1) (by repeat with_reducible first | apply mem_hd | assumption | apply mem_tl) (by omega)
      obtain ⟨b2, o2, rfl⟩ := E3.start_ (A := A2) (by repeat with_reducible first | apply mem_hd | assumption | apply mem_tl) (by omega)
      have ka := (E3.okay (v := .slice (some ⟨b1, o1, none⟩) r1.length c1) (by repeat with_reducible first | apply mem_hd | assumption | apply mem_tl)).at hx1
      have kb := (E3.okay (v := .slice (some ⟨b2, o2, none⟩) r2.length c2) (by repeat with_reducible first | apply mem_hd | assumption | apply mem_tl)).at hx2
      have E := ((E3.addPl ka).addPl kb).drew
      have q1 := E.cell (b := b1) (off := o1) (m := r1.length) (c := c1) (by repeat with_reducible first | apply mem_hd | assumption | apply mem_tl) hx1
      have q2 := E.cell (b := b2) (off := o2) (m := r2.length) (c := c2) (by repeat with_reducible first | apply mem_hd | assumption | apply mem_tl) hx2
      clear ka kb
      go_wp2_with fail
      go_still_tail 9, (by kernel_rfl)
      go_wp2_with fail
      refine (E.xor (by repeat with_reducible first | apply mem_hd | assumption | apply mem_tl) (by repeat with_reducible first | apply mem_hd | assumption | apply mem_tl) (by omega)).mono ?_
      rintro e w2 ⟨g1, st2, rfl, k3, x3, E⟩
      have f3 := (f3.drew E3).kept k3 x3
      go_wp2_with fail
      refine (E.xor (x := g1) (y := c') (by repeat with_reducible first | apply mem_hd | assumption | apply mem_tl) (by repeat with_reducible first | apply mem_hd | assumption | apply mem_tl) (by omega)).mono ?_
      rintro e w3 ⟨g2, st3, rfl, k4, x4, E⟩
      have f3 := f3.kept k4 x4
      have kg2 := E.at_ (c := g2) (by repeat with_reducible first | apply mem_hd | assumption | apply mem_tl)
      go_wp2_with (at_builtin; refine app1E rfl (.tmp 35) (.tmp 40) rfl Try.underlying26 infoInt E f3 (Nat.le_refl _) E.size rfl g2 rfl kg2 (by have := hr.out; omega) ?_; intro v' w4 k5 f3 E)
      have q1 := E.cell (b := b1) (off := o1) (m := r1.length) (c := c1) (by repeat with_reducible first | apply mem_hd | assumption | apply mem_tl) hx1
      have q2 := E.cell (b := b2) (off := o2) (m := r2.length) (c := c2) (by repeat with_reducible first | apply mem_hd | assumption | apply mem_tl) hx2
      have f3 := f3.drew E
      have E := E.drew
      go_region_held3 (fun w' => w'.cell? ⟨b1, o1 + k, none⟩ = some (.int .i64 r1[k]) ∧ w'.cell? ⟨b2, o2 + k, none⟩ = some (.int .i64 r2[k]))
        (first | with_reducible exact ⟨q1, q2⟩ | with_reducible exact ⟨E.cell (b := b1) (off := o1) (m := r1.length) (c := c1) (by repeat with_reducible first | apply mem_hd | assumption | apply mem_tl) hx1, E.cell (b := b2) (off := o2) (m := r2.length) (c := c2) (by repeat with_reducible first | apply mem_hd | assumption | apply mem_tl) hx2⟩)
        (first | (go_at_call 83; refine (E.and (by repeat with_reducible first | apply mem_hd | assumption | apply mem_tl) (by repeat with_reducible first | apply mem_hd | assumption | apply mem_tl) (by omega)).mono ?_; rintro e w4 ⟨g3, st4, rfl, k5, x5, E⟩; have f3 := f3.kept k5 x5) | (go_at_call 113; refine (E.or (by repeat with_reducible first | apply mem_hd | assumption | apply mem_tl) (by repeat with_reducible first | apply mem_hd | assumption | apply mem_tl) (by omega)).mono ?_; rintro e w4 ⟨g3, st4, rfl, k5, x5, E⟩; have f3 := f3.kept k5 x5))
      go_wp2
      go_roundw
      case rel =>
        exact ⟨k + 1, _, r ++ [g2], _, by omega, by go_num, rfl, Lib.hid (by rw [List.length_append, hr.out]; rfl), f3, ((E.only (by repeat with_reducible first | refine sub_cons (by repeat with_reducible first | apply mem_hd | assumption | apply mem_tl) ?_ | exact sub_nil | apply sub_refl | apply sub_tail)).cntle (by omega)).know fun V ⟨⟨⟨⟨⟨⟨hK, hS⟩, e1⟩, e2⟩, e3⟩, e4⟩, e5⟩ => ⟨hK, by
          rw [numV_snoc, hr.out, e5, e3, e4, e2, e1, ← numV_at (V := V) hx1, ← numV_at (V := V) hx2]; exact rip_step hS⟩⟩
      case measure => simp [intOf]; omega
    · obtain rfl : k = n := by omega
      have hx1 : ¬ k < r1.length := by have := h1.out; omega
      go_wp2
      go_ret2
      have E4 := ((E3.top.fine f3).addPl (E3.at_ (c := c') (by repeat with_reducible first | apply mem_hd | assumption | apply mem_tl))).only (L' := .pl c' :: .word _ r :: L) (by repeat with_reducible first | refine sub_cons (by repeat with_reducible first | apply mem_hd | assumption | apply mem_tl) ?_ | exact sub_nil | apply sub_refl | apply sub_tail)
      exact ⟨_, r, c', st', Lib.hid (hr.out.trans HN.out.symm), rfl, E3.c.2, E3.ext, f3.lower hwB, ((E4.cntle (by omega)).done E).know fun V ⟨⟨hK, hr1, hr2⟩, hS⟩ => ⟨hK, by
        dsimp only; rw [HN.out, hS, hr1, hr2, numV_wide V (by have := HN.out; omega), numV_wide V (by have := HN.out; omega)]⟩⟩
end
end Go.Proofs.Ytdljgifoboiaeaa
