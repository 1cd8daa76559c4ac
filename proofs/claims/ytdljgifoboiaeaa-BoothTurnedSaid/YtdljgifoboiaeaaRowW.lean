/- Rows of words. -/
import Derived.Test.YtdljgifoboiaeaaApp
namespace Go.Proofs.Ytdljgifoboiaeaa
open Go.RowKit

theorem infoInts : (Try.prog.info? 26).map (fun i => (i.zero, i.size, i.bytes)) = some (some (.slice none 0 0), 1, 24) := by kernel_rfl

/-- a row of words, of the call's own -/
structure FineR (w : World) (p : Nat) (st : BSt) (B : Nat) (v : Value) (xss : List (List Int)) : Prop where
  own : Own (kRow kInt) 26 w (some p) B v xss
  okay : ∀ xs ∈ xss, Okay st xs ∧ xs.length ≤ 1024
  len : xss.length ≤ 1024

section
variable {C : World → Prop} {p X : Nat} {st0 st st' : BSt} {w w' : World} {N : Nat} {L : List Ent} {K : (Int → Bool) → Prop}
theorem FineR.kept {B : Nat} {v : Value} {xss : List (List Int)} (h : FineR w p st B v xss) (hk : Kept w.heap.size (some p) w w') (he : Ext st st') : FineR w' p st' B v xss := ⟨h.own.kept hk, fun xs hx => ⟨(h.okay xs hx).1.ext he, (h.okay xs hx).2⟩, h.len⟩
theorem FineR.quiet {B : Nat} {v : Value} {xss : List (List Int)} (h : FineR w p st B v xss) (E : Env C p X st0 w st N L K) (hb : Below w.heap.size w w') : FineR w' p st B v xss := ⟨h.own.kept (Kept.of_below_all hb E.rep.fin (Nat.le_refl _)), h.okay, h.len⟩
theorem FineR.nil (w : World) (p : Nat) (st : BSt) (B : Nat) : FineR w p st B (.slice none 0 0) [] := ⟨Own.nil _ _ _ _ _, fun _ h => by simp at h, by simp⟩
theorem Env.fineR (E : Env C p X st0 w st N L K) {B : Nat} {v : Value} {xss : List (List Int)} (h : FineR w p st B v xss) : Env C p w.heap.size st0 w st N (.words v xss :: L) K := E.top.add _ ⟨h.own.row Nat.zero_lt_one (Nat.le_refl _), h.okay⟩
theorem Env.wds (E : Env C p X st0 w st N L K) {v : Value} {xss : List (List Int)} (h : Ent.words v xss ∈ L) : Row (kRow kInt) w (may w (some p) X) v xss := (E.ents _ h).1
theorem Env.wdsOkay (E : Env C p X st0 w st N L K) {v : Value} {xss : List (List Int)} (h : Ent.words v xss ∈ L) : ∀ xs ∈ xss, Okay st xs ∧ xs.length ≤ 1024 := (E.ents _ h).2
theorem Env.wdsShape (E : Env C p X st0 w st N L K) {v : Value} {xss : List (List Int)} (h : Ent.words v xss ∈ L) : ∃ A c, v = .slice A xss.length c ∧ xss.length ≤ c ∧ c ≤ maxLen := (E.wds h).shape
/-- a row of words stays where it is -/
theorem Env.wdsCell (E : Env C p X st0 w st N L K) {b off m c : Nat} {xss : List (List Int)} (h : Ent.words (.slice (some ⟨b, off, none⟩) m c) xss ∈ L) (hi : 0 < xss.length) (k : Kept w.heap.size (some p) w w') {j : Nat} {v : Value} (hv : w.cell? ⟨b, j, none⟩ = some v) : w'.cell? ⟨b, j, none⟩ = some v := by
  obtain ⟨A', c', css, he, h1, h2, _, h3, h4⟩ := E.wds h
  injection he with e1 e2 e3
  obtain ⟨b', off', hb, hlt, hS, hc⟩ := h4 hi
  rw [← e1] at hb
  injection hb with hb; injection hb with hb1 hb2
  subst hb1
  exact (World.cell?_of_block (k.block b hlt fun hf => hS (.inr hf))).trans hv
/-- a word of a row of words -/
theorem Env.wdsAt (E : Env C p X st0 w st N L K) {A : Option Addr} {m c : Nat} {xss : List (List Int)} (h : Ent.words (.slice A m c) xss ∈ L) {i : Nat} (hi : i < xss.length) :
    ∃ b off A' c', A = some ⟨b, off, none⟩ ∧ w.cell? ⟨b, off + i, none⟩ = some (.slice A' xss[i].length c') ∧ Ent.ok w (may w (some p) X) st (.word (.slice A' xss[i].length c') xss[i]) := by
  obtain ⟨b, off, A', c', rfl, hc, hr⟩ := (E.wds h).row_at hi
  exact ⟨b, off, A', c', rfl, hc, hr, (E.wdsOkay h _ (List.getElem_mem hi)).1, (E.wdsOkay h _ (List.getElem_mem hi)).2⟩
end

section
variable {P : Program} {o : Oper} {a : Act} {Q : Exit → Act → World → Prop} {C : World → Prop} {p X : Nat} {st0 st : BSt} {W : World} {N : Nat} {L : List Ent} {K : (Int → Bool) → Prop}
/-- append(v, us...), the words us written out -/
theorem appW {ops : Array Oper} {rest : List Oper} (hgd : o.guard = none) (s x : Operand) (ho : o.op = .call { callee := .builtin .append, args := #[s, x], argTypes := #[80, 80] })
    (ht : P.underlying 80 = some (.slice 26)) (hinfo : (P.info? 26).map (fun i => (i.zero, i.size, i.bytes)) = some (some (.slice none 0 0), 1, 24))
    (E : Env C p X st0 W st N L K) {B : Nat} {v : Value} {xss : List (List Int)} (hf : FineR W p st B v xss) (hXB : X ≤ B) (hB : B ≤ W.heap.size) (hs : a.eval s = v)
    (us : List Value) (yss : List (List Int)) (n : Nat) (hn : us.length = n ∧ yss.length = n) (cs : Array Value) (hcs : cs.toList = us) (hx : a.eval x = .slice (some ⟨W.heap.size, 0, none⟩) n n)
    (hu : ∀ (i : Nat) u ys, us[i]? = some u → yss[i]? = some ys → Row kInt W (fun j => foot W (some p) j ∨ v.ownBlock = some j) u ys ∧ Okay st ys ∧ ys.length ≤ 1024) (hl : xss.length + n ≤ 1024)
    (hK : ∀ v' w', Kept B (some p) W w' → FineR w' p st B v' (xss ++ yss) → Env C p X st0 w' st N L K → wpList P ops Q rest (a.put o.dst v') w') :
    wpList P ops Q (o :: rest) a (W.alloc (.cells cs 26)) := by
  have hbel : Below W.heap.size W (W.alloc (.cells cs 26)) := (Below.refl _ _).alloc (Nat.le_refl _) _
  have hfo : ∀ i, foot (W.alloc (.cells cs 26)) (some p) i ↔ foot W (some p) i := foot_of_heap fun i hi => hbel.block i (E.rep.fin i hi)
  have E1 := E.quiet hbel
  have hf1 := hf.quiet E hbel
  have hfl : (us.map fun u => [u]).flatten = us := by
    clear hu hcs hn
    induction us with
    | nil => rfl
    | cons u us ih => simp [ih]
  refine app (kRow kInt) 26 80 (.slice none 0 0) 24 hgd s x ho ht hinfo rfl Nat.zero_lt_one (by decide) (some p) B hf1.own E1.rep.fin (Nat.le_trans hB hbel.size) hs ⟨W.heap.size, 0, none⟩ n n yss (us.map fun u => [u]) hx hn.2
    ⟨by rw [List.length_map, hn.1, hn.2], fun i ys c hy hc => ?_⟩ (fun j u hu' => ?_) (by omega)
    fun v' w' q1 q2 _ _ q5 _ => hK v' w' (((Kept.of_below_all hbel E.rep.fin (Nat.le_refl _)).mono hB).trans q2) ⟨q1, fun ys hy => ?_, by rw [List.length_append, hn.2]; exact hl⟩ (E1.kept (q2.mono hXB) (E1.rep.grown q5 fun g hg => hf1.own.off hg))
  · rw [List.getElem?_map] at hc
    obtain ⟨u, hu', rfl⟩ := Option.map_eq_some_iff.1 hc
    exact ⟨u, rfl, (hu i u ys hu' hy).1.keep ⟨hbel.size, fun i hi _ => hbel.block i hi⟩ fun i _ hm => hm.elim (fun h => .inl ((hfo i).1 h)) .inr⟩
  · rw [hfl, ← hcs] at hu'
    rw [Addr.add_lit, Nat.zero_add, World.cell?_alloc_new]
    simpa using hu'
  · rcases List.mem_append.1 hy with hy | hy
    · exact hf.okay ys hy
    · obtain ⟨i, hi, rfl⟩ := List.mem_iff_getElem.1 hy
      exact (hu i (us[i]'(by omega)) _ (List.getElem?_eq_getElem _) (List.getElem?_eq_getElem hi)).2
/-- append(v, l...), a row of words that is read -/
theorem appWs {ops : Array Oper} {rest : List Oper} (hgd : o.guard = none) (s x : Operand) (ho : o.op = .call { callee := .builtin .append, args := #[s, x], argTypes := #[80, 80] })
    (ht : P.underlying 80 = some (.slice 26)) (hinfo : (P.info? 26).map (fun i => (i.zero, i.size, i.bytes)) = some (some (.slice none 0 0), 1, 24))
    (E : Env C p X st0 W st N L K) {B : Nat} {v : Value} {xss : List (List Int)} (hf : FineR W p st B v xss) (hXB : X ≤ B) (hB : B ≤ W.heap.size) (hs : a.eval s = v)
    {ad : Addr} {m c : Nat} {yss : List (List Int)} (hx : a.eval x = .slice (some ad) m c) (hy : Ent.words (.slice (some ad) m c) yss ∈ L) (hl : xss.length + m ≤ 1024)
    (hK : ∀ v' w', Kept B (some p) W w' → FineR w' p st B v' (xss ++ yss) → Env C p X st0 w' st N L K → wpList P ops Q rest (a.put o.dst v') w') :
    wpList P ops Q (o :: rest) a W := by
  have hr := E.wds hy
  obtain ⟨A', c', css, he, h1, h2, _, h3, h4⟩ := hr
  injection he with e1 e2 e3
  subst e1; subst e2; subst e3
  refine app (kRow kInt) 26 80 (.slice none 0 0) 24 hgd s x ho ht hinfo rfl Nat.zero_lt_one (by decide) (some p) B hf.own E.rep.fin hB hs ad yss.length c yss css hx rfl
    (h3.keep ⟨Nat.le_refl _, fun _ _ _ => rfl⟩ fun i hi hm => ?_) (fun j u hu => ?_) (by omega)
    fun v' w' q1 q2 _ _ q5 _ => hK v' w' q2 ⟨q1, fun ys hy' => ?_, by rw [List.length_append]; exact hl⟩ (E.kept (q2.mono hXB) (E.rep.grown q5 fun g hg => hf.own.off hg))
  · rcases hm with hm | hm
    · exact .inr hm
    · exact .inl (Nat.le_trans hXB (hf.own.base hm).1)
  · have h0 : 0 < yss.length := by
      rcases Nat.eq_zero_or_pos yss.length with h | h
      · have := h3.1
        rw [h] at this
        rw [List.eq_nil_of_length_eq_zero this] at hu
        simp at hu
      · exact h
    obtain ⟨b, off, hb, _, _, hc⟩ := h4 h0
    injection hb with hb
    subst hb
    rw [Addr.add_lit]
    exact hc j u hu
  · rcases List.mem_append.1 hy' with hy' | hy'
    · exact hf.okay ys hy'
    · exact E.wdsOkay hy ys hy'
end
theorem hu_one {R : Value → List Int → Prop} {u : Value} {ys : List Int} (h : R u ys) : ∀ (i : Nat) u' ys', [u][i]? = some u' → [ys][i]? = some ys' → R u' ys' := fun i u' ys' h1 h2 => by
  match i, h1, h2 with
  | 0, h1, h2 => simp at h1 h2; subst h1; subst h2; exact h
theorem hu_two {R : Value → List Int → Prop} {u t : Value} {ys zs : List Int} (h : R u ys) (k : R t zs) : ∀ (i : Nat) u' ys', [u, t][i]? = some u' → [ys, zs][i]? = some ys' → R u' ys' := fun i u' ys' h1 h2 => by
  match i, h1, h2 with
  | 0, h1, h2 => simp at h1 h2; subst h1; subst h2; exact h
  | 1, h1, h2 => simp at h1 h2; subst h1; subst h2; exact k
/-- a new word beside an elder row -/
theorem Fine.beside {w : World} {p : Nat} {st : BSt} {B : Nat} {v u : Value} {ys : List Int} (h : Fine w p st B u ys) (hv : ∀ g, v.ownBlock = some g → g < B) :
    Row kInt w (fun j => foot w (some p) j ∨ v.ownBlock = some j) u ys ∧ Okay st ys ∧ ys.length ≤ 1024 :=
  ⟨h.own.rowS _ fun g hg hm => hm.elim (fun hf => h.own.off hg hf) fun hf => by have := hv g hf; have := (h.own.base hg).1; omega, h.okay, h.len⟩
/-- x[k:] of a row -/
theorem Row.drop {α : Type} {k : Kd α} {w : World} {S : Nat → Prop} {b off m c : Nat} {xs : List α} (h : Row k w S (.slice (some ⟨b, off, none⟩) m c) xs) (j : Nat) (hj : j ≤ m) : Row k w S (.slice (some ⟨b, off + j * k.size, none⟩) (m - j) (c - j)) (xs.drop j) := by
  obtain ⟨A', c', css, he, h1, h2, h0, h3, h4⟩ := h
  injection he with e1 e2 e3
  subst e1; subst e2; subst e3
  refine ⟨some ⟨b, off + j * k.size, none⟩, c - j, css.drop j, by rw [List.length_drop], by rw [List.length_drop]; omega, by omega, (fun h => nomatch h), h3.drop j, fun hn => ?_⟩
  rw [List.length_drop] at hn
  obtain ⟨b', off', hb, hlt, hS, hc⟩ := h4 (by omega)
  injection hb with hb; injection hb with hb1 hb2
  subst hb1; subst hb2
  refine ⟨b, off + j * k.size, rfl, hlt, hS, fun i u hu => ?_⟩
  have hlen : (css.take j).flatten.length = j * k.size := by
    have := (h3.take j).flat
    rw [List.length_take, Nat.min_eq_left hj] at this
    exact this
  have := hc (j * k.size + i) u (by
    rw [← List.take_append_drop j css, List.flatten_append, List.getElem?_append_right (by omega), hlen, Nat.add_sub_cancel_left]
    exact hu)
  rw [Nat.add_assoc]; exact this
theorem Env.wdsDrop3 {C : World → Prop} {p X : Nat} {st0 st : BSt} {w : World} {N : Nat} {L : List Ent} {K : (Int → Bool) → Prop} (E : Env C p X st0 w st N L K) {b o n c : Nat} {x0 x1 x2 : List Int} {rest : List (List Int)}
    (h : Ent.words (.slice (some ⟨b, o, none⟩) n c) (x0 :: x1 :: x2 :: rest) ∈ L) (hn : 3 ≤ n) : Ent.ok w (may w (some p) X) st (.words (.slice (some ⟨b, o + 3, none⟩) (n - 3) (c - 3)) rest) :=
  ⟨Row.drop (E.wds h) 3 hn, fun xs hx => E.wdsOkay h xs (by simp [hx])⟩
theorem Ent.words_nil {w : World} {S : Nat → Prop} {st : BSt} (a : Addr) : Ent.ok w S st (.words (.slice (some a) 0 0) []) :=
  ⟨⟨some a, 0, [], rfl, Nat.le_refl _, by simp [maxLen], (fun h => nomatch h), Pairs.nil _ _ _, fun h => by simp at h⟩, fun xs hx => by simp at hx⟩
end Go.Proofs.Ytdljgifoboiaeaa
