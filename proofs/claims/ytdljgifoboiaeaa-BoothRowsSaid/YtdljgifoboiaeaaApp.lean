/- Words put together by append. -/
import Derived.Test.YtdljgifoboiaeaaAdd
namespace Go.Proofs.Ytdljgifoboiaeaa
open Go.RowKit

section
variable {P : Program} {o : Oper} {a : Act} {Q : Exit → Act → World → Prop} {C : World → Prop} {p X : Nat} {st0 st : BSt} {W : World} {N : Nat} {L : List Ent} {K : (Int → Bool) → Prop}
/-- append(v, ys...), ys a row that is read -/
theorem appE {ops : Array Oper} {rest : List Oper} (hgd : o.guard = none) (s x : Operand) (ho : o.op = .call { callee := .builtin .append, args := #[s, x], argTypes := #[26, 26] })
    (ht : P.underlying 26 = some (.slice 3)) (hinfo : (P.info? 3).map (fun i => (i.zero, i.size, i.bytes)) = some (some (.int .i64 0), 1, 8))
    (E : Env C p X st0 W st N L K) {B : Nat} {v : Value} {xs : List Int} (hf : Fine W p st B v xs) (hXB : X ≤ B) (hB : B ≤ W.heap.size) (hs : a.eval s = v)
    {S : Nat → Prop} {A : Option Addr} {m c : Nat} {ys : List Int} (hx : a.eval x = .slice A m c) (hy : Row kInt W S (.slice A m c) ys) (hyo : Okay st ys) (h0 : 0 < ys.length) (hl : xs.length + ys.length ≤ 1024)
    (hK : ∀ v' w', Kept B (some p) W w' → Fine w' p st B v' (xs ++ ys) → Env C p X st0 w' st N L K → wpList P ops Q rest (a.put o.dst v') w') :
    wpList P ops Q (o :: rest) a W := by
  obtain ⟨A', c', css, he, h1, h2, _, h3, h4⟩ := hy
  injection he with e1 e2 e3
  subst e1; subst e2; subst e3
  obtain ⟨b, off, rfl, _, _, hc⟩ := h4 h0
  exact app kInt 3 26 (.int .i64 0) 8 hgd s x ho ht hinfo rfl (by decide) (by decide) (some p) B hf.own E.rep.fin hB hs ⟨b, off, none⟩ ys.length c ys css hx rfl ⟨h3.1, fun i x cs hx hc => h3.2 i x cs hx hc⟩
    (fun j u hu => by rw [Addr.add_lit]; exact hc j u hu) (by omega)
    fun v' w' q1 q2 _ _ q5 _ => hK v' w' q2 ⟨q1, hf.okay.append hyo, by simp; omega⟩ (E.kept (q2.mono hXB) (E.rep.grown q5 fun g hg => hf.own.off hg))
/-- an empty word of the call's own -/
theorem Env.lit0 (E : Env C p X st0 W st N L K) : Fine (W.alloc (.cells #[] 3)) p st W.heap.size (.slice (some ⟨W.heap.size, 0, none⟩) 0 0) [] :=
  ⟨(Own.lit0 kInt 3 W).give E.rep.fin ((Below.refl _ _).alloc (Nat.le_refl _) _), Okay.nil _, by simp⟩
/-- a word of the call's own that is written out -/
theorem Env.litOwn (E : Env C p X st0 W st N L K) (xs : List Int) (n : Nat) (hn : xs.length = n) (hl : n ≤ 1024) (hok : Okay st xs) (cs : Array Value) (hcs : cs.toList = xs.map (Value.int .i64)) :
    Fine (W.alloc (.cells cs 3)) p st W.heap.size (.slice (some ⟨W.heap.size, 0, none⟩) n n) xs := by
  subst hn
  have h := World.ownsRow_lit (base := W.heap.size) (e := 3) (size := 1) W cs xs.length (Nat.le_refl _) (by simp only [maxLen]; omega) (by rw [← Array.length_toList, hcs]; simp)
  rw [hcs] at h
  exact ⟨(Own.of_ints (p := none) h (fun _ _ => foot_none _ _)).give E.rep.fin ((Below.refl _ _).alloc (Nat.le_refl _) _), hok, hl⟩
/-- a row of places that is written out -/
theorem litI (W : World) (xs : List Int) (n : Nat) (hn : xs.length = n) (hl : n ≤ 1024) (cs : Array Value) (hcs : cs.toList = xs.map (Value.int .i64)) : Row kInt (W.alloc (.cells cs 3)) (fun _ => False) (.slice (some ⟨W.heap.size, 0, none⟩) n n) xs := by
  subst hn
  exact lit_any kInt 3 W (fun _ => False) (fun _ h => h.elim) xs (xs.map fun x => [Value.int .i64 x]) cs (by rw [hcs, flat_ints]) (ints_pairs _ _ _) (by omega)
end
end Go.Proofs.Ytdljgifoboiaeaa
