/- A law's last words: what went out, one by one; is it the reference's? -/
import Derived.Test.YtdljgifoboiaeaaL14
namespace Go.Proofs.Ytdljgifoboiaeaa
open Go.RowKit

theorem cell_below {w w' : World} (hb : Below w.heap.size w w') {A : Addr} {u : Value} (h : w.cell? A = some u) : w'.cell? A = some u := (hb.cell (World.block_lt_of_cell? w A h)).trans h

section
variable {C : World → Prop} {p X : Nat} {st0 st : BSt} {w : World} {N : Nat} {L : List Ent} {K : (Int → Bool) → Prop}
/-- a row of a law's input that is at hand, beside the law's builder -/
theorem Env.old' {w0 : World} (E : Env (fun a => Fresh w0.heap.size a p ∧ Below w0.heap.size w0 a) p X st0 w st N L K) {α : Type} {k : Kd α} {S : Nat → Prop} {v : Value} {xs : List α} (h : Row k w0 S v xs) :
    Env (fun a => Fresh w0.heap.size a p ∧ Below w0.heap.size w0 a) p w.heap.size st0 w st N (.row k v xs :: L) K :=
  E.addRow (((h.mono (S' := fun i => w0.heap.size ≤ i) fun i hi hm => by omega).later E.c.2).mono fun i hi hm => hm.elim (fun h => by omega) fun h => E.c.1 i h)
theorem Env.isTrue (E : Env C p X st0 w st N L K) {v u : Value} {xs : List Int} {n : Nat} (h1 : Ent.row (kNum .u32) v xs ∈ L) (h2 : Ent.row kBool u (natBits n) ∈ L) (he : xs = parts32 n) (hn : nbits n ≤ 4294967296) :
    Calls Try.prog 33 #[v, u] w fun e w' => e = .returned (.bool true) ∧ Below w.heap.size w w' :=
  (is_ref _ _ _ E.there _ _ xs n (E.rwF h1) (E.rwF h2) (by rw [he, parts32_length]; omega) (by omega)).mono fun e w' ⟨e1, e2⟩ => ⟨by rw [e1, decide_eq_true he], e2⟩
theorem Env.rowAt (E : Env C p X st0 w st N L K) {α : Type} {k : Kd α} {A : Option Addr} {n c : Nat} {xss : List (List α)} (h : Ent.row (kRow k) (.slice A n c) xss ∈ L) (i : Nat) (hi : i < xss.length) :
    ∃ b off A2 c2, A = some ⟨b, off, none⟩ ∧ w.cell? ⟨b, off + i, none⟩ = some (.slice A2 xss[i].length c2) ∧ Env C p X st0 w st N (.row k (.slice A2 xss[i].length c2) xss[i] :: L) K := by
  obtain ⟨b, off, A2, c2, he, hc, hr⟩ := (E.rw_ h).row_at hi
  exact ⟨b, off, A2, c2, he, hc, E.add (.row k _ _) hr⟩
/-- an empty row that is written out -/
theorem Env.lit0R (E : Env C p X st0 w st N L K) {α : Type} (k : Kd α) (t : TypeId) : Env C p (w.alloc (.cells #[] t)).heap.size st0 (w.alloc (.cells #[] t)) st N (.row k (.slice (some ⟨w.heap.size, 0, none⟩) 0 0) [] :: L) K :=
  (E.alloc (.cells #[] t)).addRow ⟨some ⟨w.heap.size, 0, none⟩, 0, [], rfl, Nat.le_refl _, Nat.zero_le _, (fun h => nomatch h), Pairs.nil _ _ _, fun h => by simp at h⟩
end

theorem shift_min {u v n : Nat} (hu : u < 2 ^ n) : u * 2 ^ v % 2 ^ n = u * 2 ^ min v n % 2 ^ n ∧ u / 2 ^ v = u / 2 ^ min v n ∧ decide (u % 2 ^ v ≠ 0) = decide (u % 2 ^ min v n ≠ 0) := by
  rcases Nat.lt_or_ge v n with h | h
  · rw [Nat.min_eq_left (by omega)]; exact ⟨rfl, rfl, rfl⟩
  · rw [Nat.min_eq_right h]
    have hle : 2 ^ n ≤ 2 ^ v := Nat.pow_le_pow_right (by decide) h
    have hlt := Nat.lt_of_lt_of_le hu hle
    rw [Nat.div_eq_of_lt hu, Nat.div_eq_of_lt hlt, Nat.mod_eq_of_lt hu, Nat.mod_eq_of_lt hlt, Nat.mul_mod_left]
    obtain ⟨d, rfl⟩ : ∃ d, v = n + d := ⟨v - n, by omega⟩
    rw [Nat.pow_add, ← Nat.mul_assoc, Nat.mul_right_comm, Nat.mul_mod_left]
    exact ⟨rfl, rfl, rfl⟩
end Go.Proofs.Ytdljgifoboiaeaa
