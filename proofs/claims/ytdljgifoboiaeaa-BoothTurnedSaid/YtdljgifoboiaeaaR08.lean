/- Bit by bit: slipstickref08. -/
import Derived.Test.YtdljgifoboiaeaaJR07
namespace Go.Proofs.Ytdljgifoboiaeaa
open Go.RowKit

def gateK (kind : Int) (x y : Bool) : Bool := if kind = 3 then x && y else if kind = 4 then x || y else x != y
def eachN (kind : Int) (a b w : Nat) : Nat := ofBits ((List.range w).map fun i => gateK kind (a.testBit i) (b.testBit i))
theorem eachN_testBit (kind : Int) (a b w i : Nat) (h : i < w) : (eachN kind a b w).testBit i = gateK kind (a.testBit i) (b.testBit i) := by simp [eachN, testBit_ofBits, h]
theorem eachN_lt (kind : Int) (a b w : Nat) : eachN kind a b w < 2 ^ w := by have := ofBits_lt ((List.range w).map fun i => gateK kind (a.testBit i) (b.testBit i)); simpa [eachN] using this

theorem gate8_ref (w : World) (kind : Int) (x y : Bool) : Calls Try.prog 106 #[.int .i64 kind, .bool x, .bool y] w fun e w' => e = .returned (.bool (gateK kind x y)) ∧ w = w' := by
  by_cases h3 : kind = 3
  · subst h3
    cases x <;> cases y <;> (go_enter Try.func106, Try.ntmps106; go_wp2; go_ret; exact ⟨rfl, rfl⟩)
  · by_cases h4 : kind = 4
    · subst h4
      cases x <;> cases y <;> (go_enter Try.func106, Try.ntmps106; go_wp2; go_ret; exact ⟨rfl, rfl⟩)
    · have e3 : (kind == 3) = false := by simpa using h3
      have e4 : (kind == 4) = false := by simpa using h4
      have hg : gateK kind x y = (x != y) := by simp [gateK, h3, h4]
      rw [hg]
      clear hg h3 h4
      cases x <;> cases y <;> (go_enter Try.func106, Try.ntmps106; go_wp2; go_ret; exact ⟨rfl, rfl⟩)

set_option maxHeartbeats 4000000 in
theorem each8_ref (w : World) (S : Nat → Prop) (hS : There S w) (kind : Int) (v u : Value) (a b n : Nat) (hx : Row kBool w S v (natBits a)) (hy : Row kBool w S u (natBits b)) (ha : nbits a ≤ 1099511627776) (hb : nbits b ≤ 1099511627776) (hn : n ≤ 549755813888) :
    Calls Try.prog 34 #[.int .i64 kind, v, u, .int .i64 n] w fun e w' => ∃ v', e = .returned v' ∧ Row kBool w' S v' (natBits (eachN kind a b n)) ∧ Below w.heap.size w w' := by
  obtain ⟨A, c, rfl, -, -⟩ := hx.shape
  obtain ⟨A', c', rfl, -, -⟩ := hy.shape
  have HX := Lib.hid hx
  have HY := Lib.hid hy
  clear hx hy
  go_enter Try.func34, Try.ntmps34
  go_wp2
  go_loopw [9, 10] (fun v i wr => ∃ j : Nat, j ≤ n ∧ i = .int .i64 j ∧ Own kBool 4 wr none w.heap.size v (lowBits (eachN kind a b n) j) ∧ Below w.heap.size w wr) (fun _ i _ => n - (intOf i).toNat)
  case atStart => exact ⟨0, Nat.zero_le _, rfl, Own.lit0 kBool _ w, (Below.refl _ _).alloc (Nat.le_refl _) _⟩
  case round =>
    obtain ⟨j, hj, rfl, ho, hbl⟩ := hrel
    obtain ⟨A2, c2, rfl, -, -⟩ := ho.shape
    have hlen : (lowBits (eachN kind a b n) j).length ≤ 1099511627776 := by rw [lowBits_length]; omega
    have HS := Lib.hid (lowBits_succ (eachN kind a b n) j)
    by_cases hlt : j < n
    · have HT := Lib.hid (eachN_testBit kind a b n j hlt)
      have hxr := Lib.hid (HX.out.below hbl)
      have hyr := Lib.hid (HY.out.below hbl)
      generalize lowBits (eachN kind a b n) j = ys at ho HS hlen
      go_wp2_with (first
        | (go_at_call 72; (with_reducible refine (bit_at _ S _ a j _ hxr.out ha rfl).mono ?_); rintro e w2 ⟨rfl, rfl⟩)
        | (go_at_call 72; (with_reducible refine (bit_at _ S _ b j _ hyr.out hb rfl).mono ?_); rintro e w2 ⟨rfl, rfl⟩)
        | (go_at_call 106; refine (gate8_ref _ kind _ _).mono ?_; rintro e w2 ⟨rfl, rfl⟩; rw [← HT.out])
        | (at_builtin; refine app1 kBool 4 42 (.bool false) 1 rfl (.tmp 17) (.tmp 26) rfl Try.underlying42 infoBool rfl (by decide) (by decide) none w.heap.size ho (FootIn.none _) (by have := hbl.size; omega) rfl _ _ rfl rfl (by omega) ?_; intro v' w3 q1 q2 _ _ _ _))
      go_roundw
      case rel => exact ⟨j + 1, by omega, by go_num, by rw [HS.out]; exact q1, hbl.trans q2.below⟩
      case measure => simp [intOf]; omega
    · obtain rfl : j = n := by omega
      have HO := Lib.hid (ho.bools hS)
      have HLT := Lib.hid (eachN_lt kind a b j)
      have HB := Lib.hid hbl
      have hs := hbl.size
      clear ho hbl
      go_wp2_with fail
      refine (low_refG _ S (hS.later hs) _ (eachN kind a b j) j j HO.out HLT.out (by omega) (by omega)).mono ?_
      rintro e w2 ⟨v2, rfl, hr2, hb2⟩
      rw [Nat.mod_eq_of_lt HLT.out] at hr2
      have HR2 := Lib.hid hr2
      have HB2 := Lib.hid (HB.out.trans (hb2.mono hs))
      clear hr2 hb2
      go_wp2
      go_ret
      exact ⟨_, rfl, HR2.out, HB2.out⟩
end Go.Proofs.Ytdljgifoboiaeaa
