/- Bits of nat's numbers; a number as a word. -/
import Derived.Test.YtdljgifoboiaeaaSame6
import Derived.Test.YtdljgifoboiaeaaRegs
import Derived.Laws.BitsAllLaws
namespace Go.Proofs.Ytdljgifoboiaeaa
open Go.RowKit

theorem part_nat (w : World) (S : Nat → Prop) (v : Value) (xs : List Int) (i : Nat) (hx : Row (kNum .u32) w S v xs) (hi : i ≤ 1099511627776) :
    Calls Try.prog 130 #[v, .int .i64 i] w fun e w' => e = .returned (.int .u32 (xs.getD i 0)) ∧ w = w' := by
  obtain ⟨A, c, rfl, -, hc2⟩ := hx.shape
  by_cases hlt : i < xs.length
  · obtain ⟨b, off, rfl, hcell⟩ := hx.num_at hlt
    have hg : xs.getD i 0 = xs[i] := by simp [List.getD_eq_getElem?_getD, hlt]
    rw [hg]
    generalize xs[i] = x at *
    clear hx hg
    go_enter Try.func130, Try.ntmps130
    go_wp2
    go_ret
    exact ⟨rfl, rfl⟩
  · have hg : xs.getD i 0 = 0 := by rw [List.getD_eq_getElem?_getD, List.getElem?_eq_none (by omega)]; rfl
    rw [hg]
    clear hx hg
    go_enter Try.func130, Try.ntmps130
    go_wp2
    go_ret
    exact ⟨rfl, rfl⟩

theorem bit_u32 (n r : Nat) (hn : n < 4294967296) : wrap64 (bits BinOp.and IntKind.u32 ((n : Int) / 2 ^ r) 1) = b2i (n.testBit r) := by
  have e : ((n : Int) / 2 ^ r) = ((n / 2 ^ r : Nat) : Int) := by push_cast; rfl
  have h := u32_and_nat (n / 2 ^ r) 1 (Nat.lt_of_le_of_lt (Nat.div_le_self _ _) hn) (by omega)
  rw [Nat.and_one_is_mod] at h
  rw [e, show (1 : Int) = ((1 : Nat) : Int) from rfl, h, testBit_div]
  rcases Nat.mod_two_eq_zero_or_one (n / 2 ^ r) with h2 | h2 <;> rw [h2, IntWalk.wrap64_in _ (by decide)] <;> rfl

theorem bit_nat (w : World) (S : Nat → Prop) (v : Value) (xs : List Int) (k : Nat) (hx : Row (kNum .u32) w S v xs) (hok : okParts xs) (hk : k ≤ 1099511627776) :
    Calls Try.prog 105 #[v, .int .i64 k] w fun e w' => e = .returned (.int .i64 (b2i ((partsVal xs).testBit k))) ∧ w = w' := by
  obtain ⟨A, c, rfl, -, -⟩ := hx.shape
  have hx' := Lib.hid hx
  obtain ⟨n, hn, hn2⟩ : ∃ n : Nat, xs.getD (k / 32) 0 = n ∧ n < 4294967296 := by
    by_cases hlt : k / 32 < xs.length
    · have hg : xs.getD (k / 32) 0 = xs[k / 32] := by simp [List.getD_eq_getElem?_getD, hlt]
      have h := hok _ (List.getElem_mem hlt)
      obtain ⟨n, hn⟩ := Int.eq_ofNat_of_zero_le h.1
      exact ⟨n, by rw [hg, hn], by omega⟩
    · exact ⟨0, by rw [List.getD_eq_getElem?_getD, List.getElem?_eq_none (by omega)]; rfl, by omega⟩
  have hbit : (partsVal xs).testBit k = n.testBit (k % 32) := by
    by_cases hlt : k / 32 < xs.length
    · have h := partsVal_testBit xs hok (k / 32) (k % 32) hlt (Nat.mod_lt _ (by omega))
      rw [show 32 * (k / 32) + k % 32 = k by omega] at h
      have hg : xs.getD (k / 32) 0 = xs[k / 32] := by simp [List.getD_eq_getElem?_getD, hlt]
      rw [h, ← hg, hn, Int.toNat_natCast]
    · have h0 : n = 0 := by
        rw [List.getD_eq_getElem?_getD, List.getElem?_eq_none (by omega)] at hn
        simp at hn; omega
      rw [h0, Nat.zero_testBit]
      have h1 := partsVal_lt xs hok
      rw [show (4294967296 : Nat) = 2 ^ 32 by decide, ← Nat.pow_mul] at h1
      exact Nat.testBit_lt_two_pow (Nat.lt_of_lt_of_le h1 (Nat.pow_le_pow_right (by omega) (by omega)))
  rw [hbit]
  have HN := Lib.hid hn
  have e1 : (k : Int).tdiv 32 = ((k / 32 : Nat) : Int) := by rw [Int.tdiv_eq_ediv_of_nonneg (by omega)]; rfl
  have e2 : (k : Int).tmod 32 = ((k % 32 : Nat) : Int) := by rw [Int.tmod_eq_emod_of_nonneg (by omega)]; rfl
  have hr : k % 32 < 32 := Nat.mod_lt _ (by omega)
  have hq : k / 32 ≤ 1099511627776 := by omega
  clear hx hn hbit
  go_enter Try.func105, Try.ntmps105
  go_wp2_with fail
  refine (part_nat _ S _ xs (k / 32) hx'.out hq).mono ?_
  rintro e w1 ⟨rfl, rfl⟩
  rw [HN.out]
  go_wp2_with fail
  go_ret
  exact ⟨by rw [← bit_u32 n (k % 32) hn2]; rfl, rfl⟩

/-- a number as a word -/
def bWord (m : Nat) (n : Nat) (s : BSt) : List Int × BSt := mapS (fun k => bBit (b2i (m.testBit k))) (List.range n) s
theorem word_ext (m n : Nat) (s : BSt) : Ext s (bWord m n s).2 := mapS_ext _ (fun _ s => lay_ext _ s) _ s
theorem word_length (m n : Nat) (s : BSt) : (bWord m n s).1.length = n := by simp [bWord, mapS_length]

attribute [local go_sem] max2_int min2_int max_two min_two in
set_option maxHeartbeats 2000000 in
theorem word_calls (w : World) (p : Nat) (st : BSt) (v : Value) (xs : List Int) (n : Nat) (hB : BRep w p st) (hx : Row (kNum .u32) w (may w (some p) w.heap.size) v xs) (hok : okParts xs) (hn : n ≤ 1099511627776) (hf : (bWord (partsVal xs) n st).2.nodes.length < 1099511627776) :
    Calls Try.prog 31 #[.pointer (some ⟨p, 0, none⟩), v, .int .i64 n] w
      fun e w' => ∃ v', e = .returned v' ∧ Own kInt 3 w' (some p) w.heap.size v' (bWord (partsVal xs) n st).1 ∧ Laid w p (bWord (partsVal xs) n st).2 w' := by
  obtain ⟨A, c, rfl, -, -⟩ := hx.shape
  have hle : ∀ k, (mapS (fun k => bBit (b2i ((partsVal xs).testBit k))) ((List.range n).take k) st).2.nodes.length < 1099511627776 := fun k => Nat.lt_of_le_of_lt (mapS_ext_le _ (fun _ s => lay_ext _ s) _ k st).len hf
  have HLE := Lib.hid hle
  have HX := Lib.hid hx
  have HOK := Lib.hid hok
  have hmx : max (n : Int) 0 = n := by omega
  clear hf hle hx hok
  go_enter Try.func31, Try.ntmps31
  go_wp2_with fail
  go_loopw [7, 11] (fun v i wr => ∃ k : Nat, k ≤ n ∧ i = .int .i64 k ∧ Own kInt 3 wr (some p) w.heap.size v (mapS (fun k => bBit (b2i ((partsVal xs).testBit k))) ((List.range n).take k) st).1 ∧ Laid w p (mapS (fun k => bBit (b2i ((partsVal xs).testBit k))) ((List.range n).take k) st).2 wr)
    (fun _ i _ => n - (intOf i).toNat)
  case atStart => exact ⟨0, by omega, rfl, Own.nil _ _ _ _ _, Laid.refl hB⟩
  case round =>
    obtain ⟨k, hk, rfl, ho, hL⟩ := hrel
    obtain ⟨A', c', rfl, -, -⟩ := ho.shape
    by_cases hlt : k < n
    · have HXW := Lib.hid (HX.out.laid hL (Nat.le_refl _))
      have hs := mapS_take_succ (fun k => bBit (b2i ((partsVal xs).testBit k))) (List.range n) k (by simpa using hlt) st
      rw [List.getElem_range] at hs
      have HS := Lib.hid hs
      have hlk := HLE.out k
      have hyl : (mapS (fun k => bBit (b2i ((partsVal xs).testBit k))) ((List.range n).take k) st).1.length ≤ 1099511627776 := by rw [mapS_length]; simp; omega
      generalize (mapS (fun k => bBit (b2i ((partsVal xs).testBit k))) ((List.range n).take k) st).1 = ys at ho HS hyl
      generalize (mapS (fun k => bBit (b2i ((partsVal xs).testBit k))) ((List.range n).take k) st).2 = sk at hL HS hlk
      have hkk : k ≤ 1099511627776 := by omega
      clear hs
      go_wp2_with (first
        | (go_at_call 105; refine (bit_nat _ _ _ xs k HXW.out HOK.out hkk).mono ?_; rintro e w2 ⟨rfl, rfl⟩)
        | (go_at_call 104; refine (bit_calls _ p sk _ hL.1 hlk).mono ?_; rintro e w2 ⟨rfl, hL2⟩)
        | (at_builtin; refine app1B kInt 3 26 (.int .i64 0) 8 rfl (.tmp 14) (.tmp 20) rfl Try.underlying26 infoInt rfl (by decide) (by decide) p _ hL2.1 w.heap.size (ho.laid hL2) (by have := hL2.2.size; have := hL.2.size; omega) rfl _ _ rfl rfl (by omega) ?_; intro v' w3 ho3 hB3 hk3))
      go_roundw
      case rel => exact ⟨k + 1, by omega, by go_num, by rw [HS.out]; exact ho3, by rw [HS.out]; exact ⟨hB3, (hL.2.trans (hL2.2.mono hL.2.size)).trans hk3⟩⟩
      case measure => simp [intOf]; omega
    · obtain rfl : k = n := by omega
      have hr : mapS (fun k => bBit (b2i ((partsVal xs).testBit k))) ((List.range k).take k) st = bWord (partsVal xs) k st := by rw [List.take_of_length_le (by simp)]; rfl
      generalize mapS (fun k => bBit (b2i ((partsVal xs).testBit k))) ((List.range k).take k) st = r at hr ho hL ⊢
      subst hr
      go_wp2
      go_ret
      exact ⟨_, rfl, ho, hL⟩

theorem Row.capped {α : Type} {k : Kd α} {w : World} {S : Nat → Prop} {A : Option Addr} {n c c' : Nat} {xs : List α} (h : Row k w S (.slice A n c) xs) (h1 : n ≤ c') (h2 : c' ≤ c) : Row k w S (.slice A n c') xs := by
  obtain ⟨A', c2, css, he, r1, r2, r0, r3, r4⟩ := h
  injection he with e1 e2 e3
  subst e1; subst e2; subst e3
  exact ⟨_, c', css, rfl, h1, Nat.le_trans h2 r2, fun h => by have := r0 h; omega, r3, r4⟩
theorem lit_u32s (w : World) (l : List Int) (hl : l.length ≤ 1099511627776) (S : Nat → Prop) (hS : There S w) : Row (kNum .u32) (w.alloc (.cells (l.map fun x => Value.int .u32 x).toArray 128)) S (.slice (some ⟨w.heap.size, 0, none⟩) l.length l.length) l := by
  have hflat : (l.map fun x => [Value.int .u32 x]).flatten = l.map fun x => Value.int .u32 x := by
    clear hl
    induction l with
    | nil => rfl
    | cons v vs ih => simp [ih]
  refine ⟨_, _, l.map fun x => [Value.int .u32 x], rfl, Nat.le_refl _, by simp only [maxLen]; omega, (fun h => nomatch h), ⟨by simp, fun i x cs hx hc => ?_⟩, fun hn => ⟨_, _, rfl, by simp, fun hs => by have := hS _ hs; omega, fun j u hu => ?_⟩⟩
  · rw [List.getElem?_map, hx] at hc
    injection hc with hc
    exact hc.symm
  · rw [hflat] at hu
    rw [Nat.zero_add, World.cell?_alloc_new]
    simpa using hu

set_option maxRecDepth 100000 in
theorem trim5 (w : World) (S : Nat → Prop) (A : Option Addr) (c : Nat) (hx : Row (kNum .u32) w S (.slice A 2 c) [5, 0]) :
    Calls Try.prog 125 #[.slice A 2 c] w fun e w' => ∃ v', e = .returned v' ∧ Row (kNum .u32) w' S v' [5] ∧ w = w' := by
  obtain ⟨A', c', he, hc, hc3⟩ := hx.shape
  injection he with e1 e2 e3
  subst e1; subst e3
  clear e2
  obtain ⟨b, off, rfl, x0⟩ := hx.num_at (i := 0) (by simp)
  obtain ⟨b1, off1, he, x1⟩ := hx.num_at (i := 1) (by simp)
  injection he with he; injection he with e1 e2; subst e1; subst e2
  simp only [List.getElem_cons_zero, List.getElem_cons_succ, Nat.add_zero] at x0 x1
  have hc : 2 ≤ c := hc
  unfold maxLen at hc3
  have HX := Lib.hid hx
  clear hx
  go_enter Try.func125, Try.ntmps125
  go_wp2_with fail
  go_loop [3] (fun v => v = .int .i64 2 ∨ v = .int .i64 1) (fun v => (intOf v).toNat)
  case atStart => exact .inl rfl
  case round =>
    rcases hrel with rfl | rfl
    · go_wp2
      go_round
      case rel => exact .inr (by go_num)
      case measure => simp [intOf]
    · go_wp2
      go_ret
      have h := (Row.take (xs := ([5, 0] : List Int)) HX.out 1 (by simp)).capped (c' := 1) (Nat.le_refl _) (by omega)
      exact ⟨_, rfl, h, rfl⟩

theorem of5 (w : World) (S : Nat → Prop) (hS : There S w) :
    Calls Try.prog 86 #[.int .u64 5] w fun e w' => ∃ v', e = .returned v' ∧ Row (kNum .u32) w' S v' [5] ∧ Below w.heap.size w w' := by
  have HL := Lib.hid (lit_u32s w [5, 0] (by simp) S hS)
  go_enter Try.func86, Try.ntmps86
  go_wp2_with fail
  refine (trim5 _ S _ _ HL.out).mono ?_
  rintro e w1 ⟨v1, rfl, hr, rfl⟩
  have HR := Lib.hid hr
  clear hr
  go_wp2
  go_ret
  exact ⟨_, rfl, HR.out, (Below.refl _ _).alloc (Nat.le_refl _) _⟩
end Go.Proofs.Ytdljgifoboiaeaa
