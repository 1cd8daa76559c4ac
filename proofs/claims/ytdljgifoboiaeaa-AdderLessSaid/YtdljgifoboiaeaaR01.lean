/- The references' numbers: what slipstickref01 and 08 tell. -/
import Derived.Test.YtdljgifoboiaeaaBits
import Derived.Test.YtdljgifoboiaeaaNet
namespace Go.Proofs.Ytdljgifoboiaeaa
open Go.RowKit

/-- what is left alone: blocks that are there -/
def There (S : Nat → Prop) (w : World) : Prop := ∀ i, S i → i < w.heap.size
theorem There.later {S : Nat → Prop} {w w' : World} (h : There S w) (hs : w.heap.size ≤ w'.heap.size) : There S w' := fun i hi => Nat.lt_of_lt_of_le (h i hi) hs
theorem Row.below {α : Type} {k : Kd α} {w w' : World} {S : Nat → Prop} {v : Value} {xs : List α} (h : Row k w S v xs) (hb : Below w.heap.size w w') : Row k w' S v xs := h.later hb

theorem Row.one_at {α : Type} {k : Kd α} {w : World} {S : Nat → Prop} {A : Option Addr} {n c : Nat} {xs : List α} (f : α → Value) (hk : ∀ x cs, k.K w S x cs → cs = [f x]) (h1 : k.size = 1) (h : Row k w S (.slice A n c) xs) {i : Nat} (hi : i < xs.length) :
    ∃ b off, A = some ⟨b, off, none⟩ ∧ w.cell? ⟨b, off + i, none⟩ = some (f xs[i]) := by
  have hn : n = xs.length := h.len
  obtain ⟨b, off, rfl, x, cs, hx, hkx, hc⟩ := h.at (i := i) (by omega)
  have hcs := hk x cs hkx
  subst hcs
  refine ⟨b, off, rfl, ?_⟩
  have := hc 0 _ rfl
  rw [h1, Nat.mul_one, Nat.add_zero] at this
  rw [this]
  rw [List.getElem?_eq_getElem hi] at hx
  injection hx with hx
  rw [hx]
theorem Row.bool_at {w : World} {S : Nat → Prop} {A : Option Addr} {n c : Nat} {xs : List Bool} (h : Row kBool w S (.slice A n c) xs) {i : Nat} (hi : i < xs.length) :
    ∃ b off, A = some ⟨b, off, none⟩ ∧ w.cell? ⟨b, off + i, none⟩ = some (.bool xs[i]) := h.one_at (fun x => .bool x) (fun _ _ h => h) rfl hi
theorem Row.num_at {k : IntKind} {w : World} {S : Nat → Prop} {A : Option Addr} {n c : Nat} {xs : List Int} (h : Row (kNum k) w S (.slice A n c) xs) {i : Nat} (hi : i < xs.length) :
    ∃ b off, A = some ⟨b, off, none⟩ ∧ w.cell? ⟨b, off + i, none⟩ = some (.int k xs[i]) := h.one_at (fun x => .int k x) (fun _ _ h => h) rfl hi

theorem infoBool : (Try.prog.info? 4).map (fun i => (i.zero, i.size, i.bytes)) = some (some (.bool false), 1, 1) := by kernel_rfl
theorem infoU32 : (Try.prog.info? 128).map (fun i => (i.zero, i.size, i.bytes)) = some (some (.int .u32 0), 1, 4) := by kernel_rfl

/-- what was made in the call is none of S -/
theorem Own.fresh {α : Type} {k : Kd α} {e : TypeId} {w w' : World} {v : Value} {xs : List α} (h : Own k e w' none w.heap.size v xs) (hk : ∀ (S : Nat → Prop) x cs, k.K w' S x cs → ∀ S', k.K w' S' x cs) (hs : 0 < k.size) {S : Nat → Prop} (hS : There S w) : Row k w' S v xs := by
  obtain ⟨A, c, css, rfl, r1, r2, r0, r3, r4⟩ := h.row hs (Nat.le_refl _)
  refine ⟨A, c, css, rfl, r1, r2, r0, ⟨r3.1, fun i x cs hx hc => hk _ _ _ (r3.2 i x cs hx hc) _⟩, fun hn => ?_⟩
  obtain ⟨b, off, rfl, q1, _, q3⟩ := r4 hn
  have := (h.base (g := b) rfl).1
  exact ⟨b, off, rfl, q1, fun hb => by have := hS b hb; omega, q3⟩
theorem Own.bools {e : TypeId} {w w' : World} {v : Value} {xs : List Bool} (h : Own kBool e w' none w.heap.size v xs) {S : Nat → Prop} (hS : There S w) : Row kBool w' S v xs := h.fresh (fun _ _ _ h _ => h) Nat.zero_lt_one hS
theorem Own.nums {k : IntKind} {e : TypeId} {w w' : World} {v : Value} {xs : List Int} (h : Own (kNum k) e w' none w.heap.size v xs) {S : Nat → Prop} (hS : There S w) : Row (kNum k) w' S v xs := h.fresh (fun _ _ _ h _ => h) Nat.zero_lt_one hS

/-- b's bit at a place -/
theorem bit_refG (w : World) (S : Nat → Prop) (v : Value) (n m : Nat) (i : Int) (hx : Row kBool w S v (lowBits n m)) (hnm : n < 2 ^ m) (hn : m ≤ 1099511627776) :
    Calls Try.prog 72 #[v, .int .i64 i] w fun e w' => e = .returned (.bool (decide (0 ≤ i) && n.testBit i.toNat)) ∧ w = w' := by
  obtain ⟨A, c, rfl, hc1, hc2⟩ := hx.shape
  unfold maxLen at hc2
  have hl := lowBits_length n m
  by_cases h0 : 0 ≤ i
  · obtain ⟨k, rfl⟩ := Int.eq_ofNat_of_zero_le h0
    by_cases hk : k < m
    · obtain ⟨b, off, rfl, hcell⟩ := hx.bool_at (i := k) (by omega)
      have hb : (lowBits n m)[k]'(by omega) = n.testBit k := by simp [lowBits]
      rw [hb] at hcell
      have hk' : k < (lowBits n m).length := by omega
      clear hb hl hx hnm
      go_enter Try.func72, Try.ntmps72
      go_wp2
      go_ret
      exact ⟨by simp, rfl⟩
    · have hk' : ¬ k < (lowBits n m).length := by omega
      have ht : n.testBit k = false := Nat.testBit_lt_two_pow (Nat.lt_of_lt_of_le hnm (Nat.pow_le_pow_right (by omega) (by omega)))
      have HT := Lib.hid ht
      clear hl hx ht hnm
      go_enter Try.func72, Try.ntmps72
      go_wp2
      go_ret
      exact ⟨by simp [HT.out], rfl⟩
  · clear hl hx hnm
    go_enter Try.func72, Try.ntmps72
    go_wp2
    go_ret
    exact ⟨by rw [decide_eq_false (by omega)]; rfl, rfl⟩
theorem bit_ref (w : World) (S : Nat → Prop) (v : Value) (n : Nat) (i : Int) (hx : Row kBool w S v (natBits n)) (hn : nbits n ≤ 1099511627776) :
    Calls Try.prog 72 #[v, .int .i64 i] w fun e w' => e = .returned (.bool (decide (0 ≤ i) && n.testBit i.toNat)) ∧ w = w' :=
  bit_refG w S v n (nbits n) i hx (lt_nbits n) hn
theorem bit_atG (w : World) (S : Nat → Prop) (v : Value) (n m k : Nat) (b : Bool) (hx : Row kBool w S v (lowBits n m)) (hnm : n < 2 ^ m) (hn : m ≤ 1099511627776) (hb : n.testBit k = b) :
    Calls Try.prog 72 #[v, .int .i64 k] w fun e w' => e = .returned (.bool b) ∧ w = w' :=
  (bit_refG w S v n m k hx hnm hn).mono fun e w' ⟨he, hw⟩ => ⟨by rw [he, Int.toNat_natCast, hb, decide_eq_true (by omega)]; rfl, hw⟩
/-- the same, at a place that is no less than 0, the bit known -/
theorem bit_at (w : World) (S : Nat → Prop) (v : Value) (n k : Nat) (b : Bool) (hx : Row kBool w S v (natBits n)) (hn : nbits n ≤ 1099511627776) (hb : n.testBit k = b) :
    Calls Try.prog 72 #[v, .int .i64 k] w fun e w' => e = .returned (.bool b) ∧ w = w' :=
  (bit_ref w S v n k hx hn).mono fun e w' ⟨he, hw⟩ => ⟨by rw [he, Int.toNat_natCast, hb, decide_eq_true (by omega)]; rfl, hw⟩

/-- no bits 0 at the end -/
theorem cut_ref (w : World) (S : Nat → Prop) (v : Value) (n k : Nat) (hx : Row kBool w S v (lowBits n k)) (hk : k ≤ 1099511627776) :
    Calls Try.prog 95 #[v] w fun e w' => ∃ v', e = .returned v' ∧ Row kBool w S v' (natBits (n % 2 ^ k)) ∧ w = w' := by
  obtain ⟨A, c, rfl, hc1, hc2⟩ := hx.shape
  unfold maxLen at hc2
  have hl := lowBits_length n k
  have HX := Lib.hid hx
  rw [hl] at hc1
  go_enter Try.func95, Try.ntmps95
  go_wp2
  go_loop [3] (fun v => ∃ m : Nat, m ≤ k ∧ v = .int .i64 m ∧ ∀ j, m ≤ j → j < k → n.testBit j = false) (fun v => (intOf v).toNat)
  case atStart => exact ⟨k, Nat.le_refl _, by simp [hl], fun j h1 h2 => by omega⟩
  case round =>
    obtain ⟨m, hm, rfl, h0⟩ := hrel
    have H0 := Lib.hid h0
    clear h0 hx
    rcases Nat.eq_zero_or_pos m with hz | hpos
    · subst hz
      clear hl
      go_wp2
      go_ret
      have h2 := HX.out.take 0 (Nat.zero_le _)
      refine ⟨_, rfl, ?_, rfl⟩
      rw [← cut_lowBits n k 0 (Nat.zero_le _) (fun j _ h => H0.out j (Nat.zero_le _) h) (fun h => by omega), ← lowBits_take n k 0 (Nat.zero_le _)]
      exact h2
    · obtain ⟨q, rfl⟩ : ∃ q, m = q + 1 := ⟨m - 1, by omega⟩
      obtain ⟨b, off, rfl, hcell⟩ := HX.out.bool_at (i := q) (by omega)
      have hq : (lowBits n k)[q]'(by omega) = n.testBit q := by simp [lowBits]
      rw [hq] at hcell
      clear hq
      have hlq : q < (lowBits n k).length := by omega
      have hlk : q + 1 ≤ (lowBits n k).length := by omega
      clear hl
      cases hb : n.testBit q with
      | false =>
        rw [hb] at hcell
        have HB := Lib.hid hb
        clear hb
        go_wp2
        go_round
        case rel => exact ⟨q, by omega, by go_num, fun j h1 h2 => by
          rcases Nat.lt_or_ge q j with h | h
          · exact H0.out j h h2
          · rw [show j = q by omega]; exact HB.out⟩
        case measure => simp [intOf]
      | true =>
        rw [hb] at hcell
        have HB := Lib.hid hb
        clear hb
        have h2 := Lib.hid (HX.out.take (q + 1) hlk)
        go_wp2
        go_ret
        refine ⟨_, rfl, ?_, rfl⟩
        rw [← cut_lowBits n k (q + 1) hm (fun j h h' => H0.out j h h') (fun _ => by simpa using HB.out), ← lowBits_take n k (q + 1) hm]
        exact h2.out

/-- so many lowest bits -/
theorem low_refG (w : World) (S : Nat → Prop) (hS : There S w) (v : Value) (n mm k : Nat) (hx : Row kBool w S v (lowBits n mm)) (hnm : n < 2 ^ mm) (hn : mm ≤ 1099511627776) (hk : k ≤ 1099511627776) :
    Calls Try.prog 22 #[v, .int .i64 k] w fun e w' => ∃ v', e = .returned v' ∧ Row kBool w' S v' (natBits (n % 2 ^ k)) ∧ Below w.heap.size w w' := by
  obtain ⟨A, c, rfl, hc1, hc2⟩ := hx.shape
  have HNM := Lib.hid hnm
  clear hnm
  go_enter Try.func22, Try.ntmps22
  go_wp2
  go_loopw [5, 6, 7] (fun v l i wr => ∃ j m : Nat, j ≤ k ∧ i = .int .i64 j ∧ l = .int .i64 m ∧ m ≤ j ∧ (∀ q, m ≤ q → q < j → n.testBit q = false) ∧ (0 < m → n.testBit (m - 1) = true) ∧ Own kBool 4 wr none w.heap.size v (lowBits n j) ∧ Below w.heap.size w wr)
    (fun _ _ i _ => k - (intOf i).toNat)
  case atStart => exact ⟨0, 0, Nat.zero_le _, rfl, rfl, Nat.le_refl _, fun q _ h => by omega, fun h => by omega, Own.lit0 kBool _ w, (Below.refl _ _).alloc (Nat.le_refl _) _⟩
  case round =>
    obtain ⟨j, m, hj, rfl, rfl, hmj, h0, h1, ho, hb⟩ := hrel
    obtain ⟨A', c', rfl, hcc, -⟩ := ho.shape
    have hlen := lowBits_length n j
    have H0 := Lib.hid h0
    have H1 := Lib.hid h1
    clear h0 h1
    by_cases hlt : j < k
    · have hxr := hx.below hb
      have hle : (lowBits n j).length ≤ 1099511627776 := by omega
      have HS := Lib.hid (lowBits_succ n j)
      clear hlen
      generalize lowBits n j = ys at ho HS hle
      cases hbit : n.testBit j with
      | false =>
        have HB := Lib.hid hbit
        clear hbit
        go_wp2_with (first
          | (go_at_call 72; refine (bit_atG _ S _ n mm j false (by first | exact hxr | exact hx2) HNM.out hn HB.out).mono ?_; rintro e w2 ⟨rfl, rfl⟩)
          | (at_builtin; refine app1 kBool 4 42 (.bool false) 1 rfl (.tmp 14) (.tmp 18) rfl Try.underlying42 infoBool rfl (by decide) (by decide) none w.heap.size ho (FootIn.none _) (by have := hb.size; omega) rfl false _ rfl rfl (by omega) ?_; intro v' w3 q1 q2 _ _ _ _; have hx2 := hx.below (hb.trans q2.below)))
        go_roundw
        case rel => exact ⟨j + 1, m, by omega, by go_num, rfl, by omega, fun q h h' => by
            rcases Nat.lt_or_ge q j with h2 | h2
            · exact H0.out q h h2
            · rw [show q = j by omega]; exact HB.out, H1.out, by rw [HS.out, HB.out]; exact q1, hb.trans q2.below⟩
        case measure => simp [intOf]; omega
      | true =>
        have HB := Lib.hid hbit
        clear hbit
        go_wp2_with (first
          | (go_at_call 72; refine (bit_atG _ S _ n mm j true (by first | exact hxr | exact hx2) HNM.out hn HB.out).mono ?_; rintro e w2 ⟨rfl, rfl⟩)
          | (at_builtin; refine app1 kBool 4 42 (.bool false) 1 rfl (.tmp 14) (.tmp 18) rfl Try.underlying42 infoBool rfl (by decide) (by decide) none w.heap.size ho (FootIn.none _) (by have := hb.size; omega) rfl true _ rfl rfl (by omega) ?_; intro v' w3 q1 q2 _ _ _ _; have hx2 := hx.below (hb.trans q2.below)))
        go_roundw
        case rel => exact ⟨j + 1, j + 1, by omega, by go_num, by go_num, by omega, fun q h h' => by omega, fun _ => by simpa using HB.out, by rw [HS.out, HB.out]; exact q1, hb.trans q2.below⟩
        case measure => simp [intOf]; omega
    · obtain rfl : j = k := by omega
      have hr := ho.bools hS
      have h2 := Lib.hid (hr.take m (by omega))
      have hml : m ≤ c' := by omega
      clear hlen ho hr hcc
      go_wp2
      go_ret
      refine ⟨_, rfl, ?_, hb⟩
      rw [← cut_lowBits n j m hmj H0.out H1.out, ← lowBits_take n j m hmj]
      exact h2.out
theorem low_ref (w : World) (S : Nat → Prop) (hS : There S w) (v : Value) (n k : Nat) (hx : Row kBool w S v (natBits n)) (hn : nbits n ≤ 1099511627776) (hk : k ≤ 1099511627776) :
    Calls Try.prog 22 #[v, .int .i64 k] w fun e w' => ∃ v', e = .returned v' ∧ Row kBool w' S v' (natBits (n % 2 ^ k)) ∧ Below w.heap.size w w' :=
  low_refG w S hS v n (nbits n) k hx (lt_nbits n) hn hk
end Go.Proofs.Ytdljgifoboiaeaa
