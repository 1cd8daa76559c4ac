/- Joined texts: R01, R01b, R01c, R01d, R14. -/
import Derived.Test.YtbfjacgfifecpaaKNet

/-! ## The references' numbers: what slipstickref01 and 08 tell. -/
namespace Go.Proofs.Ytbfjacgfifecpaa
open Go.RowKit

/-- what is left alone: blocks that are there -/
def There (S : Nat → Prop) (w : World) : Prop := ∀ i, S i → i < w.heap.size
theorem There.later {S : Nat → Prop} {w w' : World} (h : There S w) (hs : w.heap.size ≤ w'.heap.size) : There S w' := fun i hi => Nat.lt_of_lt_of_le (h i hi) hs
theorem Row.below {α : Type} {k : Kd α} {w w' : World} {S : Nat → Prop} {v : Value} {xs : List α} (h : Row k w S v xs) (hb : Below w.heap.size w w') : Row k w' S v xs := h.later hb

theorem Row.one_at {α : Type} {k : Kd α} {w : World} {S : Nat → Prop} {A : Option Addr} {n c : Nat} {xs : List α} (f : α → Value) (hk : ∀ x cs, k.K w S x cs → cs = [f x]) (h1 : k.size = 1) (h : Row k w S (.slice A n c) xs) {i : Nat} (hi : i < xs.length) :
    ∃ b off, A = some ⟨b, off, none⟩ ∧ w.cell? ⟨b, off + i, none⟩ = some (f xs[i]) := by
  have hn : n = xs.length := h.len
  obtain ⟨b, off, rfl, x, cs, hx, hkx, hc⟩ := h.at (i := i) (by omega)
  have hcs := hk x cs hkx
  subst hcs
  refine ⟨b, off, rfl, ?_⟩
  have := hc 0 _ rfl
  rw [h1, Nat.mul_one, Nat.add_zero] at this
  rw [this]
  rw [List.getElem?_eq_getElem hi] at hx
  injection hx with hx
  rw [hx]
theorem Row.bool_at {w : World} {S : Nat → Prop} {A : Option Addr} {n c : Nat} {xs : List Bool} (h : Row kBool w S (.slice A n c) xs) {i : Nat} (hi : i < xs.length) :
    ∃ b off, A = some ⟨b, off, none⟩ ∧ w.cell? ⟨b, off + i, none⟩ = some (.bool xs[i]) := h.one_at (fun x => .bool x) (fun _ _ h => h) rfl hi
theorem Row.num_at {k : IntKind} {w : World} {S : Nat → Prop} {A : Option Addr} {n c : Nat} {xs : List Int} (h : Row (kNum k) w S (.slice A n c) xs) {i : Nat} (hi : i < xs.length) :
    ∃ b off, A = some ⟨b, off, none⟩ ∧ w.cell? ⟨b, off + i, none⟩ = some (.int k xs[i]) := h.one_at (fun x => .int k x) (fun _ _ h => h) rfl hi

theorem infoBool : (Try.prog.info? 4).map (fun i => (i.zero, i.size, i.bytes)) = some (some (.bool false), 1, 1) := by kernel_rfl
theorem infoU32 : (Try.prog.info? 131).map (fun i => (i.zero, i.size, i.bytes)) = some (some (.int .u32 0), 1, 4) := by kernel_rfl

/-- what was made in the call is none of S -/
theorem Own.fresh {α : Type} {k : Kd α} {e : TypeId} {w w' : World} {v : Value} {xs : List α} (h : Own k e w' none w.heap.size v xs) (hk : ∀ (S : Nat → Prop) x cs, k.K w' S x cs → ∀ S', k.K w' S' x cs) (hs : 0 < k.size) {S : Nat → Prop} (hS : There S w) : Row k w' S v xs := by
  obtain ⟨A, c, css, rfl, r1, r2, r0, r3, r4⟩ := h.row hs (Nat.le_refl _)
  refine ⟨A, c, css, rfl, r1, r2, r0, ⟨r3.1, fun i x cs hx hc => hk _ _ _ (r3.2 i x cs hx hc) _⟩, fun hn => ?_⟩
  obtain ⟨b, off, rfl, q1, _, q3⟩ := r4 hn
  have := (h.base (g := b) rfl).1
  exact ⟨b, off, rfl, q1, fun hb => by have := hS b hb; omega, q3⟩
theorem Own.bools {e : TypeId} {w w' : World} {v : Value} {xs : List Bool} (h : Own kBool e w' none w.heap.size v xs) {S : Nat → Prop} (hS : There S w) : Row kBool w' S v xs := h.fresh (fun _ _ _ h _ => h) Nat.zero_lt_one hS
theorem Own.nums {k : IntKind} {e : TypeId} {w w' : World} {v : Value} {xs : List Int} (h : Own (kNum k) e w' none w.heap.size v xs) {S : Nat → Prop} (hS : There S w) : Row (kNum k) w' S v xs := h.fresh (fun _ _ _ h _ => h) Nat.zero_lt_one hS

/-- b's bit at a place -/
theorem bit_refG (w : World) (S : Nat → Prop) (v : Value) (n m : Nat) (i : Int) (hx : Row kBool w S v (lowBits n m)) (hnm : n < 2 ^ m) (_hn : m ≤ 1099511627776) :
    Calls Try.prog 109 #[v, .int .i64 i] w fun e w' => e = .returned (.bool (decide (0 ≤ i) && n.testBit i.toNat)) ∧ w = w' := by
  obtain ⟨A, c, rfl, hc1, hc2⟩ := hx.shape
  unfold maxLen at hc2
  have hl := lowBits_length n m
  by_cases h0 : 0 ≤ i
  · obtain ⟨k, rfl⟩ := Int.eq_ofNat_of_zero_le h0
    by_cases hk : k < m
    · obtain ⟨b, off, rfl, hcell⟩ := hx.bool_at (i := k) (by omega)
      have hb : (lowBits n m)[k]'(by omega) = n.testBit k := by simp [lowBits]
      rw [hb] at hcell
      have hk' : k < (lowBits n m).length := by omega
      clear hb hl hx hnm
      go_enter Try.func109, Try.ntmps109
      go_wp2
      go_ret
      exact ⟨by simp, rfl⟩
    · have hk' : ¬ k < (lowBits n m).length := by omega
      have ht : n.testBit k = false := Nat.testBit_lt_two_pow (Nat.lt_of_lt_of_le hnm (Nat.pow_le_pow_right (by omega) (by omega)))
      have HT := Lib.hid ht
      clear hl hx ht hnm
      go_enter Try.func109, Try.ntmps109
      go_wp2
      go_ret
      exact ⟨by simp [HT.out], rfl⟩
  · clear hl hx hnm
    go_enter Try.func109, Try.ntmps109
    go_wp2
    go_ret
    exact ⟨by rw [decide_eq_false (by omega)]; rfl, rfl⟩
theorem bit_ref (w : World) (S : Nat → Prop) (v : Value) (n : Nat) (i : Int) (hx : Row kBool w S v (natBits n)) (hn : nbits n ≤ 1099511627776) :
    Calls Try.prog 109 #[v, .int .i64 i] w fun e w' => e = .returned (.bool (decide (0 ≤ i) && n.testBit i.toNat)) ∧ w = w' :=
  bit_refG w S v n (nbits n) i hx (lt_nbits n) hn
theorem bit_atG (w : World) (S : Nat → Prop) (v : Value) (n m k : Nat) (b : Bool) (hx : Row kBool w S v (lowBits n m)) (hnm : n < 2 ^ m) (hn : m ≤ 1099511627776) (hb : n.testBit k = b) :
    Calls Try.prog 109 #[v, .int .i64 k] w fun e w' => e = .returned (.bool b) ∧ w = w' :=
  (bit_refG w S v n m k hx hnm hn).mono fun e w' ⟨he, hw⟩ => ⟨by rw [he, Int.toNat_natCast, hb, decide_eq_true (by omega)]; rfl, hw⟩
/-- the same, at a place that is no less than 0, the bit known -/
theorem bit_at (w : World) (S : Nat → Prop) (v : Value) (n k : Nat) (b : Bool) (hx : Row kBool w S v (natBits n)) (hn : nbits n ≤ 1099511627776) (hb : n.testBit k = b) :
    Calls Try.prog 109 #[v, .int .i64 k] w fun e w' => e = .returned (.bool b) ∧ w = w' :=
  (bit_ref w S v n k hx hn).mono fun e w' ⟨he, hw⟩ => ⟨by rw [he, Int.toNat_natCast, hb, decide_eq_true (by omega)]; rfl, hw⟩

/-- no bits 0 at the end -/
theorem cut_ref (w : World) (S : Nat → Prop) (v : Value) (n k : Nat) (hx : Row kBool w S v (lowBits n k)) (_hk : k ≤ 1099511627776) :
    Calls Try.prog 108 #[v] w fun e w' => ∃ v', e = .returned v' ∧ Row kBool w S v' (natBits (n % 2 ^ k)) ∧ w = w' := by
  obtain ⟨A, c, rfl, hc1, hc2⟩ := hx.shape
  unfold maxLen at hc2
  have hl := lowBits_length n k
  have HX := Lib.hid hx
  rw [hl] at hc1
  go_enter Try.func108, Try.ntmps108
  go_wp2
  go_loop [3] (fun v => ∃ m : Nat, m ≤ k ∧ v = .int .i64 m ∧ ∀ j, m ≤ j → j < k → n.testBit j = false) (fun v => (intOf v).toNat)
  case atStart => exact ⟨k, Nat.le_refl _, by simp, fun j h1 h2 => by omega⟩
  case round =>
    obtain ⟨m, hm, rfl, h0⟩ := hrel
    have H0 := Lib.hid h0
    clear h0 hx
    rcases Nat.eq_zero_or_pos m with hz | hpos
    · subst hz
      clear hl
      go_wp2
      go_ret
      have h2 := HX.out.take 0 (Nat.zero_le _)
      refine ⟨_, rfl, ?_, rfl⟩
      rw [← cut_lowBits n k 0 (Nat.zero_le _) (fun j _ h => H0.out j (Nat.zero_le _) h) (fun h => by omega), ← lowBits_take n k 0 (Nat.zero_le _)]
      exact h2
    · obtain ⟨q, rfl⟩ : ∃ q, m = q + 1 := ⟨m - 1, by omega⟩
      obtain ⟨b, off, rfl, hcell⟩ := HX.out.bool_at (i := q) (by omega)
      have hq : (lowBits n k)[q]'(by omega) = n.testBit q := by simp [lowBits]
      rw [hq] at hcell
      clear hq
      have hlq : q < (lowBits n k).length := by omega
      have hlk : q + 1 ≤ (lowBits n k).length := by omega
      clear hl
      cases hb : n.testBit q with
      | false =>
        rw [hb] at hcell
        have HB := Lib.hid hb
        clear hb
        go_wp2
        go_round
        case rel => exact ⟨q, by omega, by go_num, fun j h1 h2 => by
          rcases Nat.lt_or_ge q j with h | h
          · exact H0.out j h h2
          · rw [show j = q by omega]; exact HB.out⟩
        case measure => simp [intOf]
      | true =>
        rw [hb] at hcell
        have HB := Lib.hid hb
        clear hb
        have h2 := Lib.hid (HX.out.take (q + 1) hlk)
        go_wp2
        go_ret
        refine ⟨_, rfl, ?_, rfl⟩
        rw [← cut_lowBits n k (q + 1) hm (fun j h h' => H0.out j h h') (fun _ => by simpa using HB.out), ← lowBits_take n k (q + 1) hm]
        exact h2.out

end Go.Proofs.Ytbfjacgfifecpaa

/-! ## More of the references' numbers: of parts, as parts, sums. -/
namespace Go.Proofs.Ytbfjacgfifecpaa
open Go.RowKit

theorem partsVal_get (xs : List Int) (h : okParts xs) (i : Nat) (hi : i < xs.length) : partsVal xs / 2 ^ (32 * i) % 4294967296 = (xs[i]).toNat := by
  induction xs generalizing i with
  | nil => simp at hi
  | cons x xs ih =>
    have hx := h x (by simp)
    match i with
    | 0 => simp only [partsVal, Nat.mul_zero, Nat.pow_zero, Nat.div_one, List.getElem_cons_zero]; omega
    | i + 1 =>
      have := ih (fun y hy => h y (by simp [hy])) i (by simpa using hi)
      simp only [partsVal, List.getElem_cons_succ]
      rw [show 32 * (i + 1) = 32 + 32 * i by omega, Nat.pow_add, ← Nat.div_div_eq_div_mul, ← this]
      congr 2
      rw [show (2 : Nat) ^ 32 = 4294967296 by decide]
      omega
theorem partsVal_testBit (xs : List Int) (h : okParts xs) (i j : Nat) (hi : i < xs.length) (hj : j < 32) : (partsVal xs).testBit (32 * i + j) = (xs[i]).toNat.testBit j := by
  rw [← partsVal_get xs h i hi, show (4294967296 : Nat) = 2 ^ 32 by decide, Nat.testBit_mod_two_pow, Nat.testBit_div_two_pow]
  simp [hj, Nat.add_comm]
theorem half_testBit (x : Nat) : x % 2 = (if x.testBit 0 then 1 else 0) := by
  rw [Nat.testBit_zero]; rcases Nat.mod_two_eq_zero_or_one x with h | h <;> simp [h]

set_option maxHeartbeats 1000000 in
/-- bits of parts -/
theorem of_ref (w : World) (S : Nat → Prop) (hS : There S w) (v : Value) (xs : List Int) (hx : Row (kNum .u32) w S v xs) (hok : okParts xs) (hl : xs.length ≤ 4294967296) :
    Calls Try.prog 101 #[v] w fun e w' => ∃ v', e = .returned v' ∧ Row kBool w' S v' (natBits (partsVal xs)) ∧ Below w.heap.size w w' := by
  obtain ⟨A, c, rfl, hc1, hc2⟩ := hx.shape
  unfold maxLen at hc2
  have HX := Lib.hid hx
  have HO := Lib.hid hok
  clear hx hok
  go_enter Try.func101, Try.ntmps101
  go_wp2
  go_loopw [3, 4] (fun v i wr => ∃ j : Nat, j ≤ xs.length ∧ i = .int .i64 j ∧ Own kBool 4 wr none w.heap.size v (lowBits (partsVal xs) (32 * j)) ∧ Below w.heap.size w wr)
    (fun _ i _ => xs.length - (intOf i).toNat)
  case atStart => exact ⟨0, Nat.zero_le _, rfl, Own.lit0 kBool _ w, (Below.refl _ _).alloc (Nat.le_refl _) _⟩
  case round =>
    obtain ⟨j, hj, rfl, ho, hb⟩ := hrel
    by_cases hlt : j < xs.length
    · obtain ⟨b, off, rfl, hcell⟩ := (HX.out.below hb).num_at hlt
      have hxr : 0 ≤ xs[j] ∧ xs[j] < 4294967296 := HO.out _ (List.getElem_mem hlt)
      have HT := Lib.hid (fun q (hq : q < 32) => partsVal_testBit xs HO.out j q hlt hq)
      generalize xs[j] = x at hcell hxr HT
      obtain ⟨hx0, hx1⟩ := hxr
      obtain ⟨n, rfl⟩ := Int.eq_ofNat_of_zero_le hx0
      have hn1 : n < 4294967296 := by omega
      have HOWN := Lib.hid ho
      have HB := Lib.hid hb
      have hbs := hb.size
      clear hx0 hx1 ho hb
      go_wp2
      obtain ⟨wo, rfl⟩ : ∃ wo : World, wo = wr := ⟨_, rfl⟩
      go_loopw [3, 5, 6] (fun v m q wr => ∃ (k d : Nat), k ≤ 32 ∧ q = .int .i64 k ∧ m = .int .u32 d ∧ d = n / 2 ^ k ∧ d < 4294967296 ∧ Own kBool 4 wr none w.heap.size v (lowBits (partsVal xs) (32 * j + k)) ∧ Below w.heap.size w wr)
        (fun _ _ q _ => 32 - (intOf q).toNat)
      case atStart => exact ⟨0, n, by omega, rfl, rfl, by simp, hn1, HOWN.out, HB.out⟩
      case round =>
        obtain ⟨k, d, hk, rfl, rfl, hd, hd2, ho, hb⟩ := hrel
        obtain ⟨A', c', rfl, -, -⟩ := ho.shape
        have HD := Lib.hid hd
        have hlen : (lowBits (partsVal xs) (32 * j + k)).length ≤ 137438953504 := by rw [lowBits_length]; omega
        have HS := Lib.hid (lowBits_succ (partsVal xs) (32 * j + k))
        clear hd
        by_cases hk2 : k < 32
        · have hbit : (partsVal xs).testBit (32 * j + k) = d.testBit 0 := by
            have h1 := HT.out k hk2
            rw [Int.toNat_natCast] at h1
            rw [h1, HD.out, Nat.testBit_div_two_pow, Nat.zero_add]
          have hdd : d / 2 = n / 2 ^ (k + 1) := by rw [HD.out, Nat.pow_succ, Nat.div_div_eq_div_mul]
          have HBIT := Lib.hid hbit
          have HDD := Lib.hid hdd
          have hmod := half_testBit d
          generalize lowBits (partsVal xs) (32 * j + k) = ys at ho HS hlen
          clear hbit hdd
          cases htb : d.testBit 0 with
          | false =>
            have hm : d % 2 = 0 := by rw [hmod, htb]; rfl
            have h2 : ((d : Int) % 2 == 1) = false := by have : (d : Int) % 2 = 0 := by omega
                                                         rw [this]; rfl
            have HTB := Lib.hid htb
            clear hmod htb hm
            go_wp2_with (at_builtin; refine app1 kBool 4 127 (.bool false) 1 rfl (.tmp 22) (.tmp 26) rfl Try.underlying127 infoBool rfl (by decide) (by decide) none w.heap.size ho (FootIn.none _) (by have := hb.size; omega) rfl false _ rfl rfl (by omega) ?_; intro v' w3 q1 q2 _ _ _ _)
            go_roundw
            case rel => exact ⟨k + 1, d / 2, by omega, by go_num, by go_num, HDD.out, by omega, by rw [← Nat.add_assoc, HS.out, HBIT.out, HTB.out]; exact q1, hb.trans q2.below⟩
            case measure => simp [intOf]; omega
          | true =>
            have hm : d % 2 = 1 := by rw [hmod, htb]; rfl
            have h2 : ((d : Int) % 2 == 1) = true := by have : (d : Int) % 2 = 1 := by omega
                                                        rw [this]; rfl
            have HTB := Lib.hid htb
            clear hmod htb hm
            go_wp2_with (at_builtin; refine app1 kBool 4 127 (.bool false) 1 rfl (.tmp 22) (.tmp 26) rfl Try.underlying127 infoBool rfl (by decide) (by decide) none w.heap.size ho (FootIn.none _) (by have := hb.size; omega) rfl true _ rfl rfl (by omega) ?_; intro v' w3 q1 q2 _ _ _ _)
            go_roundw
            case rel => exact ⟨k + 1, d / 2, by omega, by go_num, by go_num, HDD.out, by omega, by rw [← Nat.add_assoc, HS.out, HBIT.out, HTB.out]; exact q1, hb.trans q2.below⟩
            case measure => simp [intOf]; omega
        · obtain rfl : k = 32 := by omega
          clear hlen
          go_wp2
          go_roundw
          case rel => exact ⟨j + 1, by omega, by go_num, by rw [Nat.mul_succ]; exact ho, hb⟩
          case measure => simp [intOf]; omega
    · obtain rfl : j = xs.length := by omega
      have hr := Lib.hid (ho.bools hS)
      have hll : 32 * xs.length ≤ 1099511627776 := by omega
      obtain ⟨A', c', rfl, -, -⟩ := ho.shape
      clear ho
      have hmod : partsVal xs % 2 ^ (32 * xs.length) = partsVal xs := Nat.mod_eq_of_lt (by rw [Nat.pow_mul]; exact partsVal_lt xs HO.out)
      have HM := Lib.hid hmod
      clear hmod
      go_wp2_with (go_at_call 108; refine (cut_ref _ S _ _ _ hr.out hll).mono ?_; rintro e w2 ⟨v2, rfl, hrow, rfl⟩; have HR := Lib.hid hrow; clear hrow)
      go_ret
      exact ⟨_, rfl, by have := HR.out; rwa [HM.out] at this, hb⟩

end Go.Proofs.Ytbfjacgfifecpaa

/-! ## Sums, differences, products, shifts of the references' numbers. -/
namespace Go.Proofs.Ytbfjacgfifecpaa
open Go.RowKit

theorem flat_bools (xs : List Bool) : (xs.map fun x => [Value.bool x]).flatten = xs.map fun x => Value.bool x := by
  induction xs with
  | nil => rfl
  | cons x xs ih => simp [ih]
theorem bools_pairs (w : World) (S : Nat → Prop) (xs : List Bool) : Pairs kBool w S xs (xs.map fun x => [Value.bool x]) :=
  ⟨by simp, fun i x cs hx hc => by rw [List.getElem?_map, hx] at hc; injection hc with hc; exact hc.symm⟩
theorem lit_bools (w : World) (l : List Bool) (hl : l.length ≤ 1099511627776) : Own kBool 4 (w.alloc (.cells (l.map fun x => Value.bool x).toArray 4)) none w.heap.size (.slice (some ⟨w.heap.size, 0, none⟩) l.length l.length) l := by
  have h := World.ownsRow_lit (base := w.heap.size) (e := 4) (size := 1) w (l.map fun x => Value.bool x).toArray l.length (Nat.le_refl _) (by simp only [maxLen]; omega) (by simp)
  exact ⟨_, by rw [flat_bools]; exact h, bools_pairs _ _ _, fun _ _ => foot_none _ _⟩
theorem div_succ (a k : Nat) : a / 2 ^ k = 2 * (a / 2 ^ (k + 1)) + (if a.testBit k then 1 else 0) := by
  rw [Nat.pow_succ, ← Nat.div_div_eq_div_mul, testBit_div]
  rcases Nat.mod_two_eq_zero_or_one (a / 2 ^ k) with h | h <;> simp [h] <;> omega
theorem lt_of_div_lt {a b k : Nat} (h : a / 2 ^ k < b / 2 ^ k) : a < b := by
  rcases Nat.lt_or_ge a b with h1 | h1
  · exact h1
  · exact absurd (Nat.div_le_div_right (c := 2 ^ k) h1) (by omega)
def cmpNat (a b : Nat) : Int := if b < a then 1 else if a < b then -1 else 0

end Go.Proofs.Ytbfjacgfifecpaa

/-! ## Parts of bits; are parts the same? -/
namespace Go.Proofs.Ytbfjacgfifecpaa
open Go.RowKit

theorem window_succ (n m s : Nat) : n / 2 ^ m % 2 ^ (s + 1) = 2 * (n / 2 ^ (m + 1) % 2 ^ s) + (if n.testBit m then 1 else 0) := by
  rw [Nat.pow_succ, Nat.mul_comm, Nat.mod_mul, Nat.div_div_eq_div_mul, ← Nat.pow_succ, testBit_div]
  rcases Nat.mod_two_eq_zero_or_one (n / 2 ^ m) with h | h <;> simp [h] <;> omega

theorem bit_atI (w : World) (S : Nat → Prop) (v : Value) (n : Nat) (i : Int) (k : Nat) (hi : i = (k : Int)) (b : Bool) (hx : Row kBool w S v (natBits n)) (hn : nbits n ≤ 1099511627776) (hb : n.testBit k = b) :
    Calls Try.prog 109 #[v, .int .i64 i] w fun e w' => e = .returned (.bool b) ∧ w = w' := by
  subst hi; exact bit_at w S v n k b hx hn hb

set_option maxHeartbeats 2000000 in
/-- parts of bits -/
theorem parts_ref (w : World) (S : Nat → Prop) (hS : There S w) (v : Value) (n : Nat) (hx : Row kBool w S v (natBits n)) (hn : nbits n ≤ 549755813888) :
    Calls Try.prog 103 #[v] w fun e w' => ∃ v', e = .returned v' ∧ Row (kNum .u32) w' S v' (parts32 n) ∧ Below w.heap.size w w' := by
  obtain ⟨A, c, rfl, hc1, hc2⟩ := hx.shape
  unfold maxLen at hc2
  have hl := natBits_length n
  have HX := Lib.hid hx
  obtain ⟨R, hR⟩ : ∃ R, R = (nbits n + 31) / 32 := ⟨_, rfl⟩
  have HRR := Lib.hid hR
  have HL := Lib.hid hl
  have hn2 : nbits n ≤ 1099511627776 := by omega
  have hRb : R ≤ 17179869185 := by omega
  have hp : parts32 n = (List.range R).map fun i => ((n / 2 ^ (32 * i) % 4294967296 : Nat) : Int) := by rw [hR]; rfl
  have HP := Lib.hid hp
  clear hx hR hl hp
  go_enter Try.func103, Try.ntmps103
  go_wp2
  go_loopw [3, 4] (fun v i wr => ∃ r : Nat, r ≤ R ∧ i = .int .i64 (32 * (r : Int)) ∧ Own (kNum .u32) 131 wr none w.heap.size v ((List.range r).map fun i => ((n / 2 ^ (32 * i) % 4294967296 : Nat) : Int)) ∧ Below w.heap.size w wr)
    (fun _ i _ => 32 * R - (intOf i).toNat)
  case atStart => exact ⟨0, Nat.zero_le _, rfl, Own.lit0 (kNum .u32) _ w, (Below.refl _ _).alloc (Nat.le_refl _) _⟩
  case round =>
    obtain ⟨r, hr, rfl, ho, hb⟩ := hrel
    by_cases hlt : r < R
    · have hlt2 : 32 * r < (natBits n).length := by have := HL.out; have := HRR.out; omega
      have hlt3 : 32 * (r : Int) < ((natBits n).length : Int) := by omega
      have HOWN := Lib.hid ho
      have HB := Lib.hid hb
      have hbs := hb.size
      have HXR := Lib.hid (HX.out.below hb)
      clear ho hb
      go_wp2
      obtain ⟨wo, rfl⟩ : ∃ wo : World, wo = wr := ⟨_, rfl⟩
      go_loop [5, 6] (fun d q => ∃ (k m : Nat), k ≤ 32 ∧ q = .int .i64 ((k : Int) - 1) ∧ d = .int .u32 m ∧ m = n / 2 ^ (32 * r + k) % 2 ^ (32 - k) ∧ m < 4294967296)
        (fun _ q => (intOf q + 1).toNat)
      case atStart => exact ⟨32, 0, by omega, rfl, rfl, by simp [Nat.mod_one], by omega⟩
      case round =>
        obtain ⟨k, m, hk, rfl, rfl, hm, hm2⟩ := hrel
        have HMM := Lib.hid hm
        clear hm
        rcases Nat.eq_zero_or_pos k with h0 | h0
        · subst h0
          have hm3 : m = n / 2 ^ (32 * r) % 4294967296 := HMM.out
          have HM3 := Lib.hid hm3
          have ho := HOWN.out
          have hb := HB.out
          obtain ⟨A', c', rfl, -, -⟩ := ho.shape
          have hlen : ((List.range r).map fun i => ((n / 2 ^ (32 * i) % 4294967296 : Nat) : Int)).length ≤ 17179869185 := by simp; omega
          have HS : Hid (((List.range (r + 1)).map fun i => ((n / 2 ^ (32 * i) % 4294967296 : Nat) : Int)) = ((List.range r).map fun i => ((n / 2 ^ (32 * i) % 4294967296 : Nat) : Int)) ++ [(m : Int)]) := by
            unfold Hid; rw [List.range_succ, List.map_append, hm3]; rfl
          clear hm3
          generalize ((List.range r).map fun i => ((n / 2 ^ (32 * i) % 4294967296 : Nat) : Int)) = ys at ho hlen HS
          go_wp2_with (at_builtin; refine app1 (kNum .u32) 131 92 (.int .u32 0) 4 rfl (.tmp 27) (.tmp 29) rfl Try.underlying92 infoU32 rfl Nat.zero_lt_one (by decide) none w.heap.size ho (FootIn.none _) (by omega) rfl _ _ rfl rfl (by omega) ?_; intro v' w3 q1 q2 _ _ _ _)
          go_roundw
          case rel => exact ⟨r + 1, by omega, by go_num, by rw [HS.out]; exact q1, hb.trans q2.below⟩
          case measure => simp [intOf]; omega
        · obtain ⟨q, rfl⟩ : ∃ q, k = q + 1 := ⟨k - 1, by omega⟩
          have hq : ((q + 1 : Nat) : Int) - 1 = (q : Int) := by omega
          rw [hq]
          have hw := window_succ n (32 * r + q) (31 - q)
          have hsm : m < 2147483648 := by
            have h1 : m < 2 ^ (32 - (q + 1)) := by rw [HMM.out]; exact Nat.mod_lt _ (Nat.two_pow_pos _)
            exact Nat.lt_of_lt_of_le h1 (show 2 ^ (32 - (q + 1)) ≤ 2 ^ 31 from Nat.pow_le_pow_right (by decide) (by omega))
          have hmm : 2 * m + (if n.testBit (32 * r + q) then 1 else 0) = n / 2 ^ (32 * r + q) % 2 ^ (32 - q) := by
            rw [show 32 - q = 31 - q + 1 by omega, hw, HMM.out, show 32 * r + (q + 1) = 32 * r + q + 1 by omega, show 32 - (q + 1) = 31 - q by omega]
          clear hq h0 hw
          have hadd : (32 * (r : Int) + (q : Int)) = ((32 * r + q : Nat) : Int) := by omega
          cases hbit : n.testBit (32 * r + q)
          all_goals
            have HBIT := Lib.hid hbit
            rw [hbit] at hmm
            have HM2 := Lib.hid hmm
            have HADD := Lib.hid hadd
            clear hbit hmm hadd
            go_wp2_with (go_at_call 109; refine (bit_atI _ S _ n _ (32 * r + q) HADD.out _ HXR.out hn2 HBIT.out).mono ?_; rintro e w2 ⟨rfl, rfl⟩)
          · go_round
            case rel => exact ⟨q, 2 * m, by omega, rfl, by go_num, by have := HM2.out; simpa using this, by omega⟩
            case measure => simp [intOf]
          · go_round
            case rel => exact ⟨q, 2 * m + 1, by omega, rfl, by go_num, by have := HM2.out; simpa using this, by omega⟩
            case measure => simp [intOf]
    · obtain rfl : r = R := by omega
      have hlt2 : ¬ 32 * (r : Int) < ((natBits n).length : Int) := by have := HL.out; have := HRR.out; omega
      obtain ⟨A', c', rfl, -, -⟩ := ho.shape
      go_wp2
      go_ret
      exact ⟨_, rfl, by rw [HP.out]; have h := ho.nums hS; rw [List.length_map, List.length_range] at h; exact h, hb⟩

theorem pw_drewN (w : World) (n : Nat) : Below w.heap.size w (w.drewN n) := ⟨rfl, rfl, rfl, Nat.le_refl _, fun _ _ => rfl⟩
/-- are parts the same? -/
theorem same_ref (w : World) (S S' : Nat → Prop) (v u : Value) (xs ys : List Int) (hx : Row (kNum .u32) w S v xs) (hy : Row (kNum .u32) w S' u ys) (_hl : xs.length ≤ 1099511627776) (_hm : ys.length ≤ 1099511627776) :
    Calls Try.prog 95 #[v, u] w fun e w' => e = .returned (.bool (decide (xs = ys))) ∧ Below w.heap.size w w' := by
  obtain ⟨A, c, rfl, hc1, hc2⟩ := hx.shape
  obtain ⟨A', c', rfl, hc1', hc2'⟩ := hy.shape
  unfold maxLen at hc2 hc2'
  by_cases hlen : xs.length = ys.length
  · have HX := Lib.hid hx
    have HY := Lib.hid hy
    have HLEN := Lib.hid hlen
    have hne : ((xs.length : Int) != (ys.length : Int)) = false := by simp [hlen]
    clear hx hy hlen
    go_enter Try.func95, Try.ntmps95
    go_wp2
    go_loopw [5] (fun i wr => ∃ k : Nat, k ≤ xs.length ∧ i = .int .i64 k ∧ xs.take k = ys.take k ∧ Below w.heap.size w wr) (fun i _ => xs.length - (intOf i).toNat)
    case atStart => exact ⟨0, Nat.zero_le _, rfl, rfl, Below.refl _ _⟩
    case round =>
      obtain ⟨k, hk, rfl, he, hb⟩ := hrel
      have HE := Lib.hid he
      have HB := Lib.hid hb
      clear he
      by_cases hlt : k < xs.length
      · have hlt' : k < ys.length := by have := HLEN.out; omega
        obtain ⟨b, off, rfl, z0⟩ := (HX.out.below hb).num_at hlt
        obtain ⟨b', off', rfl, z1⟩ := (HY.out.below hb).num_at hlt'
        have HT := Lib.hid (List.take_succ_eq_append_getElem hlt)
        have HT' := Lib.hid (List.take_succ_eq_append_getElem hlt')
        have HG : Hid (xs[k] ≠ ys[k] → xs ≠ ys) := fun h e => h (by simp [e])
        generalize xs[k] = x at z0 HT HG
        generalize ys[k] = y at z1 HT' HG
        by_cases hxy : x = y
        · subst hxy
          have hbne : (x != x) = false := by simp
          go_wp2_with fail
          go_quiet (fail)
          go_wp2
          go_roundw
          case rel => exact ⟨k + 1, by omega, by go_num, by rw [HT.out, HT'.out, HE.out], HB.out.trans ((pw_drewN _ _).mono HB.out.size)⟩
          case measure => simp [intOf]; omega
        · have hbne : (x != y) = true := by simpa using hxy
          have HXY := Lib.hid hxy
          clear hxy
          go_wp2_with fail
          go_quiet (fail)
          go_wp2
          go_ret
          exact ⟨by rw [decide_eq_false (HG.out HXY.out)]; rfl, HB.out.trans ((pw_drewN _ _).mono HB.out.size)⟩
      · obtain rfl : k = xs.length := by omega
        go_wp2
        go_ret
        have := HE.out
        rw [List.take_length, HLEN.out, List.take_length] at this
        exact ⟨by rw [decide_eq_true this]; rfl, hb⟩
  · have hne : ((xs.length : Int) != (ys.length : Int)) = true := by simp; omega
    have HLEN := Lib.hid hlen
    clear hx hy hlen
    go_enter Try.func95, Try.ntmps95
    go_wp2
    go_ret
    exact ⟨by rw [decide_eq_false (fun e => HLEN.out (by rw [e]))]; rfl, Below.refl _ _⟩

end Go.Proofs.Ytbfjacgfifecpaa

/-! ## slipstickref14, and a word of 64 bits as bits. -/
namespace Go.Proofs.Ytbfjacgfifecpaa
open Go.RowKit

theorem nbits_pow (n : Nat) : nbits (2 ^ n) ≤ n + 1 := nbits_le (Nat.pow_lt_pow_right (by omega) (by omega))
theorem nbits_parts {xs : List Int} (h : okParts xs) : nbits (partsVal xs) ≤ 32 * xs.length := nbits_le (by
  have := partsVal_lt xs h
  rw [Nat.pow_mul]; exact this)
theorem nbits_add (a b : Nat) : nbits (a + b) ≤ max (nbits a) (nbits b) + 1 := by
  refine nbits_le ?_
  have h1 := lt_nbits a
  have h2 := lt_nbits b
  have h3 : 2 ^ nbits a ≤ 2 ^ (max (nbits a) (nbits b)) := Nat.pow_le_pow_right (by omega) (by omega)
  have h4 : 2 ^ nbits b ≤ 2 ^ (max (nbits a) (nbits b)) := Nat.pow_le_pow_right (by omega) (by omega)
  rw [Nat.pow_succ]; omega
theorem nbits_mono {a b : Nat} (h : a ≤ b) : nbits a ≤ nbits b := nbits_le (Nat.lt_of_le_of_lt h (lt_nbits b))

theorem cmp_geq (a b : Nat) : (decide (0 ≤ cmpNat a b)) = decide (b ≤ a) := by
  unfold cmpNat
  split
  · simp; omega
  · split
    · simp; omega
    · simp; omega

theorem div_pos_nbits {n k : Nat} : 0 < n / 2 ^ k ↔ k < nbits n := by
  have h := nbits_lt_iff (n := n) (k := k)
  have h2 : n / 2 ^ k = 0 ↔ n < 2 ^ k := Nat.div_eq_zero_iff_lt (Nat.two_pow_pos k)
  generalize n / 2 ^ k = q at *
  generalize 2 ^ k = P at *
  omega
end Go.Proofs.Ytbfjacgfifecpaa
