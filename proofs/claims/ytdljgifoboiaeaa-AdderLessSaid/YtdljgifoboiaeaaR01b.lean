/- More of the references' numbers: of parts, as parts, sums. -/
import Derived.Test.YtdljgifoboiaeaaR01
namespace Go.Proofs.Ytdljgifoboiaeaa
open Go.RowKit

theorem partsVal_get (xs : List Int) (h : okParts xs) (i : Nat) (hi : i < xs.length) : partsVal xs / 2 ^ (32 * i) % 4294967296 = (xs[i]).toNat := by
  induction xs generalizing i with
  | nil => simp at hi
  | cons x xs ih =>
    have hx := h x (by simp)
    match i with
    | 0 => simp only [partsVal, Nat.mul_zero, Nat.pow_zero, Nat.div_one, List.getElem_cons_zero]; omega
    | i + 1 =>
      have := ih (fun y hy => h y (by simp [hy])) i (by simpa using hi)
      simp only [partsVal, List.getElem_cons_succ]
      rw [show 32 * (i + 1) = 32 + 32 * i by omega, Nat.pow_add, ← Nat.div_div_eq_div_mul, ← this]
      congr 2
      rw [show (2 : Nat) ^ 32 = 4294967296 by decide]
      omega
theorem partsVal_testBit (xs : List Int) (h : okParts xs) (i j : Nat) (hi : i < xs.length) (hj : j < 32) : (partsVal xs).testBit (32 * i + j) = (xs[i]).toNat.testBit j := by
  rw [← partsVal_get xs h i hi, show (4294967296 : Nat) = 2 ^ 32 by decide, Nat.testBit_mod_two_pow, Nat.testBit_div_two_pow]
  simp [hj, Nat.add_comm]
theorem half_testBit (x : Nat) : x % 2 = (if x.testBit 0 then 1 else 0) := by
  rw [Nat.testBit_zero]; rcases Nat.mod_two_eq_zero_or_one x with h | h <;> simp [h]

set_option maxHeartbeats 1000000 in
/-- bits of parts -/
theorem of_ref (w : World) (S : Nat → Prop) (hS : There S w) (v : Value) (xs : List Int) (hx : Row (kNum .u32) w S v xs) (hok : okParts xs) (hl : xs.length ≤ 4294967296) :
    Calls Try.prog 23 #[v] w fun e w' => ∃ v', e = .returned v' ∧ Row kBool w' S v' (natBits (partsVal xs)) ∧ Below w.heap.size w w' := by
  obtain ⟨A, c, rfl, hc1, hc2⟩ := hx.shape
  unfold maxLen at hc2
  have HX := Lib.hid hx
  have HO := Lib.hid hok
  clear hx hok
  go_enter Try.func23, Try.ntmps23
  go_wp2
  go_loopw [3, 4] (fun v i wr => ∃ j : Nat, j ≤ xs.length ∧ i = .int .i64 j ∧ Own kBool 4 wr none w.heap.size v (lowBits (partsVal xs) (32 * j)) ∧ Below w.heap.size w wr)
    (fun _ i _ => xs.length - (intOf i).toNat)
  case atStart => exact ⟨0, Nat.zero_le _, rfl, Own.lit0 kBool _ w, (Below.refl _ _).alloc (Nat.le_refl _) _⟩
  case round =>
    obtain ⟨j, hj, rfl, ho, hb⟩ := hrel
    by_cases hlt : j < xs.length
    · obtain ⟨b, off, rfl, hcell⟩ := (HX.out.below hb).num_at hlt
      have hxr : 0 ≤ xs[j] ∧ xs[j] < 4294967296 := HO.out _ (List.getElem_mem hlt)
      have HT := Lib.hid (fun q (hq : q < 32) => partsVal_testBit xs HO.out j q hlt hq)
      generalize xs[j] = x at hcell hxr HT
      obtain ⟨hx0, hx1⟩ := hxr
      obtain ⟨n, rfl⟩ := Int.eq_ofNat_of_zero_le hx0
      have hn1 : n < 4294967296 := by omega
      have HOWN := Lib.hid ho
      have HB := Lib.hid hb
      have hbs := hb.size
      clear hx0 hx1 ho hb
      go_wp2
      obtain ⟨wo, rfl⟩ : ∃ wo : World, wo = wr := ⟨_, rfl⟩
      go_loopw [3, 5, 6] (fun v m q wr => ∃ (k d : Nat), k ≤ 32 ∧ q = .int .i64 k ∧ m = .int .u32 d ∧ d = n / 2 ^ k ∧ d < 4294967296 ∧ Own kBool 4 wr none w.heap.size v (lowBits (partsVal xs) (32 * j + k)) ∧ Below w.heap.size w wr)
        (fun _ _ q _ => 32 - (intOf q).toNat)
      case atStart => exact ⟨0, n, by omega, rfl, rfl, by simp, hn1, HOWN.out, HB.out⟩
      case round =>
        obtain ⟨k, d, hk, rfl, rfl, hd, hd2, ho, hb⟩ := hrel
        obtain ⟨A', c', rfl, -, -⟩ := ho.shape
        have HD := Lib.hid hd
        have hlen : (lowBits (partsVal xs) (32 * j + k)).length ≤ 137438953504 := by rw [lowBits_length]; omega
        have HS := Lib.hid (lowBits_succ (partsVal xs) (32 * j + k))
        clear hd
        by_cases hk2 : k < 32
        · have hbit : (partsVal xs).testBit (32 * j + k) = d.testBit 0 := by
            have h1 := HT.out k hk2
            rw [Int.toNat_natCast] at h1
            rw [h1, HD.out, Nat.testBit_div_two_pow, Nat.zero_add]
          have hdd : d / 2 = n / 2 ^ (k + 1) := by rw [HD.out, Nat.pow_succ, Nat.div_div_eq_div_mul]
          have HBIT := Lib.hid hbit
          have HDD := Lib.hid hdd
          have hmod := half_testBit d
          generalize lowBits (partsVal xs) (32 * j + k) = ys at ho HS hlen
          clear hbit hdd
          cases htb : d.testBit 0 with
          | false =>
            have hm : d % 2 = 0 := by rw [hmod, htb]; rfl
            have h2 : ((d : Int) % 2 == 1) = false := by have : (d : Int) % 2 = 0 := by omega
                                                         rw [this]; rfl
            have HTB := Lib.hid htb
            clear hmod htb hm
            go_wp2_with (at_builtin; refine app1 kBool 4 42 (.bool false) 1 rfl (.tmp 22) (.tmp 26) rfl Try.underlying42 infoBool rfl (by decide) (by decide) none w.heap.size ho (FootIn.none _) (by have := hb.size; omega) rfl false _ rfl rfl (by omega) ?_; intro v' w3 q1 q2 _ _ _ _)
            go_roundw
            case rel => exact ⟨k + 1, d / 2, by omega, by go_num, by go_num, HDD.out, by omega, by rw [← Nat.add_assoc, HS.out, HBIT.out, HTB.out]; exact q1, hb.trans q2.below⟩
            case measure => simp [intOf]; omega
          | true =>
            have hm : d % 2 = 1 := by rw [hmod, htb]; rfl
            have h2 : ((d : Int) % 2 == 1) = true := by have : (d : Int) % 2 = 1 := by omega
                                                        rw [this]; rfl
            have HTB := Lib.hid htb
            clear hmod htb hm
            go_wp2_with (at_builtin; refine app1 kBool 4 42 (.bool false) 1 rfl (.tmp 22) (.tmp 26) rfl Try.underlying42 infoBool rfl (by decide) (by decide) none w.heap.size ho (FootIn.none _) (by have := hb.size; omega) rfl true _ rfl rfl (by omega) ?_; intro v' w3 q1 q2 _ _ _ _)
            go_roundw
            case rel => exact ⟨k + 1, d / 2, by omega, by go_num, by go_num, HDD.out, by omega, by rw [← Nat.add_assoc, HS.out, HBIT.out, HTB.out]; exact q1, hb.trans q2.below⟩
            case measure => simp [intOf]; omega
        · obtain rfl : k = 32 := by omega
          clear hlen
          go_wp2
          go_roundw
          case rel => exact ⟨j + 1, by omega, by go_num, by rw [Nat.mul_succ]; exact ho, hb⟩
          case measure => simp [intOf]; omega
    · obtain rfl : j = xs.length := by omega
      have hr := Lib.hid (ho.bools hS)
      have hll : 32 * xs.length ≤ 1099511627776 := by omega
      obtain ⟨A', c', rfl, -, -⟩ := ho.shape
      clear ho
      have hmod : partsVal xs % 2 ^ (32 * xs.length) = partsVal xs := Nat.mod_eq_of_lt (by rw [Nat.pow_mul]; exact partsVal_lt xs HO.out)
      have HM := Lib.hid hmod
      clear hmod
      go_wp2_with (go_at_call 95; refine (cut_ref _ S _ _ _ hr.out hll).mono ?_; rintro e w2 ⟨v2, rfl, hrow, rfl⟩; have HR := Lib.hid hrow; clear hrow)
      go_ret
      exact ⟨_, rfl, by have := HR.out; rwa [HM.out] at this, hb⟩

end Go.Proofs.Ytdljgifoboiaeaa
