/- The reference's times. -/
import Derived.Test.YtbfjacgfifecpaaNh
namespace Go.Proofs.Ytbfjacgfifecpaa
open Go.RowKit

theorem count_snoc (bs : List Int) (x a : Int) : (((bs ++ [x]).count a : Nat) : Int) = ((bs.count a : Nat) : Int) + if x = a then 1 else 0 := by
  rw [List.count_append, List.count_cons, List.count_nil]
  by_cases h : x = a <;> simp [h]

set_option maxHeartbeats 1000000 in
set_option maxRecDepth 4096 in
theorem times_ref (w : World) (v : Value) (nodes : List Node) (ins outs : List Port) (at_ : Int) (hN : NetV w v nodes ins outs) (hi : ins.length ≤ 1073741824) (hsum : (ins.flatMap (·.bits)).length ≤ 1099511627776) :
    Calls Try.prog 47 #[v, .int .i64 at_] w fun e w' => e = .returned (.int .i64 (((ins.flatMap (·.bits)).count at_ : Nat) : Int)) ∧ Below w.heap.size w w' := by
  obtain ⟨An, cn, Ai, ci, Ao, co, rfl, hbox⟩ := hN.box
  let ob := netBox (.slice An nodes.length cn) (.slice Ai ins.length ci) (.slice Ao outs.length co)
  have hsz : (w.alloc ob).heap.size = w.heap.size + 1 := by simp
  have HBOX := Lib.hid hbox
  have HSZ := Lib.hid hsz
  have HSUM := Lib.hid hsum
  clear hbox hsz hN hsum
  go_enter Try.func47, Try.ntmps47
  go_wp2_with fail
  go_loopw [5, 6, 7] (fun cv iv kv wr => ∃ i : Nat, iv = .int .i64 i ∧ i ≤ ins.length ∧ cv = .int .i64 ((((ins.take i).flatMap (·.bits)).count at_ : Nat) : Int) ∧ Hid (Below (w.heap.size + 1) (w.alloc ob) wr)) (fun cv iv kv _ => ins.length - (intOf iv).toNat)
  case atStart => exact ⟨0, rfl, Nat.zero_le _, rfl, Lib.hid (Below.refl _ _)⟩
  case round =>
    obtain ⟨i, rfl, hil, rfl, HB⟩ := hrel
    obtain ⟨-, z1, -, -, hri, -, hbw⟩ := HBOX.out _ HB.out
    have hszr : w.heap.size + 1 ≤ wr.heap.size := by have := HB.out.size; have := HSZ.out; omega
    by_cases hlt : i < ins.length
    · obtain ⟨b, off, A3, d3, rfl, y0, y1, hbits⟩ := hri.port_at hlt
      have HFT := Lib.hid (flat_take hlt)
      have HFL := Lib.hid (fun k => Nat.le_trans (flat_len (k := k) hlt) HSUM.out)
      obtain ⟨x, hxx⟩ : ∃ x, ins[i] = x := ⟨_, rfl⟩
      rw [hxx] at y0 y1 hbits HFT
      simp only [hxx] at HFL
      clear hxx
      obtain ⟨s, bs⟩ := x
      dsimp only at y0 y1 hbits HFT HFL
      have hbl : bs.length ≤ 1099511627776 := by
        have := HFL.out bs.length
        rw [List.take_length, List.length_append] at this
        omega
      have HBT := Lib.hid hbits
      have HB1 := Lib.hid HB.out
      obtain ⟨F, hF⟩ : ∃ F, (ins.take i).flatMap (·.bits) = F := ⟨_, rfl⟩
      rw [hF] at HFT
      simp only [hF] at HFL
      rw [hF]
      clear hF hbits hri hbw y0
      go_wp2_with fail
      clear z1
      obtain ⟨wo, hwo⟩ : ∃ wo, wo = wr := ⟨_, rfl⟩
      subst hwo
      have Y1 := Lib.hid y1
      clear y1
      go_loopw [5, 7] (fun cv kv wr => ∃ k : Nat, kv = .int .i64 k ∧ k ≤ bs.length ∧ cv = .int .i64 (((F ++ bs.take k).count at_ : Nat) : Int) ∧ Hid (wr = wo)) (fun cv kv _ => bs.length - (intOf kv).toNat)
      case atStart => exact ⟨0, rfl, Nat.zero_le _, by rw [List.take_zero, List.append_nil], Lib.hid rfl⟩
      case round =>
        obtain ⟨k, rfl, hk, rfl, HE⟩ := hrel
        obtain rfl := HE.out
        obtain ⟨-, z1, -, -, -, -, -⟩ := HBOX.out _ HB1.out
        have y1 := Y1.out
        by_cases hkt : k < bs.length
        · obtain ⟨b2, off2, rfl, x0⟩ := HBT.out.int_at hkt
          have HTK := Lib.hid (show (((F ++ bs.take (k + 1)).count at_ : Nat) : Int) = (((F ++ bs.take k).count at_ : Nat) : Int) + if bs[k] = at_ then 1 else 0 by
            rw [List.take_succ_eq_append_getElem hkt, ← List.append_assoc, count_snoc])
          have hct : ((F ++ bs.take k).count at_) ≤ 1099511627776 := Nat.le_trans List.count_le_length (HFL.out k)
          obtain ⟨y, hy⟩ : ∃ y, bs[k] = y := ⟨_, rfl⟩
          obtain ⟨m, hm⟩ : ∃ m, (F ++ bs.take k).count at_ = m := ⟨_, rfl⟩
          rw [hy] at x0 HTK
          rw [hm] at HTK hct ⊢
          clear hy hm
          by_cases he : y = at_
          · have hq : (y == at_) = true := by simpa using he
            rw [if_pos he] at HTK
            clear he
            go_wp2
            refine ⟨⟨k + 1, by go_num, by omega, by rw [HTK.out], Lib.hid trivial⟩, ?_⟩
            simp [intOf]; omega
          · have hq : (y == at_) = false := by simpa using he
            rw [if_neg he, Int.add_zero] at HTK
            clear he
            go_wp2
            refine ⟨⟨k + 1, by go_num, by omega, by rw [HTK.out], Lib.hid trivial⟩, ?_⟩
            simp [intOf]; omega
        · obtain rfl : k = bs.length := by omega
          rw [List.take_length, ← HFT.out]
          go_wp2
          refine ⟨⟨i + 1, by go_num, by omega, rfl, HB1⟩, ?_⟩
          simp [intOf]; omega
    · obtain rfl : i = ins.length := by omega
      rw [List.take_length]
      have HBW := Lib.hid hbw
      clear hbw hri
      go_wp2
      go_ret
      exact ⟨rfl, HBW.out⟩
end Go.Proofs.Ytbfjacgfifecpaa
