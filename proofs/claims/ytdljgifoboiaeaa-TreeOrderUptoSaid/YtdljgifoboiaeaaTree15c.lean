/- slipsticklaw15: sums. -/
import Derived.Test.YtdljgifoboiaeaaTree15b
import Derived.Test.YtdljgifoboiaeaaLawB
namespace Go.Proofs.Ytdljgifoboiaeaa
open Go.RowKit

section
variable {C : World → Prop} {p X : Nat} {st0 st : BSt} {w : World} {N : Nat} {L : List Ent} {K : (Int → Bool) → Prop}
set_option maxHeartbeats 4000000 in
set_option maxRecDepth 100000 in
/-- slipsticklaw15.sums -/
theorem Env.sums15 (E : Env C p X st0 w st N L K) (hP : PortsOk st0) (hN : N < 1099511627776) {v : Value} (nums : List Nat) (hx : Ent.row (kRow kBool) v (nums.map natBits) ∈ L) (hlen : nums.length = st0.ins.length) (hl : nums.length ≤ 100) (hnb : ∀ n ∈ nums, nbits n ≤ 1024)
    (hfit : ∀ i q, st0.ins[i]? = some q → nums.getD i 0 < 2 ^ q.bits.length) :
    Calls Try.prog 51 #[.pointer (some ⟨p, 0, none⟩), v] w fun e w' => ∃ v' V, e = .returned (.tuple #[v', .bool true]) ∧ Below w.heap.size w w' ∧ Sat V st.nodes ∧ Hid (∀ i q, st0.ins[i]? = some q → numV V q.bits = nums.getD i 0) ∧
      Env C p w'.heap.size st0 w' st N (.row (kRow (kNum .u32)) v' (st.outs.map fun q => parts32 (numV V q.bits)) :: L) K := by
  obtain ⟨A, c, hv⟩ := E.rshape hx
  subst hv
  have hml : (nums.map natBits).length = nums.length := by simp
  have HR := Lib.hid (E.rw_ hx)
  rw [hml] at HR ⊢
  have hie := (ext_ports E.ext).1
  have HIE := Lib.hid hie
  have HLEN := Lib.hid hlen
  have HFIT := Lib.hid hfit
  have hXw := E.size
  clear hx hml hie hlen hfit
  go_enter Try.func51, Try.ntmps51
  go_wp2
  go_loopw [6, 11] (fun lv iv wr => ∃ j : Nat, j ≤ nums.length ∧ iv = .int .i64 j ∧ Own (kOff (foot w (some p)) (kNum .u32)) 38 wr none w.heap.size lv ((nums.take j).map parts32) ∧ Below w.heap.size w wr) (fun _ iv _ => nums.length - (intOf iv).toNat)
  case atStart => exact ⟨0, Nat.zero_le _, rfl, Own.nil _ _ _ _ _, Below.refl _ _⟩
  case round =>
    obtain ⟨j, hj, rfl, ho, hb⟩ := hrel
    obtain ⟨A9, c9, rfl, -, -⟩ := ho.shape
    by_cases hlt : j < nums.length
    · obtain ⟨b1, o1, A2, c2, rfl, hq, hr⟩ := (HR.out.below hb).row_at (i := j) (by simpa using hlt)
      rw [List.getElem_map] at hq hr
      have hn := hnb _ (List.getElem_mem hlt)
      have HSU := Lib.hid (show (nums.take (j + 1)).map parts32 = (nums.take j).map parts32 ++ [parts32 nums[j]] by rw [List.take_succ_eq_append_getElem hlt, List.map_append]; rfl)
      have hdl : ((nums.take j).map parts32).length ≤ 100 := by simp; omega
      generalize (nums.take j).map parts32 = done at ho HSU hdl
      generalize nums[j] = z at *
      have hsz := hb.size
      have HO := Lib.hid ho
      have HB := Lib.hid hb
      have hS' : There (fun i => Value.ownBlock (.slice A9 done.length c9) = some i ∨ foot w (some p) i) wr := fun i hi => hi.elim (fun hi => (HO.out.base hi).2) (fun hi => by have := E.there i hi; omega)
      have HR2 := Lib.hid (hr.mono (S' := fun i => Value.ownBlock (.slice A9 done.length c9) = some i ∨ foot w (some p) i) fun i hi hm => hm.elim (fun h => .inl (by have := (HO.out.base h).1; omega)) .inr)
      clear ho hb hr
      go_wp2_with fail
      refine (parts_ref _ _ hS' _ z HR2.out (by omega)).mono ?_
      rintro e w3 ⟨v3, rfl, hr3, hb3⟩
      obtain ⟨A3, c3, rfl, -, -⟩ := hr3.shape
      have HO3 := Lib.hid (HO.out.kept (Kept.of_below_all hb3 (FootIn.none _) (Nat.le_refl _)))
      have HR3 := Lib.hid hr3
      have HB3 := Lib.hid (HB.out.trans (hb3.mono hsz))
      have hsz3 := hb3.size
      generalize parts32 z = pp at *
      clear hr3 hb3
      go_wp2_with (at_builtin; refine app1 (kOff (foot w (some p)) (kNum .u32)) 38 45 (.slice none 0 0) 24 rfl (.tmp 15) (.tmp 18) rfl Try.underlying45 infoU32s rfl Nat.zero_lt_one (by decide) none w.heap.size HO3.out (FootIn.none _) (by omega) rfl pp [.slice A3 pp.length c3] rfl ⟨_, rfl, HR3.out.mono (fun i _ h => h.elim (fun h => h.elim (fun h => (foot_none _ _ h).elim) .inl) .inr)⟩ (by omega) ?_; intro v' w4 q1 q2 _ _ _ _)
      go_roundw
      case rel => exact ⟨j + 1, by omega, by go_num, by rw [HSU.out]; exact q1, HB3.out.trans q2.below⟩
      case measure => simp [intOf]; omega
    · obtain rfl : j = nums.length := by omega
      rw [List.take_length] at ho ⊢
      have hrow := ho.rowOff (fun g hg hs => by have h1 := (ho.base hg).1; have := E.there g hs; omega)
      have E1 := E.rowB hb hrow
      rw [List.length_map] at E1
      have HB := Lib.hid hb
      clear ho hrow hb
      go_wp2_with fail
      refine (E1.net hP hN).mono ?_
      rintro e w2 ⟨vn, vi, vo, rfl, hb2, E2⟩
      have HB2 := Lib.hid (HB.out.trans (hb2.mono HB.out.size))
      clear hb2
      go_wp2_with fail
      refine (E2.eval hP hN (vn := vn) (vi := vi) (vo := vo) (nums := nums.map parts32) (by repeat with_reducible first | apply mem_hd | assumption | apply mem_tl) (by repeat with_reducible first | apply mem_hd | assumption | apply mem_tl) (by repeat with_reducible first | apply mem_hd | assumption | apply mem_tl) (by repeat with_reducible first | apply mem_hd | assumption | apply mem_tl) (by rw [HIE.out, List.length_map]; exact HLEN.out) (fun q hq => ?_) (fun i z hz => ?_)).mono ?_
      · obtain ⟨n, hn, rfl⟩ := List.mem_map.1 hq
        exact ⟨parts32_ok n, by rw [parts32_length]; have := hnb n hn; omega⟩
      · rw [HIE.out] at hz
        have hi : i < nums.length := by rw [HLEN.out]; exact (List.getElem?_eq_some_iff.1 hz).1
        have h := HFIT.out i z hz
        rw [List.getD_eq_getElem?_getD, List.getElem?_eq_getElem hi] at h
        rw [List.getD_eq_getElem?_getD, List.getElem?_map, List.getElem?_eq_getElem hi]
        simpa [partsVal_parts32] using h
      rintro e w3 ⟨v3, V, rfl, hb3, hV, hin, E3⟩
      have HB3 := Lib.hid (HB2.out.trans (hb3.mono HB2.out.size))
      have hvals : Hid (∀ i q, st0.ins[i]? = some q → numV V q.bits = nums.getD i 0) := Lib.hid fun i q hq => by
        have h := hin.out i q (by rw [HIE.out]; exact hq)
        have hi : i < nums.length := by rw [HLEN.out]; exact (List.getElem?_eq_some_iff.1 hq).1
        rw [h, List.getD_eq_getElem?_getD, List.getD_eq_getElem?_getD, List.getElem?_map, List.getElem?_eq_getElem hi]
        simp [partsVal_parts32]
      have E3 := E3.only (L' := .row (kRow (kNum .u32)) v3 (st.outs.map fun q => parts32 (numV V q.bits)) :: L) (by repeat with_reducible first | refine sub_cons (by repeat with_reducible first | apply mem_hd | assumption | apply mem_tl) ?_ | exact sub_nil | apply sub_refl | apply sub_tail)
      clear hin hb3
      go_wp2
      go_ret2
      exact ⟨v3, V, rfl, HB3.out, hV, hvals, E3⟩
end
end Go.Proofs.Ytdljgifoboiaeaa
