/- Registers in a row. -/
import Derived.Test.YtdljgifoboiaeaaNet
namespace Go.Proofs.Ytdljgifoboiaeaa
open Go.RowKit

def onePart (f : Int → BSt → Int × BSt) (X : List Int) (k : Nat) (s : BSt) : List Int := (mapS f (X.take k) s).1 ++ X.drop k
theorem onePart_zero (f : Int → BSt → Int × BSt) (X : List Int) (s : BSt) : onePart f X 0 s = X := by simp [onePart, mapS]
theorem onePart_at (f : Int → BSt → Int × BSt) (X : List Int) (k : Nat) (s : BSt) (hk : k < X.length) : (onePart f X k s)[k]? = some X[k] := by
  have hl : (mapS f (X.take k) s).1.length = k := by simp [mapS_length]; omega
  unfold onePart
  rw [List.getElem?_append_right (by omega), hl, Nat.sub_self, List.getElem?_drop, Nat.add_zero, List.getElem?_eq_getElem hk]
theorem onePart_succ (f : Int → BSt → Int × BSt) (X : List Int) (k : Nat) (s : BSt) (hk : k < X.length) :
    (onePart f X k s).set k (f X[k] (mapS f (X.take k) s).2).1 = onePart f X (k + 1) s ∧ (f X[k] (mapS f (X.take k) s).2).2 = (mapS f (X.take (k + 1)) s).2 := by
  have hl : (mapS f (X.take k) s).1.length = k := by simp [mapS_length]; omega
  have hs := mapS_take_succ f X k hk s
  refine ⟨?_, by rw [hs]⟩
  unfold onePart
  rw [hs, List.set_append_right _ _ (by omega), hl, Nat.sub_self, List.drop_eq_getElem_cons hk, List.set_cons_zero, List.append_assoc]
  rfl
theorem onePart_all (f : Int → BSt → Int × BSt) (X : List Int) (s : BSt) : onePart f X X.length s = (mapS f X s).1 := by simp [onePart]
theorem regs_length (xs : List Int) (n : Nat) (s : BSt) : (bRegs xs n s).1.length = xs.length := by
  induction n with
  | zero => rfl
  | succ n ih => rw [bRegs, mapS_length, ih]
theorem regs_mono (xs : List Int) (s : BSt) {m n : Nat} (h : m ≤ n) : Ext (bRegs xs m s).2 (bRegs xs n s).2 := by
  induction h with
  | refl => exact Ext.refl _
  | step _ ih => exact ih.trans (mapS_ext _ (fun _ s => lay_ext _ s) _ _)

attribute [local go_sem] max2_int min2_int max_two min_two in
set_option maxHeartbeats 2000000 in
theorem regs_calls (w : World) (p : Nat) (st : BSt) (S : Nat → Prop) (v : Value) (xs : List Int) (n : Nat) (hB : BRep w p st) (hx : Row kInt w S v xs) (hl : xs.length ≤ 1099511627776) (hn : n ≤ 1099511627776) (hf : (bRegs xs n st).2.nodes.length < 1099511627776) :
    Calls Try.prog 18 #[.pointer (some ⟨p, 0, none⟩), v, .int .i64 n] w
      fun e w' => ∃ v', e = .returned v' ∧ Own kInt 3 w' (some p) w.heap.size v' (bRegs xs n st).1 ∧ Laid w p (bRegs xs n st).2 w' := by
  have hle : ∀ j, j < n → ∀ k, (mapS (fun x => bReg x 0) ((bRegs xs j st).1.take k) (bRegs xs j st).2).2.nodes.length < 1099511627776 := fun j hj k =>
    Nat.lt_of_le_of_lt ((mapS_ext_le (fun x => bReg x 0) (fun _ s => lay_ext _ s) _ k _).trans (regs_mono xs st (show j + 1 ≤ n from hj))).len hf
  have HLE := Lib.hid hle
  clear hle hf
  have HBR := Lib.hid hB
  go_enter Try.func18, Try.ntmps18
  go_wp2_with fail
  refine (clone_calls w _ xs S hx hl).mono ?_
  rintro e w1 ⟨v1, rfl, ho1, hb1⟩
  have hO := ho1.give HBR.out.fin hb1
  have hL1 : Laid w p st w1 := (Laid.refl HBR.out).quiet hb1
  obtain ⟨A, c, rfl, -, -⟩ := hO.shape
  have HO := Lib.hid hO
  have HL := Lib.hid hL1
  have hmx : max (n : Int) 0 = n := by omega
  clear hO hL1 ho1 hb1 hB hx
  go_wp2_with fail
  go_loopw [13] (fun i wr => ∃ j : Nat, j ≤ n ∧ i = .int .i64 j ∧ Own kInt 3 wr (some p) w.heap.size (.slice A xs.length c) (bRegs xs j st).1 ∧ Laid w p (bRegs xs j st).2 wr) (fun i _ => n - (intOf i).toNat)
  case atStart => exact ⟨0, Nat.zero_le _, rfl, HO.out, HL.out⟩
  case round =>
    obtain ⟨wo, rfl⟩ : ∃ wo : World, wo = wr := ⟨_, rfl⟩
    obtain ⟨j, hj, rfl, ho, hL⟩ := hrel
    by_cases hlt : j < n
    · have HO := Lib.hid ho
      have HL := Lib.hid hL
      have hxl := regs_length xs j st
      have HS := Lib.hid (show bRegs xs (j + 1) st = mapS (fun x => bReg x 0) (bRegs xs j st).1 (bRegs xs j st).2 from rfl)
      have HLJ := Lib.hid (HLE.out j hlt)
      generalize (bRegs xs j st).1 = X at *
      generalize (bRegs xs j st).2 = s0 at *
      have HXL := Lib.hid hxl
      clear ho hL hxl
      go_wp2_with fail
      go_loopw [17] (fun i wr => ∃ k : Nat, k ≤ X.length ∧ i = .int .i64 k ∧ Own kInt 3 wr (some p) w.heap.size (.slice A xs.length c) (onePart (fun x => bReg x 0) X k s0) ∧ Laid w p (mapS (fun x => bReg x 0) (X.take k) s0).2 wr) (fun i _ => X.length - (intOf i).toNat)
      case atStart => exact ⟨0, Nat.zero_le _, rfl, by rw [onePart_zero]; exact HO.out, HL.out⟩
      case round =>
        obtain ⟨k, hk, rfl, hok, hLk⟩ := hrel
        by_cases hkl : k < X.length
        · have hxk : k < xs.length := by have := HXL.out; omega
          obtain ⟨g, c2, hee, -, -⟩ := hok.form (by have h := hok.shape; obtain ⟨_, _, he, _⟩ := h; injection he; omega)
          injection hee with he1 he2 he3
          subst he1
          obtain ⟨x0, x1⟩ := hok.cellAt? (onePart_at _ X k s0 hkl)
          have HSS := Lib.hid (onePart_succ (fun x => bReg x 0) X k s0 hkl)
          have hlk := HLJ.out k
          generalize (mapS (fun x => bReg x 0) (X.take k) s0).2 = sk at *
          have HOK := Lib.hid hok
          have HAT := Lib.hid (onePart_at (fun x => bReg x 0) X k s0 hkl)
          have HLK := Lib.hid hLk
          clear hok hLk he2 he3
          generalize X[k] = x at *
          go_wp2_with (go_at_call 85; refine (reg_calls _ p sk _ _ HLK.out.1 hlk).mono ?_; rintro e w2 ⟨rfl, hL2⟩; have hc2 := (HOK.out.laid hL2).cellAt? HAT.out; obtain ⟨hc2a, hc2b⟩ := hc2; have HL2 := Lib.hid hL2; clear hL2)
          go_roundw
          case rel =>
            obtain ⟨r1, r2, -⟩ := each_step (HLK.out.trans HL2.out) (HOK.out.laid HL2.out) k (bReg x 0 sk).1
            exact ⟨k + 1, by omega, by go_num, by rw [← HSS.out.1]; exact r1, by rw [← HSS.out.2]; exact r2⟩
          case measure => simp [intOf]; omega
        · obtain rfl : k = X.length := by omega
          have HH := Lib.hid (And.intro hok hLk)
          have hxk : ¬ X.length < xs.length := by have := HXL.out; omega
          have hxe := HXL.out
          clear hok hLk
          go_wp2
          go_roundw
          case rel => exact ⟨j + 1, by omega, by go_num, by rw [HS.out, ← onePart_all]; exact HH.out.1, by have h := HH.out.2; rw [List.take_length] at h; rw [HS.out]; exact h⟩
          case measure => simp [intOf]; omega
    · obtain rfl : j = n := by omega
      have HH := Lib.hid (And.intro ho hL)
      clear ho hL
      go_wp2
      go_ret
      exact ⟨_, rfl, HH.out.1, HH.out.2⟩
end Go.Proofs.Ytdljgifoboiaeaa
