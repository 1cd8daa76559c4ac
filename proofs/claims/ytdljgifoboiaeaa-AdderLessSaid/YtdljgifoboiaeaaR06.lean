/- Which nodes and nets may be: what slipstickref06 tells. -/
import Derived.Test.YtdljgifoboiaeaaR01d
namespace Go.Proofs.Ytdljgifoboiaeaa
open Go.RowKit

def many (k : Int) : Int := if k = 0 ∨ k = 1 then 0 else if k = 2 ∨ k = 7 then 1 else if k = 3 ∨ k = 4 ∨ k = 5 then 2 else if k = 6 then 3 else -1
theorem many_bd (k : Int) : -1 ≤ many k ∧ many k ≤ 3 := by unfold many; repeat' split <;> omega
def usesR (x : Node) : List Int := [x.a, x.b, x.c].take (many x.kind).toNat
def bitB (n : Int) : Bool := decide (n = 0 ∨ n = 1)
def rightB (x : Node) (n : Nat) : Bool :=
  decide (0 ≤ many x.kind) && (usesR x).all (fun at_ => decide (0 ≤ at_ ∧ at_ < n)) &&
    (if x.kind = 0 then bitB x.a && decide (x.b = 0) && decide (x.c = 0)
     else if x.kind = 7 then bitB x.b && decide (x.c = 0)
     else (decide (1 ≤ many x.kind) || decide (x.a = 0)) && (decide (2 ≤ many x.kind) || decide (x.b = 0)) && (decide (3 ≤ many x.kind) || decide (x.c = 0)))

theorem many_ref (k : Int) (w : World) : Calls Try.prog 128 #[.int .i64 k] w fun e w' => e = .returned (.int .i64 (many k)) ∧ w = w' := by
  by_cases h0 : k = 0
  · subst h0; go_enter Try.func128, Try.ntmps128; go_wp2; go_ret; exact ⟨rfl, rfl⟩
  by_cases h1 : k = 1
  · subst h1; go_enter Try.func128, Try.ntmps128; go_wp2; go_ret; exact ⟨rfl, rfl⟩
  by_cases h2 : k = 2
  · subst h2; go_enter Try.func128, Try.ntmps128; go_wp2; go_ret; exact ⟨rfl, rfl⟩
  by_cases h7 : k = 7
  · subst h7; go_enter Try.func128, Try.ntmps128; go_wp2; go_ret; exact ⟨rfl, rfl⟩
  by_cases h3 : k = 3
  · subst h3; go_enter Try.func128, Try.ntmps128; go_wp2; go_ret; exact ⟨rfl, rfl⟩
  by_cases h4 : k = 4
  · subst h4; go_enter Try.func128, Try.ntmps128; go_wp2; go_ret; exact ⟨rfl, rfl⟩
  by_cases h5 : k = 5
  · subst h5; go_enter Try.func128, Try.ntmps128; go_wp2; go_ret; exact ⟨rfl, rfl⟩
  by_cases h6 : k = 6
  · subst h6; go_enter Try.func128, Try.ntmps128; go_wp2; go_ret; exact ⟨rfl, rfl⟩
  have e0 : (k == 0) = false := by simpa using h0
  have e1 : (k == 1) = false := by simpa using h1
  have e2 : (k == 2) = false := by simpa using h2
  have e3 : (k == 3) = false := by simpa using h3
  have e4 : (k == 4) = false := by simpa using h4
  have e5 : (k == 5) = false := by simpa using h5
  have e6 : (k == 6) = false := by simpa using h6
  have e7 : (k == 7) = false := by simpa using h7
  have hm : many k = -1 := by simp [many, h0, h1, h2, h3, h4, h5, h6, h7]
  rw [hm]
  clear h0 h1 h2 h3 h4 h5 h6 h7 hm
  go_enter Try.func128, Try.ntmps128
  go_wp2; go_ret; exact ⟨rfl, rfl⟩

theorem lit_ints (w : World) (l : List Int) (hl : l.length ≤ 1099511627776) : Own kInt 3 (w.alloc (.cells (l.map fun x => Value.int .i64 x).toArray 3)) none w.heap.size (.slice (some ⟨w.heap.size, 0, none⟩) l.length l.length) l := by
  have h := World.ownsRow_lit (base := w.heap.size) (e := 3) (size := 1) w (l.map fun x => Value.int .i64 x).toArray l.length (Nat.le_refl _) (by simp only [maxLen]; omega) (by simp)
  exact Own.of_ints h fun _ _ => foot_none _ _

attribute [local go_sem] max2_int max_two in
theorem uses_ref (w : World) (S : Nat → Prop) (hS : There S w) (x : Node) :
    Calls Try.prog 94 #[.agg #[.int .i64 x.kind, .int .i64 x.a, .int .i64 x.b, .int .i64 x.c]] w fun e w' => ∃ v', e = .returned v' ∧ Row kInt w' S v' (usesR x) ∧ Below w.heap.size w w' := by
  obtain ⟨m, hm⟩ : ∃ m : Nat, max (many x.kind) 0 = m := ⟨(many x.kind).toNat, by omega⟩
  have hm3 : m ≤ 3 := by have := many_bd x.kind; omega
  have hmt : m = (many x.kind).toNat := by omega
  have HMT := Lib.hid hmt
  clear hmt
  go_enter Try.func94, Try.ntmps94
  go_wp2_with (go_at_call 128; refine (many_ref _ _).mono ?_; rintro e w2 ⟨rfl, rfl⟩)
  go_ret
  have hO := (lit_ints (w.alloc (.cells #[.int .i64 x.kind, .int .i64 x.a, .int .i64 x.b, .int .i64 x.c] 117)) [x.a, x.b, x.c] (by simp)).nums (hS.later (by simp))
  refine ⟨_, rfl, ?_, ((Below.refl _ _).alloc (Nat.le_refl _) _).alloc (by simp) _⟩
  have h := hO.take m hm3
  unfold usesR
  rw [← HMT.out]
  simpa using h

theorem bit_of (n : Int) (w : World) : Calls Try.prog 134 #[.int .i64 n] w fun e w' => e = .returned (.bool (bitB n)) ∧ w = w' := by
  by_cases h0 : n = 0
  · subst h0
    go_enter Try.func134, Try.ntmps134; go_wp2; go_ret; exact ⟨rfl, rfl⟩
  · by_cases h1 : n = 1
    · subst h1
      go_enter Try.func134, Try.ntmps134; go_wp2; go_ret; exact ⟨rfl, rfl⟩
    · have e0 : (n == 0) = false := by simpa using h0
      have e1 : (n == 1) = false := by simpa using h1
      have hb : bitB n = false := by simp [bitB, h0, h1]
      rw [hb]
      clear h0 h1 hb
      go_enter Try.func134, Try.ntmps134; go_wp2; go_ret; exact ⟨rfl, rfl⟩

set_option maxHeartbeats 2000000 in
set_option maxRecDepth 100000 in
theorem right_ref (w : World) (x : Node) (n : Nat) (hn : n ≤ 1099511627776) :
    Calls Try.prog 127 #[.agg #[.int .i64 x.kind, .int .i64 x.a, .int .i64 x.b, .int .i64 x.c], .int .i64 n] w fun e w' => e = .returned (.bool (rightB x n)) ∧ Below w.heap.size w w' := by
  obtain ⟨kind, a, b, c⟩ := x
  have hbd := many_bd kind
  by_cases hk : 0 ≤ many kind
  · have hu : (usesR ⟨kind, a, b, c⟩).length ≤ 3 := by unfold usesR; simp; omega
    generalize hmk : many kind = mk at *
    have HMK := Lib.hid hmk
    clear hmk
    go_enter Try.func127, Try.ntmps127
    go_wp2_with (go_at_call 128; refine (many_ref _ _).mono ?_; rintro e w2 ⟨rfl, rfl⟩; rw [HMK.out])
    refine (uses_ref _ (fun _ => False) (fun _ h => h.elim) ⟨kind, a, b, c⟩).mono ?_
    rintro e w1 ⟨v1, rfl, hr, hb⟩
    have hb1 : Below w.heap.size w w1 := ((Below.refl _ _).alloc (Nat.le_refl _) _).trans (hb.mono (by simp))
    have z0 := (hb.cell (p := ⟨w.heap.size, 0, none⟩) (by simp)).trans (show _ = some (Value.int .i64 kind) by simp)
    have z1 := (hb.cell (p := ⟨w.heap.size, 1, none⟩) (by simp)).trans (show _ = some (Value.int .i64 a) by simp)
    have z2 := (hb.cell (p := ⟨w.heap.size, 2, none⟩) (by simp)).trans (show _ = some (Value.int .i64 b) by simp)
    have z3 := (hb.cell (p := ⟨w.heap.size, 3, none⟩) (by simp)).trans (show _ = some (Value.int .i64 c) by simp)
    clear hb
    have hall : rightB ⟨kind, a, b, c⟩ n = ((usesR ⟨kind, a, b, c⟩).all (fun at_ => decide (0 ≤ at_ ∧ at_ < n)) && (if kind = 0 then bitB a && decide (b = 0) && decide (c = 0)
     else if kind = 7 then bitB b && decide (c = 0)
     else (decide (1 ≤ mk) || decide (a = 0)) && (decide (2 ≤ mk) || decide (b = 0)) && (decide (3 ≤ mk) || decide (c = 0)))) := by
      simp only [rightB, HMK.out, decide_eq_true hk, Bool.true_and]
    have HALL := Lib.hid hall
    clear hall
    generalize usesR ⟨kind, a, b, c⟩ = l at hr hu HALL
    obtain ⟨A, cc, rfl, hcc, -⟩ := hr.shape
    have HR := Lib.hid hr
    clear hr
    go_wp2_with fail
    go_loop [7] (fun i => ∃ j : Nat, j ≤ l.length ∧ i = .int .i64 j ∧ ∀ q, q ∈ l.take j → 0 ≤ q ∧ q < n) (fun i => l.length - (intOf i).toNat)
    case atStart => exact ⟨0, Nat.zero_le _, rfl, by simp⟩
    case round =>
      obtain ⟨j, hj, rfl, hq⟩ := hrel
      have HQ := Lib.hid hq
      clear hq
      by_cases hlt : j < l.length
      · obtain ⟨bb, off, rfl, hcell⟩ := HR.out.int_at hlt
        have hm := List.getElem_mem hlt
        have HM := Lib.hid hm
        have HT := Lib.hid (List.take_succ_eq_append_getElem hlt)
        clear hm
        generalize l[j] = y at hcell HT HM
        by_cases hy0 : y < 0
        · go_wp2
          go_ret
          have : l.all (fun at_ => decide (0 ≤ at_ ∧ at_ < n)) = false := by
            rw [List.all_eq_false]; exact ⟨y, HM.out, by simp; omega⟩
          exact ⟨by rw [HALL.out, this]; rfl, hb1⟩
        · by_cases hyn : y < n
          · go_wp2
            go_round
            case rel => exact ⟨j + 1, by omega, by go_num, by
              rw [HT.out]; intro q hq
              rcases List.mem_append.1 hq with h | h
              · exact HQ.out q h
              · simp at h; subst h; omega⟩
            case measure => simp [intOf]; omega
          · go_wp2
            go_ret
            have : l.all (fun at_ => decide (0 ≤ at_ ∧ at_ < n)) = false := by
              rw [List.all_eq_false]; exact ⟨y, HM.out, by simp; omega⟩
            exact ⟨by rw [HALL.out, this]; rfl, hb1⟩
      · obtain rfl : j = l.length := by omega
        have hA : l.all (fun at_ => decide (0 ≤ at_ ∧ at_ < n)) = true := by
          rw [List.all_eq_true]; intro q hq; have := HQ.out q (by rw [List.take_length]; exact hq); simpa using this
        have HA := Lib.hid hA
        clear hA HR
        by_cases h0 : kind = 0
        · subst h0
          cases hba : bitB a
          all_goals
            have HBA := Lib.hid hba
            clear hba
            by_cases hb0 : b = 0
            · subst hb0
              by_cases hc0 : c = 0
              · subst hc0
                go_wp2_with (go_at_call 134; refine (bit_of _ _).mono ?_; rintro e w2 ⟨rfl, rfl⟩; rw [HBA.out])
                go_ret
                exact ⟨by rw [HALL.out, HA.out]; simp [HBA.out], hb1⟩
              · have ec : (c == 0) = false := by simpa using hc0
                have HC := Lib.hid hc0
                clear hc0
                go_wp2_with (go_at_call 134; refine (bit_of _ _).mono ?_; rintro e w2 ⟨rfl, rfl⟩; rw [HBA.out])
                go_ret
                exact ⟨by rw [HALL.out, HA.out]; simp [HBA.out, HC.out], hb1⟩
            · have eb : (b == 0) = false := by simpa using hb0
              have HBN := Lib.hid hb0
              clear hb0
              by_cases hc0 : c = 0
              · subst hc0
                go_wp2_with (go_at_call 134; refine (bit_of _ _).mono ?_; rintro e w2 ⟨rfl, rfl⟩; rw [HBA.out])
                go_ret
                exact ⟨by rw [HALL.out, HA.out]; simp [HBA.out, HBN.out], hb1⟩
              · have ec : (c == 0) = false := by simpa using hc0
                have HC := Lib.hid hc0
                clear hc0
                go_wp2_with (go_at_call 134; refine (bit_of _ _).mono ?_; rintro e w2 ⟨rfl, rfl⟩; rw [HBA.out])
                go_ret
                exact ⟨by rw [HALL.out, HA.out]; simp [HBA.out, HBN.out, HC.out], hb1⟩
        · have ek : (kind == 0) = false := by simpa using h0
          have HK0 := Lib.hid h0
          clear h0
          by_cases h7 : kind = 7
          · subst h7
            cases hbb : bitB b
            all_goals
              have HBA := Lib.hid hbb
              clear hbb
              by_cases hc0 : c = 0
              · subst hc0
                go_wp2_with (go_at_call 134; refine (bit_of _ _).mono ?_; rintro e w2 ⟨rfl, rfl⟩; rw [HBA.out])
                go_ret
                exact ⟨by rw [HALL.out, HA.out]; simp [HBA.out], hb1⟩
              · have ec : (c == 0) = false := by simpa using hc0
                have HC := Lib.hid hc0
                clear hc0
                go_wp2_with (go_at_call 134; refine (bit_of _ _).mono ?_; rintro e w2 ⟨rfl, rfl⟩; rw [HBA.out])
                go_ret
                exact ⟨by rw [HALL.out, HA.out]; simp [HBA.out, HC.out], hb1⟩
          · have ek7 : (kind == 7) = false := by simpa using h7
            have HK7 := Lib.hid h7
            clear h7
            have h1 : mk = 0 ∨ mk = 1 ∨ mk = 2 ∨ mk = 3 := by omega
            rcases h1 with rfl | rfl | rfl | rfl
            · skip
              by_cases ha0 : a = 0
              · subst ha0
                by_cases hb0 : b = 0
                · subst hb0
                  by_cases hc0 : c = 0
                  · subst hc0
                    go_wp2_with fail
                    go_ret
                    exact ⟨by rw [HALL.out, HA.out]; simp [HK0.out, HK7.out], hb1⟩
                  · have ec : (c == 0) = false := by simpa using hc0
                    have HCN := Lib.hid hc0
                    clear hc0
                    go_wp2_with fail
                    go_ret
                    exact ⟨by rw [HALL.out, HA.out]; simp [HK0.out, HK7.out, HCN.out], hb1⟩
                · have eb : (b == 0) = false := by simpa using hb0
                  have HBN := Lib.hid hb0
                  clear hb0
                  by_cases hc0 : c = 0
                  · subst hc0
                    go_wp2_with fail
                    go_ret
                    exact ⟨by rw [HALL.out, HA.out]; simp [HK0.out, HK7.out, HBN.out], hb1⟩
                  · have ec : (c == 0) = false := by simpa using hc0
                    have HCN := Lib.hid hc0
                    clear hc0
                    go_wp2_with fail
                    go_ret
                    exact ⟨by rw [HALL.out, HA.out]; simp [HK0.out, HK7.out, HBN.out, HCN.out], hb1⟩
              · have ea : (a == 0) = false := by simpa using ha0
                have HAN := Lib.hid ha0
                clear ha0
                by_cases hb0 : b = 0
                · subst hb0
                  by_cases hc0 : c = 0
                  · subst hc0
                    go_wp2_with fail
                    go_ret
                    exact ⟨by rw [HALL.out, HA.out]; simp [HK0.out, HK7.out, HAN.out], hb1⟩
                  · have ec : (c == 0) = false := by simpa using hc0
                    have HCN := Lib.hid hc0
                    clear hc0
                    go_wp2_with fail
                    go_ret
                    exact ⟨by rw [HALL.out, HA.out]; simp [HK0.out, HK7.out, HAN.out, HCN.out], hb1⟩
                · have eb : (b == 0) = false := by simpa using hb0
                  have HBN := Lib.hid hb0
                  clear hb0
                  by_cases hc0 : c = 0
                  · subst hc0
                    go_wp2_with fail
                    go_ret
                    exact ⟨by rw [HALL.out, HA.out]; simp [HK0.out, HK7.out, HAN.out, HBN.out], hb1⟩
                  · have ec : (c == 0) = false := by simpa using hc0
                    have HCN := Lib.hid hc0
                    clear hc0
                    go_wp2_with fail
                    go_ret
                    exact ⟨by rw [HALL.out, HA.out]; simp [HK0.out, HK7.out, HAN.out, HBN.out, HCN.out], hb1⟩
            · skip
              by_cases hb0 : b = 0
              · subst hb0
                by_cases hc0 : c = 0
                · subst hc0
                  go_wp2_with fail
                  go_ret
                  exact ⟨by rw [HALL.out, HA.out]; simp [HK0.out, HK7.out], hb1⟩
                · have ec : (c == 0) = false := by simpa using hc0
                  have HCN := Lib.hid hc0
                  clear hc0
                  go_wp2_with fail
                  go_ret
                  exact ⟨by rw [HALL.out, HA.out]; simp [HK0.out, HK7.out, HCN.out], hb1⟩
              · have eb : (b == 0) = false := by simpa using hb0
                have HBN := Lib.hid hb0
                clear hb0
                by_cases hc0 : c = 0
                · subst hc0
                  go_wp2_with fail
                  go_ret
                  exact ⟨by rw [HALL.out, HA.out]; simp [HK0.out, HK7.out, HBN.out], hb1⟩
                · have ec : (c == 0) = false := by simpa using hc0
                  have HCN := Lib.hid hc0
                  clear hc0
                  go_wp2_with fail
                  go_ret
                  exact ⟨by rw [HALL.out, HA.out]; simp [HK0.out, HK7.out, HBN.out, HCN.out], hb1⟩
            · skip
              by_cases hc0 : c = 0
              · subst hc0
                go_wp2_with fail
                go_ret
                exact ⟨by rw [HALL.out, HA.out]; simp [HK0.out, HK7.out], hb1⟩
              · have ec : (c == 0) = false := by simpa using hc0
                have HCN := Lib.hid hc0
                clear hc0
                go_wp2_with fail
                go_ret
                exact ⟨by rw [HALL.out, HA.out]; simp [HK0.out, HK7.out, HCN.out], hb1⟩
            · skip
              go_wp2_with fail
              go_ret
              exact ⟨by rw [HALL.out, HA.out]; simp [HK0.out, HK7.out], hb1⟩
  · have hneg : many kind < 0 := by omega
    have hr : rightB ⟨kind, a, b, c⟩ n = false := by simp [rightB, hk]
    rw [hr]
    generalize hmk : many kind = mk at *
    have HMK := Lib.hid hmk
    clear hmk hr hk
    go_enter Try.func127, Try.ntmps127
    go_wp2_with (go_at_call 128; refine (many_ref _ _).mono ?_; rintro e w2 ⟨rfl, rfl⟩; rw [HMK.out])
    go_ret
    exact ⟨rfl, (Below.refl _ _).alloc (Nat.le_refl _) _⟩
end Go.Proofs.Ytdljgifoboiaeaa
