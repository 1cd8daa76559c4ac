/- Joined texts: R06, Formed, R07, R07b, R07c, R07d, R07e, R07f, R07g, R07h. -/
import Derived.Test.YtbfjacgfifecpaaKR01
import Derived.WalkSmall

/-! ## Which nodes and nets may be: what slipstickref06 tells. -/
namespace Go.Proofs.Ytbfjacgfifecpaa
open Go.RowKit

def many (k : Int) : Int := if k = 0 ∨ k = 1 then 0 else if k = 2 ∨ k = 7 then 1 else if k = 3 ∨ k = 4 ∨ k = 5 then 2 else if k = 6 then 3 else -1
theorem many_bd (k : Int) : -1 ≤ many k ∧ many k ≤ 3 := by unfold many; repeat' split <;> omega
def usesR (x : Node) : List Int := [x.a, x.b, x.c].take (many x.kind).toNat
def bitB (n : Int) : Bool := decide (n = 0 ∨ n = 1)
def rightB (x : Node) (n : Nat) : Bool :=
  decide (0 ≤ many x.kind) && (usesR x).all (fun at_ => decide (0 ≤ at_ ∧ at_ < n)) &&
    (if x.kind = 0 then bitB x.a && decide (x.b = 0) && decide (x.c = 0)
     else if x.kind = 7 then bitB x.b && decide (x.c = 0)
     else (decide (1 ≤ many x.kind) || decide (x.a = 0)) && (decide (2 ≤ many x.kind) || decide (x.b = 0)) && (decide (3 ≤ many x.kind) || decide (x.c = 0)))

theorem many_ref (k : Int) (w : World) : Calls Try.prog 58 #[.int .i64 k] w fun e w' => e = .returned (.int .i64 (many k)) ∧ w = w' := by
  by_cases h0 : k = 0
  · subst h0; go_enter Try.func58, Try.ntmps58; go_wp2; go_ret; exact ⟨rfl, rfl⟩
  by_cases h1 : k = 1
  · subst h1; go_enter Try.func58, Try.ntmps58; go_wp2; go_ret; exact ⟨rfl, rfl⟩
  by_cases h2 : k = 2
  · subst h2; go_enter Try.func58, Try.ntmps58; go_wp2; go_ret; exact ⟨rfl, rfl⟩
  by_cases h7 : k = 7
  · subst h7; go_enter Try.func58, Try.ntmps58; go_wp2; go_ret; exact ⟨rfl, rfl⟩
  by_cases h3 : k = 3
  · subst h3; go_enter Try.func58, Try.ntmps58; go_wp2; go_ret; exact ⟨rfl, rfl⟩
  by_cases h4 : k = 4
  · subst h4; go_enter Try.func58, Try.ntmps58; go_wp2; go_ret; exact ⟨rfl, rfl⟩
  by_cases h5 : k = 5
  · subst h5; go_enter Try.func58, Try.ntmps58; go_wp2; go_ret; exact ⟨rfl, rfl⟩
  by_cases h6 : k = 6
  · subst h6; go_enter Try.func58, Try.ntmps58; go_wp2; go_ret; exact ⟨rfl, rfl⟩
  have e0 : (k == 0) = false := by simpa using h0
  have e1 : (k == 1) = false := by simpa using h1
  have e2 : (k == 2) = false := by simpa using h2
  have e3 : (k == 3) = false := by simpa using h3
  have e4 : (k == 4) = false := by simpa using h4
  have e5 : (k == 5) = false := by simpa using h5
  have e6 : (k == 6) = false := by simpa using h6
  have e7 : (k == 7) = false := by simpa using h7
  have hm : many k = -1 := by simp [many, h0, h1, h2, h3, h4, h5, h6, h7]
  rw [hm]
  clear h0 h1 h2 h3 h4 h5 h6 h7 hm
  go_enter Try.func58, Try.ntmps58
  go_wp2; go_ret; exact ⟨rfl, rfl⟩

theorem lit_ints (w : World) (l : List Int) (hl : l.length ≤ 1099511627776) : Own kInt 3 (w.alloc (.cells (l.map fun x => Value.int .i64 x).toArray 3)) none w.heap.size (.slice (some ⟨w.heap.size, 0, none⟩) l.length l.length) l := by
  have h := World.ownsRow_lit (base := w.heap.size) (e := 3) (size := 1) w (l.map fun x => Value.int .i64 x).toArray l.length (Nat.le_refl _) (by simp only [maxLen]; omega) (by simp)
  exact Own.of_ints h fun _ _ => foot_none _ _

attribute [local go_sem] max2_int max_two in
theorem uses_ref (w : World) (S : Nat → Prop) (hS : There S w) (x : Node) :
    Calls Try.prog 24 #[.agg #[.int .i64 x.kind, .int .i64 x.a, .int .i64 x.b, .int .i64 x.c]] w fun e w' => ∃ v', e = .returned v' ∧ Row kInt w' S v' (usesR x) ∧ Below w.heap.size w w' := by
  obtain ⟨m, hm⟩ : ∃ m : Nat, max (many x.kind) 0 = m := ⟨(many x.kind).toNat, by omega⟩
  have hm3 : m ≤ 3 := by have := many_bd x.kind; omega
  have hmt : m = (many x.kind).toNat := by omega
  have HMT := Lib.hid hmt
  clear hmt
  go_enter Try.func24, Try.ntmps24
  go_wp2_with (go_at_call 58; refine (many_ref _ _).mono ?_; rintro e w2 ⟨rfl, rfl⟩)
  go_ret
  have hO := (lit_ints (w.alloc (.cells #[.int .i64 x.kind, .int .i64 x.a, .int .i64 x.b, .int .i64 x.c] 38)) [x.a, x.b, x.c] (by simp)).nums (hS.later (by simp))
  refine ⟨_, rfl, ?_, ((Below.refl _ _).alloc (Nat.le_refl _) _).alloc (by simp) _⟩
  have h := hO.take m hm3
  unfold usesR
  rw [← HMT.out]
  simpa using h

theorem bit_of (n : Int) (w : World) : Calls Try.prog 98 #[.int .i64 n] w fun e w' => e = .returned (.bool (bitB n)) ∧ w = w' := by
  by_cases h0 : n = 0
  · subst h0
    go_enter Try.func98, Try.ntmps98; go_wp2; go_ret; exact ⟨rfl, rfl⟩
  · by_cases h1 : n = 1
    · subst h1
      go_enter Try.func98, Try.ntmps98; go_wp2; go_ret; exact ⟨rfl, rfl⟩
    · have e0 : (n == 0) = false := by simpa using h0
      have e1 : (n == 1) = false := by simpa using h1
      have hb : bitB n = false := by simp [bitB, h0, h1]
      rw [hb]
      clear h0 h1 hb
      go_enter Try.func98, Try.ntmps98; go_wp2; go_ret; exact ⟨rfl, rfl⟩

set_option maxHeartbeats 2000000 in
set_option maxRecDepth 100000 in
theorem right_ref (w : World) (x : Node) (n : Nat) (_hn : n ≤ 1099511627776) :
    Calls Try.prog 81 #[.agg #[.int .i64 x.kind, .int .i64 x.a, .int .i64 x.b, .int .i64 x.c], .int .i64 n] w fun e w' => e = .returned (.bool (rightB x n)) ∧ Below w.heap.size w w' := by
  obtain ⟨kind, a, b, c⟩ := x
  have hbd := many_bd kind
  by_cases hk : 0 ≤ many kind
  · have hu : (usesR ⟨kind, a, b, c⟩).length ≤ 3 := by unfold usesR; simp; omega
    generalize hmk : many kind = mk at *
    have HMK := Lib.hid hmk
    clear hmk
    go_enter Try.func81, Try.ntmps81
    go_wp2_with (go_at_call 58; refine (many_ref _ _).mono ?_; rintro e w2 ⟨rfl, rfl⟩; rw [HMK.out])
    refine (uses_ref _ (fun _ => False) (fun _ h => h.elim) ⟨kind, a, b, c⟩).mono ?_
    rintro e w1 ⟨v1, rfl, hr, hb⟩
    have hb1 : Below w.heap.size w w1 := ((Below.refl _ _).alloc (Nat.le_refl _) _).trans (hb.mono (by simp))
    have z0 := (hb.cell (p := ⟨w.heap.size, 0, none⟩) (by simp)).trans (show _ = some (Value.int .i64 kind) by simp)
    have z1 := (hb.cell (p := ⟨w.heap.size, 1, none⟩) (by simp)).trans (show _ = some (Value.int .i64 a) by simp)
    have z2 := (hb.cell (p := ⟨w.heap.size, 2, none⟩) (by simp)).trans (show _ = some (Value.int .i64 b) by simp)
    have z3 := (hb.cell (p := ⟨w.heap.size, 3, none⟩) (by simp)).trans (show _ = some (Value.int .i64 c) by simp)
    clear hb
    have hall : rightB ⟨kind, a, b, c⟩ n = ((usesR ⟨kind, a, b, c⟩).all (fun at_ => decide (0 ≤ at_ ∧ at_ < n)) && (if kind = 0 then bitB a && decide (b = 0) && decide (c = 0)
     else if kind = 7 then bitB b && decide (c = 0)
     else (decide (1 ≤ mk) || decide (a = 0)) && (decide (2 ≤ mk) || decide (b = 0)) && (decide (3 ≤ mk) || decide (c = 0)))) := by
      simp only [rightB, HMK.out, decide_eq_true hk, Bool.true_and]
    have HALL := Lib.hid hall
    clear hall
    generalize usesR ⟨kind, a, b, c⟩ = l at hr hu HALL
    obtain ⟨A, cc, rfl, hcc, -⟩ := hr.shape
    have HR := Lib.hid hr
    clear hr
    go_wp2_with fail
    go_loop [7] (fun i => ∃ j : Nat, j ≤ l.length ∧ i = .int .i64 j ∧ ∀ q, q ∈ l.take j → 0 ≤ q ∧ q < n) (fun i => l.length - (intOf i).toNat)
    case atStart => exact ⟨0, Nat.zero_le _, rfl, by simp⟩
    case round =>
      obtain ⟨j, hj, rfl, hq⟩ := hrel
      have HQ := Lib.hid hq
      clear hq
      by_cases hlt : j < l.length
      · obtain ⟨bb, off, rfl, hcell⟩ := HR.out.int_at hlt
        have hm := List.getElem_mem hlt
        have HM := Lib.hid hm
        have HT := Lib.hid (List.take_succ_eq_append_getElem hlt)
        clear hm
        generalize l[j] = y at hcell HT HM
        by_cases hy0 : y < 0
        · go_wp2
          go_ret
          have : l.all (fun at_ => decide (0 ≤ at_ ∧ at_ < n)) = false := by
            rw [List.all_eq_false]; exact ⟨y, HM.out, by simp; omega⟩
          exact ⟨by rw [HALL.out, this]; rfl, hb1⟩
        · by_cases hyn : y < n
          · go_wp2
            go_round
            case rel => exact ⟨j + 1, by omega, by go_num, by
              rw [HT.out]; intro q hq
              rcases List.mem_append.1 hq with h | h
              · exact HQ.out q h
              · simp at h; subst h; omega⟩
            case measure => simp [intOf]; omega
          · go_wp2
            go_ret
            have : l.all (fun at_ => decide (0 ≤ at_ ∧ at_ < n)) = false := by
              rw [List.all_eq_false]; exact ⟨y, HM.out, by simp; omega⟩
            exact ⟨by rw [HALL.out, this]; rfl, hb1⟩
      · obtain rfl : j = l.length := by omega
        have hA : l.all (fun at_ => decide (0 ≤ at_ ∧ at_ < n)) = true := by
          rw [List.all_eq_true]; intro q hq; have := HQ.out q (by rw [List.take_length]; exact hq); simpa using this
        have HA := Lib.hid hA
        clear hA HR
        by_cases h0 : kind = 0
        · subst h0
          cases hba : bitB a
          all_goals
            have HBA := Lib.hid hba
            clear hba
            by_cases hb0 : b = 0
            · subst hb0
              by_cases hc0 : c = 0
              · subst hc0
                go_wp2_with (go_at_call 98; refine (bit_of _ _).mono ?_; rintro e w2 ⟨rfl, rfl⟩; rw [HBA.out])
                go_ret
                exact ⟨by rw [HALL.out, HA.out]; simp [HBA.out], hb1⟩
              · have ec : (c == 0) = false := by simpa using hc0
                have HC := Lib.hid hc0
                clear hc0
                go_wp2_with (go_at_call 98; refine (bit_of _ _).mono ?_; rintro e w2 ⟨rfl, rfl⟩; rw [HBA.out])
                go_ret
                exact ⟨by rw [HALL.out, HA.out]; simp [HBA.out, HC.out], hb1⟩
            · have eb : (b == 0) = false := by simpa using hb0
              have HBN := Lib.hid hb0
              clear hb0
              by_cases hc0 : c = 0
              · subst hc0
                go_wp2_with (go_at_call 98; refine (bit_of _ _).mono ?_; rintro e w2 ⟨rfl, rfl⟩; rw [HBA.out])
                go_ret
                exact ⟨by rw [HALL.out, HA.out]; simp [HBA.out, HBN.out], hb1⟩
              · have ec : (c == 0) = false := by simpa using hc0
                have HC := Lib.hid hc0
                clear hc0
                go_wp2_with (go_at_call 98; refine (bit_of _ _).mono ?_; rintro e w2 ⟨rfl, rfl⟩; rw [HBA.out])
                go_ret
                exact ⟨by rw [HALL.out, HA.out]; simp [HBA.out, HBN.out, HC.out], hb1⟩
        · have ek : (kind == 0) = false := by simpa using h0
          have HK0 := Lib.hid h0
          clear h0
          by_cases h7 : kind = 7
          · subst h7
            cases hbb : bitB b
            all_goals
              have HBA := Lib.hid hbb
              clear hbb
              by_cases hc0 : c = 0
              · subst hc0
                go_wp2_with (go_at_call 98; refine (bit_of _ _).mono ?_; rintro e w2 ⟨rfl, rfl⟩; rw [HBA.out])
                go_ret
                exact ⟨by rw [HALL.out, HA.out]; simp [HBA.out], hb1⟩
              · have ec : (c == 0) = false := by simpa using hc0
                have HC := Lib.hid hc0
                clear hc0
                go_wp2_with (go_at_call 98; refine (bit_of _ _).mono ?_; rintro e w2 ⟨rfl, rfl⟩; rw [HBA.out])
                go_ret
                exact ⟨by rw [HALL.out, HA.out]; simp [HBA.out, HC.out], hb1⟩
          · have ek7 : (kind == 7) = false := by simpa using h7
            have HK7 := Lib.hid h7
            clear h7
            have h1 : mk = 0 ∨ mk = 1 ∨ mk = 2 ∨ mk = 3 := by omega
            rcases h1 with rfl | rfl | rfl | rfl
            · skip
              by_cases ha0 : a = 0
              · subst ha0
                by_cases hb0 : b = 0
                · subst hb0
                  by_cases hc0 : c = 0
                  · subst hc0
                    go_wp2_with fail
                    go_ret
                    exact ⟨by rw [HALL.out, HA.out]; simp [HK0.out, HK7.out], hb1⟩
                  · have ec : (c == 0) = false := by simpa using hc0
                    have HCN := Lib.hid hc0
                    clear hc0
                    go_wp2_with fail
                    go_ret
                    exact ⟨by rw [HALL.out, HA.out]; simp [HK0.out, HK7.out, HCN.out], hb1⟩
                · have eb : (b == 0) = false := by simpa using hb0
                  have HBN := Lib.hid hb0
                  clear hb0
                  by_cases hc0 : c = 0
                  · subst hc0
                    go_wp2_with fail
                    go_ret
                    exact ⟨by rw [HALL.out, HA.out]; simp [HK0.out, HK7.out, HBN.out], hb1⟩
                  · have ec : (c == 0) = false := by simpa using hc0
                    have HCN := Lib.hid hc0
                    clear hc0
                    go_wp2_with fail
                    go_ret
                    exact ⟨by rw [HALL.out, HA.out]; simp [HK0.out, HK7.out, HBN.out, HCN.out], hb1⟩
              · have ea : (a == 0) = false := by simpa using ha0
                have HAN := Lib.hid ha0
                clear ha0
                by_cases hb0 : b = 0
                · subst hb0
                  by_cases hc0 : c = 0
                  · subst hc0
                    go_wp2_with fail
                    go_ret
                    exact ⟨by rw [HALL.out, HA.out]; simp [HK0.out, HK7.out, HAN.out], hb1⟩
                  · have ec : (c == 0) = false := by simpa using hc0
                    have HCN := Lib.hid hc0
                    clear hc0
                    go_wp2_with fail
                    go_ret
                    exact ⟨by rw [HALL.out, HA.out]; simp [HK0.out, HK7.out, HAN.out, HCN.out], hb1⟩
                · have eb : (b == 0) = false := by simpa using hb0
                  have HBN := Lib.hid hb0
                  clear hb0
                  by_cases hc0 : c = 0
                  · subst hc0
                    go_wp2_with fail
                    go_ret
                    exact ⟨by rw [HALL.out, HA.out]; simp [HK0.out, HK7.out, HAN.out, HBN.out], hb1⟩
                  · have ec : (c == 0) = false := by simpa using hc0
                    have HCN := Lib.hid hc0
                    clear hc0
                    go_wp2_with fail
                    go_ret
                    exact ⟨by rw [HALL.out, HA.out]; simp [HK0.out, HK7.out, HAN.out, HBN.out, HCN.out], hb1⟩
            · skip
              by_cases hb0 : b = 0
              · subst hb0
                by_cases hc0 : c = 0
                · subst hc0
                  go_wp2_with fail
                  go_ret
                  exact ⟨by rw [HALL.out, HA.out]; simp [HK0.out, HK7.out], hb1⟩
                · have ec : (c == 0) = false := by simpa using hc0
                  have HCN := Lib.hid hc0
                  clear hc0
                  go_wp2_with fail
                  go_ret
                  exact ⟨by rw [HALL.out, HA.out]; simp [HK0.out, HK7.out, HCN.out], hb1⟩
              · have eb : (b == 0) = false := by simpa using hb0
                have HBN := Lib.hid hb0
                clear hb0
                by_cases hc0 : c = 0
                · subst hc0
                  go_wp2_with fail
                  go_ret
                  exact ⟨by rw [HALL.out, HA.out]; simp [HK0.out, HK7.out, HBN.out], hb1⟩
                · have ec : (c == 0) = false := by simpa using hc0
                  have HCN := Lib.hid hc0
                  clear hc0
                  go_wp2_with fail
                  go_ret
                  exact ⟨by rw [HALL.out, HA.out]; simp [HK0.out, HK7.out, HBN.out, HCN.out], hb1⟩
            · skip
              by_cases hc0 : c = 0
              · subst hc0
                go_wp2_with fail
                go_ret
                exact ⟨by rw [HALL.out, HA.out]; simp [HK0.out, HK7.out], hb1⟩
              · have ec : (c == 0) = false := by simpa using hc0
                have HCN := Lib.hid hc0
                clear hc0
                go_wp2_with fail
                go_ret
                exact ⟨by rw [HALL.out, HA.out]; simp [HK0.out, HK7.out, HCN.out], hb1⟩
            · skip
              go_wp2_with fail
              go_ret
              exact ⟨by rw [HALL.out, HA.out]; simp [HK0.out, HK7.out], hb1⟩
  · have hneg : many kind < 0 := by omega
    have hr : rightB ⟨kind, a, b, c⟩ n = false := by simp [rightB, hk]
    rw [hr]
    generalize hmk : many kind = mk at *
    have HMK := Lib.hid hmk
    clear hmk hr hk
    go_enter Try.func81, Try.ntmps81
    go_wp2_with (go_at_call 58; refine (many_ref _ _).mono ?_; rintro e w2 ⟨rfl, rfl⟩; rw [HMK.out])
    go_ret
    exact ⟨rfl, (Below.refl _ _).alloc (Nat.le_refl _) _⟩
end Go.Proofs.Ytbfjacgfifecpaa

/-! ## Are all nodes and ports as they must be? -/
namespace Go.Proofs.Ytbfjacgfifecpaa
open Go.RowKit

def portB (p : Port) (n : Nat) : Bool := decide (p.bits ≠ []) && p.bits.all (fun at_ => decide (0 ≤ at_ ∧ at_ < n))
def formedB (nodes : List Node) (ins outs : List Port) : Bool := nodes.all (fun x => rightB x nodes.length) && (ins ++ outs).all (fun p => portB p nodes.length)

theorem Row.node_at {w : World} {S : Nat → Prop} {A : Option Addr} {n c : Nat} {xs : List Node} (h : Row kNode w S (.slice A n c) xs) {i : Nat} (hi : i < xs.length) :
    ∃ b off, A = some ⟨b, off, none⟩ ∧ w.cell? ⟨b, off + i * 4, none⟩ = some (.int .i64 xs[i].kind) ∧ w.cell? ⟨b, off + i * 4 + 1, none⟩ = some (.int .i64 xs[i].a) ∧
      w.cell? ⟨b, off + i * 4 + 2, none⟩ = some (.int .i64 xs[i].b) ∧ w.cell? ⟨b, off + i * 4 + 3, none⟩ = some (.int .i64 xs[i].c) := by
  have hn : n = xs.length := h.len
  obtain ⟨b, off, rfl, x, cs, hx, hk, hc⟩ := h.at (i := i) (by omega)
  rw [List.getElem?_eq_getElem hi] at hx
  injection hx with hx
  subst hx
  have hcs : cs = (xs[i]).cells := hk
  subst hcs
  exact ⟨b, off, rfl, hc 0 _ rfl, hc 1 _ rfl, hc 2 _ rfl, hc 3 _ rfl⟩

/-- append(v, ys...), ys a slice that is read -/
theorem row_pairs {α : Type} {k : Kd α} {w W : World} {A : Option Addr} {n c : Nat} {ys : List α} (h : Row k w (may w none w.heap.size) (.slice A n c) ys) (hb : Below w.heap.size w W) (S' : Nat → Prop) (hS : ∀ i, S' i → w.heap.size ≤ i) :
    ∃ dss, n = ys.length ∧ Pairs k W S' ys dss ∧ (∀ ad, A = some ad → ∀ j u, dss.flatten[j]? = some u → W.cell? (ad.add j) = some u) ∧ (A = none → ys = []) := by
  obtain ⟨A', c', css, he, h1, h2, h0, h3, h4⟩ := h
  injection he with e1 e2 e3
  subst e1; subst e3
  refine ⟨css, e2, h3.keep ⟨hb.size, fun i hi _ => hb.block i hi⟩ (fun i hi hm => .inl (hS i hm)), fun ad had j u hu => ?_, fun hA => ?_⟩
  · have hn : 0 < ys.length := by
      rcases Nat.eq_zero_or_pos ys.length with h | h
      · have := h3.1; rw [h] at this; rw [List.eq_nil_of_length_eq_zero this] at hu; simp at hu
      · exact h
    obtain ⟨b, off, he, hb', _, hc⟩ := h4 hn
    rw [had] at he; injection he with he; subst he
    rw [Addr.add_lit]
    exact (hb.cell (p := ⟨b, off + j, none⟩) hb').trans (hc j u hu)
  · rcases Nat.eq_zero_or_pos ys.length with h | h
    · exact List.eq_nil_of_length_eq_zero h
    · obtain ⟨b, off, he, _⟩ := h4 h
      rw [hA] at he; cases he

/-- append(v, ys...) as one step: whatever ys is -/
theorem wp_app_row {P : Program} {o : Oper} {a : Act} {Q : Exit → Act → World → Prop} {α : Type} (k : Kd α) (e t : TypeId) (z : Value) (bytes : Nat) {w : World} {K : Act → World → Prop}
    (s x : Operand) (ho : o.op = .call { callee := .builtin .append, args := #[s, x], argTypes := #[t, t] })
    (ht : P.underlying t = some (.slice e)) (hinfo : (P.info? e).map (fun i => (i.zero, i.size, i.bytes)) = some (some z, k.size, bytes)) (hz : z.cells.size = k.size) (hk0 : 0 < k.size) (hb0 : 0 < bytes)
    (B : Nat) {v : Value} {xs : List α} (hO : Own k e w none B v xs) (hB : B ≤ w.heap.size) (hs : a.eval s = v)
    {w0 : World} (A : Option Addr) (m c : Nat) (ys : List α) (hR : Row k w0 (may w0 none w0.heap.size) (.slice A m c) ys) (hbel : Below w0.heap.size w0 w) (hB0 : w0.heap.size ≤ B) (hx : a.eval x = .slice A m c)
    (hl : (xs.length + m) * bytes ≤ 140737488355328)
    (hK : ∀ v' w', Own k e w' none B v' (xs ++ ys) → Below B w w' → K (a.put o.dst v') w') : o.wp P a w K Q := by
  obtain ⟨dss, hm, hP, hC, hN⟩ := row_pairs hR hbel (fun i => foot w none i ∨ v.ownBlock = some i) (fun i hi => hi.elim (fun h => (foot_none _ _ h).elim) (fun h => Nat.le_trans hB0 (hO.base h).1))
  subst hm
  rcases A with _ | ad
  · obtain rfl := hN rfl
    obtain ⟨i0, hi, hzz⟩ := Option.map_eq_some_iff.1 hinfo
    simp only [Prod.mk.injEq] at hzz
    obtain ⟨hz0, hz1, hz2⟩ := hzz
    obtain ⟨A', c', css, he, h1, h2, h0, h3, h4⟩ := hR
    injection he with e1 e2 e3
    subst e3
    obtain rfl := h0 e1.symm
    obtain ⟨css', q1, q2, q3⟩ := hO
    have hrun := run_append_owned_none (P := P) w B t o.type e i0 k.size ht hi v xs.length css'.flatten q1
    unfold Oper.wp execOp
    simp only [ho, resolve, invoke, builtin, Sem.run_bind, Sem.run_pure, Result.andThen_ok, List.map_toArray, List.map_cons, List.map_nil, hs, hx, List.length_nil, hrun]
    exact hK v w (by rw [List.append_nil]; exact ⟨css', q1, q2, q3⟩) (Below.refl _ _)
  · exact wp_app k e t z bytes s x ho ht hinfo hz hk0 hb0 none B hO (FootIn.none _) hB hs ad ys.length c ys dss hx rfl hP (hC ad rfl) hl fun v' w' r1 r2 _ _ _ _ => hK v' w' r1 r2.below

set_option maxHeartbeats 4000000 in
set_option maxRecDepth 100000 in
theorem formed_ref (w : World) (vn vi vo : Value) (nodes : List Node) (ins outs : List Port) (hn : Row kNode w (may w none w.heap.size) vn nodes) (hi : Row kPort w (may w none w.heap.size) vi ins) (ho : Row kPort w (may w none w.heap.size) vo outs)
    (hnl : nodes.length ≤ 1099511627776) (hil : ins.length ≤ 1073741824) (hol : outs.length ≤ 1073741824) :
    Calls Try.prog 46 #[.agg #[vn, vi, vo]] w fun e w' => e = .returned (.bool (formedB nodes ins outs)) ∧ Below w.heap.size w w' := by
  obtain ⟨An, cn, rfl, -, -⟩ := hn.shape
  obtain ⟨Ai, ci, rfl, -, -⟩ := hi.shape
  obtain ⟨Ao, co, rfl, -, -⟩ := ho.shape
  let ob : Obj := .cells #[.slice An nodes.length cn, .slice Ai ins.length ci, .slice Ao outs.length co] 25
  have hb0 : Below w.heap.size w (w.alloc ob) := (Below.refl _ _).alloc (Nat.le_refl _) ob
  have hbox : ∀ W : World, Below (w.alloc ob).heap.size (w.alloc ob) W → W.cell? ⟨w.heap.size, 0, none⟩ = some (.slice An nodes.length cn) ∧ W.cell? ⟨w.heap.size, 1, none⟩ = some (.slice Ai ins.length ci) ∧ W.cell? ⟨w.heap.size, 2, none⟩ = some (.slice Ao outs.length co) :=
    fun W hW => ⟨(hW.cell (p := ⟨w.heap.size, 0, none⟩) (by simp)).trans (World.cell?_alloc_new _ _ _ 0), (hW.cell (p := ⟨w.heap.size, 1, none⟩) (by simp)).trans (World.cell?_alloc_new _ _ _ 1), (hW.cell (p := ⟨w.heap.size, 2, none⟩) (by simp)).trans (World.cell?_alloc_new _ _ _ 2)⟩
  have HBOX := Lib.hid hbox
  have HN := Lib.hid hn
  have HI := Lib.hid hi
  have HO := Lib.hid ho
  have HB0 := Lib.hid hb0
  have hsz0 : (w.alloc ob).heap.size = w.heap.size + 1 := by simp
  have HSZ := Lib.hid hsz0
  clear hn hi ho hb0 hbox hsz0
  go_enter Try.func46, Try.ntmps46
  go_wp2_with fail
  go_loopw [3] (fun i wr => ∃ j : Nat, j ≤ nodes.length ∧ i = .int .i64 j ∧ (∀ q, q ∈ nodes.take j → rightB q nodes.length = true) ∧ Below (w.alloc ob).heap.size (w.alloc ob) wr) (fun i _ => nodes.length - (intOf i).toNat)
  case atStart => exact ⟨0, Nat.zero_le _, rfl, by simp, Below.refl _ _⟩
  case round =>
    obtain ⟨j, hj, rfl, hq, hb⟩ := hrel
    have HQ := Lib.hid hq
    have HB := Lib.hid hb
    obtain ⟨z0, z1, z2⟩ := HBOX.out _ hb
    clear hq hb
    by_cases hlt : j < nodes.length
    · have hbw : Below w.heap.size w wr := HB0.out.trans (HB.out.mono (by have := HSZ.out; omega))
      obtain ⟨b, off, rfl, y0, y1, y2, y3⟩ := (HN.out.later hbw).node_at hlt
      have HM := Lib.hid (List.getElem_mem hlt)
      have HT := Lib.hid (List.take_succ_eq_append_getElem hlt)
      generalize nodes[j] = x at y0 y1 y2 y3 HM HT
      clear hbw z1 z2
      go_wp2_with fail
      go_still_tail 8, (by kernel_rfl)
      have hbw : Below w.heap.size w wr.drew := (HB0.out.trans (HB.out.mono (by have := HSZ.out; omega))).drew
      cases hr : rightB x nodes.length with
      | true =>
        have HR := Lib.hid hr
        clear hr
        go_wp2_with (go_at_call 81; refine (right_ref _ x nodes.length hnl).mono ?_; rintro e w2 ⟨rfl, hb2⟩; rw [HR.out]; have HB2 := Lib.hid hb2; clear hb2)
        go_roundw
        case rel => exact ⟨j + 1, by omega, by go_num, by
          rw [HT.out]; intro q hq
          rcases List.mem_append.1 hq with h | h
          · exact HQ.out q h
          · simp at h; subst h; exact HR.out, HB.out.drew.trans (HB2.out.mono (by have := HB.out.size; simpa using this))⟩
        case measure => simp [intOf]; omega
      | false =>
        have HR := Lib.hid hr
        clear hr
        go_wp2_with (go_at_call 81; refine (right_ref _ x nodes.length hnl).mono ?_; rintro e w2 ⟨rfl, hb2⟩; rw [HR.out]; have HB2 := Lib.hid hb2; clear hb2)
        go_ret
        have : formedB nodes ins outs = false := by
          have : nodes.all (fun x => rightB x nodes.length) = false := by
            rw [List.all_eq_false]; exact ⟨x, HM.out, by rw [HR.out]; decide⟩
          simp [formedB, this]
        exact ⟨by rw [this]; rfl, hbw.trans (HB2.out.mono (by have := hbw.size; simpa using this))⟩
    · obtain rfl : j = nodes.length := by omega
      have hall : nodes.all (fun x => rightB x nodes.length) = true := by
        rw [List.all_eq_true]; intro q hq; exact HQ.out q (by rw [List.take_length]; exact hq)
      have HALL := Lib.hid hall
      clear hall
      obtain ⟨L, hL⟩ : ∃ L, L = ([] ++ ins ++ outs : List Port) := ⟨_, rfl⟩
      have HLD := Lib.hid hL
      have hlen2 : L.length ≤ 2147483648 := by rw [hL]; simp; omega
      have hfe : formedB nodes ins outs = L.all (fun p => portB p nodes.length) := by
        rw [hL]; simp [formedB, HALL.out]
      have HFE := Lib.hid hfe
      clear hL hfe
      have hszr : w.heap.size + 1 ≤ wr.heap.size := by have := HB.out.size; have := HSZ.out; omega
      have HO1 : Hid (Own kPort 53 (wr.alloc (.cells #[] 53)).drew none wr.heap.size (.slice (some ⟨wr.heap.size, 0, none⟩) 0 0) []) := (Own.lit0 kPort 53 wr).drew (FootIn.none _)
      have hba : Below (w.alloc ob).heap.size (w.alloc ob) (wr.alloc (.cells #[] 53)).drew := (HB.out.alloc (by rw [HSZ.out]; exact hszr) _).drew
      have HBA := Lib.hid hba
      have HBW : Hid (Below w.heap.size w (wr.alloc (.cells #[] 53)).drew) := HB0.out.trans (hba.mono (by rw [HSZ.out]; omega))
      have HZ0 := Lib.hid (HBOX.out _ hba)
      clear hba
      go_wp2_with fail
      go_region_held3 (fun W => W.cell? ⟨w.heap.size, 0, none⟩ = some (.slice An nodes.length cn) ∧ W.cell? ⟨w.heap.size, 1, none⟩ = some (.slice Ai ins.length ci) ∧ W.cell? ⟨w.heap.size, 2, none⟩ = some (.slice Ao outs.length co))
        (first | exact HZ0.out | exact HZ1.out | exact HZ2.out | go_keep)
        (first
          | (refine step_app rfl (wp_app_row kPort 53 23 (.agg #[.string ⟨#[]⟩, .slice none 0 0]) 40 (.tmp 24) (.tmp 26) rfl Try.underlying23 infoPort rfl (by decide) (by decide) wr.heap.size HO1.out (by simp) rfl Ai ins.length ci ins HI.out HBW.out (by omega) rfl (by simp; omega) ?_); intro v1 w1 q1 b1; obtain ⟨A1, d1, rfl, -, -⟩ := q1.shape; have HQ1 := Lib.hid q1; have HBA1 := Lib.hid (HBA.out.trans (b1.mono (by rw [HSZ.out]; exact hszr))); have HBW1 := Lib.hid (HBW.out.trans (b1.mono (by omega))); have HZ1 := Lib.hid (HBOX.out _ HBA1.out); have hs1 : wr.heap.size < w1.heap.size := Nat.lt_of_lt_of_le (by simp) b1.size; clear q1 b1)
          | (refine step_app rfl (wp_app_row kPort 53 23 (.agg #[.string ⟨#[]⟩, .slice none 0 0]) 40 (.tmp 27) (.tmp 29) rfl Try.underlying23 infoPort rfl (by decide) (by decide) wr.heap.size HQ1.out (by omega) rfl Ao outs.length co outs HO.out HBW1.out (by omega) rfl (by simp; omega) ?_); intro v2 w2 q2 b2; rw [← HLD.out] at q2; obtain ⟨A2, d2, rfl, -, -⟩ := q2.shape; have HQ2 := Lib.hid q2; have HBA2 := Lib.hid (HBA1.out.trans (b2.mono (by rw [HSZ.out]; exact hszr))); have HBW2 := Lib.hid (HBW1.out.trans (b2.mono (by omega))); have HZ2 := Lib.hid (HBOX.out _ HBA2.out); clear q2 b2))
      have HROW := Lib.hid (HQ2.out.row (by decide) (Nat.le_refl _))
      clear z0 z1 z2
      go_wp2_with fail
      obtain ⟨wx, rfl⟩ : ∃ wx : World, wx = wr := ⟨_, rfl⟩
      go_loopw [5] (fun i wp => ∃ j : Nat, j ≤ L.length ∧ i = .int .i64 j ∧ (∀ q, q ∈ L.take j → portB q nodes.length = true) ∧ Below w2.heap.size w2 wp) (fun i _ => L.length - (intOf i).toNat)
      case atStart => exact ⟨0, Nat.zero_le _, rfl, by simp, Below.refl _ _⟩
      case round =>
        obtain ⟨wp, rfl⟩ : ∃ wp : World, wp = wr := ⟨_, rfl⟩
        obtain ⟨j, hj, rfl, hq, hb⟩ := hrel
        have HQ := Lib.hid hq
        have HBP := Lib.hid hb
        clear hq
        by_cases hlt : j < L.length
        · obtain ⟨bb, off, A3, d3, rfl, y0, y1, hbits⟩ := (HROW.out.later hb).port_at hlt
          have HM := Lib.hid (List.getElem_mem hlt)
          have HT := Lib.hid (List.take_succ_eq_append_getElem hlt)
          generalize L[j] = y at y0 y1 hbits HM HT
          obtain ⟨name, bits⟩ := y
          dsimp only at y0 y1 hbits HM HT
          have HBITS := Lib.hid hbits
          clear hbits
          have hbad : portB ⟨name, bits⟩ nodes.length = false → formedB nodes ins outs = false := fun h => by
            rw [HFE.out, List.all_eq_false]; exact ⟨_, HM.out, by rw [h]; decide⟩
          have HBAD := Lib.hid hbad
          clear hbad
          have hend : Below w.heap.size w wp := HBW2.out.trans (hb.mono HBW2.out.size)
          have HEND := Lib.hid hend
          clear hend hb
          by_cases hbe : bits = []
          · subst hbe
            go_wp2
            go_ret
            exact ⟨by rw [HBAD.out rfl]; rfl, HEND.out⟩
          · have hbl : 0 < bits.length := List.length_pos_iff.2 hbe
            have hbl2 : bits.length ≤ 9223372036854775807 := by obtain ⟨_, _, he, h1, h2⟩ := HBITS.out.shape; unfold maxLen at h2; omega
            have hb0e : ((bits.length : Int) == 0) = false := by rw [beq_eq_false_iff_ne]; omega
            have HBE := Lib.hid hbe
            clear hbe
            go_wp2_with fail
            go_loopw [6] (fun i wq => ∃ q : Nat, q ≤ bits.length ∧ i = .int .i64 q ∧ (∀ z, z ∈ bits.take q → 0 ≤ z ∧ z < nodes.length) ∧ Below wp.heap.size wp wq) (fun i _ => bits.length - (intOf i).toNat)
            case atStart => exact ⟨0, Nat.zero_le _, rfl, by simp, Below.refl _ _⟩
            case round =>
              obtain ⟨wq, rfl⟩ : ∃ wq : World, wq = wr := ⟨_, rfl⟩
              obtain ⟨q, hq, rfl, hz, hb⟩ := hrel
              have HZ := Lib.hid hz
              have y1' := (hb.cell (p := ⟨bb, off + j * 2 + 1, none⟩) (World.block_lt_of_cell? _ _ y1)).trans y1
              have HB := Lib.hid hb
              clear hz
              by_cases hql : q < bits.length
              · obtain ⟨b4, off4, rfl, hcell⟩ := (HBITS.out.later hb).int_at hql
                have HM4 := Lib.hid (List.getElem_mem hql)
                have HT4 := Lib.hid (List.take_succ_eq_append_getElem hql)
                generalize bits[q] = z at hcell HM4 HT4
                obtain ⟨z0, z1, z2⟩ := HBOX.out _ ((HBA2.out.trans (HBP.out.mono HBA2.out.size)).trans (hb.mono (by have := HBA2.out.size; have := HBP.out.size; omega)))
                clear hb z1 z2
                by_cases hz0 : z < 0
                · go_wp2_with fail
                  go_quiet (fail)
                  go_wp2
                  go_ret
                  have : portB ⟨name, bits⟩ nodes.length = false := by
                    have : bits.all (fun at_ => decide (0 ≤ at_ ∧ at_ < nodes.length)) = false := by
                      rw [List.all_eq_false]; exact ⟨z, HM4.out, by simp; omega⟩
                    simp only [portB, this, Bool.and_false]
                  exact ⟨by rw [HBAD.out this]; rfl, (HEND.out.trans (HB.out.mono HEND.out.size)).trans ((pw_drewN _ _).mono (Nat.le_trans HEND.out.size HB.out.size))⟩
                · by_cases hzn : z < nodes.length
                  · go_wp2_with fail
                    go_quiet (fail)
                    go_wp2
                    go_roundw
                    case rel =>
                      have hz2 : ∀ y, y ∈ bits.take (q + 1) → 0 ≤ y ∧ y < nodes.length := by
                        rw [HT4.out]; intro y hy
                        rcases List.mem_append.1 hy with h | h
                        · exact HZ.out y h
                        · simp at h; subst h; omega
                      first
                        | exact ⟨q + 1, by omega, by go_num, hz2, HB.out.trans ((pw_drewN _ _).mono HB.out.size)⟩
                        | ((repeat apply Exists.intro); exact ⟨⟨q + 1, by omega, by go_num, hz2, HB.out.trans ((pw_drewN _ _).mono HB.out.size)⟩, rfl⟩)
                    case measure => simp [intOf]; omega
                  · go_wp2_with fail
                    go_quiet (fail)
                    go_wp2
                    go_ret
                    have : portB ⟨name, bits⟩ nodes.length = false := by
                      have : bits.all (fun at_ => decide (0 ≤ at_ ∧ at_ < nodes.length)) = false := by
                        rw [List.all_eq_false]; exact ⟨z, HM4.out, by simp; omega⟩
                      simp only [portB, this, Bool.and_false]
                    exact ⟨by rw [HBAD.out this]; rfl, (HEND.out.trans (HB.out.mono HEND.out.size)).trans ((pw_drewN _ _).mono (Nat.le_trans HEND.out.size HB.out.size))⟩
              · obtain rfl : q = bits.length := by omega
                go_wp2
                go_roundw
                case rel => exact ⟨j + 1, by omega, by go_num, by
                  rw [HT.out]; intro y hy
                  rcases List.mem_append.1 hy with h | h
                  · exact HQ.out y h
                  · simp at h; subst h
                    have : bits.all (fun at_ => decide (0 ≤ at_ ∧ at_ < nodes.length)) = true := by
                      rw [List.all_eq_true]; intro z hz; have := HZ.out z (by rw [List.take_length]; exact hz); simpa using this
                    simp only [portB, this, Bool.and_true]; exact decide_eq_true HBE.out, HBP.out.trans (hb.mono HBP.out.size)⟩
                case measure => simp [intOf]; omega
        · obtain rfl : j = L.length := by omega
          go_wp2
          go_ret
          have hA : L.all (fun p => portB p nodes.length) = true := by
            rw [List.all_eq_true]; intro q hq; exact HQ.out q (by rw [List.take_length]; exact hq)
          exact ⟨by rw [HFE.out, hA]; rfl, HBW2.out.trans (hb.mono (by have := HBW2.out.size; exact this))⟩
end Go.Proofs.Ytbfjacgfifecpaa

/-! ## A net's values, cycle by cycle: slipstickref07. -/
namespace Go.Proofs.Ytbfjacgfifecpaa
open Go.RowKit

def b2i (b : Bool) : Int := if b then 1 else 0
theorem b2i_bd (b : Bool) : 0 ≤ b2i b ∧ b2i b ≤ 1 := by cases b <;> decide
def at_ (vs : List Bool) (i : Int) : Bool := vs.getD i.toNat false
def gateB (x : Node) (vs : List Bool) : Bool :=
  if x.kind = 2 then !at_ vs x.a else if x.kind = 3 then at_ vs x.a && at_ vs x.b else if x.kind = 4 then at_ vs x.a || at_ vs x.b
  else if x.kind = 5 then at_ vs x.a != at_ vs x.b else if at_ vs x.c then at_ vs x.b else at_ vs x.a

/-- numbers 0 and 1 that are read -/
theorem Row.b2i_at {w : World} {S : Nat → Prop} {A : Option Addr} {n c : Nat} {vs : List Bool} (h : Row kInt w S (.slice A n c) (vs.map b2i)) {i : Nat} (hi : i < vs.length) :
    ∃ b off, A = some ⟨b, off, none⟩ ∧ w.cell? ⟨b, off + i, none⟩ = some (.int .i64 (b2i (at_ vs i))) := by
  obtain ⟨b, off, rfl, hc⟩ := h.int_at (i := i) (by simpa using hi)
  refine ⟨b, off, rfl, ?_⟩
  rw [hc]
  simp [at_, hi]

theorem b2i_sub (b : Bool) : 1 - b2i b = b2i (!b) := by cases b <;> rfl
theorem b2i_min (a b : Bool) : min (b2i a) (b2i b) = b2i (a && b) := by cases a <;> cases b <;> rfl
theorem b2i_max (a b : Bool) : max (b2i a) (b2i b) = b2i (a || b) := by cases a <;> cases b <;> rfl
theorem b2i_xor (a b : Bool) : (b2i a + b2i b) % 2 = b2i (a != b) := by cases a <;> cases b <;> rfl
theorem b2i_eq (a : Bool) : (b2i a == 1) = a := by cases a <;> rfl

set_option maxHeartbeats 4000000 in
attribute [local go_sem] max2_int min2_int max_two min_two in
theorem gate_ref (w : World) (S : Nat → Prop) (x : Node) (v : Value) (vs : List Bool) (hx : Row kInt w S v (vs.map b2i)) (hk : 2 ≤ x.kind ∧ x.kind ≤ 6) (hu : ∀ u, u ∈ usesR x → 0 ≤ u ∧ u < vs.length) (_hl : vs.length ≤ 1099511627776) :
    Calls Try.prog 102 #[.agg #[.int .i64 x.kind, .int .i64 x.a, .int .i64 x.b, .int .i64 x.c], v] w fun e w' => e = .returned (.int .i64 (b2i (gateB x vs))) ∧ Below w.heap.size w w' := by
  obtain ⟨kind, a, b, c⟩ := x
  obtain ⟨A, cc, rfl, -, -⟩ := hx.shape
  have hml : (vs.map b2i).length = vs.length := by simp
  have hbx : Below w.heap.size w (w.alloc (.cells #[.int .i64 kind, .int .i64 a, .int .i64 b, .int .i64 c] 38)) := (Below.refl _ _).alloc (Nat.le_refl _) _
  have hxd := hx.later hbx
  rw [hml] at hx hxd ⊢
  have hkk : kind = 2 ∨ kind = 3 ∨ kind = 4 ∨ kind = 5 ∨ kind = 6 := by simp only at hk; omega
  have HBX := Lib.hid hbx
  clear hk hml hbx hx
  rcases hkk with rfl | rfl | rfl | rfl | rfl
  · have h1 := hu a (by simp [usesR, many])
    obtain ⟨i, rfl⟩ := Int.eq_ofNat_of_zero_le h1.1
    obtain ⟨b1, o1, rfl, z0⟩ := hxd.b2i_at (i := i) (by omega)
    have hi : i < vs.length := by omega
    have hbd := b2i_bd (at_ vs i)
    have HG : Hid (1 - b2i (at_ vs i) = b2i (gateB ⟨2, i, b, c⟩ vs)) := b2i_sub _
    obtain ⟨hb0, hb1⟩ := hbd
    clear hu hxd h1
    generalize b2i (at_ vs (i : Int)) = y at *
    go_enter Try.func102, Try.ntmps102
    go_wp2
    go_ret
    exact ⟨by rw [← HG.out]; rfl, HBX.out⟩
  · have h1 := hu a (by simp [usesR, many])
    have h2 := hu b (by simp [usesR, many])
    obtain ⟨i, rfl⟩ := Int.eq_ofNat_of_zero_le h1.1
    obtain ⟨j, rfl⟩ := Int.eq_ofNat_of_zero_le h2.1
    obtain ⟨b1, o1, rfl, z0⟩ := hxd.b2i_at (i := i) (by omega)
    obtain ⟨b2, o2, he, z1⟩ := hxd.b2i_at (i := j) (by omega)
    injection he with he; injection he with e1 e2; subst e1; subst e2
    have hi : i < vs.length := by omega
    have hj : j < vs.length := by omega
    have HG : Hid (min (b2i (at_ vs i)) (b2i (at_ vs j)) = b2i (gateB ⟨3, i, j, c⟩ vs)) := b2i_min _ _
    clear hu hxd h1 h2
    generalize b2i (at_ vs (i : Int)) = y at *
    generalize b2i (at_ vs (j : Int)) = y2 at *
    go_enter Try.func102, Try.ntmps102
    go_wp2_with fail
    go_quiet (fail)
    go_wp2
    go_ret
    exact ⟨by rw [← HG.out]; rfl, HBX.out.trans ((pw_drewN _ _).mono (by simp))⟩
  · have h1 := hu a (by simp [usesR, many])
    have h2 := hu b (by simp [usesR, many])
    obtain ⟨i, rfl⟩ := Int.eq_ofNat_of_zero_le h1.1
    obtain ⟨j, rfl⟩ := Int.eq_ofNat_of_zero_le h2.1
    obtain ⟨b1, o1, rfl, z0⟩ := hxd.b2i_at (i := i) (by omega)
    obtain ⟨b2, o2, he, z1⟩ := hxd.b2i_at (i := j) (by omega)
    injection he with he; injection he with e1 e2; subst e1; subst e2
    have hi : i < vs.length := by omega
    have hj : j < vs.length := by omega
    have HG : Hid (max (b2i (at_ vs i)) (b2i (at_ vs j)) = b2i (gateB ⟨4, i, j, c⟩ vs)) := b2i_max _ _
    clear hu hxd h1 h2
    generalize b2i (at_ vs (i : Int)) = y at *
    generalize b2i (at_ vs (j : Int)) = y2 at *
    go_enter Try.func102, Try.ntmps102
    go_wp2_with fail
    go_quiet (fail)
    go_wp2
    go_ret
    exact ⟨by rw [← HG.out]; rfl, HBX.out.trans ((pw_drewN _ _).mono (by simp))⟩
  · have h1 := hu a (by simp [usesR, many])
    have h2 := hu b (by simp [usesR, many])
    obtain ⟨i, rfl⟩ := Int.eq_ofNat_of_zero_le h1.1
    obtain ⟨j, rfl⟩ := Int.eq_ofNat_of_zero_le h2.1
    obtain ⟨b1, o1, rfl, z0⟩ := hxd.b2i_at (i := i) (by omega)
    obtain ⟨b2, o2, he, z1⟩ := hxd.b2i_at (i := j) (by omega)
    injection he with he; injection he with e1 e2; subst e1; subst e2
    have hi : i < vs.length := by omega
    have hj : j < vs.length := by omega
    have HG : Hid ((b2i (at_ vs i) + b2i (at_ vs j)) % 2 = b2i (gateB ⟨5, i, j, c⟩ vs)) := b2i_xor _ _
    obtain ⟨q1, q2⟩ := b2i_bd (at_ vs i)
    obtain ⟨q3, q4⟩ := b2i_bd (at_ vs j)
    clear hu hxd h1 h2
    generalize b2i (at_ vs (i : Int)) = y at *
    generalize b2i (at_ vs (j : Int)) = y2 at *
    have e1 : IntKind.i64.wrap (y + y2) = y + y2 := IntWalk.i64_in _ (by omega)
    have e2 : (y + y2).tmod 2 = (y + y2) % 2 := by rw [Int.tmod_eq_emod_of_nonneg (by omega)]
    go_enter Try.func102, Try.ntmps102
    go_wp2_with fail
    go_quiet (fail)
    go_wp2
    go_ret
    exact ⟨by rw [← HG.out]; rfl, HBX.out.trans ((pw_drewN _ _).mono (by simp))⟩
  · have h1 := hu a (by simp [usesR, many])
    have h2 := hu b (by simp [usesR, many])
    have h3 := hu c (by simp [usesR, many])
    obtain ⟨i, rfl⟩ := Int.eq_ofNat_of_zero_le h1.1
    obtain ⟨j, rfl⟩ := Int.eq_ofNat_of_zero_le h2.1
    obtain ⟨k, rfl⟩ := Int.eq_ofNat_of_zero_le h3.1
    obtain ⟨b1, o1, rfl, z0⟩ := hxd.b2i_at (i := i) (by omega)
    obtain ⟨b2, o2, he, z1⟩ := hxd.b2i_at (i := j) (by omega)
    injection he with he; injection he with e1 e2; subst e1; subst e2
    obtain ⟨b2, o2, he, z2⟩ := hxd.b2i_at (i := k) (by omega)
    injection he with he; injection he with e1 e2; subst e1; subst e2
    have hi : i < vs.length := by omega
    have hj : j < vs.length := by omega
    have hk : k < vs.length := by omega
    have HG : Hid (b2i (if at_ vs k then at_ vs j else at_ vs i) = b2i (gateB ⟨6, i, j, k⟩ vs)) := rfl
    clear hu hxd h1 h2 h3
    generalize at_ vs (i : Int) = y at *
    generalize at_ vs (j : Int) = y2 at *
    generalize at_ vs (k : Int) = y3 at *
    cases y3
    all_goals
      simp only [show b2i false = 0 from rfl, show b2i true = 1 from rfl] at z2
      go_enter Try.func102, Try.ntmps102
      go_wp2
      go_ret
      exact ⟨by rw [← HG.out]; rfl, HBX.out⟩
end Go.Proofs.Ytbfjacgfifecpaa

/-! ## The state, at first and behind a cycle: slipstickref07. -/
namespace Go.Proofs.Ytbfjacgfifecpaa
open Go.RowKit

/-- a net as a value -/
def NetV (w : World) (v : Value) (nodes : List Node) (ins outs : List Port) : Prop :=
  ∃ vn vi vo, v = .agg #[vn, vi, vo] ∧ Row kNode w (fun _ => False) vn nodes ∧ Row kPort w (fun _ => False) vi ins ∧ Row kPort w (fun _ => False) vo outs
theorem NetV.later {w w' : World} {v : Value} {nodes : List Node} {ins outs : List Port} (h : NetV w v nodes ins outs) (hb : Below w.heap.size w w') : NetV w' v nodes ins outs := by
  obtain ⟨vn, vi, vo, rfl, h1, h2, h3⟩ := h
  exact ⟨vn, vi, vo, rfl, h1.later hb, h2.later hb, h3.later hb⟩
abbrev netBox (vn vi vo : Value) : Obj := .cells #[vn, vi, vo] 25
theorem NetV.box {w : World} {v : Value} {nodes : List Node} {ins outs : List Port} (h : NetV w v nodes ins outs) :
    ∃ An cn Ai ci Ao co, v = .agg #[.slice An nodes.length cn, .slice Ai ins.length ci, .slice Ao outs.length co] ∧
      ∀ W, Below (w.heap.size + 1) (w.alloc (netBox (.slice An nodes.length cn) (.slice Ai ins.length ci) (.slice Ao outs.length co))) W →
        W.cell? ⟨w.heap.size, 0, none⟩ = some (.slice An nodes.length cn) ∧ W.cell? ⟨w.heap.size, 1, none⟩ = some (.slice Ai ins.length ci) ∧ W.cell? ⟨w.heap.size, 2, none⟩ = some (.slice Ao outs.length co) ∧
        Row kNode W (fun _ => False) (.slice An nodes.length cn) nodes ∧ Row kPort W (fun _ => False) (.slice Ai ins.length ci) ins ∧ Row kPort W (fun _ => False) (.slice Ao outs.length co) outs ∧ Below w.heap.size w W := by
  obtain ⟨vn, vi, vo, rfl, h1, h2, h3⟩ := h
  obtain ⟨An, cn, rfl, -, -⟩ := h1.shape
  obtain ⟨Ai, ci, rfl, -, -⟩ := h2.shape
  obtain ⟨Ao, co, rfl, -, -⟩ := h3.shape
  refine ⟨An, cn, Ai, ci, Ao, co, rfl, fun W hW => ?_⟩
  have hb : Below w.heap.size w W := ((Below.refl _ _).alloc (Nat.le_refl _) _).trans (hW.mono (by omega))
  exact ⟨(hW.cell (p := ⟨w.heap.size, 0, none⟩) (by simp)).trans (World.cell?_alloc_new _ _ _ 0), (hW.cell (p := ⟨w.heap.size, 1, none⟩) (by simp)).trans (World.cell?_alloc_new _ _ _ 1), (hW.cell (p := ⟨w.heap.size, 2, none⟩) (by simp)).trans (World.cell?_alloc_new _ _ _ 2),
    h1.later hb, h2.later hb, h3.later hb, hb⟩

/-- a row of zeros -/
theorem make_ints (n : Nat) (hn : n ≤ 1099511627776) (W : World) : (Instr.makeSlice 28 (.int .i64 (n : Int)) (.int .i64 (n : Int))).run Try.prog W = .ok (.slice (some ⟨W.heap.size, 0, none⟩) n n) (W.alloc (.cells (madeCells #[.int .i64 0] n) 3)) := by
  obtain ⟨i0, hi, hz0, hz1, hz2⟩ := info_parts infoInt
  have hr := run_make (P := Try.prog) W 28 3 i0 (.int .i64 0) Try.underlying28 hi hz0 .i64 .i64 n n (by omega) (Int.le_refl _) (by rw [hz2]; omega) (by omega)
  rw [hz1] at hr
  simp only [Int.toNat_natCast, Nat.mul_one] at hr
  exact hr
theorem made_ints (n : Nat) (hn : n ≤ 1099511627776) (W : World) : Own kInt 3 (W.alloc (.cells (madeCells #[.int .i64 0] n) 3)) none W.heap.size (.slice (some ⟨W.heap.size, 0, none⟩) n n) (List.replicate n 0) := by
  have h := World.ownsRow_lit (base := W.heap.size) (e := 3) (size := 1) W (madeCells #[.int .i64 0] n) n (Nat.le_refl _) (by simp only [maxLen]; omega) (by simp [size_madeCells])
  refine Own.of_ints ?_ (fun _ _ => foot_none _ _)
  have e : (List.replicate n 0).map (fun x => Value.int .i64 x) = (madeCells #[.int .i64 0] n).toList := by rw [toList_madeCells_one]; simp
  rw [e, List.length_replicate]
  exact h

/-- a row that is filled from the left -/
def filled {α : Type} (f : α → Bool) (xs : List α) (k : Nat) : List Int := (xs.take k).map (fun x => b2i (f x)) ++ List.replicate (xs.length - k) 0
theorem filled_zero {α : Type} (f : α → Bool) (xs : List α) : filled f xs 0 = List.replicate xs.length 0 := by simp [filled]
theorem filled_length {α : Type} (f : α → Bool) (xs : List α) (k : Nat) (hk : k ≤ xs.length) : (filled f xs k).length = xs.length := by simp [filled]; omega
theorem filled_all {α : Type} (f : α → Bool) (xs : List α) : filled f xs xs.length = (xs.map f).map b2i := by simp [filled]
theorem filled_at {α : Type} (f : α → Bool) (xs : List α) (k : Nat) (hk : k < xs.length) : (filled f xs k)[k]? = some 0 := by
  have hl : ((xs.take k).map (fun x => b2i (f x))).length = k := by simp; omega
  rw [filled, List.getElem?_append_right (by omega), hl, Nat.sub_self, List.getElem?_replicate, if_pos (by omega)]
theorem filled_succ {α : Type} (f : α → Bool) (xs : List α) (k : Nat) (hk : k < xs.length) : (filled f xs k).set k (b2i (f xs[k])) = filled f xs (k + 1) := by
  have hl : ((xs.take k).map (fun x => b2i (f x))).length = k := by simp; omega
  rw [filled, List.set_append_right _ _ (by omega), hl, Nat.sub_self, filled, List.take_succ_eq_append_getElem hk]
  obtain ⟨m, hm⟩ : ∃ m, xs.length - k = m + 1 := ⟨xs.length - k - 1, by omega⟩
  rw [hm, show xs.length - (k + 1) = m by omega, List.replicate_succ, List.map_append, List.set_cons_zero, List.append_assoc]
  rfl
theorem filled_skip {α : Type} (f : α → Bool) (xs : List α) (k : Nat) (hk : k < xs.length) (h : f xs[k] = false) : filled f xs (k + 1) = filled f xs k := by
  rw [← filled_succ f xs k hk, h]
  apply List.ext_getElem?
  intro i
  rw [List.getElem?_set]
  split
  · rename_i he; subst he
    rw [filled_length f xs k (by omega), if_pos hk, filled_at f xs k hk]; rfl
  · rfl

def startR (nodes : List Node) : List Bool := nodes.map fun x => decide (x.kind = 7) && decide (x.b = 1)
def nextR (nodes : List Node) (vs : List Bool) : List Bool := nodes.map fun x => decide (x.kind = 7) && at_ vs x.a

set_option maxHeartbeats 2000000 in
set_option maxRecDepth 100000 in
theorem start_ref (w : World) (S : Nat → Prop) (hS : There S w) (v : Value) (nodes : List Node) (ins outs : List Port) (hN : NetV w v nodes ins outs) (hnl : nodes.length ≤ 1099511627776) (hk : ∀ x ∈ nodes, x.kind = 7 → x.b = 0 ∨ x.b = 1) :
    Calls Try.prog 90 #[v] w fun e w' => ∃ v', e = .returned v' ∧ Row kInt w' S v' ((startR nodes).map b2i) ∧ Below w.heap.size w w' := by
  obtain ⟨An, cn, Ai, ci, Ao, co, rfl, hbox⟩ := hN.box
  let ob := netBox (.slice An nodes.length cn) (.slice Ai ins.length ci) (.slice Ao outs.length co)
  have hmk := make_ints nodes.length hnl
  have hO := made_ints nodes.length hnl (w.alloc ob)
  have hsz : (w.alloc ob).heap.size = w.heap.size + 1 := by simp
  rw [hsz] at hO
  have HO := Lib.hid hO
  have HBOX := Lib.hid hbox
  have HK := Lib.hid hk
  have HSZ := Lib.hid hsz
  have hb1 : Below (w.heap.size + 1) (w.alloc ob) ((w.alloc ob).alloc (.cells (madeCells #[.int .i64 0] nodes.length) 3)) := (Below.refl _ _).alloc (by rw [hsz]; exact Nat.le_refl _) _
  have HB1 := Lib.hid hb1
  obtain ⟨z0, -, -, -⟩ := hbox (w.alloc ob) (Below.refl _ _)
  clear hO hbox hk hsz hb1 hN
  go_enter Try.func90, Try.ntmps90
  go_wp2_with fail
  go_loopw [4] (fun i wr => ∃ j : Nat, j ≤ nodes.length ∧ i = .int .i64 j ∧ Own kInt 3 wr none (w.heap.size + 1) (.slice (some ⟨w.heap.size + 1, 0, none⟩) nodes.length nodes.length) (filled (fun x : Node => decide (x.kind = 7) && decide (x.b = 1)) nodes j) ∧ Below (w.heap.size + 1) (w.alloc ob) wr) (fun i _ => nodes.length - (intOf i).toNat)
  case atStart => exact ⟨0, Nat.zero_le _, rfl, by rw [filled_zero]; exact HO.out, HB1.out⟩
  case round =>
    obtain ⟨j, hj, rfl, ho, hb⟩ := hrel
    clear z0
    obtain ⟨z0, -, -, hrn, -, -, hbw⟩ := HBOX.out _ hb
    have HB := Lib.hid hb
    have HBW := Lib.hid hbw
    have HOW := Lib.hid ho
    clear hb hbw
    by_cases hlt : j < nodes.length
    · obtain ⟨b, off, rfl, y0, y1, y2, y3⟩ := hrn.node_at hlt
      have hat := ho.cellAt? (filled_at _ nodes j hlt)
      obtain ⟨x0, x1⟩ := hat
      have HF := Lib.hid (filled_succ (fun x : Node => decide (x.kind = 7) && decide (x.b = 1)) nodes j hlt)
      have HG := Lib.hid (filled_skip (fun x : Node => decide (x.kind = 7) && decide (x.b = 1)) nodes j hlt)
      have HM := Lib.hid (HK.out _ (List.getElem_mem hlt))
      clear hrn y1 y3 ho
      generalize nodes[j] = x at y0 y2 HF HG HM
      obtain ⟨kind, xa, xb, xc⟩ := x
      dsimp only at y0 y2 HF HG HM
      by_cases h7 : kind = 7
      · subst h7
        have HXB := Lib.hid (show xb = b2i (decide ((7:Int) = 7) && decide (xb = 1)) by rcases HM.out rfl with h | h <;> subst h <;> rfl)
        go_wp2
        go_roundw
        case rel =>
          have hst := HOW.out.store (FootIn.none _) (by have := HB.out.size; simp at this; omega) j xb
          exact ⟨j + 1, by omega, by go_num, by rw [← HF.out, ← HXB.out]; exact hst.1, HB.out.setCell (Nat.le_refl _) _⟩
        case measure => simp [intOf]; omega
      · have h7' : (kind == 7) = false := by simpa using h7
        go_wp2
        go_roundw
        case rel => exact ⟨j + 1, by omega, by go_num, by rw [HG.out (by simp [h7])]; exact HOW.out, HB.out⟩
        case measure => simp [intOf]; omega
    · obtain rfl : j = nodes.length := by omega
      rw [filled_all] at ho
      clear HOW
      go_wp2
      go_ret
      exact ⟨_, rfl, ho.rowS S (fun g hg hs => by have h1 := (ho.base hg).1; have := hS g hs; omega), HBW.out⟩

set_option maxHeartbeats 2000000 in
set_option maxRecDepth 100000 in
theorem next_ref (w : World) (S S' : Nat → Prop) (hS : There S w) (v u : Value) (nodes : List Node) (ins outs : List Port) (vs : List Bool) (hN : NetV w v nodes ins outs) (hx : Row kInt w S' u (vs.map b2i)) (hvl : vs.length = nodes.length) (hnl : nodes.length ≤ 1099511627776) (hk : ∀ x ∈ nodes, x.kind = 7 → 0 ≤ x.a ∧ x.a < nodes.length) :
    Calls Try.prog 94 #[v, u] w fun e w' => ∃ v', e = .returned v' ∧ Row kInt w' S v' ((nextR nodes vs).map b2i) ∧ Below w.heap.size w w' := by
  obtain ⟨An, cn, Ai, ci, Ao, co, rfl, hbox⟩ := hN.box
  let ob := netBox (.slice An nodes.length cn) (.slice Ai ins.length ci) (.slice Ao outs.length co)
  have hmk := make_ints nodes.length hnl
  have hO := made_ints nodes.length hnl (w.alloc ob)
  have hsz : (w.alloc ob).heap.size = w.heap.size + 1 := by simp
  rw [hsz] at hO
  have HO := Lib.hid hO
  have HBOX := Lib.hid hbox
  have HK := Lib.hid hk
  have HSZ := Lib.hid hsz
  have HX := Lib.hid hx
  have hb1 : Below (w.heap.size + 1) (w.alloc ob) ((w.alloc ob).alloc (.cells (madeCells #[.int .i64 0] nodes.length) 3)) := (Below.refl _ _).alloc (by rw [hsz]; exact Nat.le_refl _) _
  have HB1 := Lib.hid hb1
  obtain ⟨z0, -, -, -⟩ := hbox (w.alloc ob) (Below.refl _ _)
  obtain ⟨Ax, cx, rfl, -, -⟩ := hx.shape
  have hml : (vs.map b2i).length = nodes.length := by simp [hvl]
  rw [hml] at *
  have HVL := Lib.hid hvl
  clear hO hbox hk hsz hb1 hN hx hml hvl
  go_enter Try.func94, Try.ntmps94
  go_wp2_with fail
  go_loopw [6] (fun i wr => ∃ j : Nat, j ≤ nodes.length ∧ i = .int .i64 j ∧ Own kInt 3 wr none (w.heap.size + 1) (.slice (some ⟨w.heap.size + 1, 0, none⟩) nodes.length nodes.length) (filled (fun x : Node => decide (x.kind = 7) && at_ vs x.a) nodes j) ∧ Below (w.heap.size + 1) (w.alloc ob) wr) (fun i _ => nodes.length - (intOf i).toNat)
  case atStart => exact ⟨0, Nat.zero_le _, rfl, by rw [filled_zero]; exact HO.out, HB1.out⟩
  case round =>
    obtain ⟨j, hj, rfl, ho, hb⟩ := hrel
    clear z0
    obtain ⟨z0, -, -, hrn, -, -, hbw⟩ := HBOX.out _ hb
    have HB := Lib.hid hb
    have HBW := Lib.hid hbw
    have HOW := Lib.hid ho
    clear hb
    by_cases hlt : j < nodes.length
    · obtain ⟨b, off, rfl, y0, y1, y2, y3⟩ := hrn.node_at hlt
      have hat := ho.cellAt? (filled_at _ nodes j hlt)
      obtain ⟨x0, x1⟩ := hat
      have HF := Lib.hid (filled_succ (fun x : Node => decide (x.kind = 7) && at_ vs x.a) nodes j hlt)
      have HG := Lib.hid (filled_skip (fun x : Node => decide (x.kind = 7) && at_ vs x.a) nodes j hlt)
      have HM := Lib.hid (HK.out _ (List.getElem_mem hlt))
      clear hrn y2 y3 ho
      generalize nodes[j] = x at y0 y1 HF HG HM
      obtain ⟨kind, xa, xb, xc⟩ := x
      dsimp only at y0 y1 HF HG HM
      by_cases h7 : kind = 7
      · subst h7
        obtain ⟨h0, h1⟩ := HM.out rfl
        obtain ⟨q, rfl⟩ := Int.eq_ofNat_of_zero_le h0
        have hq : q < nodes.length := by omega
        obtain ⟨bx, ox, rfl, hcell⟩ := (HX.out.later hbw).b2i_at (i := q) (by have := HVL.out; omega)
        have HXB := Lib.hid (show b2i (at_ vs q) = b2i (decide ((7:Int) = 7) && at_ vs q) by simp)
        clear hbw h0 h1 HM HG
        generalize b2i (at_ vs q) = y at hcell HXB
        go_wp2
        go_roundw
        case rel =>
          have hst := HOW.out.store (FootIn.none _) (by have := HB.out.size; simp at this; omega) j y
          exact ⟨j + 1, by omega, by go_num, by rw [← HF.out, ← HXB.out]; exact hst.1, HB.out.setCell (Nat.le_refl _) _⟩
        case measure => simp [intOf]; omega
      · have h7' : (kind == 7) = false := by simpa using h7
        clear hbw
        go_wp2
        go_roundw
        case rel => exact ⟨j + 1, by omega, by go_num, by rw [HG.out (by simp [h7])]; exact HOW.out, HB.out⟩
        case measure => simp [intOf]; omega
    · obtain rfl : j = nodes.length := by omega
      rw [filled_all] at ho
      clear HOW hbw
      go_wp2
      go_ret
      exact ⟨_, rfl, ho.rowS S (fun g hg hs => by have h1 := (ho.base hg).1; have := hS g hs; omega), HBW.out⟩
end Go.Proofs.Ytbfjacgfifecpaa

/-! ## All nodes' values in a cycle: slipstickref07. -/
namespace Go.Proofs.Ytbfjacgfifecpaa
open Go.RowKit

def valB (x : Node) (vs st inn : List Bool) (i : Nat) : Bool :=
  if x.kind = 0 then decide (x.a = 1) else if x.kind = 1 then at_ inn i else if x.kind = 7 then at_ st i else gateB x vs
/-- the values of the first k nodes, in the order of their places -/
def valsK (nodes : List Node) (st inn : List Bool) : Nat → List Bool
  | 0 => []
  | k + 1 => valsK nodes st inn k ++ [valB (nodes.getD k ⟨0, 0, 0, 0⟩) (valsK nodes st inn k) st inn k]
theorem valsK_length (nodes : List Node) (st inn : List Bool) (k : Nat) : (valsK nodes st inn k).length = k := by
  induction k with
  | zero => rfl
  | succ k ih => simp [valsK, ih]
theorem at_pad (vs : List Bool) (m : Nat) (i : Int) : at_ (vs ++ List.replicate m false) i = at_ vs i := by
  unfold at_
  rw [List.getD_eq_getElem?_getD, List.getD_eq_getElem?_getD, List.getElem?_append]
  split
  · rfl
  · rename_i h
    rw [List.getElem?_replicate, List.getElem?_eq_none (by omega)]
    split <;> rfl
theorem gateB_pad (x : Node) (vs : List Bool) (m : Nat) : gateB x (vs ++ List.replicate m false) = gateB x vs := by simp only [gateB, at_pad]
def padded (n : Nat) (vs : List Bool) : List Int := (vs ++ List.replicate (n - vs.length) false).map b2i
theorem padded_nil (n : Nat) : padded n [] = List.replicate n 0 := by simp [padded, b2i]
theorem padded_length (n : Nat) (vs : List Bool) (h : vs.length ≤ n) : (padded n vs).length = n := by simp [padded]; omega
theorem padded_all (n : Nat) (vs : List Bool) (h : vs.length = n) : padded n vs = vs.map b2i := by simp [padded, h]
theorem padded_at (n : Nat) (vs : List Bool) (h : vs.length < n) : (padded n vs)[vs.length]? = some 0 := by
  rw [padded, List.getElem?_map, List.getElem?_append_right (Nat.le_refl _), Nat.sub_self, List.getElem?_replicate, if_pos (by omega)]; rfl
theorem padded_set (n : Nat) (vs : List Bool) (b : Bool) (h : vs.length < n) : (padded n vs).set vs.length (b2i b) = padded n (vs ++ [b]) := by
  obtain ⟨m, hm⟩ : ∃ m, n - vs.length = m + 1 := ⟨n - vs.length - 1, by omega⟩
  simp only [padded, List.length_append, List.length_cons, List.length_nil, hm, show n - (vs.length + (0 + 1)) = m by omega, List.map_append, List.replicate_succ, List.map_cons, List.map_nil]
  rw [List.set_append_right _ _ (by simp)]
  simp

def Ordered (nodes : List Node) : Prop := ∀ i (x : Node), nodes[i]? = some x → rightB x i = true
theorem rightB_uses {x : Node} {n : Nat} (h : rightB x n = true) : ∀ u, u ∈ usesR x → 0 ≤ u ∧ u < n := by
  simp only [rightB, Bool.and_eq_true, List.all_eq_true, decide_eq_true_eq] at h
  exact h.1.2
theorem rightB_kind {x : Node} {n : Nat} (h : rightB x n = true) : 0 ≤ x.kind ∧ x.kind ≤ 7 := by
  simp only [rightB, Bool.and_eq_true, decide_eq_true_eq] at h
  have := h.1.1
  unfold many at this
  repeat' split at this
  all_goals omega
theorem rightB_const {x : Node} {n : Nat} (h : rightB x n = true) (h0 : x.kind = 0) : x.a = 0 ∨ x.a = 1 := by
  simp only [rightB, if_pos h0, Bool.and_eq_true, decide_eq_true_eq, bitB] at h
  exact h.2.1.1
theorem rightB_reg {x : Node} {n : Nat} (h : rightB x n = true) (h7 : x.kind = 7) : (x.b = 0 ∨ x.b = 1) ∧ 0 ≤ x.a ∧ x.a < n := by
  refine ⟨?_, rightB_uses h _ (by simp [usesR, many, h7])⟩
  simp only [rightB, if_neg (show ¬ x.kind = 0 by omega), if_pos h7, Bool.and_eq_true, decide_eq_true_eq, bitB] at h
  exact h.2.1
theorem rightB_mono {x : Node} {n m : Nat} (h : rightB x n = true) (hm : n ≤ m) : rightB x m = true := by
  simp only [rightB, Bool.and_eq_true, List.all_eq_true, decide_eq_true_eq] at h ⊢
  exact ⟨⟨h.1.1, fun u hu => by have := h.1.2 u hu; omega⟩, h.2⟩
theorem Ordered.all {nodes : List Node} (h : Ordered nodes) : nodes.all (fun x => rightB x nodes.length) = true := by
  rw [List.all_eq_true]
  intro x hx
  obtain ⟨i, hi, rfl⟩ := List.mem_iff_getElem.1 hx
  exact rightB_mono (h i _ (by simp [hi])) (by omega)
theorem Ordered.nil : Ordered [] := fun i x h => by simp at h
theorem Ordered.snoc {nodes : List Node} (h : Ordered nodes) {x : Node} (hx : rightB x nodes.length = true) : Ordered (nodes ++ [x]) := by
  intro i y hy
  rw [List.getElem?_append] at hy
  split at hy
  · exact h i y hy
  · rename_i hi
    have : i = nodes.length := by have := (List.getElem?_eq_some_iff.1 hy).1; simp at this; omega
    subst this
    simp at hy
    subst hy
    exact hx
theorem Ordered.mem {nodes : List Node} (h : Ordered nodes) {x : Node} (hx : x ∈ nodes) : ∃ i, i < nodes.length ∧ rightB x i = true := by
  obtain ⟨i, hi, rfl⟩ := List.mem_iff_getElem.1 hx
  exact ⟨i, hi, h i _ (by simp [hi])⟩

def placesOf (n : Nat) : List Int := (List.range n).map fun i : Nat => (i : Int)
theorem places_length (n : Nat) : (placesOf n).length = n := by simp [placesOf]
theorem places_at (n i : Nat) (h : i < (placesOf n).length) : (placesOf n)[i] = (i : Int) := by simp [placesOf]

set_option maxHeartbeats 4000000 in
set_option maxRecDepth 100000 in
theorem values_ref (w : World) (S S1 S2 S3 : Nat → Prop) (hS : There S w) (v vord vst vin : Value) (nodes : List Node) (ins outs : List Port) (st inn : List Bool) (hN : NetV w v nodes ins outs) (hord : Row kInt w S1 vord (placesOf nodes.length))
    (hst : Row kInt w S2 vst (st.map b2i)) (hin : Row kInt w S3 vin (inn.map b2i)) (hsl : st.length = nodes.length) (hil : inn.length = nodes.length) (hnl : nodes.length ≤ 1099511627776) (hk : Ordered nodes) :
    Calls Try.prog 92 #[v, vord, vst, vin] w fun e w' => ∃ v', e = .returned v' ∧ Row kInt w' S v' ((valsK nodes st inn nodes.length).map b2i) ∧ Below w.heap.size w w' := by
  obtain ⟨An, cn, Ai, ci, Ao, co, rfl, hbox⟩ := hN.box
  let ob := netBox (.slice An nodes.length cn) (.slice Ai ins.length ci) (.slice Ao outs.length co)
  have hmk := make_ints nodes.length hnl
  have hO := made_ints nodes.length hnl (w.alloc ob)
  have hsz : (w.alloc ob).heap.size = w.heap.size + 1 := by simp
  rw [hsz] at hO
  have hb1 : Below (w.heap.size + 1) (w.alloc ob) ((w.alloc ob).alloc (.cells (madeCells #[.int .i64 0] nodes.length) 3)) := (Below.refl _ _).alloc (by rw [hsz]; exact Nat.le_refl _) _
  obtain ⟨z0, -, -, -⟩ := hbox (w.alloc ob) (Below.refl _ _)
  obtain ⟨A1, c1, rfl, -, -⟩ := hord.shape
  obtain ⟨A2, c2, rfl, -, -⟩ := hst.shape
  obtain ⟨A3, c3, rfl, -, -⟩ := hin.shape
  have h1 : (placesOf nodes.length).length = nodes.length := places_length _
  have h2 : (st.map b2i).length = nodes.length := by simp [hsl]
  have h3 : (inn.map b2i).length = nodes.length := by simp [hil]
  rw [h1] at hord ⊢
  rw [h2] at hst ⊢
  rw [h3] at hin ⊢
  have HO := Lib.hid hO
  have HBOX := Lib.hid hbox
  have HK := Lib.hid hk
  have HORD := Lib.hid hord
  have HST := Lib.hid hst
  have HIN := Lib.hid hin
  have HSL := Lib.hid hsl
  have HIL := Lib.hid hil
  have HB1 := Lib.hid hb1
  clear hO hbox hk hsz hb1 hN hord hst hin hsl hil h1 h2 h3
  go_enter Try.func92, Try.ntmps92
  go_wp2_with fail
  go_loopw [10] (fun i wr => ∃ j : Nat, j ≤ nodes.length ∧ i = .int .i64 j ∧ Own kInt 3 wr none (w.heap.size + 1) (.slice (some ⟨w.heap.size + 1, 0, none⟩) nodes.length nodes.length) (padded nodes.length (valsK nodes st inn j)) ∧ Below (w.heap.size + 1) (w.alloc ob) wr) (fun i _ => nodes.length - (intOf i).toNat)
  case atStart => exact ⟨0, Nat.zero_le _, rfl, by rw [valsK, padded_nil]; exact HO.out, HB1.out⟩
  case round =>
    obtain ⟨j, hj, rfl, ho, hb⟩ := hrel
    clear z0
    obtain ⟨z0, -, -, hrn, -, -, hbw⟩ := HBOX.out _ hb
    have HB := Lib.hid hb
    by_cases hlt : j < nodes.length
    · obtain ⟨b, off, rfl, y0, y1, y2, y3⟩ := hrn.node_at hlt
      obtain ⟨b1, o1, rfl, q1⟩ := (HORD.out.later hbw).int_at (i := j) (by rw [places_length]; exact hlt)
      rw [places_at] at q1
      have hszr : w.heap.size + 1 ≤ wr.heap.size := by have := hb.size; simp at this; omega
      obtain ⟨xb, hxb⟩ : ∃ xb, xb = (Obj.cells #[.int .i64 nodes[j].kind, .int .i64 nodes[j].a, .int .i64 nodes[j].b, .int .i64 nodes[j].c] 38) := ⟨_, rfl⟩
      have hbw2 := hbw.alloc (show w.heap.size ≤ wr.heap.size by omega) xb
      obtain ⟨b2, o2, rfl, q2⟩ := (HST.out.later hbw2).b2i_at (i := j) (by have := HSL.out; omega)
      obtain ⟨b3, o3, rfl, q3⟩ := (HIN.out.later hbw2).b2i_at (i := j) (by have := HIL.out; omega)
      have hvl := valsK_length nodes st inn j
      have ho2 := ho.kept (Kept.of_below_all ((Below.refl _ _).alloc (Nat.le_refl _) xb) (FootIn.none _) (Nat.le_refl _))
      have hat := ho2.cellAt? (show (padded nodes.length (valsK nodes st inn j))[j]? = some 0 by have h := padded_at nodes.length (valsK nodes st inn j) (by omega); rw [hvl] at h; exact h)
      obtain ⟨x0, x1⟩ := hat
      have HO2 := Lib.hid ho2
      have HR := Lib.hid (HK.out j nodes[j] (by simp [hlt]))
      have hstep : valsK nodes st inn (j + 1) = valsK nodes st inn j ++ [valB nodes[j] (valsK nodes st inn j) st inn j] := by
        rw [valsK, List.getD_eq_getElem?_getD, List.getElem?_eq_getElem hlt]; rfl
      have HSTEP := Lib.hid hstep
      have HSET := Lib.hid (fun bb : Bool => padded_set nodes.length (valsK nodes st inn j) bb (by omega))
      rw [hvl] at HSET
      have HVL := Lib.hid hvl
      have HB2 := Lib.hid (hb.alloc hszr xb)
      have HBW := Lib.hid hbw
      rw [hxb] at HO2 HB2 q2 q3 x0 x1
      clear hrn hxb hstep hvl ho hb hbw hbw2 ho2
      generalize nodes[j] = x at *
      generalize valsK nodes st inn j = vs at *
      obtain ⟨kind, xa, xb', xc⟩ := x
      dsimp only at *
      have hkk := rightB_kind HR.out
      dsimp only at hkk
      have hcase : kind = 0 ∨ kind = 1 ∨ kind = 7 ∨ (2 ≤ kind ∧ kind ≤ 6) := by omega
      clear hkk
      rcases hcase with rfl | rfl | rfl | hg
      · have HXB := Lib.hid (show xa = b2i (valB ⟨0, xa, xb', xc⟩ vs st inn j) by rcases rightB_const HR.out rfl with h | h <;> simp only at h <;> subst h <;> rfl)
        go_wp2
        go_roundw
        case rel =>
          have hs := HO2.out.store (FootIn.none _) (by simp; omega) j xa
          exact ⟨j + 1, by omega, by go_num, by rw [HSTEP.out, ← HSET.out, ← HXB.out]; exact hs.1, HB2.out.setCell (Nat.le_refl _) _⟩
        case measure => simp [intOf]; omega
      · have HXB := Lib.hid (show b2i (at_ inn j) = b2i (valB ⟨1, xa, xb', xc⟩ vs st inn j) by rfl)
        generalize b2i (at_ inn j) = y at *
        go_wp2
        go_roundw
        case rel =>
          have hs := HO2.out.store (FootIn.none _) (by simp; omega) j y
          exact ⟨j + 1, by omega, by go_num, by rw [HSTEP.out, ← HSET.out, ← HXB.out]; exact hs.1, HB2.out.setCell (Nat.le_refl _) _⟩
        case measure => simp [intOf]; omega
      · have HXB := Lib.hid (show b2i (at_ st j) = b2i (valB ⟨7, xa, xb', xc⟩ vs st inn j) by rfl)
        generalize b2i (at_ st j) = y at *
        go_wp2
        go_roundw
        case rel =>
          have hs := HO2.out.store (FootIn.none _) (by simp; omega) j y
          exact ⟨j + 1, by omega, by go_num, by rw [HSTEP.out, ← HSET.out, ← HXB.out]; exact hs.1, HB2.out.setCell (Nat.le_refl _) _⟩
        case measure => simp [intOf]; omega
      · have hk0 : (kind == 0) = false := by rw [beq_eq_false_iff_ne]; omega
        have hk1 : (kind == 1) = false := by rw [beq_eq_false_iff_ne]; omega
        have hk7 : (kind == 7) = false := by rw [beq_eq_false_iff_ne]; omega
        have HXB := Lib.hid (show b2i (gateB ⟨kind, xa, xb', xc⟩ (vs ++ List.replicate (nodes.length - vs.length) false)) = b2i (valB ⟨kind, xa, xb', xc⟩ vs st inn j) by
          rw [gateB_pad, valB, if_neg (by simp only; omega), if_neg (by simp only; omega), if_neg (by simp only; omega)])
        have HG := Lib.hid hg
        have hvn : vs.length ≤ nodes.length := by have := HVL.out; omega
        clear hg
        have hrow : Row kInt (wr.alloc (.cells #[.int .i64 kind, .int .i64 xa, .int .i64 xb', .int .i64 xc] 38)) (fun _ => False) (.slice (some ⟨w.heap.size + 1, 0, none⟩) nodes.length nodes.length) ((vs ++ List.replicate (nodes.length - vs.length) false).map b2i) :=
          HO2.out.rowS (fun _ => False) (fun _ _ h => h)
        have HROW := Lib.hid hrow
        clear hrow
        go_wp2_with fail
        refine (gate_ref _ (fun _ => False) ⟨kind, xa, xb', xc⟩ _ (vs ++ List.replicate (nodes.length - vs.length) false) HROW.out HG.out (fun u hu => by have := rightB_uses HR.out u hu; have := HVL.out; simp; omega) (by simp; omega)).mono ?_
        rintro e w2 ⟨rfl, hb3⟩
        have HO3 := Lib.hid (HO2.out.kept (Kept.of_below_all hb3 (FootIn.none _) (Nat.le_refl _)))
        have HB3 := Lib.hid (HB2.out.trans (hb3.mono (Nat.le_trans (by simp) HB2.out.size)))
        have hs3 := hb3.size
        rw [HXB.out]
        have hat3 := HO3.out.cellAt? (show (padded nodes.length vs)[j]? = some 0 by have h := padded_at nodes.length vs (by have := HVL.out; omega); rw [HVL.out] at h; exact h)
        obtain ⟨u0, u1⟩ := hat3
        clear hb3
        go_wp2_with fail
        go_roundw
        case rel =>
          have hs := HO3.out.store (FootIn.none _) (by simp at hs3; omega) j (b2i (valB ⟨kind, xa, xb', xc⟩ vs st inn j))
          exact ⟨j + 1, by omega, by go_num, by rw [HSTEP.out, ← HSET.out]; exact hs.1, HB3.out.setCell (Nat.le_refl _) _⟩
        case measure => simp [intOf]; omega
    · obtain rfl : j = nodes.length := by omega
      rw [padded_all _ _ (valsK_length _ _ _ _)] at ho
      have HBW := Lib.hid hbw
      clear hb hbw
      go_wp2
      go_ret
      exact ⟨_, rfl, ho.rowS S (fun g hg hs => by have h1 := (ho.base hg).1; have := hS g hs; omega), HBW.out⟩
end Go.Proofs.Ytbfjacgfifecpaa

/-! ## What goes out: slipstickref07. -/
namespace Go.Proofs.Ytbfjacgfifecpaa
open Go.RowKit

def ofBits : List Bool → Nat
  | [] => 0
  | b :: bs => (if b then 1 else 0) + 2 * ofBits bs
theorem testBit_ofBits (bs : List Bool) (i : Nat) : (ofBits bs).testBit i = bs.getD i false := by
  induction bs generalizing i with
  | nil => simp [ofBits]
  | cons b bs ih =>
    cases i with
    | zero =>
      rw [Nat.testBit_zero, ofBits]
      have : ((if b then 1 else 0) + 2 * ofBits bs) % 2 = if b then 1 else 0 := by cases b <;> simp <;> omega
      rw [this]; cases b <;> simp
    | succ i =>
      rw [Nat.testBit_succ, ofBits]
      have : ((if b then 1 else 0) + 2 * ofBits bs) / 2 = ofBits bs := by cases b <;> simp <;> omega
      rw [this, ih]; simp
theorem lowBits_ofBits (bs : List Bool) : lowBits (ofBits bs) bs.length = bs := by
  apply List.ext_getElem?
  intro i
  rcases Nat.lt_or_ge i bs.length with h | h
  · rw [lowBits_get? _ _ _ h, testBit_ofBits]; simp [h]
  · rw [List.getElem?_eq_none (by rw [lowBits_length]; exact h), List.getElem?_eq_none h]
theorem ofBits_lt (bs : List Bool) : ofBits bs < 2 ^ bs.length := by
  induction bs with
  | nil => simp [ofBits]
  | cons b bs ih => rw [ofBits, List.length_cons, Nat.pow_succ]; cases b <;> simp <;> omega
theorem ofBits_lowBits (n k : Nat) (h : n < 2 ^ k) : ofBits (lowBits n k) = n := by
  apply Nat.eq_of_testBit_eq
  intro i
  rw [testBit_ofBits]
  rcases Nat.lt_or_ge i k with hi | hi
  · simp [lowBits, hi]
  · rw [List.getD_eq_getElem?_getD, List.getElem?_eq_none (by rw [lowBits_length]; exact hi), Nat.testBit_lt_two_pow (Nat.lt_of_lt_of_le h (Nat.pow_le_pow_right (by omega) hi))]; rfl

def numB (bits : List Int) (vs : List Bool) : Nat := ofBits (bits.map (at_ vs))
theorem numB_testBit (bits : List Int) (vs : List Bool) (k : Nat) (hk : k < bits.length) : (numB bits vs).testBit k = at_ vs bits[k] := by simp [numB, testBit_ofBits, hk]
theorem numB_lt (bits : List Int) (vs : List Bool) : numB bits vs < 2 ^ bits.length := by have := ofBits_lt (bits.map (at_ vs)); simpa [numB] using this
def outsR (outs : List Port) (vs : List Bool) : List (List Int) := outs.map fun p => parts32 (numB p.bits vs)

/-! rows of bools that are written -/
theorem Pairs.bools {w : World} {S : Nat → Prop} {xs : List Bool} {css : List (List Value)} (h : Pairs kBool w S xs css) : css = xs.map fun x => [Value.bool x] := by
  apply List.ext_getElem?
  intro i
  have hl := h.1
  rcases Nat.lt_or_ge i xs.length with hi | hi
  · have e : css[i]'(by omega) = [.bool xs[i]] := h.2 i xs[i] _ (by simp [hi]) (by simp [show i < css.length by omega])
    simp [hi, show i < css.length by omega, e]
  · simp [hi, show css.length ≤ i by omega]
theorem Own.boolsRow {e : TypeId} {w : World} {p : Option Nat} {B : Nat} {v : Value} {xs : List Bool} (h : Own kBool e w p B v xs) : w.ownsRow B e 1 v xs.length (xs.map fun x => Value.bool x) := by
  obtain ⟨css, h1, h2, _⟩ := h
  rw [h2.bools, flat_bools] at h1
  exact h1
theorem Own.of_bools {e : TypeId} {w : World} {p : Option Nat} {B : Nat} {v : Value} {xs : List Bool} (h : w.ownsRow B e 1 v xs.length (xs.map fun x => Value.bool x)) (hf : ∀ g, v.ownBlock = some g → ¬ foot w p g) : Own kBool e w p B v xs :=
  ⟨_, by rw [flat_bools]; exact h, bools_pairs _ _ _, hf⟩
theorem Own.boolAt? {e : TypeId} {w : World} {p : Option Nat} {B g n c : Nat} {xs : List Bool} (h : Own kBool e w p B (.slice (some ⟨g, 0, none⟩) n c) xs) {i : Nat} {r : Bool} (hi : xs[i]? = some r) : w.cell? ⟨g, i, none⟩ = some (.bool r) ∧ w.frozen? ⟨g, i, none⟩ = false := by
  obtain ⟨hl, rfl⟩ := List.getElem?_eq_some_iff.1 hi
  have h1 := h.boolsRow
  have hn : n = xs.length := by obtain ⟨_, _, he, _⟩ := h.shape; injection he
  subst hn
  exact ⟨by rw [h1.cellAt i (by omega)]; simp [hl], h1.frozenAt i⟩
theorem Own.storeBool {e : TypeId} {w : World} {B g n c : Nat} {xs : List Bool} (h : Own kBool e w none B (.slice (some ⟨g, 0, none⟩) n c) xs) (i : Nat) (r : Bool) :
    Own kBool e (w.setCell ⟨g, i, none⟩ (.bool r)) none B (.slice (some ⟨g, 0, none⟩) n c) (xs.set i r) := by
  have hn : n = xs.length := by obtain ⟨_, _, he, _⟩ := h.shape; injection he
  subst hn
  have hs := h.boolsRow.stored i (.bool r)
  refine Own.of_bools ?_ (fun _ _ => foot_none _ _)
  rw [List.length_set, List.map_set]
  exact hs.1
theorem make_bools (n : Nat) (hn : n ≤ 1099511627776) (W : World) : (Instr.makeSlice 127 (.int .i64 (n : Int)) (.int .i64 (n : Int))).run Try.prog W = .ok (.slice (some ⟨W.heap.size, 0, none⟩) n n) (W.alloc (.cells (madeCells #[.bool false] n) 4)) := by
  obtain ⟨i0, hi, hz0, hz1, hz2⟩ := info_parts infoBool
  have hr := run_make (P := Try.prog) W 127 4 i0 (.bool false) Try.underlying127 hi hz0 .i64 .i64 n n (by omega) (Int.le_refl _) (by rw [hz2]; omega) (by omega)
  rw [hz1] at hr
  simp only [Int.toNat_natCast, Nat.mul_one] at hr
  exact hr
theorem made_bools (n : Nat) (hn : n ≤ 1099511627776) (W : World) : Own kBool 4 (W.alloc (.cells (madeCells #[.bool false] n) 4)) none W.heap.size (.slice (some ⟨W.heap.size, 0, none⟩) n n) (List.replicate n false) := by
  have h := World.ownsRow_lit (base := W.heap.size) (e := 4) (size := 1) W (madeCells #[.bool false] n) n (Nat.le_refl _) (by simp only [maxLen]; omega) (by simp [size_madeCells])
  refine Own.of_bools ?_ (fun _ _ => foot_none _ _)
  have e : (List.replicate n false).map (fun x => Value.bool x) = (madeCells #[.bool false] n).toList := by rw [toList_madeCells_one]; simp
  rw [e, List.length_replicate]
  exact h

def paddedB (n : Nat) (vs : List Bool) : List Bool := vs ++ List.replicate (n - vs.length) false
theorem paddedB_at (n : Nat) (vs : List Bool) (h : vs.length < n) : (paddedB n vs)[vs.length]? = some false := by
  rw [paddedB, List.getElem?_append_right (Nat.le_refl _), Nat.sub_self, List.getElem?_replicate, if_pos (by omega)]
theorem paddedB_set (n : Nat) (vs : List Bool) (b : Bool) (h : vs.length < n) : (paddedB n vs).set vs.length b = paddedB n (vs ++ [b]) := by
  obtain ⟨m, hm⟩ : ∃ m, n - vs.length = m + 1 := ⟨n - vs.length - 1, by omega⟩
  simp only [paddedB, List.length_append, List.length_cons, List.length_nil, hm, show n - (vs.length + (0 + 1)) = m by omega, List.replicate_succ]
  rw [List.set_append_right _ _ (by simp)]
  simp
theorem paddedB_all (n : Nat) (vs : List Bool) (h : vs.length = n) : paddedB n vs = vs := by simp [paddedB, h]

theorem infoU32s : (Try.prog.info? 92).map (fun i => (i.zero, i.size, i.bytes)) = some (some (.slice none 0 0), 1, 24) := by kernel_rfl

/-- a slice within a row, none of it in S0 -/
def kOff {α : Type} (S0 : Nat → Prop) (k : Kd α) : Kd (List α) where
  size := 1
  K := fun w S x cs => ∃ v, cs = [v] ∧ Row k w (fun i => S i ∨ S0 i) v x
  len := by rintro w S x cs ⟨v, rfl, _⟩; rfl
  one := by
    rintro w S x cs ⟨v, rfl, h⟩ u hu
    simp at hu; subst hu
    obtain ⟨A, c, rfl, _⟩ := h.shape
    rfl
  keep := fun ⟨v, e, h⟩ hs hS => ⟨v, e, h.keep ⟨hs.1, fun i hi hn => hs.2 i hi fun h => hn (.inl h)⟩ fun i hi hm => hm.elim (fun h => .inl (hS i hi h)) .inr⟩
theorem Own.rowOff {α : Type} {k : Kd α} {S : Nat → Prop} {e : TypeId} {w : World} {B : Nat} {v : Value} {xs : List (List α)} (h : Own (kOff S k) e w none B v xs) (hS : ∀ g, v.ownBlock = some g → ¬ S g) : Row (kRow k) w S v xs := by
  obtain ⟨A, c, css, rfl, r1, r2, r0, r3, r4⟩ := h.row Nat.zero_lt_one (Nat.le_refl _)
  refine ⟨A, c, css, rfl, r1, r2, r0, ⟨r3.1, fun i x cs hx hc => ?_⟩, fun hn => ?_⟩
  · obtain ⟨v, rfl, hr⟩ := r3.2 i x cs hx hc
    exact ⟨v, rfl, hr.mono fun i _ h => .inr h⟩
  · obtain ⟨b, off, rfl, q1, _, q3⟩ := r4 hn
    exact ⟨b, off, rfl, q1, hS b rfl, q3⟩

set_option maxHeartbeats 4000000 in
set_option maxRecDepth 100000 in
theorem outs_ref (w : World) (S S1 : Nat → Prop) (hS : There S w) (v u : Value) (nodes : List Node) (ins outs : List Port) (vs : List Bool) (hN : NetV w v nodes ins outs) (hx : Row kInt w S1 u (vs.map b2i)) (_hvl : vs.length ≤ 1099511627776) (hol : outs.length ≤ 1073741824)
    (hk : ∀ q ∈ outs, q.bits.length ≤ 549755813888 ∧ ∀ b ∈ q.bits, 0 ≤ b ∧ b < vs.length) :
    Calls Try.prog 93 #[v, u] w fun e w' => ∃ v', e = .returned v' ∧ Row (kRow (kNum .u32)) w' S v' (outsR outs vs) ∧ Below w.heap.size w w' := by
  obtain ⟨An, cn, Ai, ci, Ao, co, rfl, hbox⟩ := hN.box
  let ob := netBox (.slice An nodes.length cn) (.slice Ai ins.length ci) (.slice Ao outs.length co)
  have hsz : (w.alloc ob).heap.size = w.heap.size + 1 := by simp
  have hb1 : Below (w.heap.size + 1) (w.alloc ob) ((w.alloc ob).alloc (.cells #[] 92)) := (Below.refl _ _).alloc (by rw [hsz]; exact Nat.le_refl _) _
  have hO := Own.lit0 (kOff S (kNum .u32)) 92 (w.alloc ob)
  rw [hsz] at hO
  obtain ⟨Ax, cx, rfl, -, -⟩ := hx.shape
  have hml : (vs.map b2i).length = vs.length := by simp
  rw [hml] at hx ⊢
  have HO := Lib.hid hO
  have HBOX := Lib.hid hbox
  have HK := Lib.hid hk
  have HX := Lib.hid hx
  have HB1 := Lib.hid hb1
  clear hO hbox hk hsz hb1 hN hx hml
  go_enter Try.func93, Try.ntmps93
  go_wp2_with fail
  go_loopw [5, 6] (fun vo i wr => ∃ j : Nat, j ≤ outs.length ∧ i = .int .i64 j ∧ Own (kOff S (kNum .u32)) 92 wr none (w.heap.size + 1) vo (outsR (outs.take j) vs) ∧ Below (w.heap.size + 1) (w.alloc ob) wr) (fun _ i _ => outs.length - (intOf i).toNat)
  case atStart => exact ⟨0, Nat.zero_le _, rfl, HO.out, HB1.out⟩
  case round =>
    obtain ⟨wo, rfl⟩ : ∃ wo : World, wo = wr := ⟨_, rfl⟩
    obtain ⟨j, hj, rfl, ho, hb⟩ := hrel
    obtain ⟨A9, c9, rfl, -, -⟩ := ho.shape
    obtain ⟨-, -, z2, -, -, hro, hbw⟩ := HBOX.out _ hb
    have HBW := Lib.hid hbw
    have HB := Lib.hid hb
    have hszr : w.heap.size + 1 ≤ wo.heap.size := by have := hb.size; simp at this; omega
    have hol2 : (outsR (outs.take j) vs).length ≤ 1073741824 := by simp [outsR]; omega
    by_cases hlt : j < outs.length
    · obtain ⟨b, off, A2, c2, rfl, -, y1, hbits⟩ := hro.port_at hlt
      have HT := Lib.hid (show outsR (outs.take (j + 1)) vs = outsR (outs.take j) vs ++ [parts32 (numB outs[j].bits vs)] by rw [outsR, List.take_succ_eq_append_getElem hlt, List.map_append]; rfl)
      obtain ⟨hbl, hbd⟩ := HK.out _ (List.getElem_mem hlt)
      have HOW := Lib.hid ho
      have HBITS := Lib.hid hbits
      have HBD := Lib.hid hbd
      clear hbits hbd ho hro hb
      generalize outsR (outs.take j) vs = done at *
      generalize outs[j] = q at *
      obtain ⟨name, bits⟩ := q
      dsimp only at *
      have hmk := make_bools bits.length (by omega)
      have hmade := made_bools bits.length (by omega) wo
      have HMADE := Lib.hid hmade
      clear hmade
      have hb9 : Below wo.heap.size wo (wo.alloc (.cells (madeCells #[.bool false] bits.length) 4)) := (Below.refl _ _).alloc (Nat.le_refl _) _
      have HB9 := Lib.hid hb9
      clear hb9 hbw
      go_wp2_with fail
      go_loopw [8, 9] (fun la i wr => ∃ k m : Nat, k ≤ bits.length ∧ i = .int .i64 k ∧ la = .int .i64 m ∧ m ≤ k ∧ (∀ q, m ≤ q → q < k → (numB bits vs).testBit q = false) ∧ (0 < m → (numB bits vs).testBit (m - 1) = true) ∧
        Own kBool 4 wr none wo.heap.size (.slice (some ⟨wo.heap.size, 0, none⟩) bits.length bits.length) (paddedB bits.length ((bits.take k).map (at_ vs))) ∧ Below wo.heap.size wo wr) (fun _ i _ => bits.length - (intOf i).toNat)
      case atStart => exact ⟨0, 0, Nat.zero_le _, rfl, rfl, Nat.le_refl _, fun q _ h => by omega, fun h => by omega, by simp only [paddedB, List.take_zero, List.map_nil, List.length_nil, List.nil_append, Nat.sub_zero]; exact HMADE.out, HB9.out⟩
      case round =>
        obtain ⟨k, m, hk, rfl, rfl, hmk', h0, h1, hoB, hbk⟩ := hrel
        have H0 := Lib.hid h0
        have H1 := Lib.hid h1
        clear h0 h1
        have HBK := Lib.hid hbk
        have HOB := Lib.hid hoB
        by_cases hkl : k < bits.length
        · have z2' := (hbk.cell (p := ⟨w.heap.size, 2, none⟩) (World.block_lt_of_cell? _ _ z2)).trans z2
          have y1' := (hbk.cell (p := ⟨b, off + j * 2 + 1, none⟩) (World.block_lt_of_cell? _ _ y1)).trans y1
          obtain ⟨b3, o3, rfl, x3⟩ := (HBITS.out.later hbk).int_at hkl
          have hbb := HBD.out _ (List.getElem_mem hkl)
          have hnb := numB_testBit bits vs k hkl
          have hl9 : ((bits.take k).map (at_ vs)).length = k := by simp; omega
          have HSET := Lib.hid (show (paddedB bits.length ((bits.take k).map (at_ vs))).set k (at_ vs bits[k]) = paddedB bits.length ((bits.take (k + 1)).map (at_ vs)) by
            have h := paddedB_set bits.length ((bits.take k).map (at_ vs)) (at_ vs bits[k]) (by omega)
            rw [hl9] at h
            rw [h, List.take_succ_eq_append_getElem hkl, List.map_append]; rfl)
          have hat := hoB.boolAt? (show (paddedB bits.length ((bits.take k).map (at_ vs)))[k]? = some false by have h := paddedB_at bits.length ((bits.take k).map (at_ vs)) (by omega); rw [hl9] at h; exact h)
          obtain ⟨u0, u1⟩ := hat
          have HNB := Lib.hid hnb
          clear hnb hl9
          generalize bits[k] = z at *
          obtain ⟨zz, rfl⟩ := Int.eq_ofNat_of_zero_le hbb.1
          have hzl : zz < vs.length := by omega
          obtain ⟨b4, o4, rfl, x4⟩ := (HX.out.later (HBW.out.trans (hbk.mono HBW.out.size))).b2i_at (i := zz) hzl
          have HEQ := Lib.hid (b2i_eq (at_ vs zz))
          clear z2 y1 hbb hoB hbk
          have hst := HOB.out.storeBool k (at_ vs zz)
          rw [HSET.out] at hst
          have HST := Lib.hid hst
          have HB8 := Lib.hid (HBK.out.setCell (p := ⟨wo.heap.size, k, none⟩) (Nat.le_refl _) (.bool (at_ vs zz)))
          clear hst
          cases hbit : at_ vs zz with
          | false =>
            rw [hbit] at x4 HNB HST HB8
            simp only [b2i, Bool.false_eq_true, if_false] at x4
            clear hbit HEQ
            go_wp2
            go_roundw
            case rel => exact ⟨k + 1, m, by omega, by go_num, rfl, by omega, fun q h h' => by
                rcases Nat.lt_or_ge q k with h2 | h2
                · exact H0.out q h h2
                · rw [show q = k by omega]; exact HNB.out, H1.out, HST.out, HB8.out⟩
            case measure => simp [intOf]; omega
          | true =>
            rw [hbit] at x4 HNB HST HB8
            simp only [b2i, if_true] at x4
            clear hbit HEQ
            go_wp2
            go_roundw
            case rel => exact ⟨k + 1, k + 1, by omega, by go_num, by go_num, by omega, fun q h h' => by omega, fun _ => by simpa using HNB.out, HST.out, HB8.out⟩
            case measure => simp [intOf]; omega
        · obtain rfl : k = bits.length := by omega
          have hrow := hoB.bools (S := fun i => Value.ownBlock (.slice A9 done.length c9) = some i ∨ S i) (fun i hi => hi.elim (fun hi => (HOW.out.base hi).2) (fun hi => by have := hS i hi; omega))
          have hfull : paddedB bits.length ((bits.take bits.length).map (at_ vs)) = lowBits (numB bits vs) bits.length := by
            rw [List.take_length, paddedB_all _ _ (by simp)]
            have h := lowBits_ofBits (bits.map (at_ vs))
            rw [List.length_map] at h
            exact h.symm
          rw [hfull] at hrow
          have hlb := lowBits_length (numB bits vs) bits.length
          have hrow2 : Row kBool wr (fun i => Value.ownBlock (.slice A9 done.length c9) = some i ∨ S i) (.slice (some ⟨wo.heap.size, 0, none⟩) m bits.length) (natBits (numB bits vs)) := by
            have h := Row.take (A := some ⟨wo.heap.size, 0, none⟩) (c := bits.length) (by rw [hlb]; exact hrow) m (by omega)
            rw [lowBits_take _ _ _ hmk'] at h
            rw [cut_lowBits (numB bits vs) bits.length m hmk' H0.out H1.out, Nat.mod_eq_of_lt (numB_lt bits vs)] at h
            exact h
          have hnb : nbits (numB bits vs) ≤ 549755813888 := Nat.le_trans (nbits_le (numB_lt bits vs)) hbl
          have HROW := Lib.hid hrow2
          have HOW2 := Lib.hid (HOW.out.kept (Kept.of_below_all hbk (FootIn.none _) (Nat.le_refl _)))
          have HB7 := Lib.hid (HB.out.trans (hbk.mono hszr))
          have hszk := hbk.size
          clear hrow hfull hlb hrow2 hoB hbk z2 y1
          go_wp2_with fail
          refine (parts_ref _ (fun i => Value.ownBlock (.slice A9 done.length c9) = some i ∨ S i) (fun i hi => hi.elim (fun hi => (HOW2.out.base hi).2) (fun hi => by have := hS i hi; omega)) _ (numB bits vs) HROW.out hnb).mono ?_
          rintro e w3 ⟨v3, rfl, hr3, hb3⟩
          obtain ⟨A3, c3, rfl, -, -⟩ := hr3.shape
          have HOW3 := Lib.hid (HOW2.out.kept (Kept.of_below_all hb3 (FootIn.none _) (Nat.le_refl _)))
          have HR3 := Lib.hid hr3
          have HB3 := Lib.hid (HB7.out.trans (hb3.mono (Nat.le_trans hszr hszk)))
          have hsz3 := hb3.size
          generalize (parts32 (numB bits vs)) = pp at *
          clear hr3 hb3
          go_wp2_with (at_builtin; refine app1 (kOff S (kNum .u32)) 92 91 (.slice none 0 0) 24 rfl (.tmp 54) (.tmp 59) rfl Try.underlying91 infoU32s rfl Nat.zero_lt_one (by decide) none (w.heap.size + 1) HOW3.out (FootIn.none _) (by omega) rfl pp [.slice A3 pp.length c3] rfl ⟨_, rfl, HR3.out.mono (fun i _ h => h.elim (fun h => h.elim (fun h => (foot_none _ _ h).elim) .inl) .inr)⟩ (by omega) ?_; intro v' w4 q1 q2 _ _ _ _)
          go_roundw
          case rel => exact ⟨j + 1, by omega, by go_num, by rw [HT.out]; exact q1, HB3.out.trans q2.below⟩
          case measure => simp [intOf]; omega
    · obtain rfl : j = outs.length := by omega
      have htl : outs.take outs.length = outs := List.take_length
      rw [htl] at ho ⊢
      clear hol2 htl
      have hrow := ho.rowOff (fun g hg hs => by have h1 := (ho.base hg).1; have := hS g hs; omega)
      have HROW := Lib.hid hrow
      clear hbw hb hro hrow ho
      go_wp2
      go_ret
      exact ⟨_, rfl, HROW.out, HBW.out⟩
end Go.Proofs.Ytbfjacgfifecpaa

/-! ## What comes in: slipstickref07. -/
namespace Go.Proofs.Ytbfjacgfifecpaa
open Go.RowKit

def setPort (bits : List Int) (m : Nat) : Nat → List Bool → List Bool
  | 0, vs => vs
  | k + 1, vs => if m.testBit k then (setPort bits m k vs).set (bits.getD k 0).toNat true else setPort bits m k vs
def setPorts (ins : List Port) (ms : List Nat) : Nat → List Bool → List Bool
  | 0, vs => vs
  | i + 1, vs => setPort (ins.getD i ⟨⟨#[]⟩, []⟩).bits (ms.getD i 0) (nbits (ms.getD i 0)) (setPorts ins ms i vs)
def inputsR (n : Nat) (ins : List Port) (ms : List Nat) : List Bool := setPorts ins ms ins.length (List.replicate n false)
theorem setPort_length (bits : List Int) (m : Nat) : ∀ (k : Nat) (vs : List Bool), (setPort bits m k vs).length = vs.length
  | 0, vs => rfl
  | k + 1, vs => by unfold setPort; split <;> simp [setPort_length bits m k vs]
theorem setPorts_length (ins : List Port) (ms : List Nat) : ∀ (k : Nat) (vs : List Bool), (setPorts ins ms k vs).length = vs.length
  | 0, vs => rfl
  | k + 1, vs => by rw [setPorts, setPort_length, setPorts_length ins ms k vs]
theorem inputsR_length (n : Nat) (ins : List Port) (ms : List Nat) : (inputsR n ins ms).length = n := by rw [inputsR, setPorts_length]; simp
theorem map_set_b2i (vs : List Bool) (i : Nat) : (vs.map b2i).set i 1 = (vs.set i true).map b2i := by
  rw [List.map_set]; rfl

/-- a slice that lies in a slice -/
theorem Row.row_at {α : Type} {k : Kd α} {w : World} {S : Nat → Prop} {A : Option Addr} {n c : Nat} {xs : List (List α)} (h : Row (kRow k) w S (.slice A n c) xs) {i : Nat} (hi : i < xs.length) :
    ∃ b off A2 c2, A = some ⟨b, off, none⟩ ∧ w.cell? ⟨b, off + i, none⟩ = some (.slice A2 xs[i].length c2) ∧ Row k w S (.slice A2 xs[i].length c2) xs[i] := by
  have hn : n = xs.length := h.len
  obtain ⟨b, off, rfl, x, cs, hx, hk, hc⟩ := h.at (i := i) (by omega)
  rw [List.getElem?_eq_getElem hi] at hx
  injection hx with hx
  subst hx
  obtain ⟨v, rfl, hr⟩ := hk
  obtain ⟨A2, c2, rfl, -, -⟩ := hr.shape
  have := hc 0 _ rfl
  rw [Nat.add_zero, show i * (kRow k).size = i from Nat.mul_one i] at this
  exact ⟨b, off, A2, c2, rfl, this, hr⟩

set_option maxHeartbeats 4000000 in
set_option maxRecDepth 100000 in
theorem inputs_ref (w : World) (S S1 : Nat → Prop) (hS : There S w) (v u : Value) (nodes : List Node) (ins outs : List Port) (nums : List (List Int)) (hN : NetV w v nodes ins outs) (hx : Row (kRow (kNum .u32)) w S1 u nums) (hnl : nodes.length ≤ 1099511627776)
    (hil : nums.length = ins.length) (hil2 : ins.length ≤ 1073741824)
    (hk : ∀ i (h : i < ins.length) (h' : i < nums.length), okParts nums[i] ∧ nums[i].length ≤ 4294967296 ∧ nbits (partsVal nums[i]) ≤ ins[i].bits.length ∧ ins[i].bits.length ≤ 549755813888 ∧ ∀ b ∈ ins[i].bits, 0 ≤ b ∧ b < nodes.length) :
    Calls Try.prog 91 #[v, u] w fun e w' => ∃ v', e = .returned (.tuple #[v', .bool true]) ∧ Row kInt w' S v' ((inputsR nodes.length ins (nums.map partsVal)).map b2i) ∧ Below w.heap.size w w' := by
  obtain ⟨An, cn, Ai, ci, Ao, co, rfl, hbox⟩ := hN.box
  let ob := netBox (.slice An nodes.length cn) (.slice Ai ins.length ci) (.slice Ao outs.length co)
  have hmk := make_ints nodes.length hnl
  have hO := made_ints nodes.length hnl (w.alloc ob)
  have hsz : (w.alloc ob).heap.size = w.heap.size + 1 := by simp
  rw [hsz] at hO
  have hb1 : Below (w.heap.size + 1) (w.alloc ob) ((w.alloc ob).alloc (.cells (madeCells #[.int .i64 0] nodes.length) 3)) := (Below.refl _ _).alloc (by rw [hsz]; exact Nat.le_refl _) _
  obtain ⟨z0, -, -, -⟩ := hbox (w.alloc ob) (Below.refl _ _)
  obtain ⟨-, z1, -, -⟩ := hbox _ hb1
  obtain ⟨Ax, cx, rfl, -, -⟩ := hx.shape
  rw [hil] at hx ⊢
  have hx := hx.mono (S' := fun i => i = w.heap.size + 1) (fun i hi h => by omega)
  have HO := Lib.hid hO
  have HBOX := Lib.hid hbox
  have HK := Lib.hid hk
  have HX := Lib.hid hx
  have HB1 := Lib.hid hb1
  have HIL := Lib.hid hil
  have HRL : ∀ i, Hid ((setPorts ins (nums.map partsVal) i (List.replicate nodes.length false)).length = nodes.length) := fun i => Lib.hid (by rw [setPorts_length]; simp)
  clear hO hbox hk hsz hb1 hN hx hil
  go_enter Try.func91, Try.ntmps91
  go_wp2_with fail
  go_loopw [7] (fun i wr => ∃ j : Nat, j ≤ ins.length ∧ i = .int .i64 j ∧ Own kInt 3 wr none (w.heap.size + 1) (.slice (some ⟨w.heap.size + 1, 0, none⟩) nodes.length nodes.length) ((setPorts ins (nums.map partsVal) j (List.replicate nodes.length false)).map b2i) ∧ Below (w.heap.size + 1) (w.alloc ob) wr) (fun i _ => ins.length - (intOf i).toNat)
  case atStart => exact ⟨0, Nat.zero_le _, rfl, by rw [setPorts]; simp only [List.map_replicate]; exact HO.out, HB1.out⟩
  case round =>
    obtain ⟨wo, rfl⟩ : ∃ wo : World, wo = wr := ⟨_, rfl⟩
    obtain ⟨j, hj, rfl, ho, hb⟩ := hrel
    clear z0 z1
    obtain ⟨-, z1, -, -, hri, -, hbw⟩ := HBOX.out _ hb
    have HBW := Lib.hid hbw
    have HB := Lib.hid hb
    have HOW := Lib.hid ho
    have hszr : w.heap.size + 1 ≤ wo.heap.size := by have := hb.size; simp at this; omega
    by_cases hlt : j < ins.length
    · have hltn : j < nums.length := by have := HIL.out; omega
      have hW0 : (w.alloc ob).heap.size = w.heap.size + 1 := by simp
      obtain ⟨b, off, A2, c2, he0, -, y0, hbits0⟩ := (HBOX.out _ (Below.refl _ _)).2.2.2.2.1.port_at hlt
      subst he0
      have HALL := Lib.hid (fun (W : World) (hW : Below (w.heap.size + 1) (w.alloc ob) W) => And.intro (HBOX.out W hW).2.1 (And.intro ((hW.cell (p := ⟨b, off + j * 2 + 1, none⟩) (by have := World.block_lt_of_cell? _ _ y0; rw [hW0] at this; exact this)).trans y0) (hbits0.later (by rw [hW0]; exact hW))))
      clear hri y0 hbits0 hW0
      obtain ⟨-, y1, -⟩ := HALL.out _ hb
      obtain ⟨b1, o1, A3, c3, rfl, x1, hnum⟩ := (HX.out.later hbw).row_at hltn
      obtain ⟨k1, k2, k3, k4, k5⟩ := HK.out j hlt hltn
      have hsp : setPorts ins (nums.map partsVal) (j + 1) (List.replicate nodes.length false) = setPort ins[j].bits (partsVal nums[j]) (nbits (partsVal nums[j])) (setPorts ins (nums.map partsVal) j (List.replicate nodes.length false)) := by
        rw [setPorts]
        simp [List.getD_eq_getElem?_getD, hlt, hltn]
      have HSP := Lib.hid hsp
      have hrl := (HRL j).out
      have HNUM := Lib.hid hnum
      have HK1 := Lib.hid k1
      have HK5 := Lib.hid k5
      clear hnum k1 k5 hb hbw hsp ho
      generalize setPorts ins (nums.map partsVal) j (List.replicate nodes.length false) = vs at *
      generalize ins[j] = q at *
      generalize nums[j] = xs at *
      obtain ⟨name, bits⟩ := q
      dsimp only at *
      have HRL2 := Lib.hid hrl
      clear hrl
      go_wp2_with fail
      refine (of_ref _ (fun i => i = w.heap.size + 1) (fun i hi => by rw [hi]; exact (HOW.out.base (g := w.heap.size + 1) rfl).2) _ xs HNUM.out HK1.out k2).mono ?_
      rintro e w1 ⟨v1, rfl, hrb, hb1⟩
      obtain ⟨A4, c4, rfl, -, -⟩ := hrb.shape
      have hnl4 := natBits_length (partsVal xs)
      rw [hnl4] at hrb ⊢
      have HRB := Lib.hid hrb
      have HB2 := Lib.hid (HB.out.trans (hb1.mono hszr))
      have HO2 := Lib.hid (HOW.out.kept (Kept.of_below_all hb1 (FootIn.none _) (Nat.le_refl _)))
      have z1a := (hb1.cell (p := ⟨w.heap.size, 1, none⟩) (World.block_lt_of_cell? _ _ z1)).trans z1
      have y1a := (hb1.cell (p := ⟨b, off + j * 2 + 1, none⟩) (World.block_lt_of_cell? _ _ y1)).trans y1
      have hsz1 := hb1.size
      have HNL4 := Lib.hid hnl4
      clear hrb hb1 z1 y1 hnl4
      generalize hm : partsVal xs = m at *
      clear hm
      go_wp2_with fail
      go_loopw [9] (fun i wr => ∃ k : Nat, k ≤ nbits m ∧ i = .int .i64 k ∧ Own kInt 3 wr none (w.heap.size + 1) (.slice (some ⟨w.heap.size + 1, 0, none⟩) nodes.length nodes.length) ((setPort bits m k vs).map b2i) ∧ Below (w.heap.size + 1) (w.alloc ob) wr ∧ Row kBool wr (fun i => i = w.heap.size + 1) (.slice A4 (nbits m) c4) (natBits m)) (fun i _ => nbits m - (intOf i).toNat)
      case atStart => exact ⟨0, Nat.zero_le _, rfl, HO2.out, HB2.out, HRB.out⟩
      case round =>
        obtain ⟨k, hk, rfl, hok, hbk, hrk⟩ := hrel
        clear z1a y1a
        obtain ⟨z1, y1, hbits⟩ := HALL.out _ hbk
        have HOK := Lib.hid hok
        have HBK := Lib.hid hbk
        have HRK := Lib.hid hrk
        by_cases hkl : k < nbits m
        · obtain ⟨b5, o5, rfl, x5⟩ := hrk.bool_at (i := k) (by rw [natBits_length]; exact hkl)
          have hbt : (natBits m)[k]'(by rw [natBits_length]; exact hkl) = m.testBit k := by simp [natBits, lowBits]
          rw [hbt] at x5
          clear hbt hrk
          have HSS := Lib.hid (show setPort bits m (k + 1) vs = if m.testBit k then (setPort bits m k vs).set (bits.getD k 0).toNat true else setPort bits m k vs from rfl)
          have hkb : k < bits.length := by omega
          cases hbit : m.testBit k with
          | false =>
            rw [hbit] at x5 HSS
            simp only [Bool.false_eq_true, if_false] at HSS
            clear hbit hbits hok hbk
            go_wp2
            go_roundw
            case rel => exact ⟨k + 1, by omega, by go_num, by rw [HSS.out]; exact HOK.out, HBK.out, HRK.out⟩
            case measure => simp [intOf]; omega
          | true =>
            rw [hbit] at x5 HSS
            simp only [if_true] at HSS
            obtain ⟨b6, o6, rfl, x6⟩ := hbits.int_at hkb
            have hbb := HK5.out _ (List.getElem_mem hkb)
            rw [List.getD_eq_getElem?_getD, List.getElem?_eq_getElem hkb, Option.getD_some] at HSS
            generalize bits[k] = z at *
            obtain ⟨zz, rfl⟩ := Int.eq_ofNat_of_zero_le hbb.1
            rw [Int.toNat_natCast] at HSS
            have hzl : zz < nodes.length := by omega
            have hl2 : ((setPort bits m k vs).map b2i).length = nodes.length := by rw [List.length_map, setPort_length]; exact HRL2.out
            obtain ⟨y, hy⟩ : ∃ y, ((setPort bits m k vs).map b2i)[zz]? = some y := ⟨_, List.getElem?_eq_getElem (by omega)⟩
            obtain ⟨u0, u1⟩ := hok.cellAt? hy
            have hst := (HOK.out.store (FootIn.none _) (by have := (HOK.out.base (g := w.heap.size + 1) rfl).2; omega) zz 1)
            rw [map_set_b2i, ← HSS.out] at hst
            have HST := Lib.hid hst.1
            have HRK2 := Lib.hid (HRK.out.keep (S' := fun i => i = w.heap.size + 1) ⟨hst.2.1.size, fun i _ hn => hst.2.1.block i (by omega) fun he => hn (by injection he)⟩ fun _ _ h => h)
            clear hbit hbits hok hbk hbb hl2 hst hy
            go_wp2
            go_roundw
            case rel => exact ⟨k + 1, by omega, by go_num, HST.out, HBK.out.setCell (Nat.le_refl _) _, HRK2.out⟩
            case measure => simp [intOf]; omega
        · obtain rfl : k = nbits m := by omega
          clear hbits hok hbk hrk
          go_wp2
          go_roundw
          case rel => exact ⟨j + 1, by omega, by go_num, by rw [HSP.out]; exact HOK.out, HBK.out⟩
          case measure => simp [intOf]; omega
    · obtain rfl : j = ins.length := by omega
      clear hri hb hbw
      go_wp2
      go_ret2
      exact ⟨_, rfl, HOW.out.rowS S (fun g hg hs => by have h1 := (HOW.out.base hg).1; have := hS g hs; omega), HBW.out⟩
end Go.Proofs.Ytbfjacgfifecpaa

/-! ## Cycle by cycle: slipstickref07. -/
namespace Go.Proofs.Ytbfjacgfifecpaa
open Go.RowKit

mutual
def stateR (nodes : List Node) (ins : List Port) (script : List (List Nat)) : Nat → List Bool
  | 0 => startR nodes
  | i + 1 => nextR nodes (cycleR nodes ins script i)
def cycleR (nodes : List Node) (ins : List Port) (script : List (List Nat)) (i : Nat) : List Bool := valsK nodes (stateR nodes ins script i) (inputsR nodes.length ins (script.getD i [])) nodes.length
end
theorem stateR_succ (nodes : List Node) (ins : List Port) (script : List (List Nat)) (i : Nat) : stateR nodes ins script (i + 1) = nextR nodes (cycleR nodes ins script i) := by rw [stateR]
theorem cycleR_eq (nodes : List Node) (ins : List Port) (script : List (List Nat)) (i : Nat) : cycleR nodes ins script i = valsK nodes (stateR nodes ins script i) (inputsR nodes.length ins (script.getD i [])) nodes.length := by rw [cycleR]
theorem stateR_length (nodes : List Node) (ins : List Port) (script : List (List Nat)) (i : Nat) : (stateR nodes ins script i).length = nodes.length := by
  cases i with
  | zero => rw [stateR]; simp [startR]
  | succ i => rw [stateR_succ]; simp [nextR]
def throughR (nodes : List Node) (ins outs : List Port) (script : List (List Nat)) : List (List (List Int)) := (List.range script.length).map fun i => outsR outs (cycleR nodes ins script i)

def okRow (_nodes : List Node) (ins : List Port) (nums : List (List Int)) : Prop :=
  nums.length = ins.length ∧ ∀ i (h : i < ins.length) (h' : i < nums.length), okParts nums[i] ∧ nums[i].length ≤ 4294967296 ∧ nbits (partsVal nums[i]) ≤ ins[i].bits.length

theorem infoU32ss : (Try.prog.info? 91).map (fun i => (i.zero, i.size, i.bytes)) = some (some (.slice none 0 0), 1, 24) := by kernel_rfl

/-- ports whose places are there -/
def okPorts (nodes : List Node) (ps : List Port) : Prop := ps.length ≤ 1073741824 ∧ ∀ q ∈ ps, q.bits.length ≤ 549755813888 ∧ ∀ b ∈ q.bits, 0 ≤ b ∧ b < nodes.length

set_option maxHeartbeats 4000000 in
set_option maxRecDepth 100000 in
theorem through_ref (w : World) (S S1 S2 : Nat → Prop) (hS : There S w) (v vord vs : Value) (nodes : List Node) (ins outs : List Port) (script : List (List (List Int))) (hN : NetV w v nodes ins outs) (hord : Row kInt w S1 vord (placesOf nodes.length)) (hx : Row (kRow (kRow (kNum .u32))) w S2 vs script)
    (hnl : nodes.length ≤ 1099511627776) (hk : Ordered nodes) (hi : okPorts nodes ins) (ho : okPorts nodes outs) (hsc : script.length ≤ 1073741824) (hrow : ∀ row ∈ script, okRow nodes ins row) :
    Calls Try.prog 74 #[v, vord, vs] w fun e w' => ∃ v', e = .returned (.tuple #[v', .int .i64 0]) ∧ Row (kRow (kRow (kNum .u32))) w' S v' (throughR nodes ins outs (script.map fun r => r.map partsVal)) ∧ Below w.heap.size w w' := by
  obtain ⟨An, cn, Ai, ci, Ao, co, rfl, hbox⟩ := hN.box
  let ob := netBox (.slice An nodes.length cn) (.slice Ai ins.length ci) (.slice Ao outs.length co)
  have hsz : (w.alloc ob).heap.size = w.heap.size + 1 := by simp
  obtain ⟨z0, z1, z2, -, -, -, -⟩ := hbox (w.alloc ob) (Below.refl _ _)
  obtain ⟨A1, c1, rfl, -, -⟩ := hord.shape
  obtain ⟨A2, c2, rfl, -, -⟩ := hx.shape
  have h1 : (placesOf nodes.length).length = nodes.length := places_length _
  rw [h1] at hord ⊢
  have HNET := Lib.hid (fun (W : World) (hW : Below (w.heap.size + 1) (w.alloc ob) W) => show NetV W (.agg #[.slice An nodes.length cn, .slice Ai ins.length ci, .slice Ao outs.length co]) nodes ins outs from ⟨_, _, _, rfl, (hbox W hW).2.2.2.1, (hbox W hW).2.2.2.2.1, (hbox W hW).2.2.2.2.2.1⟩)
  have HZ := Lib.hid (fun (W : World) (hW : Below (w.heap.size + 1) (w.alloc ob) W) => And.intro (hbox W hW).1 (And.intro (hbox W hW).2.1 (hbox W hW).2.2.1))
  have HW := Lib.hid (fun (W : World) (hW : Below (w.heap.size + 1) (w.alloc ob) W) => (hbox W hW).2.2.2.2.2.2)
  have HK := Lib.hid hk
  have HORD := Lib.hid hord
  have HX := Lib.hid hx
  have HI := Lib.hid hi
  have HOO := Lib.hid ho
  have HSZ := Lib.hid hsz
  have HROW := Lib.hid hrow
  clear hbox hk hord hx hi ho hsz hN h1 hrow
  go_enter Try.func74, Try.ntmps74
  go_wp2_with fail
  refine (start_ref _ (fun _ => False) (fun _ h => h.elim) _ nodes ins outs (HNET.out _ (Below.refl _ _)) hnl (fun x hx h7 => by obtain ⟨i, _, hr⟩ := HK.out.mem hx; exact (rightB_reg hr h7).1)).mono ?_
  rintro e w1 ⟨v1, rfl, hr1, hb1⟩
  rw [HSZ.out] at hb1
  obtain ⟨A3, c3, rfl, -, -⟩ := hr1.shape
  have hml : ((startR nodes).map b2i).length = nodes.length := by simp [startR]
  rw [hml] at hr1 ⊢
  have HR1 := Lib.hid hr1
  have HB1 := Lib.hid hb1
  have HO1 := Lib.hid (Own.lit0 (kOff S (kRow (kNum .u32))) 91 w1)
  have hsz1 := hb1.size
  rw [HSZ.out] at hsz1
  clear hr1 hb1 hml z0 z1 z2
  go_wp2_with fail
  go_loopw [8, 9, 10] (fun vst vo i wr => ∃ j : Nat, j ≤ script.length ∧ i = .int .i64 j ∧ Row kInt wr (fun _ => False) vst ((stateR nodes ins (script.map fun r => r.map partsVal) j).map b2i) ∧
      Own (kOff S (kRow (kNum .u32))) 91 wr none (w.heap.size + 1) vo ((List.range j).map fun i => outsR outs (cycleR nodes ins (script.map fun r => r.map partsVal) i)) ∧ Below (w.heap.size + 1) (w.alloc ob) wr) (fun _ _ i _ => script.length - (intOf i).toNat)
  case atStart => exact ⟨0, Nat.zero_le _, rfl, by rw [stateR]; exact HR1.out.later ((Below.refl _ _).alloc (Nat.le_refl _) _), HO1.out.lower (by omega), HB1.out.alloc (by omega) _⟩
  case round =>
    obtain ⟨j, hj, rfl, hst, ho, hb⟩ := hrel
    obtain ⟨A5, c5, rfl, -, -⟩ := hst.shape
    obtain ⟨A6, c6, rfl, -, -⟩ := ho.shape
    have hsl : ((stateR nodes ins (script.map fun r => r.map partsVal) j).map b2i).length = nodes.length := by rw [List.length_map, stateR_length]
    have hol : ((List.range j).map fun i => outsR outs (cycleR nodes ins (script.map fun r => r.map partsVal) i)).length = j := by simp
    rw [hsl] at hst ⊢
    rw [hol] at ho ⊢
    have HST := Lib.hid hst
    have HO := Lib.hid ho
    have HB := Lib.hid hb
    have hszr : w.heap.size + 1 ≤ wr.heap.size := by have := hb.size; rw [HSZ.out] at this; exact this
    clear hst ho hsl hol
    by_cases hlt : j < script.length
    · obtain ⟨b, off, A4, c4, rfl, x0, hrow⟩ := (HX.out.later (HW.out _ hb)).row_at hlt
      obtain ⟨hr1, hr2⟩ := HROW.out _ (List.getElem_mem hlt)
      have HR2 := Lib.hid hr2
      have HR3 := Lib.hid hr1
      have HG := Lib.hid (show (script.map fun r => r.map partsVal).getD j [] = script[j].map partsVal by simp [List.getD_eq_getElem?_getD, hlt])
      have HRW := Lib.hid hrow
      obtain ⟨z0, z1, z2⟩ := HZ.out _ hb
      clear hrow hr2 hb hr1
      have HSS := Lib.hid (stateR_succ nodes ins (script.map fun r => r.map partsVal) j)
      have HCC := Lib.hid (cycleR_eq nodes ins (script.map fun r => r.map partsVal) j)
      rw [HG.out] at HCC
      have HSL := Lib.hid (stateR_length nodes ins (script.map fun r => r.map partsVal) j)
      generalize stateR nodes ins (script.map fun r => r.map partsVal) j = st at *
      generalize script[j] = row at *
      have HB0 := Lib.hid (HB.out.drew)
      have HRW0 := Lib.hid (HRW.out.later (Below.refl _ _).drew)
      go_wp2_with fail
      go_region_law (go_simp; go_at_call 91; refine (inputs_ref _ (fun _ => False) _ (fun _ h => h.elim) _ _ nodes ins outs row (HNET.out _ HB0.out) HRW0.out hnl HR3.out HI.out.1 (fun i h h' => ⟨(HR2.out i h h').1, (HR2.out i h h').2.1, (HR2.out i h h').2.2, HI.out.2 _ (List.getElem_mem h)⟩)).mono ?_; rintro e w2 ⟨v2, rfl, hr2, hb2⟩; obtain ⟨A7, c7, hv7, -, -⟩ := hr2.shape; rw [List.length_map, inputsR_length] at hv7; subst hv7; have HR7 := Lib.hid hr2; have HBR := Lib.hid (((Below.refl wr.heap.size wr).drew).trans hb2); have HB2 := Lib.hid (HB0.out.trans (hb2.mono hszr)); have hs2 := hb2.size; clear hr2 hb2)
      all_goals
        obtain ⟨z0, z1, z2⟩ := HZ.out _ HB2.out
        have hszr2 : w.heap.size + 1 ≤ w2.heap.size := Nat.le_trans hszr hs2
        have HIR := Lib.hid (inputsR_length nodes.length ins (row.map partsVal))
        generalize inputsR nodes.length ins (row.map partsVal) = inn at *
        have HO2 := Lib.hid (HO.out.kept (Kept.of_below_all HBR.out (FootIn.none _) (Nat.le_refl _)))
        go_wp2_with fail
        refine (values_ref _ (fun i => Value.ownBlock (.slice A6 j c6) = some i) _ _ _ (fun i hi => (HO2.out.base hi).2) _ _ _ _ nodes ins outs st inn (HNET.out _ HB2.out) (HORD.out.later (HW.out _ HB2.out)) (HST.out.later HBR.out) HR7.out HSL.out HIR.out hnl HK.out).mono ?_
        rintro e w3 ⟨v3, rfl, hr3, hb3⟩
        have HVL := Lib.hid (valsK_length nodes st inn nodes.length)
        rw [← HCC.out] at hr3 HVL
        obtain ⟨A8, c8, hv8, -, -⟩ := hr3.shape
        rw [List.length_map, HVL.out] at hv8
        subst hv8
        have HR8 := Lib.hid hr3
        have HB3 := Lib.hid (HB2.out.trans (hb3.mono hszr2))
        have HO3 := Lib.hid (HO2.out.kept (Kept.of_below_all hb3 (FootIn.none _) (Nat.le_refl _)))
        have hs3 := hb3.size
        obtain ⟨z0, z1, z2⟩ := HZ.out _ HB3.out
        clear hr3 hb3
        have hdone : (List.range (j + 1)).map (fun i => outsR outs (cycleR nodes ins (script.map fun r => r.map partsVal) i)) = (List.range j).map (fun i => outsR outs (cycleR nodes ins (script.map fun r => r.map partsVal) i)) ++ [outsR outs (cycleR nodes ins (script.map fun r => r.map partsVal) j)] := by
          rw [List.range_succ, List.map_append]; rfl
        have HD := Lib.hid hdone
        have hdl : ((List.range j).map (fun i => outsR outs (cycleR nodes ins (script.map fun r => r.map partsVal) i))).length = j := by simp
        have HDL := Lib.hid hdl
        have hj2 : j ≤ 1073741824 := by omega
        generalize (List.range j).map (fun i => outsR outs (cycleR nodes ins (script.map fun r => r.map partsVal) i)) = done at *
        generalize cycleR nodes ins (script.map fun r => r.map partsVal) j = vs at *
        clear hdone hdl
        go_wp2_with fail
        refine (outs_ref _ (fun i => Value.ownBlock (.slice A6 j c6) = some i ∨ S i) _ (fun i hi => hi.elim (fun hi => (HO3.out.base hi).2) (fun hi => by have := hS i hi; omega)) _ _ nodes ins outs vs (HNET.out _ HB3.out) HR8.out (by rw [HVL.out]; exact hnl) HOO.out.1 (by rw [HVL.out]; exact HOO.out.2)).mono ?_
        rintro e w4 ⟨v4, rfl, hr4, hb4⟩
        obtain ⟨A9, c9, rfl, -, -⟩ := hr4.shape
        have HR9 := Lib.hid hr4
        have HB4 := Lib.hid (HB3.out.trans (hb4.mono (Nat.le_trans hszr2 hs3)))
        have HR8b := Lib.hid (HR8.out.later hb4)
        have HO4 := Lib.hid (HO3.out.kept (Kept.of_below_all hb4 (FootIn.none _) (Nat.le_refl _)))
        have hs4 := hb4.size
        clear hr4 hb4
        generalize outsR outs vs = res at *
        go_wp2_with (at_builtin; refine app1 (kOff S (kRow (kNum .u32))) 91 57 (.slice none 0 0) 24 rfl (.tmp 39) (.tmp 43) rfl Try.underlying57 infoU32ss rfl Nat.zero_lt_one (by decide) none (w.heap.size + 1) HO4.out (FootIn.none _) (by omega) rfl res [.slice A9 res.length c9] rfl ⟨_, rfl, HR9.out.mono (fun i _ h => h.elim (fun h => h.elim (fun h => (foot_none _ _ h).elim) .inl) .inr)⟩ (by rw [HDL.out]; omega) ?_; intro v' w5 q1 q2 _ _ hg5 _; have HB5 := Lib.hid (HB4.out.trans q2.below); obtain ⟨z0, z1, z2⟩ := HZ.out _ HB5.out; have HR5 := Lib.hid (HR8b.out.keep (S' := fun i => Value.ownBlock (.slice A6 j c6) = some i) ⟨hg5.size, fun i hi hn => hg5.block i hi fun he => hn he.symm⟩ (fun _ _ h => h)); have HQ1 := Lib.hid q1; have hs5 := q2.size; clear q1 q2 hg5)
        refine (next_ref _ (fun _ => False) _ (fun _ h => h.elim) _ _ nodes ins outs vs (HNET.out _ HB5.out) HR5.out HVL.out hnl (fun x hx h7 => by obtain ⟨i, hi, hr⟩ := HK.out.mem hx; have := (rightB_reg hr h7).2; omega)).mono ?_
        rintro e w6 ⟨v6, rfl, hr6, hb6⟩
        rw [← HSS.out] at hr6
        have HR6 := Lib.hid hr6
        have HB6 := Lib.hid (HB5.out.trans (hb6.mono (by omega)))
        have HO6 := Lib.hid (HQ1.out.kept (Kept.of_below_all hb6 (FootIn.none _) (Nat.le_refl _)))
        clear hr6 hb6
        go_wp2_with fail
        go_roundw
        case rel => exact ⟨j + 1, by omega, by go_num, HR6.out, by rw [HD.out]; exact HO6.out, HB6.out⟩
        case measure => simp [intOf]; omega
    · obtain rfl : j = script.length := by omega
      have HBW := Lib.hid (HW.out _ hb)
      clear hb
      go_wp2
      go_ret2
      refine ⟨_, rfl, ?_, HBW.out⟩
      have h := HO.out.rowOff (fun g hg hs => by have h1 := (HO.out.base hg).1; have := hS g hs; omega)
      unfold throughR
      rw [List.length_map]
      exact h
end Go.Proofs.Ytbfjacgfifecpaa

/-! ## The order that is found: slipstickref07. -/
namespace Go.Proofs.Ytbfjacgfifecpaa
open Go.RowKit

def lenOf : Value → Nat
  | .slice _ n _ => n
  | _ => 0
def doneRow (n j : Nat) : List Int := List.replicate j 2 ++ List.replicate (n - j) 0
theorem doneRow_zero (n : Nat) : doneRow n 0 = List.replicate n 0 := by simp [doneRow]
theorem doneRow_length (n j : Nat) (h : j ≤ n) : (doneRow n j).length = n := by simp [doneRow]; omega
theorem doneRow_at (n j : Nat) (h : j < n) : (doneRow n j)[j]? = some 0 := by
  rw [doneRow, List.getElem?_append_right (by simp), List.length_replicate, Nat.sub_self, List.getElem?_replicate, if_pos (by omega)]
theorem doneRow_lt (n j i : Nat) (h : i < j) : (doneRow n j)[i]? = some 2 := by
  rw [doneRow, List.getElem?_append_left (by simpa using h), List.getElem?_replicate, if_pos h]
theorem doneRow_mid (n j : Nat) (h : j < n) : ((doneRow n j).set j 1)[j]? = some 1 := by
  rw [List.getElem?_set_self (by rw [doneRow_length n j (by omega)]; exact h)]
theorem doneRow_succ (n j : Nat) (h : j < n) : ((doneRow n j).set j 1).set j 2 = doneRow n (j + 1) := by
  rw [List.set_set]
  obtain ⟨m, hm⟩ : ∃ m, n - j = m + 1 := ⟨n - j - 1, by omega⟩
  rw [doneRow, List.set_append_right _ _ (by simp), List.length_replicate, Nat.sub_self, hm, List.replicate_succ, List.set_cons_zero, doneRow, show n - (j + 1) = m by omega, List.replicate_succ', List.append_assoc]
  rfl
theorem places_succ (j : Nat) : placesOf (j + 1) = placesOf j ++ [(j : Int)] := by rw [placesOf, List.range_succ, List.map_append]; rfl
theorem Own.pop {e : TypeId} {w : World} {B g c : Nat} {j : Int} (h : Own kInt e w none B (.slice (some ⟨g, 0, none⟩) 1 c) [j]) : Own kInt e w none B (.slice (some ⟨g, 0, none⟩) 0 c) [] := by
  refine Own.of_ints ?_ (fun _ _ => foot_none _ _)
  exact ownsRow_pop (n := 0) (xs := []) (last := [Value.int .i64 j]) rfl h.ints

set_option maxHeartbeats 4000000 in
set_option maxRecDepth 100000 in
theorem fast_bad (w : World) (v : Value) (nodes : List Node) (ins outs : List Port) (hN : NetV w v nodes ins outs) (hnl : nodes.length ≤ 1099511627776) (hil : ins.length ≤ 1073741824) (hol : outs.length ≤ 1073741824) (hf : formedB nodes ins outs = false) :
    Calls Try.prog 72 #[v] w fun e w' => e = .returned (.tuple #[.slice none 0 0, .bool false]) ∧ Below w.heap.size w w' := by
  obtain ⟨An, cn, Ai, ci, Ao, co, rfl, hbox⟩ := hN.box
  let ob := netBox (.slice An nodes.length cn) (.slice Ai ins.length ci) (.slice Ao outs.length co)
  obtain ⟨z0, z1, z2, hr1, hr2, hr3, hbw⟩ := hbox (w.alloc ob) (Below.refl _ _)
  have HR1 := Lib.hid hr1
  have HR2 := Lib.hid hr2
  have HR3 := Lib.hid hr3
  have HBW := Lib.hid hbw
  have HF := Lib.hid hf
  clear hbox hr1 hr2 hr3 hbw hf hN
  go_enter Try.func72, Try.ntmps72
  go_wp2_with fail
  refine (formed_ref _ _ _ _ nodes ins outs HR1.out.bare0 HR2.out.bare0 HR3.out.bare0 hnl hil hol).mono ?_
  rintro e w1 ⟨rfl, hb1⟩
  rw [HF.out]
  have HB := Lib.hid (HBW.out.trans (hb1.mono HBW.out.size))
  clear hb1
  go_wp2
  go_ret2
  exact ⟨rfl, HB.out⟩

attribute [local go_sem] max2_int min2_int max_two min_two in
set_option maxHeartbeats 8000000 in
set_option maxRecDepth 100000 in
theorem fast_ref (w : World) (S : Nat → Prop) (hS : There S w) (v : Value) (nodes : List Node) (ins outs : List Port) (hN : NetV w v nodes ins outs) (hnl : nodes.length ≤ 1099511627776) (hil : ins.length ≤ 1073741824) (hol : outs.length ≤ 1073741824)
    (hk : Ordered nodes) (hf : formedB nodes ins outs = true) :
    Calls Try.prog 72 #[v] w fun e w' => ∃ v', e = .returned (.tuple #[v', .bool true]) ∧ Row kInt w' S v' (placesOf nodes.length) ∧ Below w.heap.size w w' := by
  obtain ⟨An, cn, Ai, ci, Ao, co, rfl, hbox⟩ := hN.box
  let ob := netBox (.slice An nodes.length cn) (.slice Ai ins.length ci) (.slice Ao outs.length co)
  have hsz : (w.alloc ob).heap.size = w.heap.size + 1 := by simp
  obtain ⟨z0, z1, z2, hr1, hr2, hr3, -⟩ := hbox (w.alloc ob) (Below.refl _ _)
  have hmk := make_ints nodes.length hnl
  have HR1 := Lib.hid hr1
  have HR2 := Lib.hid hr2
  have HR3 := Lib.hid hr3
  have HF := Lib.hid hf
  have HBOX := Lib.hid hbox
  have HK := Lib.hid hk
  have HSZ := Lib.hid hsz
  clear hbox hr1 hr2 hr3 hf hN hk hsz
  go_enter Try.func72, Try.ntmps72
  go_wp2_with fail
  refine (formed_ref _ _ _ _ nodes ins outs HR1.out.bare0 HR2.out.bare0 HR3.out.bare0 hnl hil hol).mono ?_
  rintro e w1 ⟨rfl, hb1⟩
  rw [HF.out]
  rw [HSZ.out] at hb1
  have hg0 : w.heap.size + 1 ≤ w1.heap.size := by have := hb1.size; rw [HSZ.out] at this; exact this
  obtain ⟨z0a, -, -, -⟩ := HBOX.out _ hb1
  have HB1 := Lib.hid hb1
  clear z0 z1 z2 hb1
  let m1 := w1.alloc (.cells (madeCells #[.int .i64 0] nodes.length) 3)
  have hm1 : m1.heap.size = w1.heap.size + 1 := by simp [m1]
  have HM1 := Lib.hid (made_ints nodes.length hnl w1)
  have hk2 : Below m1.heap.size m1 ((m1.alloc (.cells #[] 3)).alloc (.cells #[] 3)) := ((Below.refl _ _).alloc (Nat.le_refl _) _).alloc (by simp) _
  have HM2 := Lib.hid (HM1.out.kept (Kept.of_below_all hk2 (FootIn.none _) (Nat.le_refl _)))
  have HO0 := Lib.hid ((Own.lit0 kInt 3 m1).kept (Kept.of_below_all ((Below.refl _ _).alloc (Nat.le_refl _) (.cells #[] 3)) (FootIn.none _) (Nat.le_refl _)))
  have HT0 := Lib.hid (Own.lit0 kInt 3 (m1.alloc (.cells #[] 3)))
  have HB2 := Lib.hid (((HB1.out.alloc hg0 (.cells (madeCells #[.int .i64 0] nodes.length) 3)).alloc (by simp; omega) (.cells #[] 3)).alloc (by simp; omega) (.cells #[] 3))
  clear hk2
  have hm2 : (m1.alloc (.cells #[] 3)).heap.size = w1.heap.size + 1 + 1 := by simp [hm1]
  rw [hm2] at HT0
  rw [hm1] at HO0
  go_wp2_with fail
  go_loopw [5, 6, 7] (fun vo vs i wr => ∃ j : Nat, j ≤ nodes.length ∧ i = .int .i64 j ∧ Own kInt 3 wr none w1.heap.size (.slice (some ⟨w1.heap.size, 0, none⟩) nodes.length nodes.length) (doneRow nodes.length j) ∧
      Own kInt 3 wr none (w1.heap.size + 1) vo (placesOf j) ∧ Own kInt 3 wr none (w1.heap.size + 1) vs [] ∧ (∀ g, vo.ownBlock = some g → vs.ownBlock ≠ some g) ∧ Below (w.heap.size + 1) (w.alloc ob) wr) (fun _ _ i _ => nodes.length - (intOf i).toNat)
  case atStart => exact ⟨0, Nat.zero_le _, rfl, by rw [doneRow_zero]; exact HM2.out, HO0.out, HT0.out.lower (by omega), (fun g hg he => by
    have hg := Option.some.inj hg; have he := Option.some.inj he; simp at hg he; omega), HB2.out⟩
  case round =>
    obtain ⟨wo, rfl⟩ : ∃ wo : World, wo = wr := ⟨_, rfl⟩
    obtain ⟨j, hj, rfl, hst, ho, hs, hd, hb⟩ := hrel
    obtain ⟨A5, c5, rfl, -, -⟩ := ho.shape
    obtain ⟨A6, c6, rfl, -, -⟩ := hs.shape
    clear z0a
    obtain ⟨z0, -, -, -, -, -, hbw⟩ := HBOX.out _ hb
    have HST := Lib.hid hst
    have HO := Lib.hid ho
    have HS0 := Lib.hid hs
    have HD := Lib.hid hd
    have HB := Lib.hid hb
    have HBW := Lib.hid hbw
    clear ho hs hd hb hbw
    by_cases hlt : j < nodes.length
    · obtain ⟨x0, x1⟩ := hst.cellAt? (doneRow_at nodes.length j hlt)
      have hsz0 : w1.heap.size + 1 ≤ wo.heap.size := (HST.out.base (g := w1.heap.size) rfl).2
      clear hst
      go_wp2_with (at_builtin; refine app1 kInt 3 28 (.int .i64 0) 8 rfl (.tmp 33) (.tmp 35) rfl Try.underlying28 infoInt rfl (by decide) (by decide) none (w1.heap.size + 1) HS0.out (FootIn.none _) hsz0 rfl (j : Int) [.int .i64 j] rfl rfl (by simp) ?_; intro v' w3 q1 q2 _ q4 q5 q6; have HST3 := Lib.hid (HST.out.other q5 q4 (.inr fun h => by have := (HS0.out.base (g := w1.heap.size) h.symm).1; omega) (fun _ _ h => h)); have HO3 := Lib.hid (HO.out.other q5 q4 (by
          rcases hv : (Value.slice A5 (placesOf j).length c5).ownBlock with _ | g
          · exact .inl rfl
          · exact .inr fun h => HD.out g hv h.symm) (fun _ _ h => h)); have HQ1 := Lib.hid q1; have HD3 := Lib.hid (show ∀ g, (Value.slice A5 (placesOf j).length c5).ownBlock = some g → v'.ownBlock ≠ some g from fun g hg he => by
          rcases q6 with h | ⟨b, h, hb⟩
          · exact HD.out g hg (h.symm.trans he)
          · rw [h] at he; have he := Option.some.inj he; subst he; have := (HO.out.base hg).2; omega); have HB3 := Lib.hid (HB.out.trans (q2.below.mono (by omega))); clear q1 q2 q4 q5 q6)
      clear x0 x1 z0
      go_loopw [5, 6] (fun vo vs wr => (Own kInt 3 wr none w1.heap.size (.slice (some ⟨w1.heap.size, 0, none⟩) nodes.length nodes.length) (doneRow nodes.length j) ∧
          Own kInt 3 wr none (w1.heap.size + 1) vo (placesOf j) ∧ Own kInt 3 wr none (w1.heap.size + 1) vs [(j : Int)] ∧ (∀ g, vo.ownBlock = some g → vs.ownBlock ≠ some g) ∧ Below (w.heap.size + 1) (w.alloc ob) wr) ∨
          (Own kInt 3 wr none w1.heap.size (.slice (some ⟨w1.heap.size, 0, none⟩) nodes.length nodes.length) (doneRow nodes.length (j + 1)) ∧
          Own kInt 3 wr none (w1.heap.size + 1) vo (placesOf (j + 1)) ∧ Own kInt 3 wr none (w1.heap.size + 1) vs [] ∧ (∀ g, vo.ownBlock = some g → vs.ownBlock ≠ some g) ∧ Below (w.heap.size + 1) (w.alloc ob) wr)) (fun _ vs _ => lenOf vs)
      case atStart => exact .inl ⟨HST3.out, HO3.out, HQ1.out, HD3.out, HB3.out⟩
      case round =>
        clear HST HO HS0 HD HB HBW HST3 HO3 HQ1 HD3 HB3
        rcases hrel with ⟨hst, ho, hs, hd, hb⟩ | ⟨hst, ho, hs, hd, hb⟩
        · obtain ⟨A7, c7, rfl, -, -⟩ := ho.shape
          obtain ⟨gs, c8, rfl, -, -⟩ := hs.form (by simp)
          obtain ⟨s0, s1⟩ := hs.cellAt? (i := 0) (r := (j : Int)) rfl
          obtain ⟨z0, -, -, hrn, -, -, -⟩ := HBOX.out _ hb
          obtain ⟨b, off, rfl, y0, y1, y2, y3⟩ := hrn.node_at hlt
          have HR := Lib.hid (HK.out j nodes[j] (by simp [hlt]))
          have HSwr := Lib.hid hst
          have HOwr := Lib.hid ho
          have HTwr := Lib.hid hs
          have HD := Lib.hid hd
          have HBwr := Lib.hid hb
          clear hst ho hs hd hb hrn
          generalize nodes[j] = x at *
          obtain ⟨kind, xa, xb, xc⟩ := x
          dsimp only at *
          have hszw : w1.heap.size + 1 ≤ wr.heap.size := (HSwr.out.base (g := w1.heap.size) rfl).2
          by_cases h7 : kind = 7
          · subst h7
            obtain ⟨x0, x1⟩ := HSwr.out.cellAt? (doneRow_at nodes.length j hlt)
            have hs1 := HSwr.out.store (FootIn.none _) (Nat.le_of_lt (HSwr.out.base (g := w1.heap.size) rfl).2) j 1
            have HS1 := Lib.hid hs1.1
            have HO1 := Lib.hid (HOwr.out.other hs1.2.1 hs1.2.2.2 (.inr fun h => by have := (HOwr.out.base (g := w1.heap.size) h).1; omega) (fun _ _ h => h))
            have HT1 := Lib.hid (HTwr.out.other hs1.2.1 hs1.2.2.2 (.inr fun h => by have := (HTwr.out.base (g := w1.heap.size) h).1; omega) (fun _ _ h => h))
            have HB1 := Lib.hid (HBwr.out.setCell (p := ⟨w1.heap.size, j, none⟩) hg0 (.int .i64 1))
            have hsb : w1.heap.size + 1 ≤ (wr.setCell ⟨w1.heap.size, j, none⟩ (.int .i64 1)).heap.size := (HS1.out.base (g := w1.heap.size) rfl).2
            have hpl : (placesOf j).length ≤ 1099511627776 := by rw [places_length]; omega
            have hss : (wr.setCell ⟨w1.heap.size, j, none⟩ (.int .i64 1)).heap.size = wr.heap.size := by simp
            clear hs1
            go_wp2_with (at_builtin; refine app1 kInt 3 28 (.int .i64 0) 8 rfl (.tmp 92) (.tmp 94) rfl Try.underlying28 infoInt rfl (by decide) (by decide) none (w1.heap.size + 1) HO1.out (FootIn.none _) hsb rfl (j : Int) [.int .i64 j] (by rw [hss]; rfl) rfl (by omega) ?_; intro v' w3 q1 q2 _ q4 q5 q6; have HS3 := Lib.hid (HS1.out.other q5 q4 (.inr fun h => by have := (HO1.out.base (g := w1.heap.size) h.symm).1; omega) (fun _ _ h => h)); have HT3 := Lib.hid (HT1.out.other q5 q4 (.inr fun h => HD.out _ h.symm rfl) (fun _ _ h => h)); have hat3 := HS3.out.cellAt? (doneRow_mid nodes.length j hlt); obtain ⟨u0, u1⟩ := hat3; have HQ1 := Lib.hid q1; have HQ6 := Lib.hid q6; have HB3 := Lib.hid (HB1.out.trans (q2.below.mono (by omega))); clear q1 q2 q4 q5 q6)
            have hs4 := HS3.out.store (FootIn.none _) (Nat.le_of_lt (HS3.out.base (g := w1.heap.size) rfl).2) j 2
            have HO4 := Lib.hid (HQ1.out.other hs4.2.1 hs4.2.2.2 (.inr fun h => by have := (HQ1.out.base (g := w1.heap.size) h).1; omega) (fun _ _ h => h))
            have HT4 := Lib.hid (HT3.out.other hs4.2.1 hs4.2.2.2 (.inr fun h => by have := (HT3.out.base (g := w1.heap.size) h).1; omega) (fun _ _ h => h)).pop
            have HB4 := Lib.hid (HB3.out.setCell (p := ⟨w1.heap.size, j, none⟩) hg0 (.int .i64 2))
            have HS4 := Lib.hid hs4.1
            rw [doneRow_succ nodes.length j hlt] at HS4
            clear hs4 u0 u1 x0 x1
            go_roundw
            case rel => exact .inr ⟨HS4.out, by rw [places_succ]; exact HO4.out, HT4.out, (fun g hg he => by
                have he := Option.some.inj he
                subst he
                rcases HQ6.out with h | ⟨b, h, hb⟩
                · exact HD.out _ (h.symm.trans hg) rfl
                · rw [h] at hg; have hg := Option.some.inj hg; subst hg; have := (HT1.out.base (g := b) rfl).2; omega), HB4.out⟩
            case measure => simp [lenOf]
          · have h7' : (kind == 7) = false := by simpa using h7
            go_wp2_with (go_at_call 24; refine (uses_ref _ (fun _ => False) (fun _ h => h.elim) ⟨kind, xa, xb, xc⟩).mono ?_; rintro e w2 ⟨vu, rfl, hru, hbu⟩; obtain ⟨A9, c9, rfl, -, -⟩ := hru.shape; have HRU := Lib.hid hru; have HSw2 := Lib.hid (HSwr.out.kept (Kept.of_below_all hbu (FootIn.none _) (Nat.le_refl _))); have HOw2 := Lib.hid (HOwr.out.kept (Kept.of_below_all hbu (FootIn.none _) (Nat.le_refl _))); have HTw2 := Lib.hid (HTwr.out.kept (Kept.of_below_all hbu (FootIn.none _) (Nat.le_refl _))); have HBw2 := Lib.hid (HBwr.out.trans (hbu.mono (by omega))); have HUS := Lib.hid (rightB_uses HR.out); clear hru hbu)
            have hul : (usesR ⟨kind, xa, xb, xc⟩).length ≤ 3 := by unfold usesR; simp; omega
            generalize usesR ⟨kind, xa, xb, xc⟩ = l at *
            clear z0 y0 y1 y2 y3 s0 s1
            go_loop [9, 11] (fun wt i => wt = .int .i64 (-1) ∧ ∃ q : Nat, q ≤ l.length ∧ i = .int .i64 q) (fun _ i => l.length - (intOf i).toNat)
            case atStart => exact ⟨rfl, 0, Nat.zero_le _, rfl⟩
            case round =>
              obtain ⟨rfl, q, hq, rfl⟩ := hrel
              by_cases hql : q < l.length
              · obtain ⟨b4, o4, rfl, l0⟩ := HRU.out.int_at hql
                have hu := HUS.out _ (List.getElem_mem hql)
                generalize l[q] = u at *
                obtain ⟨uu, rfl⟩ := Int.eq_ofNat_of_zero_le hu.1
                obtain ⟨t0, t1⟩ := HSw2.out.cellAt? (doneRow_lt nodes.length j uu (by omega))
                have hun : uu < nodes.length := by omega
                clear hu
                go_wp2
                go_round
                case rel => exact ⟨rfl, q + 1, by omega, by go_num⟩
                case measure => simp [intOf]; omega
              · obtain rfl : q = l.length := by omega
                have hszw2 : w1.heap.size + 1 ≤ w2.heap.size := (HSw2.out.base (g := w1.heap.size) rfl).2
                obtain ⟨x0, x1⟩ := HSw2.out.cellAt? (doneRow_at nodes.length j hlt)
                have hs1 := HSw2.out.store (FootIn.none _) (Nat.le_of_lt (HSw2.out.base (g := w1.heap.size) rfl).2) j 1
                have HS1 := Lib.hid hs1.1
                have HO1 := Lib.hid (HOw2.out.other hs1.2.1 hs1.2.2.2 (.inr fun h => by have := (HOw2.out.base (g := w1.heap.size) h).1; omega) (fun _ _ h => h))
                have HT1 := Lib.hid (HTw2.out.other hs1.2.1 hs1.2.2.2 (.inr fun h => by have := (HTw2.out.base (g := w1.heap.size) h).1; omega) (fun _ _ h => h))
                have HB1 := Lib.hid (HBw2.out.setCell (p := ⟨w1.heap.size, j, none⟩) hg0 (.int .i64 1))
                have hsb : w1.heap.size + 1 ≤ (w2.setCell ⟨w1.heap.size, j, none⟩ (.int .i64 1)).heap.size := (HS1.out.base (g := w1.heap.size) rfl).2
                have hpl : (placesOf j).length ≤ 1099511627776 := by rw [places_length]; omega
                have hss : (w2.setCell ⟨w1.heap.size, j, none⟩ (.int .i64 1)).heap.size = w2.heap.size := by simp
                clear hs1
                go_wp2_with (at_builtin; refine app1 kInt 3 28 (.int .i64 0) 8 rfl (.tmp 92) (.tmp 94) rfl Try.underlying28 infoInt rfl (by decide) (by decide) none (w1.heap.size + 1) HO1.out (FootIn.none _) hsb rfl (j : Int) [.int .i64 j] (by rw [hss]; rfl) rfl (by omega) ?_; intro v' w3 q1 q2 _ q4 q5 q6; have HS3 := Lib.hid (HS1.out.other q5 q4 (.inr fun h => by have := (HO1.out.base (g := w1.heap.size) h.symm).1; omega) (fun _ _ h => h)); have HT3 := Lib.hid (HT1.out.other q5 q4 (.inr fun h => HD.out _ h.symm rfl) (fun _ _ h => h)); have hat3 := HS3.out.cellAt? (doneRow_mid nodes.length j hlt); obtain ⟨u0, u1⟩ := hat3; have HQ1 := Lib.hid q1; have HQ6 := Lib.hid q6; have HB3 := Lib.hid (HB1.out.trans (q2.below.mono (by omega))); clear q1 q2 q4 q5 q6)
                have hs4 := HS3.out.store (FootIn.none _) (Nat.le_of_lt (HS3.out.base (g := w1.heap.size) rfl).2) j 2
                have HO4 := Lib.hid (HQ1.out.other hs4.2.1 hs4.2.2.2 (.inr fun h => by have := (HQ1.out.base (g := w1.heap.size) h).1; omega) (fun _ _ h => h))
                have HT4 := Lib.hid (HT3.out.other hs4.2.1 hs4.2.2.2 (.inr fun h => by have := (HT3.out.base (g := w1.heap.size) h).1; omega) (fun _ _ h => h)).pop
                have HB4 := Lib.hid (HB3.out.setCell (p := ⟨w1.heap.size, j, none⟩) hg0 (.int .i64 2))
                have HS4 := Lib.hid hs4.1
                rw [doneRow_succ nodes.length j hlt] at HS4
                clear hs4 u0 u1 x0 x1
                go_roundw
                case rel => exact .inr ⟨HS4.out, by rw [places_succ]; exact HO4.out, HT4.out, (fun g hg he => by
                    have he := Option.some.inj he
                    subst he
                    rcases HQ6.out with h | ⟨b, h, hb⟩
                    · exact HD.out _ (h.symm.trans hg) rfl
                    · rw [h] at hg; have hg := Option.some.inj hg; subst hg; have := (HT1.out.base (g := b) rfl).2; omega), HB4.out⟩
                case measure => simp [lenOf]
        · obtain ⟨A7, c7, rfl, -, -⟩ := ho.shape
          obtain ⟨A8, c8, rfl, -, -⟩ := hs.shape
          have HH := Lib.hid (And.intro hst (And.intro ho (And.intro hs (And.intro hd hb))))
          clear hst ho hs hd hb
          go_wp2
          go_roundw
          case rel => exact ⟨j + 1, by omega, by go_num, HH.out⟩
          case measure => simp [intOf]; omega
    · obtain rfl : j = nodes.length := by omega
      clear hst
      go_wp2
      go_ret2
      have hpl := places_length nodes.length
      exact ⟨_, rfl, HO.out.rowS S (fun g hg hs => by have h1 := (HO.out.base hg).1; have := hS g hs; omega), HBW.out⟩
end Go.Proofs.Ytbfjacgfifecpaa

/-! ## One cycle: slipstickref07.Eval. -/
namespace Go.Proofs.Ytbfjacgfifecpaa
open Go.RowKit

def evalR (nodes : List Node) (ins outs : List Port) (nums : List (List Int)) : List (List Int) :=
  outsR outs (valsK nodes (startR nodes) (inputsR nodes.length ins (nums.map partsVal)) nodes.length)

theorem lit_row {α : Type} {k : Kd α} {S : Nat → Prop} (e : TypeId) (w : World) (xs : List (List α)) (vs : List Value) (hl : vs.length = xs.length) (hl2 : xs.length ≤ 1099511627776) (h : ∀ (i : Nat) x v, xs[i]? = some x → vs[i]? = some v → Row k w (fun i => S i) v x) (hS : There S w) :
    Row (kRow k) (w.alloc (.cells vs.toArray e)) S (.slice (some ⟨w.heap.size, 0, none⟩) xs.length xs.length) xs := by
  have hb : Below w.heap.size w (w.alloc (.cells vs.toArray e)) := (Below.refl _ _).alloc (Nat.le_refl _) _
  have hflat : (vs.map fun v => [v]).flatten = vs := by
    clear hl h hb
    induction vs with
    | nil => rfl
    | cons v vs ih => simp [ih]
  refine ⟨_, _, vs.map fun v => [v], rfl, Nat.le_refl _, by simp only [maxLen]; omega, (fun h => nomatch h), ⟨by simp [hl], fun i x cs hx hc => ?_⟩, fun hn => ⟨_, _, rfl, by simp, fun hs => by have := hS _ hs; omega, fun j u hu => ?_⟩⟩
  · rw [List.getElem?_map] at hc
    obtain ⟨v, hv, rfl⟩ := Option.map_eq_some_iff.1 hc
    exact ⟨v, rfl, (h i x v hx hv).later hb⟩
  · rw [hflat] at hu
    rw [Nat.zero_add, World.cell?_alloc_new]
    simpa using hu

end Go.Proofs.Ytbfjacgfifecpaa
