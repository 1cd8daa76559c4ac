/- Which names may be: net.Name, slipstickref06.Name. -/
import Derived.Test.YtbfjacgfifecpaaNb
import Derived.Lib.Strings
namespace Go.Proofs.Ytbfjacgfifecpaa
open Go.RowKit

def kwL : List (List UInt8) := [[109, 111, 100, 117, 108, 101], [101, 110, 100, 109, 111, 100, 117, 108, 101], [105, 110, 112, 117, 116], [111, 117, 116, 112, 117, 116], [119, 105, 114, 101], [97, 115, 115, 105, 103, 110], [99, 108, 107], [114, 115, 116]]
def letterB (c : Nat) : Bool := decide (97 ≤ c) && decide (c ≤ 122)
def otherB (c : Nat) : Bool := decide (c = 95) || (decide (48 ≤ c) && decide (c ≤ 57))
def byteB (i c : Nat) : Bool := letterB c || (otherB c && decide (0 < i))
def nameB (s : ByteArray) : Bool := !(kwL.any fun k => s.toList == k) && (List.range s.size).all (fun i => byteB i (s.toList.getD i 0).toNat) && (decide (1 ≤ s.size) && decide (s.size ≤ 20))

theorem byte_at (s : ByteArray) (j : Nat) (h : j < s.size) : (s.toList.getD j 0).toNat = s[j].toNat := by
  rw [Lib.toList_data, List.getD_eq_getElem?_getD, List.getElem?_eq_getElem (by simpa using h)]
  simp
  rfl
theorem byteB_iff (j c : Nat) : byteB j c = true ↔ (97 ≤ c ∧ c ≤ 122) ∨ ((c = 95 ∨ (48 ≤ c ∧ c ≤ 57)) ∧ 0 < j) := by
  simp [byteB, letterB, otherB]
theorem byteB_no {j c : Nat} (h : ¬((97 ≤ c ∧ c ≤ 122) ∨ ((c = 95 ∨ (48 ≤ c ∧ c ≤ 57)) ∧ 0 < j))) : byteB j c = false := Bool.eq_false_iff.2 fun hb => h ((byteB_iff j c).1 hb)
set_option maxHeartbeats 2000000 in
theorem name_ref (w : World) (s : ByteArray) (hs : s.size ≤ 1099511627776) : Calls Try.prog 26 #[.string s] w fun e w' => e = .returned (.bool (nameB s)) ∧ w = w' := by
  cases h0 : (s.toList == [109, 111, 100, 117, 108, 101]) with
  | true =>
    have hn : nameB s = false := by simp [nameB, kwL, h0]
    rw [hn]; clear hn
    go_enter Try.func26, Try.ntmps26
    go_wp2
    go_ret
    exact ⟨rfl, rfl⟩
  | false =>
    cases h1 : (s.toList == [101, 110, 100, 109, 111, 100, 117, 108, 101]) with
    | true =>
      have hn : nameB s = false := by simp [nameB, kwL, h1]
      rw [hn]; clear hn
      go_enter Try.func26, Try.ntmps26
      go_wp2
      go_ret
      exact ⟨rfl, rfl⟩
    | false =>
      cases h2 : (s.toList == [105, 110, 112, 117, 116]) with
      | true =>
        have hn : nameB s = false := by simp [nameB, kwL, h2]
        rw [hn]; clear hn
        go_enter Try.func26, Try.ntmps26
        go_wp2
        go_ret
        exact ⟨rfl, rfl⟩
      | false =>
        cases h3 : (s.toList == [111, 117, 116, 112, 117, 116]) with
        | true =>
          have hn : nameB s = false := by simp [nameB, kwL, h3]
          rw [hn]; clear hn
          go_enter Try.func26, Try.ntmps26
          go_wp2
          go_ret
          exact ⟨rfl, rfl⟩
        | false =>
          cases h4 : (s.toList == [119, 105, 114, 101]) with
          | true =>
            have hn : nameB s = false := by simp [nameB, kwL, h4]
            rw [hn]; clear hn
            go_enter Try.func26, Try.ntmps26
            go_wp2
            go_ret
            exact ⟨rfl, rfl⟩
          | false =>
            cases h5 : (s.toList == [97, 115, 115, 105, 103, 110]) with
            | true =>
              have hn : nameB s = false := by simp [nameB, kwL, h5]
              rw [hn]; clear hn
              go_enter Try.func26, Try.ntmps26
              go_wp2
              go_ret
              exact ⟨rfl, rfl⟩
            | false =>
              cases h6 : (s.toList == [99, 108, 107]) with
              | true =>
                have hn : nameB s = false := by simp [nameB, kwL, h6]
                rw [hn]; clear hn
                go_enter Try.func26, Try.ntmps26
                go_wp2
                go_ret
                exact ⟨rfl, rfl⟩
              | false =>
                cases h7 : (s.toList == [114, 115, 116]) with
                | true =>
                  have hn : nameB s = false := by simp [nameB, kwL, h7]
                  rw [hn]; clear hn
                  go_enter Try.func26, Try.ntmps26
                  go_wp2
                  go_ret
                  exact ⟨rfl, rfl⟩
                | false =>
                  have hk : (kwL.any fun k => s.toList == k) = false := by simp only [kwL, List.any_cons, List.any_nil, h0, h1, h2, h3, h4, h5, h6, h7, Bool.or_false]
                  have HK := Lib.hid hk
                  clear hk
                  go_enter Try.func26, Try.ntmps26
                  go_wp2_with fail
                  clear h0 h1 h2 h3 h4 h5 h6 h7
                  go_loop [3] (fun i => ∃ j : Nat, j ≤ s.size ∧ i = .int .i64 (j : Nat) ∧ Hid (∀ q, q < j → byteB q (s.toList.getD q 0).toNat = true)) (fun i => s.size - (intOf i).toNat)
                  case atStart => exact ⟨0, Nat.zero_le _, rfl, Lib.hid (fun q hq => by omega)⟩
                  case round =>
                    obtain ⟨j, hj, rfl, HQ⟩ := hrel
                    by_cases hlt : j < s.size
                    · obtain ⟨c, hc⟩ : ∃ c : Nat, s[j].toNat = c := ⟨_, rfl⟩
                      have hcd : (s.toList.getD j 0).toNat = c := by rw [← hc]; exact byte_at s j hlt
                      have hgood : byteB j c = true → ∀ q, q < j + 1 → byteB q (s.toList.getD q 0).toNat = true := fun hb q hq => by
                        rcases Nat.lt_or_ge q j with h | h
                        · exact HQ.out q h
                        · obtain rfl : q = j := by omega
                          rw [hcd]; exact hb
                      have hbad : byteB j c = false → nameB s = false := fun hb => by
                        have : (List.range s.size).all (fun i => byteB i (s.toList.getD i 0).toNat) = false := by
                          rw [List.all_eq_false]; exact ⟨j, by simp [hlt], by rw [hcd, hb]; decide⟩
                        rw [nameB, this]; simp
                      have HG := Lib.hid hgood
                      have HBAD := Lib.hid hbad
                      clear hgood hbad hcd
                      by_cases a1 : c < 48
                      · have q9 : (c : Int) < 97 := by omega
                        have q0 : ¬ (c : Int) = 95 := by omega
                        have q1 : (c : Int) < 48 := by omega
                        have hbf := HBAD.out (byteB_no (by omega))
                        have HB2 := Lib.hid hbf
                        clear hbf HG HBAD HQ
                        go_wp2
                        go_ret
                        exact ⟨by rw [HB2.out]; rfl, rfl⟩
                      by_cases a2 : c ≤ 57
                      · have q9 : (c : Int) < 97 := by omega
                        have q0 : ¬ (c : Int) = 95 := by omega
                        have q1 : 48 ≤ (c : Int) := by omega
                        have q2 : (c : Int) ≤ 57 := by omega
                        rcases Nat.eq_zero_or_pos j with a6 | a6
                        · subst a6
                          have hbf := HBAD.out (byteB_no (by omega))
                          have HB2 := Lib.hid hbf
                          clear hbf HG HBAD HQ
                          go_wp2
                          go_ret
                          exact ⟨by rw [HB2.out]; rfl, rfl⟩
                        · have q7 : (0 : Int) < (j : Nat) := by omega
                          have hg := HG.out ((byteB_iff _ _).2 (by omega))
                          have HG2 := Lib.hid hg
                          clear hg HG HBAD HQ
                          go_wp2
                          refine ⟨⟨_, hlt, by go_num, HG2⟩, ?_⟩
                          simp [intOf] <;> omega
                      by_cases a3 : c = 95
                      · subst a3
                        rcases Nat.eq_zero_or_pos j with a6 | a6
                        · subst a6
                          have hbf := HBAD.out (byteB_no (by omega))
                          have HB2 := Lib.hid hbf
                          clear hbf HG HBAD HQ
                          go_wp2
                          go_ret
                          exact ⟨by rw [HB2.out]; rfl, rfl⟩
                        · have q7 : (0 : Int) < (j : Nat) := by omega
                          have hg := HG.out ((byteB_iff _ _).2 (by omega))
                          have HG2 := Lib.hid hg
                          clear hg HG HBAD HQ
                          go_wp2
                          refine ⟨⟨_, hlt, by go_num, HG2⟩, ?_⟩
                          simp [intOf] <;> omega
                      by_cases a4 : c < 97
                      · have q9 : (c : Int) < 97 := by omega
                        have q0 : ¬ (c : Int) = 95 := by omega
                        have q1 : 48 ≤ (c : Int) := by omega
                        have q2 : 57 < (c : Int) := by omega
                        have hbf := HBAD.out (byteB_no (by omega))
                        have HB2 := Lib.hid hbf
                        clear hbf HG HBAD HQ
                        go_wp2
                        go_ret
                        exact ⟨by rw [HB2.out]; rfl, rfl⟩
                      by_cases a5 : c ≤ 122
                      · have q9 : 97 ≤ (c : Int) := by omega
                        have q0 : (c : Int) ≤ 122 := by omega
                        have hg := HG.out ((byteB_iff _ _).2 (by omega))
                        have HG2 := Lib.hid hg
                        clear hg HG HBAD HQ
                        go_wp2
                        refine ⟨⟨_, hlt, by go_num, HG2⟩, ?_⟩
                        simp [intOf] <;> omega
                      have q9 : 97 ≤ (c : Int) := by omega
                      have q0 : 122 < (c : Int) := by omega
                      have q1 : ¬ (c : Int) = 95 := by omega
                      have q2 : 48 ≤ (c : Int) := by omega
                      have q3 : 57 < (c : Int) := by omega
                      have hbf := HBAD.out (byteB_no (by omega))
                      have HB2 := Lib.hid hbf
                      clear hbf HG HBAD HQ
                      go_wp2
                      go_ret
                      exact ⟨by rw [HB2.out]; rfl, rfl⟩
                      exfalso; rename_i ha hb; simp at hb; omega
                    · obtain rfl : j = s.size := by omega
                      have hall : (List.range s.size).all (fun i => byteB i (s.toList.getD i 0).toNat) = true := by
                        rw [List.all_eq_true]; intro q hq; exact HQ.out q (by simpa using hq)
                      have HALL := Lib.hid hall
                      clear hall
                      by_cases h1 : 1 ≤ s.size
                      · have h1i : (1 : Int) ≤ s.size := by omega
                        by_cases h20 : s.size ≤ 20
                        · have hr : nameB s = true := by rw [nameB, HK.out, HALL.out, decide_eq_true h1, decide_eq_true h20]; rfl
                          have h20i : (s.size : Int) ≤ 20 := by omega
                          have HRR := Lib.hid hr; clear hr
                          go_wp2
                          go_ret
                          exact ⟨by rw [HRR.out]; rfl, rfl⟩
                        · have hr : nameB s = false := by rw [nameB, decide_eq_false h20]; simp
                          have h20i : ¬ (s.size : Int) ≤ 20 := by omega
                          have HRR := Lib.hid hr; clear hr
                          go_wp2
                          go_ret
                          exact ⟨by rw [HRR.out]; rfl, rfl⟩
                      · have hr : nameB s = false := by rw [nameB, decide_eq_false h1]; simp
                        have HRR := Lib.hid hr; clear hr
                        go_wp2
                        go_ret
                        exact ⟨by rw [HRR.out]; rfl, rfl⟩
end Go.Proofs.Ytbfjacgfifecpaa
