/- net.Name. -/
import Derived.Test.YtbfjacgfifecpaaNd
import Derived.Test.YtbfjacgfifecpaaNc
import Derived.Lib.ConvBytes
namespace Go.Proofs.Ytbfjacgfifecpaa
open Go.RowKit

theorem Row.str_at {w : World} {S : Nat → Prop} {A : Option Addr} {n c : Nat} {xs : List ByteArray} (h : Row kStr w S (.slice A n c) xs) {i : Nat} (hi : i < xs.length) :
    ∃ b off, A = some ⟨b, off, none⟩ ∧ w.cell? ⟨b, off + i, none⟩ = some (.string xs[i]) := by
  have hn : n = xs.length := by obtain ⟨_, _, he, _⟩ := h.shape; injection he
  obtain ⟨b, off, rfl, x, cs, hx, hk, hc⟩ := h.at (i := i) (by omega)
  have hcs : cs = [.string x] := hk
  subst hcs
  refine ⟨b, off, rfl, ?_⟩
  have := hc 0 _ rfl
  have e : i * kStr.size + 0 = i := Nat.mul_one i
  rw [Nat.add_assoc, e] at this
  rw [this]
  rw [List.getElem?_eq_getElem hi] at hx
  injection hx with hx
  rw [hx]

theorem index_strs (w : World) (v : Value) (xs : List ByteArray) (hx : Row kStr w (fun _ => False) v xs) (hl : xs.length ≤ 1099511627776) (s : ByteArray) :
    Calls Try.prog 89 #[v, .string s] w fun e w' => (∃ r : Int, e = .returned (.int .i64 r) ∧ decide (0 ≤ r) = xs.any (fun k => s.toList == k.toList)) ∧ w = w' := by
  obtain ⟨A, c, rfl, -, -⟩ := hx.shape
  have HX := Lib.hid hx
  clear hx
  go_enter Try.func89, Try.ntmps89
  go_wp2
  go_loop [8] (fun i => ∃ j : Nat, i = .int .i64 (j : Nat) ∧ j ≤ xs.length ∧ Hid (∀ q ∈ xs.take j, (s.toList == q.toList) = false)) (fun i => xs.length - (intOf i).toNat)
  case atStart => exact ⟨0, rfl, Nat.zero_le _, Lib.hid (by simp)⟩
  case round =>
    obtain ⟨j, rfl, hj, HG⟩ := hrel
    by_cases hlt : j < xs.length
    · obtain ⟨b, off, rfl, hcell⟩ := HX.out.str_at hlt
      have HM := Lib.hid (List.getElem_mem hlt)
      have HT := Lib.hid (List.take_succ_eq_append_getElem hlt)
      obtain ⟨x, hxx⟩ : ∃ x, xs[j] = x := ⟨_, rfl⟩
      rw [hxx] at hcell HM HT
      clear hxx
      cases hg : (s.toList == x.toList) with
      | true =>
        have HGX := Lib.hid hg
        go_wp2
        go_ret
        exact ⟨⟨_, rfl, by rw [decide_eq_true (by omega), List.any_eq_true.2 ⟨_, HM.out, HGX.out⟩]⟩, rfl⟩
      | false =>
        have HGX := Lib.hid hg
        go_wp2
        refine ⟨⟨j + 1, by go_num, by omega, Lib.hid (by
          rw [HT.out]; intro q hq
          rcases List.mem_append.1 hq with h | h
          · exact HG.out q h
          · simp at h; subst h; exact HGX.out)⟩, ?_⟩
        simp [intOf]; omega
    · obtain rfl : j = xs.length := by omega
      rw [List.take_length] at HG
      go_wp2
      go_ret
      exact ⟨⟨_, rfl, by rw [any_take HG.out]; decide⟩, rfl⟩

theorem contains_strs (w : World) (v : Value) (xs : List ByteArray) (hx : Row kStr w (fun _ => False) v xs) (hl : xs.length ≤ 1099511627776) (s : ByteArray) :
    Calls Try.prog 59 #[v, .string s] w fun e w' => e = .returned (.bool (xs.any (fun k => s.toList == k.toList))) ∧ w = w' := by
  have HC := Lib.hid (index_strs w v xs hx hl s)
  clear hx
  go_enter Try.func59, Try.ntmps59
  go_wp2_with fail
  refine HC.out.mono ?_
  rintro e w1 ⟨⟨r, rfl, hr⟩, rfl⟩
  have HR := Lib.hid hr
  clear hr
  go_wp2
  go_ret
  exact ⟨by rw [← HR.out]; rfl, rfl⟩

def kwB : List ByteArray := kwL.map fun l => ⟨l.toArray⟩
theorem kwB_any (s : ByteArray) : (kwB.any fun k => s.toList == k.toList) = kwL.any fun k => s.toList == k := by
  simp only [kwB, List.any_map, Function.comp_def, Lib.toList_data]

theorem flat_strs (xs : List ByteArray) : (xs.map fun x => [Value.string x]).flatten = xs.map fun x => Value.string x := by
  induction xs with
  | nil => rfl
  | cons x xs ih => simp [ih]
theorem strs_pairs (w : World) (S : Nat → Prop) (xs : List ByteArray) : Pairs kStr w S xs (xs.map fun x => [Value.string x]) :=
  ⟨by simp, fun i x cs hx hc => by simp [hx] at hc; exact hc.symm⟩
theorem lit_strs (w : World) (l : List ByteArray) (hl : l.length ≤ 1099511627776) {S : Nat → Prop} (hS : There S w) : Row kStr (w.alloc (.cells (l.map fun x => Value.string x).toArray 9)) S (.slice (some ⟨w.heap.size, 0, none⟩) l.length l.length) l := by
  have h := World.ownsRow_lit (base := w.heap.size) (e := 9) (size := 1) w (l.map fun x => Value.string x).toArray l.length (Nat.le_refl _) (by simp only [maxLen]; omega) (by simp)
  have hO : Own kStr 9 (w.alloc (.cells (l.map fun x => Value.string x).toArray 9)) none w.heap.size (.slice (some ⟨w.heap.size, 0, none⟩) l.length l.length) l := ⟨_, by rw [flat_strs]; exact h, strs_pairs _ _ _, fun _ _ => foot_none _ _⟩
  exact hO.fresh (fun _ _ _ h _ => h) Nat.zero_lt_one hS

theorem keywords_net (w : World) : Calls Try.prog 60 #[] w fun e w' => ∃ v, e = .returned v ∧ Row kStr w' (fun _ => False) v kwB ∧ Below w.heap.size w w' := by
  go_enter Try.func60, Try.ntmps60
  go_wp2
  go_ret
  have h := lit_strs (S := fun _ => False) w kwB (by decide) (fun _ h => h.elim)
  exact ⟨_, rfl, h, (Below.refl _ _).alloc (Nat.le_refl _) _⟩

theorem bytes_below (w : World) (e : TypeId) (s : ByteArray) : Below w.heap.size w (Lib.bytesWorld w e s) :=
  ⟨by simp [Lib.bytesWorld, World.freeze, World.alloc, World.drew, -World.alloc_eq, -World.drew_eq], by simp [Lib.bytesWorld, World.freeze, World.alloc, World.drew, -World.alloc_eq, -World.drew_eq], by simp [Lib.bytesWorld, World.freeze, World.alloc, World.drew, -World.alloc_eq, -World.drew_eq], by rw [Lib.bytesWorld_size]; omega, fun j hj => Lib.bytesWorld_at_old w e s j hj⟩

set_option maxRecDepth 4096 in
set_option maxHeartbeats 2000000 in
theorem name_net (w : World) (s : ByteArray) (hs : s.size ≤ 1099511627776) : Calls Try.prog 25 #[.string s] w fun e w' => e = .returned (.bool (nameB s)) ∧ Below w.heap.size w w' := by
  by_cases h0 : s.size = 0
  · have h0l : s.toList = [] := by
      apply List.eq_nil_of_length_eq_zero; simpa [Lib.toList_data] using h0
    have hr : nameB s = false := by rw [nameB]; simp [h0]
    have HRR := Lib.hid hr; clear hr
    go_enter Try.func25, Try.ntmps25
    go_wp2
    go_ret
    exact ⟨by rw [HRR.out]; rfl, Below.refl _ _⟩
  have h0l : ¬ s.toList = [] := by
    intro h; apply h0; have := congrArg List.length h; simpa [Lib.toList_data] using this
  by_cases h20 : 20 < s.size
  · have hr : nameB s = false := by rw [nameB, decide_eq_false (p := s.size ≤ 20) (by omega)]; simp
    have h20i : (20 : Int) < s.size := by omega
    have HRR := Lib.hid hr; clear hr
    go_enter Try.func25, Try.ntmps25
    go_wp2
    go_ret
    exact ⟨by rw [HRR.out]; rfl, Below.refl _ _⟩
  have h20i : (s.size : Int) ≤ 20 := by omega
  have HK := Lib.hid (keywords_net w)
  go_enter Try.func25, Try.ntmps25
  go_wp2_with fail
  refine HK.out.mono ?_
  rintro e w1 ⟨v1, rfl, hrow, hb1⟩
  have HC := Lib.hid (contains_strs w1 v1 kwB hrow (by decide) s)
  have HB1 := Lib.hid hb1
  clear hrow hb1 HK
  go_wp2_with fail
  refine HC.out.mono ?_
  rintro e w2 ⟨rfl, rfl⟩
  rw [kwB_any]
  clear HC
  cases hk : (kwL.any fun k => s.toList == k) with
  | true =>
    have hr : nameB s = false := by rw [nameB, hk]; rfl
    have HRR := Lib.hid hr; clear hr
    go_wp2
    go_ret
    exact ⟨by rw [HRR.out]; rfl, HB1.out⟩
  | false =>
    have HKF := Lib.hid hk
    have h1 : decide (1 ≤ s.size) = true := decide_eq_true (by omega)
    have h2 : decide (s.size ≤ 20) = true := decide_eq_true (by omega)
    have hname : nameB s = (List.range s.size).all (fun i => byteB i (s.toList.getD i 0).toNat) := by rw [nameB, hk, h1, h2]; simp
    have HN := Lib.hid hname
    clear hk hname h1 h2
    have kc := fun (w : World) (s : ByteArray) => Lib.run_convert_string_bytes (P := Try.prog) w 9 80 5 s Try.underlying9 Try.underlying80 Try.underlying5
    have h0e : s.toList.isEmpty = false := by rw [List.isEmpty_eq_false_iff]; exact h0l
    go_wp2
    have HB2 := Lib.hid (HB1.out.trans ((bytes_below w1 5 s).mono HB1.out.size))
    clear kc
    go_loop [21] (fun i => ∃ j : Nat, j ≤ s.size ∧ i = .int .i64 (j : Nat) ∧ Hid (∀ q, q < j → byteB q (s.toList.getD q 0).toNat = true)) (fun i => s.size - (intOf i).toNat)
    case atStart => exact ⟨0, Nat.zero_le _, rfl, Lib.hid (fun q hq => by omega)⟩
    case round =>
      obtain ⟨j, hj, rfl, HQ⟩ := hrel
      by_cases hlt : j < s.size
      · have hcell := Lib.bytesWorld_cell w1 5 s j hlt
        obtain ⟨c, hcd⟩ : ∃ c : Nat, (s.toList.getD j 0).toNat = c := ⟨_, rfl⟩
        rw [← Lib.toList_data, hcd] at hcell
        have hgood : byteB j c = true → ∀ q, q < j + 1 → byteB q (s.toList.getD q 0).toNat = true := fun hb q hq => by
          rcases Nat.lt_or_ge q j with h | h
          · exact HQ.out q h
          · obtain rfl : q = j := by omega
            rw [hcd]; exact hb
        have hbad : byteB j c = false → nameB s = false := fun hb => by
          rw [HN.out, List.all_eq_false]; exact ⟨j, by simp [hlt], by rw [hcd, hb]; decide⟩
        have HG := Lib.hid hgood
        have HBAD := Lib.hid hbad
        clear hgood hbad hcd
        by_cases a1 : c < 48
        · have q9 : (c : Int) < 97 := by omega
          have q0 : ¬ (c : Int) = 95 := by omega
          have q1 : (c : Int) < 48 := by omega
          rcases Nat.eq_zero_or_pos j with a6 | a6
          · subst a6
            have hbf := HBAD.out (byteB_no (by omega))
            have HB3 := Lib.hid hbf
            clear hbf HG HBAD HQ
            go_wp2
            all_goals first
              | (exfalso; rename_i hx; (try simp at hx) <;> omega)
              | (exfalso; rename_i hx hy; (try simp at hx) <;> omega)
              | (exfalso; rename_i hx hy hz; (try simp at hx) <;> omega)
              | (go_ret; exact ⟨by rw [HB3.out]; rfl, HB2.out⟩)
          · have q7 : (0 : Int) < (j : Nat) := by omega
            have q8 : ¬ j = 0 := by omega
            have hbf := HBAD.out (byteB_no (by omega))
            have HB3 := Lib.hid hbf
            clear hbf HG HBAD HQ
            go_wp2
            all_goals first
              | (exfalso; rename_i hx; (try simp at hx) <;> omega)
              | (exfalso; rename_i hx hy; (try simp at hx) <;> omega)
              | (exfalso; rename_i hx hy hz; (try simp at hx) <;> omega)
              | (go_ret; exact ⟨by rw [HB3.out]; rfl, HB2.out⟩)
        by_cases a2 : c ≤ 57
        · have q9 : (c : Int) < 97 := by omega
          have q0 : ¬ (c : Int) = 95 := by omega
          have q1 : 48 ≤ (c : Int) := by omega
          have q2 : (c : Int) ≤ 57 := by omega
          rcases Nat.eq_zero_or_pos j with a6 | a6
          · subst a6
            have hbf := HBAD.out (byteB_no (by omega))
            have HB3 := Lib.hid hbf
            clear hbf HG HBAD HQ
            go_wp2
            all_goals first
              | (exfalso; rename_i hx; (try simp at hx) <;> omega)
              | (exfalso; rename_i hx hy; (try simp at hx) <;> omega)
              | (exfalso; rename_i hx hy hz; (try simp at hx) <;> omega)
              | (go_ret; exact ⟨by rw [HB3.out]; rfl, HB2.out⟩)
          · have q7 : (0 : Int) < (j : Nat) := by omega
            have q8 : ¬ j = 0 := by omega
            have hg := HG.out ((byteB_iff _ _).2 (by omega))
            have HG2 := Lib.hid hg
            clear hg HG HBAD HQ
            go_wp2
            all_goals first
              | (exfalso; rename_i hx; (try simp at hx) <;> omega)
              | (exfalso; rename_i hx hy; (try simp at hx) <;> omega)
              | (exfalso; rename_i hx hy hz; (try simp at hx) <;> omega)
              | (refine ⟨⟨_, hlt, by go_num, HG2⟩, ?_⟩; simp [intOf] <;> omega)
        by_cases a3 : c = 95
        · subst a3
          rcases Nat.eq_zero_or_pos j with a6 | a6
          · subst a6
            have hbf := HBAD.out (byteB_no (by omega))
            have HB3 := Lib.hid hbf
            clear hbf HG HBAD HQ
            go_wp2
            all_goals first
              | (exfalso; rename_i hx; (try simp at hx) <;> omega)
              | (exfalso; rename_i hx hy; (try simp at hx) <;> omega)
              | (exfalso; rename_i hx hy hz; (try simp at hx) <;> omega)
              | (go_ret; exact ⟨by rw [HB3.out]; rfl, HB2.out⟩)
          · have q7 : (0 : Int) < (j : Nat) := by omega
            have q8 : ¬ j = 0 := by omega
            have hg := HG.out ((byteB_iff _ _).2 (by omega))
            have HG2 := Lib.hid hg
            clear hg HG HBAD HQ
            go_wp2
            all_goals first
              | (exfalso; rename_i hx; (try simp at hx) <;> omega)
              | (exfalso; rename_i hx hy; (try simp at hx) <;> omega)
              | (exfalso; rename_i hx hy hz; (try simp at hx) <;> omega)
              | (refine ⟨⟨_, hlt, by go_num, HG2⟩, ?_⟩; simp [intOf] <;> omega)
        by_cases a4 : c < 97
        · have q9 : (c : Int) < 97 := by omega
          have q0 : ¬ (c : Int) = 95 := by omega
          have q1 : 48 ≤ (c : Int) := by omega
          have q2 : 57 < (c : Int) := by omega
          rcases Nat.eq_zero_or_pos j with a6 | a6
          · subst a6
            have hbf := HBAD.out (byteB_no (by omega))
            have HB3 := Lib.hid hbf
            clear hbf HG HBAD HQ
            go_wp2
            all_goals first
              | (exfalso; rename_i hx; (try simp at hx) <;> omega)
              | (exfalso; rename_i hx hy; (try simp at hx) <;> omega)
              | (exfalso; rename_i hx hy hz; (try simp at hx) <;> omega)
              | (go_ret; exact ⟨by rw [HB3.out]; rfl, HB2.out⟩)
          · have q7 : (0 : Int) < (j : Nat) := by omega
            have q8 : ¬ j = 0 := by omega
            have hbf := HBAD.out (byteB_no (by omega))
            have HB3 := Lib.hid hbf
            clear hbf HG HBAD HQ
            go_wp2
            all_goals first
              | (exfalso; rename_i hx; (try simp at hx) <;> omega)
              | (exfalso; rename_i hx hy; (try simp at hx) <;> omega)
              | (exfalso; rename_i hx hy hz; (try simp at hx) <;> omega)
              | (go_ret; exact ⟨by rw [HB3.out]; rfl, HB2.out⟩)
        by_cases a5 : c ≤ 122
        · have q9 : 97 ≤ (c : Int) := by omega
          have q0 : (c : Int) ≤ 122 := by omega
          have hg := HG.out ((byteB_iff _ _).2 (by omega))
          have HG2 := Lib.hid hg
          clear hg HG HBAD HQ
          go_wp2
          all_goals first
            | (exfalso; rename_i hx; (try simp at hx) <;> omega)
            | (exfalso; rename_i hx hy; (try simp at hx) <;> omega)
            | (exfalso; rename_i hx hy hz; (try simp at hx) <;> omega)
            | (refine ⟨⟨_, hlt, by go_num, HG2⟩, ?_⟩; simp [intOf] <;> omega)
        have q9 : 97 ≤ (c : Int) := by omega
        have q0 : 122 < (c : Int) := by omega
        have q1 : ¬ (c : Int) = 95 := by omega
        have q2 : 48 ≤ (c : Int) := by omega
        have q3 : 57 < (c : Int) := by omega
        rcases Nat.eq_zero_or_pos j with a6 | a6
        · subst a6
          have hbf := HBAD.out (byteB_no (by omega))
          have HB3 := Lib.hid hbf
          clear hbf HG HBAD HQ
          go_wp2
          all_goals first
            | (exfalso; rename_i hx; (try simp at hx) <;> omega)
            | (exfalso; rename_i hx hy; (try simp at hx) <;> omega)
            | (exfalso; rename_i hx hy hz; (try simp at hx) <;> omega)
            | (go_ret; exact ⟨by rw [HB3.out]; rfl, HB2.out⟩)
        · have q7 : (0 : Int) < (j : Nat) := by omega
          have q8 : ¬ j = 0 := by omega
          have hbf := HBAD.out (byteB_no (by omega))
          have HB3 := Lib.hid hbf
          clear hbf HG HBAD HQ
          go_wp2
          all_goals first
            | (exfalso; rename_i hx; (try simp at hx) <;> omega)
            | (exfalso; rename_i hx hy; (try simp at hx) <;> omega)
            | (exfalso; rename_i hx hy hz; (try simp at hx) <;> omega)
            | (go_ret; exact ⟨by rw [HB3.out]; rfl, HB2.out⟩)
      · obtain rfl : j = s.size := by omega
        have hall : nameB s = true := by
          rw [HN.out, List.all_eq_true]; intro q hq; exact HQ.out q (by simpa using hq)
        have HALL := Lib.hid hall
        clear hall
        go_wp2
        go_ret
        exact ⟨by rw [HALL.out]; rfl, HB2.out⟩
end Go.Proofs.Ytbfjacgfifecpaa
