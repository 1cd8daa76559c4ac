/- The small loops round a simulation: slipstickref07.Same, ports, Large; slipsticklaw07.Parts, Script. -/
import Derived.Test.YtbfjacgfifecpaaSiF
import Derived.Test.YtbfjacgfifecpaaJND
namespace Go.Proofs.Ytbfjacgfifecpaa
open Go.RowKit

set_option maxHeartbeats 2000000 in
set_option maxRecDepth 100000 in
theorem rows_same (w : World) (S S' : Nat → Prop) (v u : Value) (xs ys : List (List Int)) (hx : Row (kRow (kNum .u32)) w S v xs) (hy : Row (kRow (kNum .u32)) w S' u ys) (hl : xs.length ≤ 1099511627776) (hk : ∀ x ∈ xs, x.length ≤ 1099511627776) (hm : ∀ y ∈ ys, y.length ≤ 1099511627776) :
    Calls Try.prog 75 #[v, u] w fun e w' => e = .returned (.bool (decide (xs = ys))) ∧ Below w.heap.size w w' := by
  obtain ⟨A, c, rfl, -, -⟩ := hx.shape
  obtain ⟨A2, c2, rfl, -, -⟩ := hy.shape
  have HX := Lib.hid hx
  have HY := Lib.hid hy
  have HK := Lib.hid hk
  have HM := Lib.hid hm
  clear hx hy hk hm
  by_cases hlen : xs.length = ys.length
  · have hq : ((xs.length : Int) != (ys.length : Int)) = false := by simp [hlen]
    have HLEN := Lib.hid hlen
    have hly : ys.length ≤ 1099511627776 := by omega
    clear hlen
    go_enter Try.func75, Try.ntmps75
    go_wp2_with fail
    clear hq
    go_loopw [5] (fun iv wr => ∃ i : Nat, iv = .int .i64 i ∧ i ≤ xs.length ∧ Hid (xs.take i = ys.take i) ∧ Hid (Below w.heap.size w wr)) (fun iv _ => xs.length - (intOf iv).toNat)
    case atStart => exact ⟨0, rfl, Nat.zero_le _, Lib.hid rfl, Lib.hid (Below.refl _ _)⟩
    case round =>
      obtain ⟨i, rfl, hi, HT, HB⟩ := hrel
      by_cases hlt : i < xs.length
      · have hlt2 : i < ys.length := by rw [← HLEN.out]; exact hlt
        obtain ⟨b, off, A3, d3, rfl, x0, hxb⟩ := (HX.out.later HB.out).row_at hlt
        obtain ⟨b2, off2, A4, d4, rfl, y0, hyb⟩ := (HY.out.later HB.out).row_at hlt2
        have HTS := Lib.hid (take_step HT.out hlt hlt2)
        have HNE := Lib.hid (ne_at (xs := xs) (ys := ys) hlt hlt2)
        have hpl := HK.out _ (List.getElem_mem hlt)
        have hpm := HM.out _ (List.getElem_mem hlt2)
        obtain ⟨x, hxx⟩ : ∃ x, xs[i] = x := ⟨_, rfl⟩
        obtain ⟨y, hyy⟩ : ∃ y, ys[i] = y := ⟨_, rfl⟩
        rw [hxx] at x0 hxb hpl
        rw [hyy] at y0 hyb hpm
        rw [hxx, hyy] at HTS HNE
        clear hxx hyy
        have HC := Lib.hid (fun W (hW : Below wr.heap.size wr W) => same_ref W _ _ _ _ x y (hxb.later hW) (hyb.later hW) hpl hpm)
        clear hxb hyb
        go_wp2_with fail
        go_region_law (go_simp; go_at_call 95; refine (HC.out _ (Below.refl _ _).drew).mono ?_; rintro e w3 ⟨rfl, hb3⟩; have HB3 := Lib.hid ((Below.refl wr.heap.size wr).drew.trans (hb3.mono (Nat.le_refl _))); clear hb3)
        all_goals
          have HBN := Lib.hid (HB.out.trans (HB3.out.mono HB.out.size))
          cases hbc : decide (x = y) with
          | true =>
            have HTM := Lib.hid (HTS.out (of_decide_eq_true hbc))
            clear hbc HTS HNE
            go_wp2
            refine ⟨⟨i + 1, by go_num, by omega, HTM, HBN⟩, ?_⟩
            simp [intOf]; omega
          | false =>
            have HNM := Lib.hid (HNE.out (of_decide_eq_false hbc))
            clear hbc HTS HNE
            go_wp2
            go_ret
            exact ⟨by rw [decide_eq_false HNM.out]; rfl, HBN.out⟩
      · obtain rfl : i = xs.length := by omega
        have hee : xs = ys := by
          have h := HT.out
          rw [List.take_length, HLEN.out, List.take_length] at h
          exact h
        have HEE := Lib.hid hee
        clear hee
        go_wp2
        go_ret
        exact ⟨by rw [decide_eq_true HEE.out]; rfl, HB.out⟩
  · have hq : ((xs.length : Int) != (ys.length : Int)) = true := by simp; omega
    have HNE : Hid (xs ≠ ys) := Lib.hid fun e => hlen (by rw [e])
    clear hlen
    go_enter Try.func75, Try.ntmps75
    go_wp2_with fail
    go_ret
    exact ⟨by rw [decide_eq_false HNE.out]; rfl, Below.refl _ _⟩

/-! ### the same names and widths -/
def wideP (p : Port) : ByteArray × Nat := (p.name, p.bits.length)
theorem wide_step {xs ys : List Port} {i : Nat} (h : (xs.map wideP).take i = (ys.map wideP).take i) (hx : i < xs.length) (hy : i < ys.length) (he : wideP xs[i] = wideP ys[i]) : (xs.map wideP).take (i + 1) = (ys.map wideP).take (i + 1) :=
  take_step h (by rw [List.length_map]; exact hx) (by rw [List.length_map]; exact hy) (by rw [List.getElem_map, List.getElem_map]; exact he)
theorem wide_ne {xs ys : List Port} {i : Nat} (hx : i < xs.length) (hy : i < ys.length) (he : wideP xs[i] ≠ wideP ys[i]) : xs.map wideP ≠ ys.map wideP :=
  ne_at (i := i) (by rw [List.length_map]; exact hx) (by rw [List.length_map]; exact hy) (by rw [List.getElem_map, List.getElem_map]; exact he)

set_option maxHeartbeats 2000000 in
set_option maxRecDepth 100000 in
theorem ports07_ref (w : World) (v u : Value) (xs ys : List Port) (hx : Row kPort w (fun _ => False) v xs) (hy : Row kPort w (fun _ => False) u ys) (hl : xs.length ≤ 1099511627776) (hm : ys.length ≤ 1099511627776) :
    Calls Try.prog 73 #[v, u] w fun e w' => e = .returned (.bool (decide (xs.map wideP = ys.map wideP))) ∧ Below w.heap.size w w' := by
  obtain ⟨A, c, rfl, -, -⟩ := hx.shape
  obtain ⟨A2, c2, rfl, -, -⟩ := hy.shape
  have HX := Lib.hid hx
  have HY := Lib.hid hy
  clear hx hy
  by_cases hlen : xs.length = ys.length
  · have hq : ((xs.length : Int) != (ys.length : Int)) = false := by simp [hlen]
    have HLEN := Lib.hid hlen
    clear hlen
    go_enter Try.func73, Try.ntmps73
    go_wp2_with fail
    clear hq
    go_loopw [5] (fun iv wr => ∃ i : Nat, iv = .int .i64 i ∧ i ≤ xs.length ∧ Hid ((xs.map wideP).take i = (ys.map wideP).take i) ∧ Hid (Below w.heap.size w wr)) (fun iv _ => xs.length - (intOf iv).toNat)
    case atStart => exact ⟨0, rfl, Nat.zero_le _, Lib.hid rfl, Lib.hid (Below.refl _ _)⟩
    case round =>
      obtain ⟨i, rfl, hi, HT, HB⟩ := hrel
      by_cases hlt : i < xs.length
      · have hlt2 : i < ys.length := by rw [← HLEN.out]; exact hlt
        obtain ⟨b, off, A3, d3, rfl, x0, x1, -⟩ := (HX.out.later HB.out).port_at hlt
        obtain ⟨b2, off2, A4, d4, rfl, y0, y1, -⟩ := (HY.out.later HB.out).port_at hlt2
        have HTS := Lib.hid (wide_step HT.out hlt hlt2)
        have HNE := Lib.hid (wide_ne (xs := xs) (ys := ys) hlt hlt2)
        obtain ⟨x, hxx⟩ : ∃ x, xs[i] = x := ⟨_, rfl⟩
        obtain ⟨y, hyy⟩ : ∃ y, ys[i] = y := ⟨_, rfl⟩
        rw [hxx] at x0 x1
        rw [hyy] at y0 y1
        rw [hxx, hyy] at HTS HNE
        clear hxx hyy
        obtain ⟨s, bs⟩ := x
        obtain ⟨t, cs⟩ := y
        dsimp only [wideP] at x0 x1 y0 y1 HTS HNE
        have HBN := Lib.hid (HB.out.trans ((pw_drewN wr 1).mono HB.out.size))
        by_cases hst : s = t
        · subst hst
          by_cases hbc : bs.length = cs.length
          · have HTM := Lib.hid (HTS.out (by rw [hbc]))
            have hq : ((bs.length : Int) != (cs.length : Int)) = false := by simp [hbc]
            have hq2 : (s.toList != s.toList) = false := by simp
            clear hbc HTS HNE
            go_wp2_with fail
            go_quiet (fail)
            go_wp2
            refine ⟨⟨i + 1, by go_num, by omega, HTM, Lib.hid (HB.out.trans ((pw_drewN _ _).mono HB.out.size))⟩, ?_⟩
            simp [intOf]; omega
          · have HNM := Lib.hid (HNE.out (by intro h; injection h with h1 h2; exact hbc h2))
            have hq : ((bs.length : Int) != (cs.length : Int)) = true := by simp; omega
            have hq2 : (s.toList != s.toList) = false := by simp
            clear hbc HTS HNE
            go_wp2_with fail
            go_quiet (fail)
            go_wp2
            go_ret
            exact ⟨by rw [decide_eq_false HNM.out]; rfl, HB.out.trans ((pw_drewN _ _).mono HB.out.size)⟩
        · have HNN := Lib.hid (HNE.out (by intro h; injection h with h1 h2; exact hst h1))
          have hq : (s.toList == t.toList) = false := by simpa using fun h => hst (bytes_inj h)
          have hq2 : (s.toList != t.toList) = true := by simpa using fun h => hst (bytes_inj h)
          clear HTS HNE hst
          go_wp2_with fail
          go_quiet (fail)
          go_wp2
          go_ret
          exact ⟨by rw [decide_eq_false HNN.out]; rfl, HB.out.trans ((pw_drewN _ _).mono HB.out.size)⟩
      · obtain rfl : i = xs.length := by omega
        have hee : xs.map wideP = ys.map wideP := by
          have h := HT.out
          rw [List.take_of_length_le (by rw [List.length_map]; exact Nat.le_refl _), HLEN.out, List.take_of_length_le (by rw [List.length_map]; exact Nat.le_refl _)] at h
          exact h
        have HEE := Lib.hid hee
        clear hee
        go_wp2
        go_ret
        exact ⟨by rw [decide_eq_true HEE.out]; rfl, HB.out⟩
  · have hq : ((xs.length : Int) != (ys.length : Int)) = true := by simp; omega
    have HNE : Hid (xs.map wideP ≠ ys.map wideP) := Lib.hid fun e => hlen (by have := congrArg List.length e; simpa using this)
    clear hlen
    go_enter Try.func73, Try.ntmps73
    go_wp2_with fail
    go_ret
    exact ⟨by rw [decide_eq_false HNE.out]; rfl, Below.refl _ _⟩

/-! ### numbers as they came in -/
theorem There.own {α : Type} {k : Kd α} {e : TypeId} {w : World} {p : Option Nat} {B : Nat} {v : Value} {xs : List α} {S : Nat → Prop} {n : Nat} (hO : Own k e w p B v xs) (hS : ∀ i, S i → i < n) (hn : n ≤ w.heap.size) : There (fun i => v.ownBlock = some i ∨ S i) w :=
  fun i h => h.elim (fun h => (hO.base h).2) fun h => by have := hS i h; omega
set_option maxHeartbeats 2000000 in
set_option maxRecDepth 100000 in
theorem parts_any (w : World) (S : Nat → Prop) (hS : There S w) (v : Value) (l : List (List Int)) (hx : Row (kRow (kNum .u32)) w S v l) (hl : l.length ≤ 1073741824) :
    Calls Try.prog 71 #[v] w fun e w' => ∃ v', e = .returned v' ∧ Row (kRow (kNum .u32)) w' S v' l ∧ Below w.heap.size w w' := by
  obtain ⟨A, c, rfl, -, -⟩ := hx.shape
  have HX := Lib.hid (hx.mono (S' := fun i => S i ∨ w.heap.size ≤ i) fun i hi h => h.elim id fun h => by omega)
  have HO := Lib.hid (Own.lit0 (kOff S (kNum .u32)) 92 w)
  clear hx
  go_enter Try.func71, Try.ntmps71
  go_wp2_with fail
  go_loopw [3, 4, 8] (fun vo _ i wr => ∃ j : Nat, j ≤ l.length ∧ i = .int .i64 j ∧ Hid (Own (kOff S (kNum .u32)) 92 wr none w.heap.size vo (l.take j)) ∧ Hid (Below w.heap.size w wr)) (fun _ _ i _ => l.length - (intOf i).toNat)
  case atStart => exact ⟨0, Nat.zero_le _, rfl, HO, Lib.hid ((Below.refl _ _).alloc (Nat.le_refl _) _)⟩
  case round =>
    clear HO
    obtain ⟨j, hj, rfl, HO, HB⟩ := hrel
    have htl : (l.take j).length = j := by rw [List.length_take]; omega
    have HTL := Lib.hid htl
    clear htl
    by_cases hlt : j < l.length
    · obtain ⟨b, off, A4, c4, rfl, x0, hrow⟩ := (HX.out.later HB.out).row_at hlt
      have HT := Lib.hid (List.take_succ_eq_append_getElem hlt)
      have hn2 : (l.take j).length ≤ 1099511627776 := by rw [HTL.out]; omega
      generalize l[j] = x at *
      obtain ⟨done, hd⟩ : ∃ done, l.take j = done := ⟨_, rfl⟩
      rw [hd] at HO HT hn2
      clear hd HTL
      have HR := Lib.hid hrow
      have hsz := HB.out.size
      clear hrow
      go_wp2_with (at_builtin; go_loud (refine app1 (kOff S (kNum .u32)) 92 91 (.slice none 0 0) 24 rfl (.tmp 11) (.tmp 16) rfl Try.underlying91 infoU32s rfl Nat.zero_lt_one (by decide) none w.heap.size HO.out (FootIn.none _) hsz rfl x [.slice A4 x.length c4] rfl ⟨_, rfl, HR.out.mono (fun i _ h => h.elim (fun h => h.elim (fun h => (foot_none _ _ h).elim) (fun h => .inr (HO.out.base h).1)) .inl)⟩ (by omega) ?_; intro v' w5 q1 q2 _ _ _ _; have HQ1 := Lib.hid q1; have HB5 := Lib.hid (HB.out.trans q2.below); clear q1 q2))
      go_roundw
      case rel => exact ⟨j + 1, by omega, by go_num, by rw [HT.out]; exact HQ1, HB5⟩
      case measure => simp [intOf]; omega
    · obtain rfl : j = l.length := by omega
      rw [List.take_length] at HO
      obtain ⟨A6, c6, rfl, -, -⟩ := HO.out.shape
      go_wp2
      go_ret
      exact ⟨_, rfl, HO.out.rowOff (fun g hg hs => by have h1 := (HO.out.base hg).1; have := hS g hs; omega), HB.out⟩

theorem infoU32sss : (Try.prog.info? 91).map (fun i => (i.zero, i.size, i.bytes)) = some (some (.slice none 0 0), 1, 24) := by kernel_rfl
set_option maxHeartbeats 2000000 in
set_option maxRecDepth 100000 in
theorem script_any (w : World) (S : Nat → Prop) (hS : There S w) (v : Value) (l : List (List (List Int))) (hx : Row (kRow (kRow (kNum .u32))) w S v l) (hl : l.length ≤ 1073741824) (hk : ∀ x ∈ l, x.length ≤ 1073741824) :
    Calls Try.prog 35 #[v] w fun e w' => ∃ v', e = .returned v' ∧ Row (kRow (kRow (kNum .u32))) w' S v' l ∧ Below w.heap.size w w' := by
  obtain ⟨A, c, rfl, -, -⟩ := hx.shape
  have HX := Lib.hid (hx.mono (S' := fun i => S i ∨ w.heap.size ≤ i) fun i hi h => h.elim id fun h => by omega)
  have HO := Lib.hid (Own.lit0 (kOff S (kRow (kNum .u32))) 91 w)
  have HK := Lib.hid hk
  clear hx hk
  go_enter Try.func35, Try.ntmps35
  go_wp2_with fail
  go_loopw [3, 4, 8] (fun vo _ i wr => ∃ j : Nat, j ≤ l.length ∧ i = .int .i64 j ∧ Hid (Own (kOff S (kRow (kNum .u32))) 91 wr none w.heap.size vo (l.take j)) ∧ Hid (Below w.heap.size w wr)) (fun _ _ i _ => l.length - (intOf i).toNat)
  case atStart => exact ⟨0, Nat.zero_le _, rfl, HO, Lib.hid ((Below.refl _ _).alloc (Nat.le_refl _) _)⟩
  case round =>
    clear HO
    obtain ⟨j, hj, rfl, HO, HB⟩ := hrel
    have htl : (l.take j).length = j := by rw [List.length_take]; omega
    have HTL := Lib.hid htl
    clear htl
    obtain ⟨A6, c6, hv6, -, -⟩ := HO.out.shape
    by_cases hlt : j < l.length
    · obtain ⟨b, off, A4, c4, rfl, x0, hrow⟩ := (HX.out.later HB.out).row_at hlt
      have HT := Lib.hid (List.take_succ_eq_append_getElem hlt)
      have hn2 : (l.take j).length ≤ 1099511627776 := by rw [HTL.out]; omega
      have hxl := HK.out _ (List.getElem_mem hlt)
      generalize l[j] = x at *
      obtain ⟨done, hd⟩ : ∃ done, l.take j = done := ⟨_, rfl⟩
      rw [hd] at HO HT hn2 hv6
      clear hd HTL
      subst hv6
      have HR := Lib.hid hrow
      have hsz := HB.out.size
      clear hrow
      go_wp2_with fail
      refine (parts_any _ (fun i => Value.ownBlock (.slice A6 done.length c6) = some i ∨ S i) (There.own HO.out (n := w.heap.size) (fun i h => hS i h) hsz) _ x (HR.out.mono (fun i _ h => h.elim (fun h => .inr (HO.out.base h).1) .inl)) hxl).mono ?_
      rintro e w3 ⟨v3, rfl, hr3, hb3⟩
      obtain ⟨A7, c7, rfl, -, -⟩ := hr3.shape
      have HR3 := Lib.hid hr3
      have HB3 := Lib.hid (HB.out.trans (hb3.mono hsz))
      have HO3 := Lib.hid (HO.out.kept (Kept.of_below_all hb3 (FootIn.none _) (Nat.le_refl _)))
      have hsz3 := HB3.out.size
      clear hr3 hb3
      go_wp2_with (at_builtin; go_loud (refine app1 (kOff S (kRow (kNum .u32))) 91 57 (.slice none 0 0) 24 rfl (.tmp 11) (.tmp 17) rfl Try.underlying57 infoU32sss rfl Nat.zero_lt_one (by decide) none w.heap.size HO3.out (FootIn.none _) hsz3 rfl x [.slice A7 x.length c7] rfl ⟨_, rfl, HR3.out.mono (fun i _ h => h.elim (fun h => h.elim (fun h => (foot_none _ _ h).elim) .inl) .inr)⟩ (by omega) ?_; intro v' w5 q1 q2 _ _ _ _; have HQ1 := Lib.hid q1; have HB5 := Lib.hid (HB3.out.trans q2.below); clear q1 q2))
      go_roundw
      case rel => exact ⟨j + 1, by omega, by go_num, by rw [HT.out]; exact HQ1, HB5⟩
      case measure => simp [intOf]; omega
    · obtain rfl : j = l.length := by omega
      clear hv6
      rw [List.take_length] at HO
      obtain ⟨A6, c6, rfl, -, -⟩ := HO.out.shape
      go_wp2
      go_ret
      exact ⟨_, rfl, HO.out.rowOff (fun g hg hs => by have h1 := (HO.out.base hg).1; have := hS g hs; omega), HB.out⟩

/-! ### too large? -/
def rowN (r : List (List Int)) : Nat := (r.map fun x => x.length + 1).sum
def scriptN (s : List (List (List Int))) : Nat := (s.map rowN).sum
theorem sum_take_le : ∀ (l : List Nat) (i : Nat), (l.take i).sum ≤ l.sum
  | [], _ => by simp
  | a :: l, 0 => by simp
  | a :: l, i + 1 => by simpa using sum_take_le l i
theorem rowN_take {r : List (List Int)} {k : Nat} (h : k < r.length) : rowN (r.take (k + 1)) = rowN (r.take k) + (r[k].length + 1) := by
  rw [List.take_succ_eq_append_getElem h]; unfold rowN; rw [List.map_append, List.sum_append]; simp only [List.map_cons, List.map_nil, List.sum_cons, List.sum_nil, Nat.add_zero]
theorem rowN_le (r : List (List Int)) (k : Nat) : rowN (r.take k) ≤ rowN r := by
  unfold rowN; rw [List.map_take]; exact sum_take_le _ _
theorem scriptN_take {s : List (List (List Int))} {i : Nat} (h : i < s.length) : scriptN (s.take (i + 1)) = scriptN (s.take i) + rowN s[i] := by
  rw [List.take_succ_eq_append_getElem h]; unfold scriptN; rw [List.map_append, List.sum_append]; simp only [List.map_cons, List.map_nil, List.sum_cons, List.sum_nil, Nat.add_zero]
theorem scriptN_le (s : List (List (List Int))) (i : Nat) : scriptN (s.take i) ≤ scriptN s := by
  unfold scriptN; rw [List.map_take]; exact sum_take_le _ _
def largeS (nodes : List Node) (ins outs : List Port) (s : List (List (List Int))) : Bool := largeB nodes ins outs 60 || decide ((20 : Int) < (s.length : Int)) || decide ((1000 : Int) < (scriptN s : Int))

set_option maxHeartbeats 2000000 in
set_option maxRecDepth 100000 in
theorem large07_ref (w : World) (S2 : Nat → Prop) (v vs : Value) (nodes : List Node) (ins outs : List Port) (s : List (List (List Int))) (hN : NetV w v nodes ins outs) (hw : ∀ q ∈ ins ++ outs, wtP q ≤ 281474976710656) (hx : Row (kRow (kRow (kNum .u32))) w S2 vs s) (hl : s.length ≤ 1073741824) (hk : ∀ x ∈ s, x.length ≤ 1073741824) (hsn : scriptN s ≤ 1099511627776) :
    Calls Try.prog 34 #[v, vs] w fun e w' => e = .returned (.bool (largeS nodes ins outs s)) ∧ Below w.heap.size w w' := by
  obtain ⟨An, cn, Ai, ci, Ao, co, rfl, hbox⟩ := hN.box
  let ob := netBox (.slice An nodes.length cn) (.slice Ai ins.length ci) (.slice Ao outs.length co)
  have hsz : (w.alloc ob).heap.size = w.heap.size + 1 := by simp
  obtain ⟨A2, c2, rfl, -, -⟩ := hx.shape
  have HNET := Lib.hid (fun (W : World) (hW : Below (w.heap.size + 1) (w.alloc ob) W) => show NetV W (.agg #[.slice An nodes.length cn, .slice Ai ins.length ci, .slice Ao outs.length co]) nodes ins outs from ⟨_, _, _, rfl, (hbox W hW).2.2.2.1, (hbox W hW).2.2.2.2.1, (hbox W hW).2.2.2.2.2.1⟩)
  have HZ := Lib.hid (fun (W : World) (hW : Below (w.heap.size + 1) (w.alloc ob) W) => And.intro (hbox W hW).1 (And.intro (hbox W hW).2.1 (hbox W hW).2.2.1))
  have HW := Lib.hid (fun (W : World) (hW : Below (w.heap.size + 1) (w.alloc ob) W) => (hbox W hW).2.2.2.2.2.2)
  have HX := Lib.hid hx
  have HWT := Lib.hid hw
  have HSZ := Lib.hid hsz
  have HK := Lib.hid hk
  have HSN := Lib.hid hsn
  clear hbox hsz hN hw hx hk hsn
  obtain ⟨c0, hc0⟩ : ∃ c0 : Nat, c0 = 0 := ⟨_, rfl⟩
  have HC00 := Lib.hid hc0
  clear hc0
  go_enter Try.func34, Try.ntmps34
  go_wp2_with fail
  go_loopw [5, 6, 7] (fun cv iv _ wr => ∃ i n : Nat, iv = .int .i64 i ∧ i ≤ s.length ∧ cv = .int .i64 (n : Int) ∧ Hid (n = scriptN (s.take i)) ∧ Hid (Below (w.heap.size + 1) (w.alloc ob) wr)) (fun _ iv _ _ => s.length - (intOf iv).toNat)
  case atStart => exact ⟨0, 0, rfl, Nat.zero_le _, rfl, Lib.hid rfl, Lib.hid (Below.refl _ _)⟩
  case round =>
    obtain ⟨i, n, rfl, hi, rfl, HN, HB⟩ := hrel
    obtain ⟨z0, z1, z2⟩ := HZ.out _ HB.out
    by_cases hlt : i < s.length
    · obtain ⟨b, off, A4, c4, rfl, x0, hrow⟩ := (HX.out.later (HW.out _ HB.out)).row_at hlt
      have HT := Lib.hid (scriptN_take hlt)
      have hrl := HK.out _ (List.getElem_mem hlt)
      have HLE := Lib.hid (scriptN_le s (i + 1))
      obtain ⟨x, hxx⟩ : ∃ x, s[i] = x := ⟨_, rfl⟩
      rw [hxx] at x0 hrow hrl HT
      clear hxx
      have HR := Lib.hid hrow
      clear hrow
      go_wp2_with fail
      obtain ⟨wo, hwo⟩ : ∃ wo, wo = wr := ⟨_, rfl⟩
      subst hwo
      go_loopw [5, 7] (fun cv kv wr => ∃ k m : Nat, kv = .int .i64 k ∧ k ≤ x.length ∧ cv = .int .i64 (m : Int) ∧ Hid (m = n + rowN (x.take k)) ∧ Hid (wr = wo)) (fun _ kv _ => x.length - (intOf kv).toNat)
      case atStart => exact ⟨0, n, rfl, Nat.zero_le _, rfl, Lib.hid (by simp [rowN]), Lib.hid rfl⟩
      case round =>
        obtain ⟨k, m, rfl, hk, rfl, HM, HE⟩ := hrel
        obtain rfl := HE.out
        by_cases hkl : k < x.length
        · obtain ⟨b5, off5, A5, c5, rfl, y0, -⟩ := HR.out.row_at hkl
          have HRT := Lib.hid (rowN_take hkl)
          have HRL := Lib.hid (rowN_le x (k + 1))
          obtain ⟨y, hyy⟩ : ∃ y, x[k] = y := ⟨_, rfl⟩
          rw [hyy] at y0 HRT
          clear hyy
          have hb1 : m + (y.length + 1) ≤ 1099511627776 := by
            have h1 := HM.out; have h2 := HRT.out; have h3 := HRL.out; have h4 := HN.out; have h5 := HT.out; have h6 := HLE.out; have h7 := HSN.out
            omega
          have HMS := Lib.hid (show m + (y.length + 1) = n + rowN (x.take (k + 1)) by have h1 := HM.out; have h2 := HRT.out; omega)
          go_wp2_with fail
          go_roundw
          case rel => exact ⟨k + 1, m + (y.length + 1), by go_num, by omega, by go_num, HMS, Lib.hid (by trivial)⟩
          case measure => simp [intOf]; omega
        · obtain rfl : k = x.length := by omega
          have HMS := Lib.hid (show m = scriptN (s.take (i + 1)) by have h1 := HM.out; rw [List.take_length] at h1; have h4 := HN.out; have h5 := HT.out; omega)
          go_wp2
          go_roundw
          case rel => exact ⟨i + 1, m, by go_num, by omega, rfl, HMS, HB⟩
          case measure => simp [intOf]; omega
    · obtain rfl : i = s.length := by omega
      have HLN := Lib.hid (show largeS nodes ins outs s = (largeB nodes ins outs 60 || decide ((20 : Int) < (s.length : Int)) || decide ((1000 : Int) < (n : Int))) by rw [largeS, HN.out, List.take_length])
      clear HN
      go_wp2_with fail
      refine (large_ref _ _ nodes ins outs 60 (HNET.out _ HB.out) HWT.out).mono ?_
      rintro e w1 ⟨rfl, hb1⟩
      have HB1 := Lib.hid ((HW.out _ HB.out).trans (hb1.mono (HW.out _ HB.out).size))
      clear hb1 z0 z1 z2
      obtain ⟨b1, hb1⟩ : ∃ b1, largeB nodes ins outs 60 = b1 := ⟨_, rfl⟩
      obtain ⟨b2, hb2⟩ : ∃ b2, decide ((20 : Int) < (s.length : Int)) = b2 := ⟨_, rfl⟩
      obtain ⟨b3, hb3⟩ : ∃ b3, decide ((1000 : Int) < (n : Int)) = b3 := ⟨_, rfl⟩
      rw [hb1, hb2, hb3] at HLN
      rw [hb1]
      clear hb1
      cases b1 with
      | true =>
        go_wp2_with fail
        go_ret
        exact ⟨by rw [HLN.out]; rfl, HB1.out⟩
      | false =>
        cases b2 with
        | true =>
          go_wp2_with fail
          go_ret
          exact ⟨by rw [HLN.out]; rfl, HB1.out⟩
        | false =>
          cases b3 with
          | true =>
            go_wp2_with fail
            go_ret
            exact ⟨by rw [HLN.out]; rfl, HB1.out⟩
          | false =>
            go_wp2_with fail
            go_ret
            exact ⟨by rw [HLN.out]; rfl, HB1.out⟩
end Go.Proofs.Ytbfjacgfifecpaa
