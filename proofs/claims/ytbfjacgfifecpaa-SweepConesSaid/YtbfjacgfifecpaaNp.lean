/- Lists that are the same: Ints, slices.Equal. -/
import Derived.Test.YtbfjacgfifecpaaNa
import Derived.Test.YtbfjacgfifecpaaNh
namespace Go.Proofs.Ytbfjacgfifecpaa
open Go.RowKit

theorem take_step {α : Type} {xs ys : List α} {i : Nat} (h : xs.take i = ys.take i) (hx : i < xs.length) (hy : i < ys.length) (he : xs[i] = ys[i]) : xs.take (i + 1) = ys.take (i + 1) := by
  rw [List.take_succ_eq_append_getElem hx, List.take_succ_eq_append_getElem hy, h, he]
theorem ne_at {α : Type} {xs ys : List α} {i : Nat} (hx : i < xs.length) (hy : i < ys.length) (he : xs[i] ≠ ys[i]) : xs ≠ ys := by
  intro e; subst e; exact he rfl

theorem ints_ref (w : World) (v u : Value) (xs ys : List Int) (hx : Row kInt w (fun _ => False) v xs) (hy : Row kInt w (fun _ => False) u ys) (hl : xs.length ≤ 1099511627776) :
    Calls Try.prog 21 #[v, u] w fun e w' => e = .returned (.bool (decide (xs = ys))) ∧ Below w.heap.size w w' := by
  obtain ⟨A, c, rfl, -, -⟩ := hx.shape
  obtain ⟨A2, c2, rfl, -, -⟩ := hy.shape
  have HX := Lib.hid hx
  have HY := Lib.hid hy
  clear hx hy
  by_cases hlen : xs.length = ys.length
  · have hq : ((xs.length : Int) != (ys.length : Int)) = false := by simp [hlen]
    have HLEN := Lib.hid hlen
    have hly : ys.length ≤ 1099511627776 := by omega
    clear hlen
    go_enter Try.func21, Try.ntmps21
    go_wp2_with fail
    clear hq
    go_loopw [5] (fun  iv wr => ∃ i : Nat, iv = .int .i64 i ∧ i ≤ xs.length ∧ Hid (xs.take i = ys.take i) ∧ Hid (Below w.heap.size w wr)) (fun  iv _ => xs.length - (intOf iv).toNat)
    case atStart => exact ⟨0, rfl, Nat.zero_le _, Lib.hid rfl, Lib.hid (Below.refl _ _)⟩
    case round =>
      obtain ⟨i, rfl, hi, HT, HB⟩ := hrel
      by_cases hlt : i < xs.length
      · have hlt2 : i < ys.length := by rw [← HLEN.out]; exact hlt
        obtain ⟨b, off, rfl, x0⟩ := HX.out.int_at hlt
        obtain ⟨b2, off2, rfl, y0⟩ := HY.out.int_at hlt2
        replace x0 := cellBelow HB.out x0
        replace y0 := cellBelow HB.out y0
        have HTS := Lib.hid (take_step HT.out hlt hlt2)
        have HNE := Lib.hid (ne_at (xs := xs) (ys := ys) hlt hlt2)
        obtain ⟨x, hxx⟩ : ∃ x, xs[i] = x := ⟨_, rfl⟩
        obtain ⟨y, hyy⟩ : ∃ y, ys[i] = y := ⟨_, rfl⟩
        rw [hxx] at x0
        rw [hyy] at y0
        rw [hxx, hyy] at HTS HNE
        clear hxx hyy
        by_cases he : x = y
        · have HTN := Lib.hid (HTS.out he)
          subst he
          have hq : (x != x) = false := by simp
          clear HTS HNE
          go_wp2
          go_quiet (fail)
          go_wp2
          refine ⟨⟨i + 1, by go_num, by omega, HTN, Lib.hid (HB.out.trans ((pw_drewN _ _).mono HB.out.size))⟩, ?_⟩
          simp [intOf]; omega
        · have HNN := Lib.hid (HNE.out he)
          have hq : (x != y) = true := by simpa using he
          clear HTS HNE he
          go_wp2
          go_quiet (fail)
          go_wp2
          go_ret
          exact ⟨by rw [decide_eq_false HNN.out]; rfl, HB.out.trans ((pw_drewN _ _).mono HB.out.size)⟩
      · obtain rfl : i = xs.length := by omega
        have hee : xs = ys := by
          have h := HT.out
          rw [List.take_length, HLEN.out, List.take_length] at h
          exact h
        have HEE := Lib.hid hee
        clear hee
        go_wp2
        go_ret
        exact ⟨by rw [decide_eq_true HEE.out]; rfl, HB.out⟩
  · have hq : ((xs.length : Int) != (ys.length : Int)) = true := by simp; omega
    have HNE : Hid (xs ≠ ys) := Lib.hid fun e => hlen (by rw [e])
    clear hlen
    go_enter Try.func21, Try.ntmps21
    go_wp2_with fail
    go_ret
    exact ⟨by rw [decide_eq_false HNE.out]; rfl, Below.refl _ _⟩
theorem equal_ints (w : World) (v u : Value) (xs ys : List Int) (hx : Row kInt w (fun _ => False) v xs) (hy : Row kInt w (fun _ => False) u ys) (hl : xs.length ≤ 1099511627776) :
    Calls Try.prog 62 #[v, u] w fun e w' => e = .returned (.bool (decide (xs = ys))) ∧ Below w.heap.size w w' := by
  obtain ⟨A, c, rfl, -, -⟩ := hx.shape
  obtain ⟨A2, c2, rfl, -, -⟩ := hy.shape
  have HX := Lib.hid hx
  have HY := Lib.hid hy
  clear hx hy
  by_cases hlen : xs.length = ys.length
  · have hq : ((xs.length : Int) != (ys.length : Int)) = false := by simp [hlen]
    have HLEN := Lib.hid hlen
    have hly : ys.length ≤ 1099511627776 := by omega
    clear hlen
    go_enter Try.func62, Try.ntmps62
    go_wp2_with fail
    clear hq
    go_loopw [5, 13] (fun rv iv wr => ∃ i : Nat, iv = .int .i64 i ∧ i ≤ xs.length ∧ Hid (xs.take i = ys.take i) ∧ Hid (Below w.heap.size w wr)) (fun rv iv _ => xs.length - (intOf iv).toNat)
    case atStart => exact ⟨0, rfl, Nat.zero_le _, Lib.hid rfl, Lib.hid (Below.refl _ _)⟩
    case round =>
      obtain ⟨i, rfl, hi, HT, HB⟩ := hrel
      by_cases hlt : i < xs.length
      · have hlt2 : i < ys.length := by rw [← HLEN.out]; exact hlt
        obtain ⟨b, off, rfl, x0⟩ := HX.out.int_at hlt
        obtain ⟨b2, off2, rfl, y0⟩ := HY.out.int_at hlt2
        replace x0 := cellBelow HB.out x0
        replace y0 := cellBelow HB.out y0
        have HTS := Lib.hid (take_step HT.out hlt hlt2)
        have HNE := Lib.hid (ne_at (xs := xs) (ys := ys) hlt hlt2)
        obtain ⟨x, hxx⟩ : ∃ x, xs[i] = x := ⟨_, rfl⟩
        obtain ⟨y, hyy⟩ : ∃ y, ys[i] = y := ⟨_, rfl⟩
        rw [hxx] at x0
        rw [hyy] at y0
        rw [hxx, hyy] at HTS HNE
        clear hxx hyy
        by_cases he : x = y
        · have HTN := Lib.hid (HTS.out he)
          subst he
          have hq : (x != x) = false := by simp
          clear HTS HNE
          go_wp2
          go_quiet (fail)
          go_wp2
          refine ⟨⟨i + 1, by go_num, by omega, HTN, Lib.hid (HB.out.trans ((pw_drewN _ _).mono HB.out.size))⟩, ?_⟩
          simp [intOf]; omega
        · have HNN := Lib.hid (HNE.out he)
          have hq : (x != y) = true := by simpa using he
          clear HTS HNE he
          go_wp2
          go_quiet (fail)
          go_wp2
          go_ret
          exact ⟨by rw [decide_eq_false HNN.out]; rfl, HB.out.trans ((pw_drewN _ _).mono HB.out.size)⟩
      · obtain rfl : i = xs.length := by omega
        have hee : xs = ys := by
          have h := HT.out
          rw [List.take_length, HLEN.out, List.take_length] at h
          exact h
        have HEE := Lib.hid hee
        clear hee
        go_wp2
        go_ret
        exact ⟨by rw [decide_eq_true HEE.out]; rfl, HB.out⟩
  · have hq : ((xs.length : Int) != (ys.length : Int)) = true := by simp; omega
    have HNE : Hid (xs ≠ ys) := Lib.hid fun e => hlen (by rw [e])
    clear hlen
    go_enter Try.func62, Try.ntmps62
    go_wp2_with fail
    go_ret
    exact ⟨by rw [decide_eq_false HNE.out]; rfl, Below.refl _ _⟩
end Go.Proofs.Ytbfjacgfifecpaa
