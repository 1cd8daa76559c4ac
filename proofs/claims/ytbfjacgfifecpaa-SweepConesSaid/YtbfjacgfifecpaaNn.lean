/- slices.Max, net.Check, net.Depth. -/
import Derived.Test.YtbfjacgfifecpaaNm
namespace Go.Proofs.Ytbfjacgfifecpaa
open Go.RowKit

def maxF (l : List Int) : Int := l.foldl max 0
theorem maxF_snoc (l : List Int) (x : Int) : maxF (l ++ [x]) = max (maxF l) x := by simp [maxF]
theorem maxF_nonneg (l : List Int) : 0 ≤ maxF l := by
  have : ∀ (l : List Int) (m : Int), m ≤ l.foldl max m := by
    intro l
    induction l with
    | nil => intro m; exact Int.le_refl _
    | cons a l ih => intro m; rw [List.foldl_cons]; exact Int.le_trans (Int.le_max_left m a) (ih _)
  exact this l 0
theorem maxF_one {x : Int} (h : 0 ≤ x) : maxF [x] = x := by simp only [maxF, List.foldl]; omega
theorem le_maxF {l : List Int} {x : Int} (h : x ∈ l) : x ≤ maxF l := by
  have h1 : ∀ (l : List Int) (m : Int), m ≤ l.foldl max m := by
    intro l
    induction l with
    | nil => intro m; exact Int.le_refl _
    | cons a l ih => intro m; rw [List.foldl_cons]; exact Int.le_trans (Int.le_max_left m a) (ih _)
  have : ∀ (l : List Int) (m : Int), x ∈ l → x ≤ l.foldl max m := by
    intro l
    induction l with
    | nil => intro m h; simp at h
    | cons a l ih =>
      intro m h
      rw [List.foldl_cons]
      rcases List.mem_cons.1 h with rfl | h
      · exact Int.le_trans (Int.le_max_right m x) (h1 _ _)
      · exact ih _ h
  exact this l 0 h
theorem maxF_le {l : List Int} {m : Int} (h0 : 0 ≤ m) (h : ∀ x ∈ l, x ≤ m) : maxF l ≤ m := by
  have : ∀ (l : List Int) (k : Int), k ≤ m → (∀ x ∈ l, x ≤ m) → l.foldl max k ≤ m := by
    intro l
    induction l with
    | nil => intro k hk _; exact hk
    | cons a l ih =>
      intro k hk h
      rw [List.foldl_cons]
      exact ih _ (by have := h a List.mem_cons_self; omega) fun x hx => h x (List.mem_cons_of_mem _ hx)
  exact this l 0 h0 h

attribute [local go_sem] max2_int max_two in
theorem max_ints (w : World) (v : Value) (xs : List Int) (hx : Row kInt w (fun _ => False) v xs) (h0 : 0 < xs.length) (hl : xs.length ≤ 1099511627776) (hnn : ∀ x ∈ xs, 0 ≤ x) :
    Calls Try.prog 56 #[v] w fun e w' => e = .returned (.int .i64 (maxF xs)) ∧ Below w.heap.size w w' := by
  obtain ⟨A, c, rfl, -, -⟩ := hx.shape
  have HX := Lib.hid hx
  obtain ⟨b, off, rfl, x0⟩ := hx.int_at h0
  rw [Nat.add_zero] at x0
  have hm1 : maxF (xs.take 1) = xs[0] := by
    rw [List.take_one, List.head?_eq_getElem?, List.getElem?_eq_getElem h0]
    exact maxF_one (hnn _ (List.getElem_mem h0))
  have HM1 := Lib.hid hm1
  clear hx hnn hm1
  go_enter Try.func56, Try.ntmps56
  go_wp2_with fail
  go_loopw [3, 4] (fun mv iv wr => ∃ i : Nat, iv = .int .i64 i ∧ 1 ≤ i ∧ i ≤ xs.length ∧ mv = .int .i64 (maxF (xs.take i)) ∧ Hid (Below w.heap.size w wr)) (fun _ iv _ => xs.length - (intOf iv).toNat)
  case atStart => exact ⟨1, rfl, Nat.le_refl _, by omega, by rw [HM1.out], Lib.hid (by first | exact Below.refl _ _ | exact (Below.refl _ _).drew)⟩
  case round =>
    clear x0
    obtain ⟨i, rfl, hi1, hi, rfl, HB⟩ := hrel
    by_cases hlt : i < xs.length
    · obtain ⟨b2, off2, he, x0⟩ := HX.out.int_at hlt
      injection he with he
      injection he with he1 he2 he3
      subst he1
      subst he2
      replace x0 := cellBelow HB.out x0
      have HT := Lib.hid (show maxF (xs.take (i + 1)) = max (maxF (xs.take i)) xs[i] by rw [List.take_succ_eq_append_getElem hlt, maxF_snoc])
      clear he3
      go_wp2
      refine ⟨⟨i + 1, by go_num, by omega, by omega, by rw [HT.out], HB⟩, ?_⟩
      simp [intOf]; omega
    · obtain rfl : i = xs.length := by omega
      rw [List.take_length]
      go_wp2
      go_ret
      exact ⟨rfl, HB.out⟩

theorem check_net (w : World) (v : Value) (nodes : List Node) (ins outs : List Port) (hN : NetV w v nodes ins outs) (hF : Fits nodes ins outs) :
    Calls Try.prog 22 #[v] w fun e w' => ∃ l x, e = .returned (.int .i64 x) ∧ LevOut nodes ins outs x l ∧ Below w.heap.size w w' := by
  obtain ⟨An, cn, Ai, ci, Ao, co, rfl, hbox⟩ := hN.box
  let ob := netBox (.slice An nodes.length cn) (.slice Ai ins.length ci) (.slice Ao outs.length co)
  have hb0 : Below w.heap.size w (w.alloc ob) := (Below.refl _ _).alloc (Nat.le_refl _) _
  obtain ⟨z0, z1, z2, -, -, -, -⟩ := hbox (w.alloc ob) (Below.refl _ _)
  have HC := Lib.hid (lev_net (w.alloc ob) _ nodes ins outs (hN.later hb0) hF)
  have HB0 := Lib.hid hb0
  clear hbox hN hF hb0
  go_enter Try.func22, Try.ntmps22
  go_wp2_with fail
  refine HC.out.mono ?_
  rintro e w1 ⟨v1, l, x, rfl, -, hl, hb1⟩
  have HL := Lib.hid hl
  have HB1 := Lib.hid (HB0.out.trans (hb1.mono (by simp)))
  clear hl hb1 HC z0 z1 z2
  go_wp2
  go_ret
  exact ⟨l, x, rfl, HL.out, HB1.out⟩

/-- how deep -/
def DepOut (nodes : List Node) (ins outs : List Port) (e : Int) (d : Int) : Prop := ∃ l, LevOut nodes ins outs e l ∧ d = maxF l
theorem LevOut.nonneg {nodes : List Node} {ins outs : List Port} {e : Int} {l : List Int} (h : LevOut nodes ins outs e l) : ∀ x ∈ l, 0 ≤ x := by
  obtain ⟨b, h1, h2, h3, h4, h5⟩ := h
  by_cases he : e = 0
  · intro x hx
    obtain ⟨i, hi, rfl⟩ := List.mem_iff_getElem.1 hx
    have := (h4 he).nonneg i
    rw [List.getD_eq_getElem?_getD, List.getElem?_eq_getElem hi] at this
    exact this
  · rw [h5 he]; intro x hx; simp at hx
theorem LevOut.length {nodes : List Node} {ins outs : List Port} {e : Int} {l : List Int} (h : LevOut nodes ins outs e l) : l.length ≤ nodes.length := by
  obtain ⟨b, h1, h2, h3, h4, h5⟩ := h
  by_cases he : e = 0
  · rw [(h4 he).1]; exact Nat.le_refl _
  · rw [h5 he]; simp
theorem depth_net (w : World) (v : Value) (nodes : List Node) (ins outs : List Port) (hN : NetV w v nodes ins outs) (hF : Fits nodes ins outs) :
    Calls Try.prog 20 #[v] w fun e w' => ∃ d x, e = .returned (.tuple #[.int .i64 d, .int .i64 x]) ∧ DepOut nodes ins outs x d ∧ Below w.heap.size w w' := by
  obtain ⟨An, cn, Ai, ci, Ao, co, rfl, hbox⟩ := hN.box
  let ob := netBox (.slice An nodes.length cn) (.slice Ai ins.length ci) (.slice Ao outs.length co)
  have hb0 : Below w.heap.size w (w.alloc ob) := (Below.refl _ _).alloc (Nat.le_refl _) _
  obtain ⟨z0, z1, z2, -, -, -, -⟩ := hbox (w.alloc ob) (Below.refl _ _)
  have HC := Lib.hid (lev_net (w.alloc ob) _ nodes ins outs (hN.later hb0) hF)
  have HB0 := Lib.hid hb0
  have HF := Lib.hid hF
  clear hbox hN hF hb0
  go_enter Try.func20, Try.ntmps20
  go_wp2_with fail
  refine HC.out.mono ?_
  rintro e w1 ⟨v1, l, x, rfl, hr, hl, hb1⟩
  obtain ⟨A, c, rfl, -, -⟩ := hr.shape
  have HR := Lib.hid hr
  have HB1 := Lib.hid (HB0.out.trans (hb1.mono (by simp)))
  have hlen : l.length ≤ 1099511627776 := Nat.le_trans hl.length HF.out.nl
  have hnn := hl.nonneg
  obtain ⟨bb, h1, h2, h3, h4, h5⟩ := hl
  have hle : (x ≠ 0 ∨ l.length = 0) → l = [] := fun h => h.elim h5 List.length_eq_zero_iff.1
  have HL := Lib.hid (show LevOut nodes ins outs x l from ⟨bb, h1, h2, h3, h4, h5⟩)
  have HLE := Lib.hid hle
  clear hb1 HC z0 z1 z2 h1 h2 h3 h4 h5 hr hle
  by_cases hx0 : x = 0
  · subst hx0
    by_cases hl0 : l.length = 0
    · have he := HLE.out (.inr hl0)
      subst he
      clear hnn
      go_wp2
      go_ret2
      exact ⟨0, 0, rfl, ⟨[], HL.out, rfl⟩, HB1.out⟩
    · have HM := Lib.hid (max_ints w1 _ l HR.out (by omega) hlen hnn)
      have hl0' : ¬ (l.length : Int) = 0 := by omega
      clear hnn
      go_wp2_with fail
      refine HM.out.mono ?_
      rintro e w2 ⟨rfl, hb2⟩
      have HB2 := Lib.hid (HB1.out.trans (hb2.mono HB1.out.size))
      clear hb2
      go_wp2
      go_ret2
      exact ⟨_, 0, rfl, ⟨l, HL.out, rfl⟩, HB2.out⟩
  · have he := HLE.out (.inl hx0)
    subst he
    clear hnn
    go_wp2
    go_ret2
    exact ⟨0, x, rfl, ⟨[], HL.out, rfl⟩, HB1.out⟩
end Go.Proofs.Ytbfjacgfifecpaa
