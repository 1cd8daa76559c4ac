/- slices.IndexFunc, ContainsFunc. -/
import Derived.Test.YtbfjacgfifecpaaNb
namespace Go.Proofs.Ytbfjacgfifecpaa
open Go.RowKit

theorem any_take {α : Type} {xs : List α} {g : α → Bool} (h : ∀ x ∈ xs, g x = false) : xs.any g = false := by
  rw [List.any_eq_false]; intro x hx; rw [h x hx]; decide

theorem index_ints (w : World) (v : Value) (xs : List Int) (hx : Row kInt w (fun _ => False) v xs) (hl : xs.length ≤ 1099511627776) (k : Nat) (caps : Array Value) (he : ∀ (args : Array Value) (W : World), (callFunc k args).run Try.prog W = .ok (.enter k args) W) (g : Int → Bool)
    (hf : ∀ x ∈ xs, ∀ W, Below w.heap.size w W → Calls Try.prog k (#[.int .i64 x] ++ caps) W fun e W' => e = .returned (.bool (g x)) ∧ Below W.heap.size W W') :
    Calls Try.prog 99 #[v, .func (.func k) #[] caps] w fun e w' => (∃ r : Int, e = .returned (.int .i64 r) ∧ decide (0 ≤ r) = xs.any g) ∧ Below w.heap.size w w' := by
  obtain ⟨A, c, rfl, -, -⟩ := hx.shape
  have HX := Lib.hid hx
  have HF := Lib.hid hf
  clear hx hf
  go_enter Try.func99, Try.ntmps99
  go_wp2
  go_loopw [8] (fun i wr => ∃ j : Nat, i = .int .i64 (j : Nat) ∧ j ≤ xs.length ∧ Hid (∀ q ∈ xs.take j, g q = false) ∧ Hid (Below w.heap.size w wr)) (fun i _ => xs.length - (intOf i).toNat)
  case atStart => exact ⟨0, rfl, Nat.zero_le _, Lib.hid (by simp), Lib.hid (Below.refl _ _)⟩
  case round =>
    obtain ⟨j, rfl, hj, HG, HB⟩ := hrel
    by_cases hlt : j < xs.length
    · obtain ⟨b, off, rfl, hcell⟩ := (HX.out.later HB.out).int_at hlt
      have HM := Lib.hid (List.getElem_mem hlt)
      have HT := Lib.hid (List.take_succ_eq_append_getElem hlt)
      obtain ⟨x, hxx⟩ : ∃ x, xs[j] = x := ⟨_, rfl⟩
      rw [hxx] at hcell HM HT
      clear hxx
      have hc := HF.out x HM.out wr HB.out
      have HC := Lib.hid hc
      clear hc
      cases hg : g x with
      | true =>
        have HGX := Lib.hid hg
        clear hg
        go_wp2_with fail
        refine HC.out.mono ?_
        rintro e w2 ⟨rfl, hb2⟩
        rw [HGX.out]
        go_wp2
        go_ret
        exact ⟨⟨_, rfl, by rw [decide_eq_true (by omega), List.any_eq_true.2 ⟨_, HM.out, HGX.out⟩]⟩, HB.out.trans (hb2.mono HB.out.size)⟩
      | false =>
        have HGX := Lib.hid hg
        clear hg
        go_wp2_with fail
        refine HC.out.mono ?_
        rintro e w2 ⟨rfl, hb2⟩
        rw [HGX.out]
        have HB2 := Lib.hid (HB.out.trans (hb2.mono HB.out.size))
        clear hb2
        go_wp2
        go_roundw
        case rel => exact ⟨j + 1, by go_num, by omega, Lib.hid (by
          rw [HT.out]; intro q hq
          rcases List.mem_append.1 hq with h | h
          · exact HG.out q h
          · simp at h; subst h; exact HGX.out), HB2⟩
        case measure => simp [intOf]; omega
    · obtain rfl : j = xs.length := by omega
      rw [List.take_length] at HG
      go_wp2
      go_ret
      exact ⟨⟨_, rfl, by rw [any_take HG.out]; decide⟩, HB.out⟩

theorem contains_ints (w : World) (v : Value) (xs : List Int) (hx : Row kInt w (fun _ => False) v xs) (hl : xs.length ≤ 1099511627776) (k : Nat) (caps : Array Value) (he : ∀ (args : Array Value) (W : World), (callFunc k args).run Try.prog W = .ok (.enter k args) W) (g : Int → Bool)
    (hf : ∀ x ∈ xs, ∀ W, Below w.heap.size w W → Calls Try.prog k (#[.int .i64 x] ++ caps) W fun e W' => e = .returned (.bool (g x)) ∧ Below W.heap.size W W') :
    Calls Try.prog 84 #[v, .func (.func k) #[] caps] w fun e w' => e = .returned (.bool (xs.any g)) ∧ Below w.heap.size w w' := by
  have HC := Lib.hid (index_ints w v xs hx hl k caps he g hf)
  clear he hf hx
  go_enter Try.func84, Try.ntmps84
  go_wp2_with fail
  refine HC.out.mono ?_
  rintro e w1 ⟨⟨r, rfl, hr⟩, hb⟩
  have HR := Lib.hid hr
  have HB := Lib.hid hb
  clear hr hb
  go_wp2
  go_ret
  exact ⟨by rw [← HR.out]; rfl, HB.out⟩

abbrev portV (A : Option Addr) (c : Nat) (q : Port) : Value := .agg #[.string q.name, .slice A q.bits.length c]
theorem index_ports (w : World) (v : Value) (xs : List Port) (hx : Row kPort w (fun _ => False) v xs) (hl : xs.length ≤ 1099511627776) (k : Nat) (caps : Array Value) (he : ∀ (args : Array Value) (W : World), (callFunc k args).run Try.prog W = .ok (.enter k args) W) (g : Port → Bool)
    (hf : ∀ q ∈ xs, ∀ W A c, Below w.heap.size w W → Row kInt W (fun _ => False) (.slice A q.bits.length c) q.bits → Calls Try.prog k (#[portV A c q] ++ caps) W fun e W' => e = .returned (.bool (g q)) ∧ Below W.heap.size W W') :
    Calls Try.prog 86 #[v, .func (.func k) #[] caps] w fun e w' => (∃ r : Int, e = .returned (.int .i64 r) ∧ decide (0 ≤ r) = xs.any g) ∧ Below w.heap.size w w' := by
  obtain ⟨A, c, rfl, -, -⟩ := hx.shape
  have HX := Lib.hid hx
  have HF := Lib.hid hf
  clear hx hf
  go_enter Try.func86, Try.ntmps86
  go_wp2
  go_loopw [8] (fun i wr => ∃ j : Nat, i = .int .i64 (j : Nat) ∧ j ≤ xs.length ∧ Hid (∀ q ∈ xs.take j, g q = false) ∧ Hid (Below w.heap.size w wr)) (fun i _ => xs.length - (intOf i).toNat)
  case atStart => exact ⟨0, rfl, Nat.zero_le _, Lib.hid (by simp), Lib.hid (Below.refl _ _)⟩
  case round =>
    obtain ⟨j, rfl, hj, HG, HB⟩ := hrel
    by_cases hlt : j < xs.length
    · obtain ⟨b, off, A3, d3, rfl, y0, y1, hbits⟩ := (HX.out.later HB.out).port_at hlt
      have HM := Lib.hid (List.getElem_mem hlt)
      have HT := Lib.hid (List.take_succ_eq_append_getElem hlt)
      obtain ⟨x, hxx⟩ : ∃ x, xs[j] = x := ⟨_, rfl⟩
      rw [hxx] at y0 y1 hbits HM HT
      clear hxx
      have hc := HF.out x HM.out wr A3 d3 HB.out hbits
      have HC := Lib.hid hc
      clear hc hbits
      cases hg : g x with
      | true =>
        have HGX := Lib.hid hg
        clear hg
        go_wp2_with fail
        refine HC.out.mono ?_
        rintro e w2 ⟨rfl, hb2⟩
        rw [HGX.out]
        go_wp2
        go_ret
        exact ⟨⟨_, rfl, by rw [decide_eq_true (by omega), List.any_eq_true.2 ⟨_, HM.out, HGX.out⟩]⟩, HB.out.trans (hb2.mono HB.out.size)⟩
      | false =>
        have HGX := Lib.hid hg
        clear hg
        go_wp2_with fail
        refine HC.out.mono ?_
        rintro e w2 ⟨rfl, hb2⟩
        rw [HGX.out]
        have HB2 := Lib.hid (HB.out.trans (hb2.mono HB.out.size))
        clear hb2
        go_wp2
        go_roundw
        case rel => exact ⟨j + 1, by go_num, by omega, Lib.hid (by
          rw [HT.out]; intro q hq
          rcases List.mem_append.1 hq with h | h
          · exact HG.out q h
          · simp at h; subst h; exact HGX.out), HB2⟩
        case measure => simp [intOf]; omega
    · obtain rfl : j = xs.length := by omega
      rw [List.take_length] at HG
      go_wp2
      go_ret
      exact ⟨⟨_, rfl, by rw [any_take HG.out]; decide⟩, HB.out⟩

theorem contains_ports (w : World) (v : Value) (xs : List Port) (hx : Row kPort w (fun _ => False) v xs) (hl : xs.length ≤ 1099511627776) (k : Nat) (caps : Array Value) (he : ∀ (args : Array Value) (W : World), (callFunc k args).run Try.prog W = .ok (.enter k args) W) (g : Port → Bool)
    (hf : ∀ q ∈ xs, ∀ W A c, Below w.heap.size w W → Row kInt W (fun _ => False) (.slice A q.bits.length c) q.bits → Calls Try.prog k (#[portV A c q] ++ caps) W fun e W' => e = .returned (.bool (g q)) ∧ Below W.heap.size W W') :
    Calls Try.prog 50 #[v, .func (.func k) #[] caps] w fun e w' => e = .returned (.bool (xs.any g)) ∧ Below w.heap.size w w' := by
  have HC := Lib.hid (index_ports w v xs hx hl k caps he g hf)
  clear he hf hx
  go_enter Try.func50, Try.ntmps50
  go_wp2_with fail
  refine HC.out.mono ?_
  rintro e w1 ⟨⟨r, rfl, hr⟩, hb⟩
  have HR := Lib.hid hr
  have HB := Lib.hid hb
  clear hr hb
  go_wp2
  go_ret
  exact ⟨by rw [← HR.out]; rfl, HB.out⟩

set_option maxRecDepth 100000 in
/-- all ports -/
theorem ports_net (w : World) (v : Value) (nodes : List Node) (ins outs : List Port) (hN : NetV w v nodes ins outs) (hi : ins.length ≤ 1073741824) (ho : outs.length ≤ 1073741824) :
    Calls Try.prog 51 #[v] w fun e w' => ∃ v', e = .returned v' ∧ Row kPort w' (fun _ => False) v' (ins ++ outs) ∧ Below w.heap.size w w' := by
  obtain ⟨vn, vi, vo, rfl, hn, hpi, hpo⟩ := hN
  obtain ⟨An, cn, rfl, -, -⟩ := hn.shape
  obtain ⟨Ai, ci, rfl, -, -⟩ := hpi.shape
  obtain ⟨Ao, co, rfl, -, -⟩ := hpo.shape
  have hb1 : Below w.heap.size w (w.alloc (netBox (.slice An nodes.length cn) (.slice Ai ins.length ci) (.slice Ao outs.length co))) := (Below.refl _ _).alloc (Nat.le_refl _) _
  have hlit := lit_row (k := kPort) (S := fun _ => False) 23 (w.alloc (netBox (.slice An nodes.length cn) (.slice Ai ins.length ci) (.slice Ao outs.length co))) [ins, outs] [.slice Ai ins.length ci, .slice Ao outs.length co] rfl (by simp) (fun i x v hx hv => by
    match i, hx, hv with
    | 0, hx, hv => simp at hx hv; subst hx; subst hv; exact hpi.later hb1
    | 1, hx, hv => simp at hx hv; subst hx; subst hv; exact hpo.later hb1) (fun _ h => h.elim)
  have hb2 := hb1.alloc (by simp) (.cells [.slice Ai ins.length ci, .slice Ao outs.length co].toArray 23)
  simp only [List.length_cons, List.length_nil, Nat.zero_add, Nat.reduceAdd, World.size_alloc] at hlit
  have HL := Lib.hid hlit
  have HB2 := Lib.hid hb2
  have hs1 : [ins, outs].length ≤ 4294967296 := by show 2 ≤ 4294967296; omega
  have hs2 : [ins, outs].flatten.length ≤ 1099511627776 := by
    have e : [ins, outs].flatten.length = ins.length + outs.length := by simp
    omega
  clear hlit hb1 hb2 hn hpi hpo
  have HS1 := Lib.hid hs1
  have HS2 := Lib.hid hs2
  clear hs1 hs2
  go_enter Try.func51, Try.ntmps51
  go_wp2_with fail
  refine (concat_ports _ _ [ins, outs] HL.out HS1.out HS2.out).mono ?_
  rintro e w1 ⟨v1, rfl, hr, hb⟩
  have HR := Lib.hid hr
  have HB := Lib.hid (HB2.out.trans (hb.mono HB2.out.size))
  clear hr hb
  go_wp2
  go_ret
  exact ⟨v1, rfl, by have := HR.out; simpa using this, HB.out⟩
end Go.Proofs.Ytbfjacgfifecpaa
