/- Nets and scripts that came in, of bounded bulk. -/
import Derived.Test.YtbfjacgfifecpaaBindNet
import Derived.Test.YtbfjacgfifecpaaSiJ
import Derived.JoinedCond
namespace Go.Proofs.Ytbfjacgfifecpaa
open Go.ChangeShapes Go.WideShapes Go.ChangeAt Go.RowKit

section
variable {H : Type} {enc : TypeId × Value → H} {W : World}
theorem le_sum {n : Nat} : ∀ {l : List Nat}, n ∈ l → n ≤ l.sum
  | [], h => by simp at h
  | a :: l, h => by
    rw [List.sum_cons]
    rcases List.mem_cons.1 h with rfl | h
    · omega
    · have := le_sum h; omega
theorem bulk_pos (d : DataW H) : 1 ≤ Rows.uptoBulk d := by
  cases d with
  | lit x => cases x <;> simp [Rows.uptoBulk]
  | _ => simp [Rows.uptoBulk]
theorem bulkAll_ge {α : Type} {g : α → Nat} : ∀ (xs : List α) (ds : List (DataW H)), ds.length = xs.length → (∀ (i : Nat) x, xs[i]? = some x → ∃ d, ds[i]? = some d ∧ g x ≤ Rows.uptoBulk d) → (xs.map g).sum ≤ Rows.uptoBulkAll ds
  | [], ds, _, _ => by simp
  | x :: xs, [], h, _ => by simp at h
  | x :: xs, d :: ds, h, hq => by
    obtain ⟨d', hd', hg⟩ := hq 0 x rfl
    simp at hd'
    subst hd'
    have := bulkAll_ge xs ds (by simpa using h) fun i y hy => by
      obtain ⟨d'', h1, h2⟩ := hq (i + 1) y (by simpa using hy)
      exact ⟨d'', by simpa using h1, h2⟩
    rw [List.map_cons, List.sum_cons, Rows.uptoBulkAll]
    omega
theorem bulkAll_len : ∀ (ds : List (DataW H)), ds.length ≤ Rows.uptoBulkAll ds
  | [] => by simp
  | d :: ds => by
    have h1 := bulk_pos d
    have h2 := bulkAll_len ds
    rw [List.length_cons, Rows.uptoBulkAll]
    omega
theorem bulk_row {α : Type} {Q : α → DataW H → Prop} {g : α → Nat} {xs : List α} {y : DataW H} (h : (xs = [] ∧ y = .nil) ∨ ∃ ds rest, y = .slice ds rest ∧ ds.length = xs.length ∧ ∀ (i : Nat) x, xs[i]? = some x → ∃ d, ds[i]? = some d ∧ Q x d) (hg : ∀ x d, Q x d → g x ≤ Rows.uptoBulk d) :
    (xs.map g).sum + 1 ≤ Rows.uptoBulk y ∧ ∀ x ∈ xs, ∃ d, Q x d := by
  rcases h with ⟨rfl, rfl⟩ | ⟨ds, rest, rfl, hl, hq⟩
  · exact ⟨by simp [Rows.uptoBulk], fun x hx => by simp at hx⟩
  · refine ⟨?_, fun x hx => ?_⟩
    · have h1 := bulkAll_ge xs ds hl fun i x hx => by
        obtain ⟨d, h1, h2⟩ := hq i x hx
        exact ⟨d, h1, hg x d h2⟩
      rw [Rows.uptoBulk]
      omega
    · obtain ⟨i, hi, rfl⟩ := List.mem_iff_getElem.1 hx
      obtain ⟨d, h1, h2⟩ := hq i _ (List.getElem?_eq_getElem hi)
      exact ⟨d, h2⟩
theorem port_bulk {q : Port} {d : DataW H} (h : PortD q d) : q.bits.length + q.name.size ≤ Rows.uptoBulk d := by
  obtain ⟨db, rfl, hb⟩ := h
  have hs : q.name.size = q.name.data.toList.length := by rw [Array.length_toList]; rfl
  simp only [Rows.uptoBulk, Rows.uptoBulkAll]
  rcases hb with ⟨e, rfl⟩ | ⟨ds, rest, rfl, hl⟩
  · rw [e, List.length_nil, hs]; omega
  · have := bulkAll_len ds
    simp only [Rows.uptoBulk]
    omega
theorem ports_bulk {ps : List Port} {y : DataW H} (hd : (ps = [] ∧ y = .nil) ∨ ∃ ds rest, y = .slice ds rest ∧ ds.length = ps.length ∧ ∀ (i : Nat) x, ps[i]? = some x → ∃ d, ds[i]? = some d ∧ PortD x d) : ∀ q ∈ ps, q.bits.length + q.name.size ≤ Rows.uptoBulk y := by
  have h := (bulk_row (g := fun q => q.bits.length + q.name.size) hd fun x d h => port_bulk h).1
  intro q hq
  have : q.bits.length + q.name.size ≤ (ps.map fun q => q.bits.length + q.name.size).sum := le_sum (List.mem_map.2 ⟨q, hq, rfl⟩)
  omega
set_option maxRecDepth 100000 in
/-- a net that came in: its ports are within the bulk -/
theorem bind_netU {v : Value} {d : DataW H} {p : List MemPlace} {r : Reach} {b0 : Nat} (hv : Value.okWide Try.prog W r b0 25 v) (h : DataW.Trod enc Try.prog W 0 (fun _ => true) true 25 v d p) :
    ∃ nodes ins outs, NetV W v nodes ins outs ∧ ∀ q ∈ ins ++ outs, q.bits.length + q.name.size ≤ Rows.uptoBulk d := by
  obtain ⟨v0, v1, v2, y0, y1, y2, n, rfl, rfl, -, h0, h1, h2⟩ := Go.Joins.open_agg3 Try.underlying25 (by kernel_rfl) (by kernel_rfl) hv h
  obtain ⟨A0, l0, c0, nodes, e0, r0, rfl, -⟩ := bind_row kNode Try.underlying22 cells_node (by decide) (fun _ _ => True) el_node h0
  obtain ⟨A1, l1, c1, ins, e1, r1, rfl, d1⟩ := bind_row kPort Try.underlying23 cells_port (by decide) PortD el_port h1
  obtain ⟨A2, l2, c2, outs, e2, r2, rfl, d2⟩ := bind_row kPort Try.underlying23 cells_port (by decide) PortD el_port h2
  injection e0 with e0; injection e1 with e1; injection e2 with e2
  subst e0; subst e1; subst e2
  refine ⟨nodes, ins, outs, ⟨_, _, _, rfl, r0, r1, r2⟩, fun q hq => ?_⟩
  simp only [Rows.uptoBulk, Rows.uptoBulkAll]
  rcases List.mem_append.1 hq with hq | hq
  · have := ports_bulk d1 q hq; omega
  · have := ports_bulk d2 q hq; omega

/-! ### scripts -/
theorem u32_wf {n : Int} (h : (Lit.int .u32 n).wf = true) : 0 ≤ n ∧ n < 4294967296 := by have := bounds_u32 h; omega
theorem cells_u32 : Try.prog.cellsOf 131 = 1 := by kernel_rfl
theorem cells_nat : Try.prog.cellsOf 115 = 1 := by kernel_rfl
theorem cells_nats : Try.prog.cellsOf 94 = 1 := by kernel_rfl
def PartD (x : Int) (_ : DataW H) : Prop := 0 ≤ x ∧ x < 4294967296
def NumD (xs : List Int) (d : DataW H) : Prop := okParts xs ∧ xs.length + 1 ≤ Rows.uptoBulk d
def RowD (r : List (List Int)) (d : DataW H) : Prop := (∀ xs ∈ r, okParts xs) ∧ rowN r + 1 ≤ Rows.uptoBulk d
theorem el_u32 (n : Nat) (cs : List Value) (y : DataW H × List MemPlace) (h : Rd enc W n 131 cs y) (_ : cs.length = (kNum .u32).size) : ∃ x, (kNum .u32).K W (fun _ => False) x cs ∧ PartD x y.1 := by
  obtain ⟨a, e0, -, hw⟩ := DataW.trod_int Try.underlying131 h
  exact ⟨a, e0, u32_wf hw⟩
theorem sum_ones {α : Type} (xs : List α) : (xs.map fun _ => 1).sum = xs.length := by
  induction xs with
  | nil => rfl
  | cons x xs ih => rw [List.map_cons, List.sum_cons, ih, List.length_cons]; omega
theorem el_nat (n : Nat) (cs : List Value) (y : DataW H × List MemPlace) (h : Rd enc W n 115 cs y) (_ : cs.length = (kRow (kNum .u32)).size) : ∃ x, (kRow (kNum .u32)).K W (fun _ => False) x cs ∧ NumD x y.1 := by
  obtain ⟨A, len, cap, xs, e1, hrow, -, hd⟩ := bind_row (kNum .u32) Try.underlying115 cells_u32 Nat.zero_lt_one PartD el_u32 h
  obtain ⟨h1, h2⟩ := bulk_row (g := fun _ => 1) hd fun _ d _ => bulk_pos d
  rw [sum_ones] at h1
  exact ⟨xs, ⟨_, e1, hrow⟩, fun x hx => by obtain ⟨d, h⟩ := h2 x hx; exact h, h1⟩
theorem el_nats (n : Nat) (cs : List Value) (y : DataW H × List MemPlace) (h : Rd enc W n 94 cs y) (_ : cs.length = (kRow (kRow (kNum .u32))).size) : ∃ x, (kRow (kRow (kNum .u32))).K W (fun _ => False) x cs ∧ RowD x y.1 := by
  obtain ⟨A, len, cap, xs, e1, hrow, -, hd⟩ := bind_row (kRow (kNum .u32)) Try.underlying94 cells_nat Nat.zero_lt_one NumD el_nat h
  obtain ⟨h1, h2⟩ := bulk_row (g := fun xs => xs.length + 1) hd fun _ d h => h.2
  exact ⟨xs, ⟨_, e1, hrow⟩, fun x hx => by obtain ⟨d, h⟩ := h2 x hx; exact h.1, h1⟩
set_option maxRecDepth 100000 in
/-- a script that came in -/
theorem bind_script {v : Value} {d : DataW H} {p : List MemPlace} {r : Reach} {b0 : Nat} (hv : Value.okWide Try.prog W r b0 55 v) (h : DataW.Trod enc Try.prog W 0 (fun _ => true) true 55 v d p) (hb : Rows.uptoBulk d ≤ 1048576) :
    ∃ s, Row (kRow (kRow (kNum .u32))) W (fun _ => False) v s ∧ ScrN s := by
  obtain ⟨a, len, cap, rfl⟩ := okWide_slice Try.underlying55 hv
  obtain ⟨fuel, hf⟩ := h
  obtain ⟨A, len', cap', s, e1, hrow, -, hd⟩ := bind_row (kRow (kRow (kNum .u32))) Try.underlying55 cells_nats Nat.zero_lt_one RowD el_nats hf
  have e1 : Value.slice a len cap = Value.slice A len' cap' := by simpa [Value.cells] using e1
  rw [← e1] at hrow
  obtain ⟨h1, h2⟩ := bulk_row (g := fun r => rowN r + 1) hd fun _ d h => h.2
  have hs1 : s.length ≤ (s.map fun r => rowN r + 1).sum := by
    clear h1 h2 hrow hd
    induction s with
    | nil => simp
    | cons x s ih => rw [List.map_cons, List.sum_cons, List.length_cons]; omega
  have hs2 : scriptN s ≤ (s.map fun r => rowN r + 1).sum := by
    clear h1 h2 hrow hd hs1
    unfold scriptN
    induction s with
    | nil => simp
    | cons x s ih => rw [List.map_cons, List.map_cons, List.sum_cons, List.sum_cons]; omega
  have hr : ∀ x ∈ s, rowN x ≤ 1048576 := fun x hx => by
    have : rowN x + 1 ≤ (s.map fun r => rowN r + 1).sum := le_sum (List.mem_map.2 ⟨x, hx, rfl⟩)
    simp only at h1
    omega
  have hl : ∀ x : List (List Int), x.length ≤ rowN x ∧ ∀ xs ∈ x, xs.length ≤ rowN x := fun x => by
    unfold rowN
    refine ⟨?_, fun xs hxs => ?_⟩
    · induction x with
      | nil => simp
      | cons y x ih => rw [List.map_cons, List.sum_cons, List.length_cons]; omega
    · have : xs.length + 1 ≤ (x.map fun x => x.length + 1).sum := le_sum (List.mem_map.2 ⟨xs, hxs, rfl⟩)
      omega
  simp only at h1
  refine ⟨s, hrow, by omega, fun x hx => ?_, fun x hx xs hxs => ⟨?_, ?_⟩, by omega⟩
  · have := hr x hx; have := (hl x).1; omega
  · obtain ⟨d', h⟩ := h2 x hx
    exact h.1 xs hxs
  · have := hr x hx; have := (hl x).2 xs hxs; omega
end
end Go.Proofs.Ytbfjacgfifecpaa
