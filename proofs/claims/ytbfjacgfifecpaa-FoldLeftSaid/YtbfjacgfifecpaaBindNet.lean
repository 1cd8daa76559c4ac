/- Nets that came in. -/
import Derived.Test.YtbfjacgfifecpaaKBind
import Derived.Test.YtbfjacgfifecpaaKR07
import Derived.Deep.Strs
import Derived.Lib.SmallJoins
import Derived.ChangeArms
namespace Go.Proofs.Ytbfjacgfifecpaa
open Go.ChangeShapes Go.WideShapes Go.ChangeAt Go.RowKit

theorem spot_none {W : World} {a : Addr} {v : Value} (h : W.cell? a = some v) : ∃ b off, a = ⟨b, off, none⟩ := by
  obtain ⟨b, off, spot⟩ := a
  have := World.cell?_spot h
  subst this
  exact ⟨b, off, rfl⟩
theorem add_plain' (b off j : Nat) : (⟨b, off, none⟩ : Addr).add j = ⟨b, off + j, none⟩ := by unfold Addr.add; split <;> simp_all
theorem flat_get {c : Nat} (_hc : 0 < c) : ∀ (css : List (List Value)), (∀ cs ∈ css, cs.length = c) → ∀ (j : Nat) (u : Value), css.flatten[j]? = some u → ∃ i k cs, j = i * c + k ∧ k < c ∧ css[i]? = some cs ∧ cs[k]? = some u := by
  intro css
  induction css with
  | nil => intro _ j u h; simp at h
  | cons x css ih =>
    intro hl j u h
    rw [List.flatten_cons, List.getElem?_append] at h
    have hx := hl x List.mem_cons_self
    split at h
    · rename_i hj
      exact ⟨0, j, x, by simp, by omega, rfl, h⟩
    · rename_i hj
      obtain ⟨i, k, cs, e, hk, h1, h2⟩ := ih (fun cs hcs => hl cs (List.mem_cons_of_mem _ hcs)) _ u h
      refine ⟨i + 1, k, cs, ?_, hk, by simpa using h1, h2⟩
      rw [Nat.add_mul, Nat.one_mul]
      omega
theorem pick_list {α : Type} {Q : Nat → α → Prop} : ∀ n : Nat, (∀ i, i < n → ∃ x, Q i x) → ∃ xs : List α, xs.length = n ∧ ∀ i x, xs[i]? = some x → Q i x := by
  intro n
  induction n with
  | zero => intro _; exact ⟨[], rfl, fun i x h => by simp at h⟩
  | succ n ih =>
    intro h
    obtain ⟨xs, h1, h2⟩ := ih fun i hi => h i (by omega)
    obtain ⟨x, hx⟩ := h n (by omega)
    refine ⟨xs ++ [x], by simp [h1], fun i y hy => ?_⟩
    rw [List.getElem?_append] at hy
    split at hy
    · exact h2 i y hy
    · rename_i hi
      have hl := (List.getElem?_eq_some_iff.1 hy).1
      simp at hl
      have : i = n := by omega
      subst this
      rw [h1, Nat.sub_self] at hy
      simp at hy
      subst hy
      exact hx

section
variable {H : Type} {enc : TypeId × Value → H} {W : World}
abbrev Rd (enc : TypeId × Value → H) (W : World) (n : Nat) (t : TypeId) (cs : List Value) (y : DataW H × List MemPlace) : Prop := DataW.trod enc Try.prog W 0 (fun _ => true) true n t cs = some y
theorem bind_row {α : Type} (k : Kd α) {t e : TypeId} (ht : Try.prog.underlying t = some (.slice e)) (hc : Try.prog.cellsOf e = k.size) (hk : 0 < k.size) (Q : α → DataW H → Prop)
    (hel : ∀ n cs y, Rd enc W n e cs y → cs.length = k.size → ∃ x, k.K W (fun _ => False) x cs ∧ Q x y.1) {fuel : Nat} {cs : List Value} {y : DataW H × List MemPlace} (hf : Rd enc W fuel t cs y) :
    ∃ A len cap xs, cs = [.slice A len cap] ∧ Row k W (fun _ => False) (.slice A len cap) xs ∧ len = xs.length ∧ ((xs = [] ∧ y.1 = .nil) ∨ ∃ ds rest, y.1 = .slice ds rest ∧ ds.length = xs.length ∧ ∀ (i : Nat) x, xs[i]? = some x → ∃ d, ds[i]? = some d ∧ Q x d) := by
  rcases DataW.trod_slice ht hf with ⟨rfl, rfl⟩ | ⟨a, len, cap, elems, rest, n, rfl, rfl, rfl, hb, hl, hm, hlen, hat, -, -⟩
  · exact ⟨none, 0, 0, [], rfl, ⟨none, 0, [], rfl, Nat.le_refl _, by simp [maxLen], fun _ => rfl, Pairs.nil _ _ _, fun h => by simp at h⟩, rfl, .inl ⟨rfl, rfl⟩⟩
  · have hone : ∀ i, i < len → ∃ p : α × List Value, (∃ d : DataW H × List MemPlace, elems[i]? = some d ∧ Q p.1 d.1) ∧ k.K W (fun _ => False) p.1 p.2 ∧ p.2.length = k.size ∧ ∀ j, j < k.size → W.cell? ((a.add (i * k.size)).add j) = p.2[j]? := by
      intro i hi
      have h := hat i hi
      rw [hc] at h
      have hs : ∃ d, elems[i]? = some d := ⟨_, List.getElem?_eq_getElem (by omega)⟩
      obtain ⟨d, hd⟩ := hs
      rw [hd] at h
      obtain ⟨cs, h1, h2⟩ := Option.bind_eq_some_iff.1 h
      obtain ⟨-, q2, q3⟩ := World.cells?_some h1
      obtain ⟨x, hx1, hx2⟩ := hel n cs d h2 q2
      exact ⟨(x, cs), ⟨d, hd, hx2⟩, hx1, q2, q3⟩
    obtain ⟨ps, hp1, hp2⟩ := pick_list len hone
    refine ⟨some a, len, cap, ps.map (·.1), rfl, ⟨some a, cap, ps.map (·.2), by rw [List.length_map, hp1], by rw [List.length_map, hp1]; exact hl, hm, (fun h => nomatch h), ⟨by simp, fun i x cs hx hcs => ?_⟩, fun hn => ?_⟩, by rw [List.length_map, hp1], .inr ⟨elems.map (·.1), rest.map (·.1), rfl, by rw [List.length_map, List.length_map, hp1, hlen], fun i x hx => ?_⟩⟩
    · rw [List.getElem?_map] at hx hcs
      obtain ⟨p, hp, rfl⟩ := Option.map_eq_some_iff.1 hx
      rw [hp] at hcs
      injection hcs with hcs
      subst hcs
      exact (hp2 i p hp).2.1
    · rw [List.length_map] at hn
      obtain ⟨-, -, g2, g3⟩ := hp2 0 ps[0] (List.getElem?_eq_getElem hn)
      have h0 := g3 0 hk
      rw [List.getElem?_eq_getElem (by omega)] at h0
      rw [show (a.add (0 * k.size)).add 0 = a by simp [Addr.add]] at h0
      obtain ⟨b, off, rfl⟩ := spot_none h0
      refine ⟨b, off, rfl, World.block_lt_of_cell? _ _ h0, fun h => h, fun j u hu => ?_⟩
      obtain ⟨i, m, cs, rfl, hmk, hi, hu2⟩ := flat_get hk (ps.map (·.2)) (fun cs hcs => by
        obtain ⟨p, hp, rfl⟩ := List.mem_map.1 hcs
        obtain ⟨i, hi, rfl⟩ := List.mem_iff_getElem.1 hp
        exact (hp2 i _ (List.getElem?_eq_getElem hi)).2.2.1) j u hu
      rw [List.getElem?_map] at hi
      obtain ⟨p, hp, rfl⟩ := Option.map_eq_some_iff.1 hi
      have := (hp2 i p hp).2.2.2 m hmk
      rw [add_plain', add_plain', Nat.add_assoc] at this
      rw [this, hu2]
    · rw [List.getElem?_map] at hx
      obtain ⟨p, hp, rfl⟩ := Option.map_eq_some_iff.1 hx
      obtain ⟨⟨d, hd, hq⟩, -⟩ := hp2 i p hp
      exact ⟨d.1, by rw [List.getElem?_map, hd]; rfl, hq⟩
theorem cells_int : Try.prog.cellsOf 3 = 1 := by kernel_rfl
theorem cells_node : Try.prog.cellsOf 38 = 4 := by kernel_rfl
theorem cells_port : Try.prog.cellsOf 53 = 2 := by kernel_rfl
theorem cells_str : Try.prog.cellsOf 9 = 1 := by kernel_rfl
theorem cells_ints : Try.prog.cellsOf 28 = 1 := by kernel_rfl
theorem el_int (n : Nat) (cs : List Value) (y : DataW H × List MemPlace) (h : Rd enc W n 3 cs y) (_ : cs.length = kInt.size) : ∃ x, kInt.K W (fun _ => False) x cs ∧ True := by
  obtain ⟨a, e0, -, -⟩ := DataW.trod_int Try.underlying3 h
  exact ⟨a, e0, trivial⟩
theorem list4 {α : Type} {cs : List α} (h : cs.length = 4) : ∃ a b c d, cs = [a, b, c, d] := by
  match cs, h with
  | [a, b, c, d], _ => exact ⟨a, b, c, d, rfl⟩
theorem list2 {α : Type} {cs : List α} (h : cs.length = 2) : ∃ a b, cs = [a, b] := by
  match cs, h with
  | [a, b], _ => exact ⟨a, b, rfl⟩
theorem el_node (n : Nat) (cs : List Value) (y : DataW H × List MemPlace) (h : Rd enc W n 38 cs y) (hl : cs.length = kNode.size) : ∃ x, kNode.K W (fun _ => False) x cs ∧ True := by
  obtain ⟨c0, c1, c2, c3, rfl⟩ := list4 hl
  obtain ⟨y0, y1, y2, y3, m, -, -, h0, h1, h2, h3⟩ := Go.Joins.trod_struct4 Try.underlying38 h
  simp only [cells_int, List.drop_zero, List.take_succ_cons, List.take_zero, List.drop_succ_cons] at h0 h1 h2 h3
  obtain ⟨a0, e0, -, -⟩ := DataW.trod_int Try.underlying3 h0
  obtain ⟨a1, e1, -, -⟩ := DataW.trod_int Try.underlying3 h1
  obtain ⟨a2, e2, -, -⟩ := DataW.trod_int Try.underlying3 h2
  obtain ⟨a3, e3, -, -⟩ := DataW.trod_int Try.underlying3 h3
  injection e0 with e0; injection e1 with e1; injection e2 with e2; injection e3 with e3
  subst e0; subst e1; subst e2; subst e3
  exact ⟨⟨a0, a1, a2, a3⟩, rfl, trivial⟩
/-- a port and what it reads as -/
def PortD (q : Port) (d : DataW H) : Prop := ∃ db, d = .agg [.lit (.string q.name.data.toList), db] ∧ ((q.bits = [] ∧ db = .nil) ∨ ∃ ds rest, db = .slice ds rest ∧ ds.length = q.bits.length)
theorem el_port (n : Nat) (cs : List Value) (y : DataW H × List MemPlace) (h : Rd enc W n 53 cs y) (hl : cs.length = kPort.size) : ∃ x, kPort.K W (fun _ => False) x cs ∧ PortD x y.1 := by
  obtain ⟨c0, c1, rfl⟩ := list2 hl
  obtain ⟨y0, y1, m, rfl, -, h0, h1⟩ := trod_struct2 Try.underlying53 h
  simp only [cells_str, cells_ints, List.drop_zero, List.take_succ_cons, List.take_zero, List.drop_succ_cons] at h0 h1
  obtain ⟨s, e0, hy0, -⟩ := DataW.trod_string Try.underlying9 h0
  injection e0 with e0
  subst e0
  obtain ⟨A, len, cap, bits, e1, hrow, -, hd⟩ := bind_row kInt Try.underlying28 cells_int Nat.zero_lt_one (fun _ _ => True) el_int h1
  injection e1 with e1
  subst e1
  refine ⟨⟨s, bits⟩, ⟨_, rfl, hrow⟩, y1.1, by rw [hy0], ?_⟩
  rcases hd with h | ⟨ds, rest, h1, h2, -⟩
  · exact .inl h
  · exact .inr ⟨ds, rest, h1, h2⟩
theorem mem_weightsAll {P : Program} {e : TypeId} : ∀ {ds : List (DataW H)} {i : Nat} {d : DataW H}, ds[i]? = some d → ∀ n ∈ d.weights P e, n ∈ DataW.weightsAll P e ds
  | [], _, _, h, _, _ => by simp at h
  | x :: ds, 0, d, h, n, hn => by
    simp at h; subst h
    rw [DataW.weightsAll]
    exact List.mem_append_left _ hn
  | x :: ds, i + 1, d, h, n, hn => by
    rw [DataW.weightsAll]
    exact List.mem_append_right _ (mem_weightsAll (by simpa using h) n hn)
theorem port_weight {q : Port} {d : DataW H} (h : PortD q d) (hw : ∀ n ∈ d.weights Try.prog 53, n ≤ reachBytes) : q.bits.length + q.name.size ≤ 281474976710656 := by
  obtain ⟨db, rfl, hb⟩ := h
  have h1 := hw q.name.data.toList.length (by simp [DataW.weights, DataW.weightsEach, Try.underlying53])
  have hr : reachBytes < 140737488355328 := by decide
  have hs : q.name.size = q.name.data.toList.length := by rw [Array.length_toList]; rfl
  rcases hb with ⟨e, -⟩ | ⟨ds, rest, rfl, hl⟩
  · rw [e, List.length_nil, hs]
    omega
  · have h2 := hw ((ds.length + rest.length) * Try.prog.bytesOf 3) (by simp [DataW.weights, DataW.weightsEach, Try.underlying53, Try.underlying28])
    rw [show Try.prog.bytesOf 3 = 8 by kernel_rfl] at h2
    omega
set_option maxRecDepth 100000 in
/-- a net that came in: each port within reach -/
theorem bind_net {v : Value} {d : DataW H} {p : List MemPlace} {r : Reach} {b0 : Nat} (hv : Value.okWide Try.prog W r b0 25 v) (h : DataW.Trod enc Try.prog W 0 (fun _ => true) true 25 v d p) (hw : ∀ n ∈ d.weights Try.prog 25, n ≤ reachBytes) :
    ∃ nodes ins outs, NetV W v nodes ins outs ∧ ∀ q ∈ ins ++ outs, q.bits.length + q.name.size ≤ 281474976710656 := by
  obtain ⟨v0, v1, v2, y0, y1, y2, n, rfl, rfl, -, h0, h1, h2⟩ := Go.Joins.open_agg3 Try.underlying25 (by kernel_rfl) (by kernel_rfl) hv h
  obtain ⟨A0, l0, c0, nodes, e0, r0, rfl, -⟩ := bind_row kNode Try.underlying22 cells_node (by decide) (fun _ _ => True) el_node h0
  obtain ⟨A1, l1, c1, ins, e1, r1, rfl, d1⟩ := bind_row kPort Try.underlying23 cells_port (by decide) PortD el_port h1
  obtain ⟨A2, l2, c2, outs, e2, r2, rfl, d2⟩ := bind_row kPort Try.underlying23 cells_port (by decide) PortD el_port h2
  injection e0 with e0; injection e1 with e1; injection e2 with e2
  subst e0; subst e1; subst e2
  refine ⟨nodes, ins, outs, ⟨_, _, _, rfl, r0, r1, r2⟩, fun q hq => ?_⟩
  have hpart : ∀ (ps : List Port) (y : DataW H), ((ps = [] ∧ y = .nil) ∨ ∃ ds rest, y = .slice ds rest ∧ ds.length = ps.length ∧ ∀ (i : Nat) x, ps[i]? = some x → ∃ d, ds[i]? = some d ∧ PortD x d) → (∀ n ∈ y.weights Try.prog 23, n ≤ reachBytes) → ∀ q ∈ ps, q.bits.length + q.name.size ≤ 281474976710656 := by
    intro ps y hd hy q hq
    rcases hd with ⟨rfl, -⟩ | ⟨ds, rest, rfl, -, hd⟩
    · simp at hq
    · obtain ⟨i, hi, rfl⟩ := List.mem_iff_getElem.1 hq
      obtain ⟨d, hd1, hd2⟩ := hd i _ (List.getElem?_eq_getElem hi)
      refine port_weight hd2 fun n hn => hy n ?_
      have := mem_weightsAll hd1 n hn
      simp only [DataW.weights, Try.underlying23]
      exact List.mem_cons_of_mem _ (List.mem_append_left _ this)
  rcases List.mem_append.1 hq with hq | hq
  · exact hpart ins y1.1 d1 (fun n hn => hw n (by simp [DataW.weights, DataW.weightsEach, Try.underlying25, hn])) q hq
  · exact hpart outs y2.1 d2 (fun n hn => hw n (by simp [DataW.weights, DataW.weightsEach, Try.underlying25, hn])) q hq
end
end Go.Proofs.Ytbfjacgfifecpaa
