/- share.Share: the walk. -/
import Derived.Test.YtbfjacgfifecpaaJShA
import Derived.Test.YtbfjacgfifecpaaSwJ
import Derived.Test.YtbfjacgfifecpaaJNC
import Derived.Deep.CutRange
namespace Go.Proofs.Ytbfjacgfifecpaa
open Go.RowKit Go.Maps

theorem MNode.setCell {w : World} {b n : Nat} {fm : List (Node × Nat)} (h : MNode w b n fm) {X : Nat} (hX : X ≠ b) (j : Nat) (u : Value) : MNode (w.setCell ⟨X, j, none⟩ u) b n fm :=
  h.other (row := some X) ⟨rfl, rfl, rfl, by simp, fun k _ hk => heap_setCell_other _ ⟨X, j, none⟩ k u (fun e => hk (by rw [e]))⟩ (fun e => hX (by injection e with e; exact e.symm))
theorem set4_all {w : World} {g : Nat} {x0 x1 x2 x3 u0 u1 u2 u3 : Value} (h0 : w.cell? ⟨g, 0, none⟩ = some u0) (h1 : w.cell? ⟨g, 1, none⟩ = some u1) (h2 : w.cell? ⟨g, 2, none⟩ = some u2) (h3 : w.cell? ⟨g, 3, none⟩ = some u3) :
    ((((w.setCell ⟨g, 0, none⟩ x0).setCell ⟨g, 1, none⟩ x1).setCell ⟨g, 2, none⟩ x2).setCell ⟨g, 3, none⟩ x3).cell? ⟨g, 0, none⟩ = some x0 ∧ ((((w.setCell ⟨g, 0, none⟩ x0).setCell ⟨g, 1, none⟩ x1).setCell ⟨g, 2, none⟩ x2).setCell ⟨g, 3, none⟩ x3).cell? ⟨g, 1, none⟩ = some x1 ∧ ((((w.setCell ⟨g, 0, none⟩ x0).setCell ⟨g, 1, none⟩ x1).setCell ⟨g, 2, none⟩ x2).setCell ⟨g, 3, none⟩ x3).cell? ⟨g, 2, none⟩ = some x2 ∧ ((((w.setCell ⟨g, 0, none⟩ x0).setCell ⟨g, 1, none⟩ x1).setCell ⟨g, 2, none⟩ x2).setCell ⟨g, 3, none⟩ x3).cell? ⟨g, 3, none⟩ = some x3 := by
  obtain ⟨s0, s1, s2, s3⟩ := set4_cells (x0 := x0) (x1 := x1) (x2 := x2) (x3 := x3) h0 h1 h2 h3
  have ne : ∀ i j : Nat, i ≠ j → (⟨g, i, none⟩ : Addr) ≠ ⟨g, j, none⟩ := fun i j hij h => by injection h with _ h; exact hij h
  refine ⟨?_, ?_, ?_, s3⟩
  · rw [World.cell?_setCell_other (h := ne 3 0 (by omega)), World.cell?_setCell_other (h := ne 2 0 (by omega)), World.cell?_setCell_other (h := ne 1 0 (by omega))]; exact s0
  · rw [World.cell?_setCell_other (h := ne 3 1 (by omega)), World.cell?_setCell_other (h := ne 2 1 (by omega))]; exact s1
  · rw [World.cell?_setCell_other (h := ne 3 2 (by omega))]; exact s2
theorem cells_set : ∀ (ns : List Node) (a : Nat) (y : Node), a < ns.length → (((((ns.flatMap Node.cells).set (a * 4) (.int .i64 y.kind)).set (a * 4 + 1) (.int .i64 y.a)).set (a * 4 + 2) (.int .i64 y.b)).set (a * 4 + 3) (.int .i64 y.c)) = (ns.set a y).flatMap Node.cells
  | [], a, y, h => by simp at h
  | x :: ns, 0, y, _ => by simp [Node.cells]
  | x :: ns, a + 1, y, h => by
    have ih := cells_set ns a y (by simpa using h)
    have hl : x.cells.length = 4 := rfl
    have e : ∀ j, (a + 1) * 4 + j = x.cells.length + (a * 4 + j) := fun j => by rw [hl]; omega
    have e0 : (a + 1) * 4 = x.cells.length + a * 4 := by rw [hl]; omega
    rw [List.set_cons_succ, List.flatMap_cons, List.flatMap_cons, e0, show x.cells.length + a * 4 + 1 = x.cells.length + (a * 4 + 1) by omega, show x.cells.length + a * 4 + 2 = x.cells.length + (a * 4 + 2) by omega, show x.cells.length + a * 4 + 3 = x.cells.length + (a * 4 + 3) by omega]
    rw [List.set_append_right _ _ (by omega), Nat.add_sub_cancel_left, List.set_append_right _ _ (by omega), Nat.add_sub_cancel_left, List.set_append_right _ _ (by omega), Nat.add_sub_cancel_left, List.set_append_right _ _ (by omega), Nat.add_sub_cancel_left, ih]
abbrev set4 (w : World) (g o : Nat) (y : Node) : World := (((w.setCell ⟨g, o, none⟩ (.int .i64 y.kind)).setCell ⟨g, o + 1, none⟩ (.int .i64 y.a)).setCell ⟨g, o + 2, none⟩ (.int .i64 y.b)).setCell ⟨g, o + 3, none⟩ (.int .i64 y.c)
section
variable {w : World} {B P n G : Nat} {pl : List Int} {vi vo : Value} {ns : List Node} {is' os' : List Port} {vsi vso : List Value} {g c : Nat}
/-- a node is written -/
theorem swV_node (h : Keep w B (swV P n G pl (.slice (some ⟨g, 0, none⟩) ns.length c) ns vi is' vsi vo os' vso)) {a : Nat} (ha : a < ns.length) (y : Node) :
    Keep (set4 w g (a * 4) y) B (swV P n G pl (.slice (some ⟨g, 0, none⟩) ns.length c) (ns.set a y) vi is' vsi vo os' vso) := by
  have h1 := h.store (i := 2) (r := rwNodes (.slice (some ⟨g, 0, none⟩) ns.length c) ns) rfl rfl (a * 4) (.int .i64 y.kind)
  have h2 := h1.store (i := 2) rfl rfl (a * 4 + 1) (.int .i64 y.a)
  have h3 := h2.store (i := 2) rfl rfl (a * 4 + 2) (.int .i64 y.b)
  have h4 := h3.store (i := 2) rfl rfl (a * 4 + 3) (.int .i64 y.c)
  have e : swV P n G pl (.slice (some ⟨g, 0, none⟩) ns.length c) (ns.set a y) vi is' vsi vo os' vso = rwInts 3 (.slice (some ⟨P, 0, none⟩) n n) pl :: rwNet G (.slice (some ⟨g, 0, none⟩) ns.length c) vi vo :: (⟨38, 4, .slice (some ⟨g, 0, none⟩) ns.length c, ns.length, (((((ns.flatMap Node.cells).set (a * 4) (.int .i64 y.kind)).set (a * 4 + 1) (.int .i64 y.a)).set (a * 4 + 2) (.int .i64 y.b)).set (a * 4 + 3) (.int .i64 y.c))⟩ : Rw) :: (ptT vi is' vsi ++ ptT vo os' vso) := by
    rw [cells_set ns a y ha]
    simp [swV, swU]
  rw [e]
  exact h4
theorem swV_nodeAt (h : Keep w B (swV P n G pl (.slice (some ⟨g, 0, none⟩) ns.length c) ns vi is' vsi vo os' vso)) {a : Nat} (ha : a < ns.length) : ∀ j, j < 4 → (∃ u, w.cell? ⟨g, a * 4 + j, none⟩ = some u) ∧ w.frozen? ⟨g, a * 4 + j, none⟩ = false := fun j hj => by
  have hl : a * 4 + j < (ns.flatMap Node.cells).length := by
    have := (h.own 2 _ rfl).1
    dsimp only at this
    rw [this]
    omega
  have hc := h.cell (i := 2) (r := rwNodes (.slice (some ⟨g, 0, none⟩) ns.length c) ns) rfl rfl (j := a * 4 + j) (List.getElem?_eq_getElem hl)
  exact ⟨⟨_, hc.1⟩, hc.2⟩
theorem swV_stand {st : List Nat} (h : Keep w B (swV P n G (nats st) (.slice (some ⟨g, 0, none⟩) ns.length c) ns vi is' vsi vo os' vso)) (a was : Nat) : Keep (w.setCell ⟨P, a, none⟩ (.int .i64 (was : Int))) B (swV P n G (nats (st.set a was)) (.slice (some ⟨g, 0, none⟩) ns.length c) ns vi is' vsi vo os' vso) := by
  have h1 := h.setInt (i := 0) rfl a (was : Int)
  rw [show (nats st).set a (was : Int) = nats (st.set a was) by simp [List.map_set]] at h1
  exact h1
end
theorem swV_stand' {w : World} {B P n G g c m : Nat} {vi vo : Value} {ns : List Node} {is' os' : List Port} {vsi vso : List Value} {st : List Nat} (_ : m = n) (h : Keep w B (swV P n G (nats st) (.slice (some ⟨g, 0, none⟩) n c) ns vi is' vsi vo os' vso)) (a was : Nat) : Keep (w.setCell ⟨P, a, none⟩ (.int .i64 (was : Int))) B (swV P n G (nats (st.set a was)) (.slice (some ⟨g, 0, none⟩) n c) ns vi is' vsi vo os' vso) := by
  have h1 := h.setInt (i := 0) rfl a (was : Int)
  rw [show (nats st).set a (was : Int) = nats (st.set a was) by simp [List.map_set]] at h1
  exact h1
theorem Keep.off {w w' : World} {B F : Nat} {T : List Rw} (h : Keep w B T) (hg : w.grownBy w' (some F)) (hF : ∀ (j : Nat) (r : Rw), T[j]? = some r → r.v.ownBlock ≠ some F) : Keep w' B T :=
  h.other hg fun t r hr => .inr (hF t r hr)
theorem swV_blocks {P n G F : Nat} {pl pl' : List Int} {vn vi vo : Value} {ns ns' : List Node} {is' os' : List Port} {vsi vso : List Value} (h : ∀ (j : Nat) (r : Rw), (swV P n G pl vn ns vi is' vsi vo os' vso)[j]? = some r → r.v.ownBlock ≠ some F) : ∀ (j : Nat) (r : Rw), (swV P n G pl' vn ns' vi is' vsi vo os' vso)[j]? = some r → r.v.ownBlock ≠ some F := fun j r hr => by
  match j, hr with
  | 0, hr => injection hr with hr; subst hr; exact h 0 (rwInts 3 (.slice (some ⟨P, 0, none⟩) n n) pl) rfl
  | 1, hr => exact h 1 _ hr
  | 2, hr => injection hr with hr; subst hr; exact h 2 (rwNodes vn ns) rfl
  | j + 3, hr => exact h (j + 3) r hr
def idT (n i : Nat) : List Int := (List.range n).map fun j => if j < i then (j : Int) else 0
theorem idT_zero (n : Nat) : idT n 0 = List.replicate n 0 := by
  apply List.ext_getElem (by simp [idT])
  intro i h1 h2
  simp [idT]
theorem idT_set {n i : Nat} : (idT n i).set i (i : Int) = idT n (i + 1) := by
  apply List.ext_getElem (by simp [idT])
  intro j h1 h2
  rw [List.getElem_set]
  simp only [idT, List.getElem_map, List.getElem_range]
  by_cases e : i = j
  · subst e; simp
  · rw [if_neg e]
    by_cases e2 : j < i
    · rw [if_pos e2, if_pos (by omega)]
    · rw [if_neg e2, if_neg (by omega)]
theorem idT_full (n : Nat) : idT n n = nats (List.range n) := by
  apply List.map_congr_left
  intro j hj
  rw [if_pos (by simpa using hj)]

set_option maxHeartbeats 4000000 in
set_option maxRecDepth 100000 in
theorem share_net (w : World) (v : Value) (nodes : List Node) (ins outs : List Port) (hN : NetV w v nodes ins outs) (hF : Fits nodes ins outs) :
    Calls Try.prog 32 #[v] w fun e w' => ∃ v' m x n' i' o', e = .returned (.tuple #[v', .int .i64 m, .int .i64 x]) ∧ NetV w' v' n' i' o' ∧ ShrOut nodes ins outs x m n' i' o' ∧ Below w.heap.size w w' := by
  obtain ⟨An, cn, Ai, ci, Ao, co, rfl, hbox⟩ := hN.box
  let ob := netBox (.slice An nodes.length cn) (.slice Ai ins.length ci) (.slice Ao outs.length co)
  have hsz : (w.alloc ob).heap.size = w.heap.size + 1 := by simp
  obtain ⟨w1, hw1⟩ : ∃ w1, w1 = (w.alloc ob).alloc zeroNet := ⟨_, rfl⟩
  have hs1 : w1.heap.size = w.heap.size + 1 + 1 := by rw [hw1]; simp
  have h01 : Below (w.heap.size + 1) (w.alloc ob) w1 := by rw [hw1]; exact (Below.refl _ _).alloc (by rw [hsz]; exact Nat.le_refl _) _
  have hnew : ∀ i, w1.cell? ⟨w.heap.size + 1, i, none⟩ = (#[Value.slice none 0 0, .slice none 0 0, .slice none 0 0] : Array Value)[i]? := fun i => by
    rw [hw1, ← hsz]
    exact World.cell?_alloc_new _ _ _ i
  have hfr : ∀ i, w1.frozen? ⟨w.heap.size + 1, i, none⟩ = false := fun i => by
    rw [hw1, ← hsz]
    exact World.frozen?_alloc_new _ _ _ i
  have hall : ∀ W, Below w1.heap.size w1 W → (W.cell? ⟨w.heap.size, 0, none⟩ = some (.slice An nodes.length cn) ∧ W.cell? ⟨w.heap.size, 1, none⟩ = some (.slice Ai ins.length ci) ∧ W.cell? ⟨w.heap.size, 2, none⟩ = some (.slice Ao outs.length co)) ∧ (W.cell? ⟨w.heap.size + 1, 0, none⟩ = some (.slice none 0 0) ∧ W.cell? ⟨w.heap.size + 1, 1, none⟩ = some (.slice none 0 0) ∧ W.cell? ⟨w.heap.size + 1, 2, none⟩ = some (.slice none 0 0)) ∧ (W.frozen? ⟨w.heap.size + 1, 0, none⟩ = false ∧ W.frozen? ⟨w.heap.size + 1, 1, none⟩ = false ∧ W.frozen? ⟨w.heap.size + 1, 2, none⟩ = false) ∧ Row kNode W (fun _ => False) (.slice An nodes.length cn) nodes ∧ NetV W (.agg #[.slice An nodes.length cn, .slice Ai ins.length ci, .slice Ao outs.length co]) nodes ins outs ∧ Below w.heap.size w W := fun W hW => by
    have hb := hW.block (w.heap.size + 1) (by omega)
    obtain ⟨c0, c1, c2, r1, r2, r3, hb3⟩ := hbox W (h01.trans (hW.mono (by omega)))
    exact ⟨⟨c0, c1, c2⟩, ⟨(World.cell?_of_block hb).trans (hnew 0), (World.cell?_of_block hb).trans (hnew 1), (World.cell?_of_block hb).trans (hnew 2)⟩, ⟨(World.frozen?_of_block hb).trans (hfr 0), (World.frozen?_of_block hb).trans (hfr 1), (World.frozen?_of_block hb).trans (hfr 2)⟩, r1, ⟨_, _, _, rfl, r1, r2, r3⟩, hb3⟩
  obtain ⟨⟨z0, z1, z2⟩, -, -, -, hn1, -⟩ := hall w1 (Below.refl _ _)
  have HC := Lib.hid (order_net w1 _ nodes ins outs hn1 hF)
  have HALL := Lib.hid hall
  have HW1 := Lib.hid hw1
  have HS1 := Lib.hid hs1
  have HF := Lib.hid hF
  have hnl := hF.nl
  have hil := hF.il
  have hol := hF.ol
  clear hN hbox hsz hw1 hs1 h01 hnew hfr hall hn1 hF
  go_enter Try.func32, Try.ntmps32
  go_wp2_with fail
  rw [← HW1.out]
  go_wp2_with fail
  refine HC.out.mono ?_
  rintro e w2 ⟨v2, o2, x, rfl, hr2, hl2, hb2⟩
  have HL := Lib.hid hl2
  have HB2 := Lib.hid hb2
  have HR2 := Lib.hid hr2
  clear z0 z1 z2 HC hl2 hb2 hr2
  obtain ⟨⟨z0, z1, z2⟩, ⟨t0, t1, t2⟩, ⟨f0, f1, f2⟩, -, hn2, hbw⟩ := HALL.out _ HB2.out
  have HBW := Lib.hid hbw
  clear hbw
  by_cases hx : x = 0
  · subst hx
    obtain ⟨l, hlev, ho2⟩ := HL.out
    have hez := errP_zero hlev.choose_spec.1.symm
    have HFB := Lib.hid (formed_in hez.2.1)
    have HFM := Lib.hid hez.2.1
    have hn62 : nodes.length ≤ 262144 := hez.1.1
    have HLV := Lib.hid hlev
    have hisl : IsLev nodes l := by obtain ⟨b, h1, h2, h3, h4, h5⟩ := hlev; exact h4 rfl
    have HNN := Lib.hid hlev.nonneg
    have hll : l.length = nodes.length := hisl.1
    have holen : (ordL l).length = nodes.length := by rw [ordL_length hlev.nonneg, hll]
    obtain ⟨A2, c2, he2, -, -⟩ := HR2.out.shape
    rw [ho2, List.length_map, holen] at he2
    subst he2
    have HO2 := Lib.hid ho2
    have HOL := Lib.hid holen
    have HLL := Lib.hid hll
    have HC := Lib.hid (clone_own w2 _ nodes ins outs hn2 hnl hil hol HF.out.bits)
    clear hez hn2 hlev hisl hll holen ho2 t0 t1 t2 f0 f1 f2
    go_wp2_with fail
    refine HC.out.mono ?_
    rintro e w4 ⟨vn, vi, vo, vsi, vso, rfl, hvi, hvo, hk4, hb4⟩
    obtain ⟨A5, c5, he5, -, -⟩ := (rwNodes_at.1 (hk4.own 0 _ rfl)).shape
    obtain ⟨A6, c6, he6, -, -⟩ := (ptT_hdr hk4.tail.left).shape
    obtain ⟨A7, c7, he7, -, -⟩ := (ptT_hdr hk4.tail.right).shape
    rw [hdrs_length hvi] at he6
    rw [hdrs_length hvo] at he7
    subst he5 he6 he7
    have hmk := make_ints nodes.length hnl
    obtain ⟨G, hG⟩ : ∃ G, w4.heap.size = G := ⟨_, rfl⟩
    have k1 := hk4.push (w' := w4.alloc (.cells #[.slice A5 nodes.length c5, .slice A6 ins.length c6, .slice A7 outs.length c7] 25)) (r := rwNet w4.heap.size (.slice A5 nodes.length c5) (.slice A6 ins.length c6) (.slice A7 outs.length c7)) ((Below.refl _ _).alloc (Nat.le_refl _) _) (World.ownsRow_lit w4 #[.slice A5 nodes.length c5, .slice A6 ins.length c6, .slice A7 outs.length c7] 1 (Nat.le_refl _) (by simp [maxLen]) rfl)
    have hs5 : (w4.alloc (.cells #[.slice A5 nodes.length c5, .slice A6 ins.length c6, .slice A7 outs.length c7] 25)).heap.size = w4.heap.size + 1 := by simp
    have hO3 := made_ints nodes.length hnl (w4.alloc (.cells #[.slice A5 nodes.length c5, .slice A6 ins.length c6, .slice A7 outs.length c7] 25))
    rw [← idT_zero] at hO3
    have k2 := k1.push ((Below.refl _ _).alloc (Nat.le_refl _) _) (rwInts_at.2 hO3)
    have k3 := k2.front2
    rw [hs5, hG] at k3
    have HK0 := Lib.hid (show Keep _ w2.heap.size (swV (G + 1) nodes.length G (idT nodes.length 0) (.slice A5 nodes.length c5) nodes (.slice A6 ins.length c6) ins vsi (.slice A7 outs.length c7) outs vso) from k3.pick (fun i => if i = 0 then 1 else if i = 1 then 0 else i) (fun i j _ _ e => by split at e <;> split at e <;> (try split at e) <;> (try split at e) <;> omega) fun i r hr => by
      match i, hr with
      | 0, hr => exact hr
      | 1, hr => exact hr
      | i + 2, hr => exact hr)
    have hb26 : Below w2.heap.size w2 ((w4.alloc (.cells #[.slice A5 nodes.length c5, .slice A6 ins.length c6, .slice A7 outs.length c7] 25)).alloc (.cells (madeCells #[.int .i64 0] nodes.length) 3)) := (hb4.alloc hb4.size _).alloc (Nat.le_trans hb4.size (by simp)) _
    obtain ⟨⟨y0, y1, y2⟩, -⟩ := HALL.out _ (HB2.out.trans ((hb4.alloc hb4.size (.cells #[.slice A5 nodes.length c5, .slice A6 ins.length c6, .slice A7 outs.length c7] 25)).mono HB2.out.size))
    have HB26 := Lib.hid hb26
    have HVI := Lib.hid hvi
    have HVO := Lib.hid hvo
    have HGG := Lib.hid (show w2.heap.size ≤ G by have := hb4.size; omega)
    clear k1 k2 k3 hs5 hO3 hk4 hvi hvo hb4 hb26 HC z0 z1 z2
    go_wp2_with fail
    clear hG y0 y1 y2
    go_loopw [40] (fun iv wr => ∃ i : Nat, iv = .int .i64 i ∧ i ≤ nodes.length ∧ Hid (Keep wr w2.heap.size (swV (G + 1) nodes.length G (idT nodes.length i) (.slice A5 nodes.length c5) nodes (.slice A6 ins.length c6) ins vsi (.slice A7 outs.length c7) outs vso)) ∧ Hid (Below w2.heap.size w2 wr)) (fun iv _ => nodes.length - (intOf iv).toNat)
    case atStart => exact ⟨0, rfl, Nat.zero_le _, HK0, HB26⟩
    case round =>
      clear HK0 HB26
      obtain ⟨i, rfl, hi, HK, HB⟩ := hrel
      by_cases hlt : i < nodes.length
      · have hcell : (idT nodes.length i)[i]? = some 0 := by rw [idT, List.getElem?_map, List.getElem?_range hlt]; simp
        obtain ⟨c0, c1⟩ := (HK.out.ints (i := 0) rfl).cellAt? hcell
        have hst := HK.out.setInt (i := 0) rfl i (i : Int)
        rw [idT_set] at hst
        have HK' : Hid (Keep _ w2.heap.size (swV (G + 1) nodes.length G (idT nodes.length (i + 1)) (.slice A5 nodes.length c5) nodes (.slice A6 ins.length c6) ins vsi (.slice A7 outs.length c7) outs vso)) := Lib.hid hst
        have HB' := Lib.hid (HB.out.setCell (p := ⟨G + 1, i, none⟩) (by have := HGG.out; show w2.heap.size ≤ G + 1; omega) (.int .i64 (i : Int)))
        clear hcell hst
        go_wp2_with fail
        refine ⟨⟨i + 1, by go_num, by omega, HK', HB'⟩, ?_⟩
        simp [intOf]; omega
      · obtain rfl : i = nodes.length := by omega
        rw [idT_full] at HK
        have hmm := @run_makeMap Try.prog
        obtain ⟨F, hF⟩ : ∃ F, wr.heap.size = F := ⟨_, rfl⟩
        have hba : Below wr.heap.size wr (wr.alloc (.map #[] 0)) := (Below.refl _ _).alloc (Nat.le_refl _) _
        have HM0 := Lib.hid (show MNode (wr.alloc (.map #[] 0)) F 0 (shRun nodes ((ordL l).take 0)).fm by rw [← hF]; exact MNode.made wr)
        have HK0 := Lib.hid (show Keep (wr.alloc (.map #[] 0)) w2.heap.size (swV (G + 1) nodes.length G (nats (shRun nodes ((ordL l).take 0)).st) (.slice A5 nodes.length c5) (shRun nodes ((ordL l).take 0)).m (.slice A6 ins.length c6) ins vsi (.slice A7 outs.length c7) outs vso) from HK.out.below hba)
        have HB0 := Lib.hid (HB.out.trans (hba.mono HB.out.size))
        have HFG := Lib.hid (show G + 1 < F by rw [← hF]; exact (HK.out.lt (i := 0) rfl (b := G + 1) rfl).2)
        have HNF := Lib.hid (show ∀ (j : Nat) (r : Rw), (swV (G + 1) nodes.length G (nats (List.range nodes.length)) (.slice A5 nodes.length c5) nodes (.slice A6 ins.length c6) ins vsi (.slice A7 outs.length c7) outs vso)[j]? = some r → r.v.ownBlock ≠ some F from fun j r hr e => by have := (HK.out.lt hr e).2; omega)
        have hA5 : A5 = none ∨ ∃ g, A5 = some ⟨g, 0, none⟩ := by
          rcases (HK.out.own 2 _ rfl).2 with ⟨h, -⟩ | ⟨g, cap, cur, h, -⟩
          · injection h with h; exact .inl h
          · injection h with h; exact .inr ⟨g, h⟩
        have HA5 := Lib.hid hA5
        clear hba HK HB hlt hi hA5
        go_wp2_with fail
        clear hF hmm
        go_loopw [11, 51] (fun mv jv wr => ∃ j : Nat, jv = .int .i64 j ∧ j ≤ nodes.length ∧ mv = .int .i64 ((shRun nodes ((ordL l).take j)).many : Nat) ∧ Hid (ShI nodes (shRun nodes ((ordL l).take j)) j) ∧ Hid (Keep wr w2.heap.size (swV (G + 1) nodes.length G (nats (shRun nodes ((ordL l).take j)).st) (.slice A5 nodes.length c5) (shRun nodes ((ordL l).take j)).m (.slice A6 ins.length c6) ins vsi (.slice A7 outs.length c7) outs vso)) ∧ Hid (∃ n, n ≤ j ∧ MNode wr F n (shRun nodes ((ordL l).take j)).fm) ∧ Hid (Below w2.heap.size w2 wr)) (fun mv jv _ => nodes.length - (intOf jv).toNat)
        case atStart => exact ⟨0, rfl, Nat.zero_le _, rfl, Lib.hid (ShI.init nodes), HK0, Lib.hid ⟨0, Nat.le_refl _, HM0.out⟩, HB0⟩
        case round =>
          clear HM0 HK0 HB0
          obtain ⟨j, rfl, hj, rfl, HI, HK, HM, HB⟩ := hrel
          obtain ⟨⟨z0, z1, z2⟩, -, -, hrn, -, -⟩ := HALL.out _ (HB2.out.trans (HB.out.mono HB2.out.size))
          by_cases hlt : j < nodes.length
          · have hlo : j < (ordL l).length := by rw [HOL.out]; exact hlt
            obtain ⟨b, off, rfl, x0⟩ := (HR2.out.later HB.out).int_at (i := j) (by rw [HO2.out, List.length_map]; exact hlo)
            have hoj : o2[j]'(by rw [HO2.out, List.length_map]; exact hlo) = (((ordL l)[j] : Nat) : Int) := by
              have h1 : o2[j]? = some (((ordL l)[j] : Nat) : Int) := by rw [HO2.out, List.getElem?_map, List.getElem?_eq_getElem hlo]; rfl
              rw [List.getElem?_eq_getElem (by rw [HO2.out, List.length_map]; exact hlo)] at h1
              injection h1
            rw [hoj] at x0
            have ham := (mem_ordL HNN.out).1 (List.getElem_mem hlo)
            have HST := Lib.hid (show shRun nodes ((ordL l).take (j + 1)) = shStep nodes (shRun nodes ((ordL l).take j)) (ordL l)[j] by rw [List.take_succ_eq_append_getElem hlo, shRun_snoc])
            obtain ⟨a, ha⟩ : ∃ a, (ordL l)[j] = a := ⟨_, rfl⟩
            rw [ha] at x0 ham HST
            rw [HLL.out] at ham
            obtain ⟨s, hs⟩ : ∃ s, shRun nodes ((ordL l).take j) = s := ⟨_, rfl⟩
            rw [hs] at HI HK HM HST ⊢
            obtain ⟨sm, sst, sfm, smany⟩ := s
            clear ha hs hoj
            have HIN := Lib.hid (HI.out.step ham)
            have hlm : sm.length = nodes.length := HI.out.lm
            have hls : sst.length = nodes.length := HI.out.ls
            have hmn : smany ≤ j := HI.out.mn
            obtain ⟨b3, off3, rfl, y0, y1, y2, y3⟩ := hrn.node_at ham
            have hnx := List.getElem?_eq_getElem ham
            have hiu := HFB.out.1 _ (List.getElem_mem ham)
            have hrt : rightB nodes[a] nodes.length = true := by
              have h := HFM.out
              rw [formedB, Bool.and_eq_true, List.all_eq_true] at h
              exact h.1 _ (List.getElem_mem ham)
            obtain ⟨x, hxx⟩ : ∃ x, nodes[a] = x := ⟨_, rfl⟩
            rw [hxx] at y0 y1 y2 y3 hiu hrt hnx
            clear hxx hrn
            have hxok := right_ok hrt (by omega)
            have HSTEP := Lib.hid (show shStep nodes ⟨sm, sst, sfm, smany⟩ a = if x.kind = 1 ∨ x.kind = 7 then ⟨sm, sst, sfm, smany⟩ else match sfm.lookup (byN (stF sst) x) with
              | some was => ⟨sm.set a (byN (stF sst) x), sst.set a was, sfm, smany + 1⟩
              | none => ⟨sm.set a (byN (stF sst) x), sst, (byN (stF sst) x, a) :: sfm, smany⟩ by unfold shStep; rw [hnx]; rfl)
            obtain ⟨xk, xa, xb, xc⟩ := x
            dsimp only at y0 y1 y2 y3 HSTEP
            obtain ⟨wx, hwx⟩ : ∃ wx, wx = wr.alloc (.cells #[.int .i64 xk, .int .i64 xa, .int .i64 xb, .int .i64 xc] 38) := ⟨_, rfl⟩
            have hbx : Below wr.heap.size wr wx := by rw [hwx]; exact (Below.refl _ _).alloc (Nat.le_refl _) _
            have hsx : wx.heap.size = wr.heap.size + 1 := by rw [hwx]; simp
            have HBX := Lib.hid (HB.out.trans (hbx.mono HB.out.size))
            have HKX := Lib.hid (HK.out.below hbx)
            have HMX : Hid (∃ n, n ≤ j ∧ MNode wx F n sfm) := by
              obtain ⟨n, h1, h2⟩ := HM.out
              exact Lib.hid ⟨n, h1, h2.below hbx⟩
            have HWX := Lib.hid hwx
            by_cases hsp : xk = 1 ∨ xk = 7
            · have hnext : shRun nodes ((ordL l).take (j + 1)) = ⟨sm, sst, sfm, smany⟩ := by rw [HST.out, HSTEP.out, if_pos hsp]
              have HNEXT := Lib.hid hnext
              have HIN2 : Hid (ShI nodes ⟨sm, sst, sfm, smany⟩ (j + 1)) := by
                have h := HIN.out
                rw [HSTEP.out, if_pos hsp] at h
                exact Lib.hid h
              have HMN : Hid (∃ n, n ≤ j + 1 ∧ MNode wx F n sfm) := by
                obtain ⟨n, h1, h2⟩ := HMX.out
                exact Lib.hid ⟨n, by omega, h2⟩
              clear hnext hwx hbx hsx hiu hrt hnx hxok hlm hls hmn
              rcases hsp with rfl | rfl
              · go_wp2_with fail
                rw [← HWX.out]
                refine ⟨⟨j + 1, by go_num, by omega, by rw [HNEXT.out], by rw [HNEXT.out]; exact HIN2, by rw [HNEXT.out]; exact HKX, by rw [HNEXT.out]; exact HMN, HBX⟩, ?_⟩
                simp [intOf]; omega
              · go_wp2_with fail
                rw [← HWX.out]
                refine ⟨⟨j + 1, by go_num, by omega, by rw [HNEXT.out], by rw [HNEXT.out]; exact HIN2, by rw [HNEXT.out]; exact HKX, by rw [HNEXT.out]; exact HMN, HBX⟩, ?_⟩
                simp [intOf]; omega
            · have hk1 : (xk == 1) = false := by simp; omega
              have hk7 : (xk == 7) = false := by simp; omega
              obtain ⟨g, hg⟩ : ∃ g, A5 = some ⟨g, 0, none⟩ := by
                obtain ⟨g, c, he, -⟩ := (rwNodes_at.1 (HK.out.own 2 _ rfl)).form (by rw [hlm]; omega)
                injection he with he
                exact ⟨g, he⟩
              subst hg
              have hcx : ∀ W, Below wx.heap.size wx W → (W.cell? ⟨wr.heap.size, 0, none⟩ = some (.int .i64 xk) ∧ W.cell? ⟨wr.heap.size, 1, none⟩ = some (.int .i64 xa) ∧ W.cell? ⟨wr.heap.size, 2, none⟩ = some (.int .i64 xb) ∧ W.cell? ⟨wr.heap.size, 3, none⟩ = some (.int .i64 xc)) ∧ ∀ j, W.frozen? ⟨wr.heap.size, j, none⟩ = false := fun W hW => by
                have hb := hW.block wr.heap.size (by omega)
                have hc : ∀ i, W.cell? ⟨wr.heap.size, i, none⟩ = wx.cell? ⟨wr.heap.size, i, none⟩ := fun i => World.cell?_of_block hb
                refine ⟨?_, fun j => ?_⟩
                · rw [hc, hc, hc, hc, hwx]
                  exact ⟨World.cell?_alloc_new _ _ _ 0, World.cell?_alloc_new _ _ _ 1, World.cell?_alloc_new _ _ _ 2, World.cell?_alloc_new _ _ _ 3⟩
                · rw [World.frozen?_of_block hb, hwx]
                  exact World.frozen?_alloc_new _ _ _ _
              have HCX := Lib.hid hcx
              have HNX := Lib.hid (show ∀ (t : Nat) (r : Rw), (swV (G + 1) nodes.length G (nats sst) (.slice (some ⟨g, 0, none⟩) nodes.length c5) sm (.slice A6 ins.length c6) ins vsi (.slice A7 outs.length c7) outs vso)[t]? = some r → r.v.ownBlock ≠ some wr.heap.size from fun t r hr e => by have := (HK.out.lt hr e).2; omega)
              have hgX : g ≠ wr.heap.size := by have := (HK.out.lt (i := 2) (b := g) rfl rfl).2; omega
              have hgF : g ≠ F := fun e => HNF.out 2 _ rfl (by rw [← e]; rfl)
              have HNFS := Lib.hid (swV_blocks (P := G + 1) (n := nodes.length) (G := G) (pl := nats (List.range nodes.length)) (pl' := nats sst) (vn := .slice (some ⟨g, 0, none⟩) nodes.length c5) (ns := nodes) (ns' := sm.set a (byN (stF sst) ⟨xk, xa, xb, xc⟩)) (vi := .slice A6 ins.length c6) (vo := .slice A7 outs.length c7) (is' := ins) (os' := outs) (vsi := vsi) (vso := vso) HNF.out)
              have hGX : G ≠ wr.heap.size := by have := (HK.out.lt (i := 1) (b := G) rfl rfl).2; omega
              have hPX : G + 1 ≠ wr.heap.size := by have := (HK.out.lt (i := 0) (b := G + 1) rfl rfl).2; omega
              have hFX : F ≠ wr.heap.size := by
                obtain ⟨n, -, D, ⟨es, clock, hb, -⟩, -⟩ := HM.out
                have := (Array.getElem?_eq_some_iff.1 hb).1
                omega
              have hst : ∀ y ∈ usesR ⟨xk, xa, xb, xc⟩, ∃ u : Nat, y = (u : Int) ∧ (nats sst)[u]? = some (stF sst u : Int) := fun y hy => by
                have h := hiu y hy
                obtain ⟨u, rfl⟩ := Int.eq_ofNat_of_zero_le h.1
                exact ⟨u, rfl, stF_at (by omega)⟩
              have HC := Lib.hid (by_net wx ⟨xk, xa, xb, xc⟩ _ (nats sst) (stF sst) ((HKX.out.ints (i := 0) rfl).rowS (fun _ => False) (fun _ _ h => h)) hst)
              have hbs : ∀ u ∈ sst, u < nodes.length := HI.out.bs
              have hyok := byN_ok (f := stF sst) hxok (fun u => by have := stF_le hbs u; omega)
              clear hbs
              have HNS := Lib.hid (show ¬ (xk = 1 ∨ xk = 7) from hsp)
              clear hwx hbx hsx hcx hiu hrt hnx hxok hst hsp
              go_wp2_with fail
              rw [← HWX.out]
              refine HC.out.mono ?_
              rintro e w5 ⟨rfl, hb5⟩
              obtain ⟨y, hy⟩ : ∃ y, byN (stF sst) ⟨xk, xa, xb, xc⟩ = y := ⟨_, rfl⟩
              rw [hy] at hyok HSTEP HNFS
              rw [hy]
              clear hy HC
              obtain ⟨yk, ya, yb, yc⟩ := y
              obtain ⟨⟨g0, g1, g2, g3⟩, hfz⟩ := HCX.out w5 hb5
              have z0' := hfz 0
              have z1' := hfz 1
              have z2' := hfz 2
              have z3' := hfz 3
              obtain ⟨w6, hw6⟩ : ∃ w6, w6 = ((((w5.setCell ⟨wr.heap.size, 0, none⟩ (.int .i64 yk)).setCell ⟨wr.heap.size, 1, none⟩ (.int .i64 ya)).setCell ⟨wr.heap.size, 2, none⟩ (.int .i64 yb)).setCell ⟨wr.heap.size, 3, none⟩ (.int .i64 yc)) := ⟨_, rfl⟩
              have hx6 := set4_all (x0 := .int .i64 yk) (x1 := .int .i64 ya) (x2 := .int .i64 yb) (x3 := .int .i64 yc) g0 g1 g2 g3
              have hk6 := (((((HKX.out.below hb5).skip HNX.out 0 (.int .i64 yk)).skip HNX.out 1 (.int .i64 ya)).skip HNX.out 2 (.int .i64 yb)).skip HNX.out 3 (.int .i64 yc))
              obtain ⟨nM, hnM, hM⟩ := HMX.out
              have hm6 := ((((hM.below hb5).setCell (fun e => hFX e.symm) 0 (.int .i64 yk)).setCell (fun e => hFX e.symm) 1 (.int .i64 ya)).setCell (fun e => hFX e.symm) 2 (.int .i64 yb)).setCell (fun e => hFX e.symm) 3 (.int .i64 yc)
              have hb6 := (((((HBX.out.trans (hb5.mono HBX.out.size)).setCell (p := ⟨wr.heap.size, 0, none⟩) HB.out.size (.int .i64 yk)).setCell (p := ⟨wr.heap.size, 1, none⟩) HB.out.size (.int .i64 ya)).setCell (p := ⟨wr.heap.size, 2, none⟩) HB.out.size (.int .i64 yb)).setCell (p := ⟨wr.heap.size, 3, none⟩) HB.out.size (.int .i64 yc))
              rw [← hw6] at hx6 hk6 hm6 hb6
              have HW6 := Lib.hid hw6
              have HX6 := Lib.hid hx6
              have HK6 : Hid (Keep w6 w2.heap.size (swV (G + 1) nodes.length G (nats sst) (.slice (some ⟨g, 0, none⟩) nodes.length c5) sm (.slice A6 ins.length c6) ins vsi (.slice A7 outs.length c7) outs vso)) := Lib.hid hk6
              have HM6 := Lib.hid hm6
              have HB6 := Lib.hid hb6
              have HYOK := Lib.hid hyok
              have HNM := Lib.hid hnM
              clear hx6 hk6 hm6 hb6 hw6 hb5 hfz hM hyok
              go_upto_region 19 with fail
              rw [← HW6.out]
              obtain ⟨x0', x1', x2', x3'⟩ := HX6.out
              obtain ⟨m0, -, -⟩ := swV_cells HK6.out
              have hk6' : Keep w6 w2.heap.size (swV (G + 1) nodes.length G (nats sst) (.slice (some ⟨g, 0, none⟩) sm.length c5) sm (.slice A6 ins.length c6) ins vsi (.slice A7 outs.length c7) outs vso) := by rw [hlm]; exact HK6.out
              have hna := swV_nodeAt hk6' (a := a) (by omega)
              obtain ⟨⟨u0, q0⟩, r0⟩ := hna 0 (by omega)
              obtain ⟨⟨u1, q1⟩, r1⟩ := hna 1 (by omega)
              obtain ⟨⟨u2, q2⟩, r2⟩ := hna 2 (by omega)
              obtain ⟨⟨u3, q3⟩, r3⟩ := hna 3 (by omega)
              rw [Nat.add_zero] at q0 r0
              have hk8 := swV_node hk6' (a := a) (by omega) ⟨yk, ya, yb, yc⟩
              rw [hlm] at hk8
              obtain ⟨w8, hw8⟩ : ∃ w8, w8 = ((((w6.setCell ⟨g, a * 4, none⟩ (.int .i64 yk)).setCell ⟨g, a * 4 + 1, none⟩ (.int .i64 ya)).setCell ⟨g, a * 4 + 2, none⟩ (.int .i64 yb)).setCell ⟨g, a * 4 + 3, none⟩ (.int .i64 yc)) := ⟨_, rfl⟩
              have hk8' : Keep ((((w6.setCell ⟨g, a * 4, none⟩ (.int .i64 yk)).setCell ⟨g, a * 4 + 1, none⟩ (.int .i64 ya)).setCell ⟨g, a * 4 + 2, none⟩ (.int .i64 yb)).setCell ⟨g, a * 4 + 3, none⟩ (.int .i64 yc)) w2.heap.size (swV (G + 1) nodes.length G (nats sst) (.slice (some ⟨g, 0, none⟩) nodes.length c5) (sm.set a ⟨yk, ya, yb, yc⟩) (.slice A6 ins.length c6) ins vsi (.slice A7 outs.length c7) outs vso) := hk8
              have hm8 := ((((HM6.out.setCell hgF (a * 4) (.int .i64 yk)).setCell hgF (a * 4 + 1) (.int .i64 ya)).setCell hgF (a * 4 + 2) (.int .i64 yb)).setCell hgF (a * 4 + 3) (.int .i64 yc))
              have hgb : w2.heap.size ≤ g := (HK.out.lt (i := 2) (b := g) rfl rfl).1
              have hb8 := ((((HB6.out.setCell (p := ⟨g, a * 4, none⟩) hgb (.int .i64 yk)).setCell (p := ⟨g, a * 4 + 1, none⟩) hgb (.int .i64 ya)).setCell (p := ⟨g, a * 4 + 2, none⟩) hgb (.int .i64 yb)).setCell (p := ⟨g, a * 4 + 3, none⟩) hgb (.int .i64 yc))
              have ho8 : ∀ i, i ≠ g → ((((w6.setCell ⟨g, a * 4, none⟩ (.int .i64 yk)).setCell ⟨g, a * 4 + 1, none⟩ (.int .i64 ya)).setCell ⟨g, a * 4 + 2, none⟩ (.int .i64 yb)).setCell ⟨g, a * 4 + 3, none⟩ (.int .i64 yc)).heap[i]? = w6.heap[i]? := fun i hi => by
                rw [heap_setCell_other _ ⟨g, a * 4 + 3, none⟩ i _ hi, heap_setCell_other _ ⟨g, a * 4 + 2, none⟩ i _ hi, heap_setCell_other _ ⟨g, a * 4 + 1, none⟩ i _ hi, heap_setCell_other _ ⟨g, a * 4, none⟩ i _ hi]
              have hx8 : ∀ j, ((((w6.setCell ⟨g, a * 4, none⟩ (.int .i64 yk)).setCell ⟨g, a * 4 + 1, none⟩ (.int .i64 ya)).setCell ⟨g, a * 4 + 2, none⟩ (.int .i64 yb)).setCell ⟨g, a * 4 + 3, none⟩ (.int .i64 yc)).cell? ⟨wr.heap.size, j, none⟩ = w6.cell? ⟨wr.heap.size, j, none⟩ := fun j => World.cell?_of_block (ho8 wr.heap.size (fun e => hgX e.symm))
              rw [← hw8] at hk8' hm8 hb8 hx8
              have HW8 := Lib.hid hw8
              have HK8 := Lib.hid hk8'
              have HM8 := Lib.hid hm8
              have HB8 := Lib.hid hb8
              have HX8 := Lib.hid (show w8.cell? ⟨wr.heap.size, 0, none⟩ = some (.int .i64 yk) ∧ w8.cell? ⟨wr.heap.size, 1, none⟩ = some (.int .i64 ya) ∧ w8.cell? ⟨wr.heap.size, 2, none⟩ = some (.int .i64 yb) ∧ w8.cell? ⟨wr.heap.size, 3, none⟩ = some (.int .i64 yc) from ⟨(hx8 0).trans x0', (hx8 1).trans x1', (hx8 2).trans x2', (hx8 3).trans x3'⟩)
              clear hk6' hna hk8 hk8' hm8 hb8 hx8 ho8 hw8
              clear g0 g1 g2 g3 z0' z1' z2' z3' x0 y0 y1 y2 y3 z0 z1 z2
              go_upto_region 20 with fail
              rw [← HW8.out]
              clear q0 q1 q2 q3 r0 r1 r2 r3 m0 x0' x1' x2' x3'
              obtain ⟨x0', x1', x2', x3'⟩ := HX8.out
              have hIN := HIN.out
              rw [HSTEP.out, if_neg HNS.out] at hIN
              cases hlk : sfm.lookup ⟨yk, ya, yb, yc⟩ with
              | some was =>
                have HL8 := Lib.hid hlk
                rw [hlk] at hIN
                dsimp only at hIN
                have HIN3 := Lib.hid hIN
                have HNEXT := Lib.hid (show shRun nodes ((ordL l).take (j + 1)) = ⟨sm.set a ⟨yk, ya, yb, yc⟩, sst.set a was, sfm, smany + 1⟩ by rw [HST.out, HSTEP.out, if_neg HNS.out, hlk])
                clear hlk hIN
                have hcs : (nats sst)[a]? = some (stF sst a : Int) := stF_at (by omega)
                obtain ⟨p0, p1⟩ := (HK8.out.ints (i := 0) rfl).cellAt? hcs
                have HKN := Lib.hid (swV_stand' hlm HK8.out a was)
                have HMN : Hid (∃ n, n ≤ j + 1 ∧ MNode (w8.setCell ⟨G + 1, a, none⟩ (.int .i64 (was : Int))) F n sfm) := Lib.hid ⟨nM, by have := HNM.out; omega, HM8.out.setCell (by have := HFG.out; omega) a _⟩
                have HBN := Lib.hid (HB8.out.setCell (p := ⟨G + 1, a, none⟩) (by have := HGG.out; show w2.heap.size ≤ G + 1; omega) (.int .i64 (was : Int)))
                have hm62 : smany ≤ 262144 := by omega
                clear hcs
                go_wp2_with (at_lookup; refine lookN rfl _ _ rfl HM8.out rfl ⟨yk, ya, yb, yc⟩ HYOK.out rfl ?_; rw [HL8.out])
                refine ⟨⟨j + 1, by go_num, by omega, by rw [HNEXT.out]; go_num, by rw [HNEXT.out]; exact HIN3, by rw [HNEXT.out]; exact HKN, by rw [HNEXT.out]; exact HMN, HBN⟩, ?_⟩
                simp [intOf]; omega
              | none =>
                have HL8 := Lib.hid hlk
                rw [hlk] at hIN
                dsimp only at hIN
                have HIN3 := Lib.hid hIN
                have HNEXT := Lib.hid (show shRun nodes ((ordL l).take (j + 1)) = ⟨sm.set a ⟨yk, ya, yb, yc⟩, sst, (⟨yk, ya, yb, yc⟩, a) :: sfm, smany⟩ by rw [HST.out, HSTEP.out, if_neg HNS.out, hlk])
                clear hlk hIN
                have hmx : nM < maxLen := by have := HNM.out; unfold maxLen; omega
                go_wp2_with (first | (at_lookup; refine lookN rfl _ _ rfl HM8.out rfl ⟨yk, ya, yb, yc⟩ HYOK.out rfl ?_; rw [HL8.out]) | (at_mapUpdate; refine putN rfl _ _ _ rfl HM8.out rfl hmx ⟨yk, ya, yb, yc⟩ HYOK.out rfl a (by omega) rfl ?_; intro w9 h1 h2; have HM9 := Lib.hid h1; have HG9 := Lib.hid h2; clear h1 h2))
                have HKN := Lib.hid (HK8.out.off HG9.out HNFS.out)
                have HMN : Hid (∃ n, n ≤ j + 1 ∧ MNode w9 F n ((⟨yk, ya, yb, yc⟩, a) :: sfm)) := Lib.hid ⟨nM + 1, by have := HNM.out; omega, HM9.out⟩
                have HBN := Lib.hid (HB8.out.grown HG9.out (by have := HB8.out.size; omega) (fun t ht => by injection ht with ht; have := HGG.out; have := HFG.out; omega))
                refine ⟨⟨j + 1, by go_num, by omega, by rw [HNEXT.out], by rw [HNEXT.out]; exact HIN3, by rw [HNEXT.out]; exact HKN, by rw [HNEXT.out]; exact HMN, HBN⟩, ?_⟩
                simp [intOf]; omega
          · obtain rfl : j = nodes.length := by omega
            have htk : (ordL l).take nodes.length = ordL l := List.take_of_length_le (by rw [HOL.out]; exact Nat.le_refl _)
            rw [htk] at HI HK HM ⊢
            have HOUT0 := Lib.hid (show ∀ m n' o', m = ((shRun nodes (ordL l)).many : Int) → n' = dfRun nodes (shRun nodes (ordL l)).st (shRun nodes (ordL l)).m nodes.length → o' = outs.map (rpP (stF (shRun nodes (ordL l)).st)) → ShrOut nodes ins outs 0 m n' ins o' from fun m n' o' h1 h2 h3 => ⟨fun h => absurd rfl h, fun _ => ⟨l, HLV.out, h1, h2, rfl, h3⟩⟩)
            obtain ⟨s, hs⟩ : ∃ s, shRun nodes (ordL l) = s := ⟨_, rfl⟩
            rw [hs] at HI HK HM HOUT0 ⊢
            obtain ⟨sm, sst, sfm, smany⟩ := s
            dsimp only at HOUT0
            have hlm : sm.length = nodes.length := HI.out.lm
            have HLS := Lib.hid (show sst.length = nodes.length from HI.out.ls)
            have HBS := Lib.hid (show ∀ u ∈ sst, u < nodes.length from HI.out.bs)
            have hmn : smany ≤ nodes.length := HI.out.mn
            have HK0 : Hid (Keep wr w2.heap.size (swV (G + 1) nodes.length G (nats sst) (.slice A5 nodes.length c5) (dfRun nodes sst sm 0) (.slice A6 ins.length c6) ins vsi (.slice A7 outs.length c7) (outs) vso)) := HK
            have HLM0 := Lib.hid hlm
            clear hs htk HI HK HM hlt hj hrn
            go_wp2_with fail
            clear z0 z1 z2
            obtain ⟨wo, hwo⟩ : ∃ wo, wo = wr := ⟨_, rfl⟩
            subst hwo
            go_loopw [96] (fun iv wr => ∃ i : Nat, iv = .int .i64 i ∧ i ≤ nodes.length ∧ Hid ((dfRun nodes sst sm i).length = nodes.length) ∧ Hid (Keep wr w2.heap.size (swV (G + 1) nodes.length G (nats sst) (.slice A5 nodes.length c5) (dfRun nodes sst sm i) (.slice A6 ins.length c6) ins vsi (.slice A7 outs.length c7) (outs) vso)) ∧ Hid (Below w2.heap.size w2 wr)) (fun iv _ => nodes.length - (intOf iv).toNat)
            case atStart => exact ⟨0, rfl, Nat.zero_le _, HLM0, HK0, HB⟩
            case round =>
              clear HK0 HB
              obtain ⟨i, rfl, hi, HDL, HK, HB⟩ := hrel
              obtain ⟨⟨z0, z1, z2⟩, -, -, hrn, -, -⟩ := HALL.out _ (HB2.out.trans (HB.out.mono HB2.out.size))
              by_cases hlt : i < nodes.length
              · obtain ⟨b3, off3, rfl, y0, y1, y2, y3⟩ := hrn.node_at hlt
                have hnx := List.getElem?_eq_getElem hlt
                have hiu := HFB.out.1 _ (List.getElem_mem hlt)
                have HDS := Lib.hid (show dfRun nodes sst sm (i + 1) = if nodes[i].kind = 7 then (dfRun nodes sst sm i).set i (byN (stF sst) nodes[i]) else dfRun nodes sst sm i by rw [dfRun_succ, dfStep, hnx])
                obtain ⟨x, hxx⟩ : ∃ x, nodes[i] = x := ⟨_, rfl⟩
                rw [hxx] at y0 y1 y2 y3 hiu HDS
                clear hxx hrn hnx
                obtain ⟨xk, xa, xb, xc⟩ := x
                dsimp only at y0 y1 y2 y3 HDS
                obtain ⟨wx, hwx⟩ : ∃ wx, wx = wr.alloc (.cells #[.int .i64 xk, .int .i64 xa, .int .i64 xb, .int .i64 xc] 38) := ⟨_, rfl⟩
                have hbx : Below wr.heap.size wr wx := by rw [hwx]; exact (Below.refl _ _).alloc (Nat.le_refl _) _
                have hsx : wx.heap.size = wr.heap.size + 1 := by rw [hwx]; simp
                have HBX := Lib.hid (HB.out.trans (hbx.mono HB.out.size))
                have HKX := Lib.hid (HK.out.below hbx)
                have HWX := Lib.hid hwx
                by_cases h7 : xk = 7
                · subst h7
                  obtain ⟨g, hg⟩ : ∃ g, A5 = some ⟨g, 0, none⟩ := by
                    obtain ⟨g, c, he, -⟩ := (rwNodes_at.1 (HK.out.own 2 _ rfl)).form (by have := HDL.out; omega)
                    injection he with he
                    exact ⟨g, he⟩
                  subst hg
                  obtain ⟨X, hX⟩ : ∃ X, wr.heap.size = X := ⟨_, rfl⟩
                  have hcx : ∀ W, Below wx.heap.size wx W → (W.cell? ⟨X, 0, none⟩ = some (.int .i64 7) ∧ W.cell? ⟨X, 1, none⟩ = some (.int .i64 xa) ∧ W.cell? ⟨X, 2, none⟩ = some (.int .i64 xb) ∧ W.cell? ⟨X, 3, none⟩ = some (.int .i64 xc)) := fun W hW => by
                    have hb := hW.block wr.heap.size (by omega)
                    have hc : ∀ i, W.cell? ⟨wr.heap.size, i, none⟩ = wx.cell? ⟨wr.heap.size, i, none⟩ := fun i => World.cell?_of_block hb
                    rw [← hX, hc, hc, hc, hc, hwx]
                    exact ⟨World.cell?_alloc_new _ _ _ 0, World.cell?_alloc_new _ _ _ 1, World.cell?_alloc_new _ _ _ 2, World.cell?_alloc_new _ _ _ 3⟩
                  have HSW := Lib.hid (show ∀ W, Below wx.heap.size wx W → (fun W => W.cell? ⟨G, 0, none⟩ = some (.slice (some ⟨g, 0, none⟩) nodes.length c5) ∧ (W.cell? ⟨X, 0, none⟩ = some (.int .i64 7) ∧ W.cell? ⟨X, 1, none⟩ = some (.int .i64 xa) ∧ W.cell? ⟨X, 2, none⟩ = some (.int .i64 xb) ∧ W.cell? ⟨X, 3, none⟩ = some (.int .i64 xc))) W from fun W hW => ⟨(swV_cells (HKX.out.below hW)).1, hcx W hW⟩)
                  have hgX : g ≠ X := by have := (HK.out.lt (i := 2) (b := g) rfl rfl).2; omega
                  have hgG : G ≠ g := fun e => HK.out.apart 1 2 _ _ rfl rfl (by omega) G rfl (by rw [e]; rfl)
                  have hst : ∀ y ∈ usesR ⟨7, xa, xb, xc⟩, ∃ u : Nat, y = (u : Int) ∧ (nats sst)[u]? = some (stF sst u : Int) := fun y hy => by
                    have h := hiu y hy
                    obtain ⟨u, rfl⟩ := Int.eq_ofNat_of_zero_le h.1
                    exact ⟨u, rfl, stF_at (by have := HLS.out; omega)⟩
                  have HPW := Lib.hid (fun W (hW : Below wx.heap.size wx W) => by_net W ⟨7, xa, xb, xc⟩ _ (nats sst) (stF sst) (((HKX.out.below hW).ints (i := 0) rfl).rowS (fun _ => False) (fun _ _ h => h)) hst)
                  obtain ⟨⟨yk, ya, yb, yc⟩, hy⟩ : ∃ y, byN (stF sst) ⟨7, xa, xb, xc⟩ = y := ⟨_, rfl⟩
                  rw [if_pos rfl, hy] at HDS
                  rw [hy] at HPW
                  have HX0 := Lib.hid (HSW.out wx (Below.refl _ _))
                  have HXD := Lib.hid (HSW.out wx.drew (Below.refl _ _).drew)
                  have HBD := Lib.hid (show Below wx.heap.size wx wx.drew from (Below.refl _ _).drew)
                  have HDL2 := Lib.hid (show (dfRun nodes sst sm (i + 1)).length = nodes.length by rw [HDS.out, List.length_set]; exact HDL.out)
                  have hgb : w2.heap.size ≤ g := (HK.out.lt (i := 2) (b := g) rfl rfl).1
                  have HW8 := Lib.hid (show ∀ w5, Below wx.heap.size wx w5 → (fun W => W.cell? ⟨G, 0, none⟩ = some (.slice (some ⟨g, 0, none⟩) nodes.length c5) ∧ (W.cell? ⟨X, 0, none⟩ = some (.int .i64 7) ∧ W.cell? ⟨X, 1, none⟩ = some (.int .i64 xa) ∧ W.cell? ⟨X, 2, none⟩ = some (.int .i64 xb) ∧ W.cell? ⟨X, 3, none⟩ = some (.int .i64 xc))) ((((w5.setCell ⟨g, i * 4, none⟩ (.int .i64 yk)).setCell ⟨g, i * 4 + 1, none⟩ (.int .i64 ya)).setCell ⟨g, i * 4 + 2, none⟩ (.int .i64 yb)).setCell ⟨g, i * 4 + 3, none⟩ (.int .i64 yc)) ∧ Keep ((((w5.setCell ⟨g, i * 4, none⟩ (.int .i64 yk)).setCell ⟨g, i * 4 + 1, none⟩ (.int .i64 ya)).setCell ⟨g, i * 4 + 2, none⟩ (.int .i64 yb)).setCell ⟨g, i * 4 + 3, none⟩ (.int .i64 yc)) w2.heap.size (swV (G + 1) nodes.length G (nats sst) (.slice (some ⟨g, 0, none⟩) nodes.length c5) (dfRun nodes sst sm (i + 1)) (.slice A6 ins.length c6) ins vsi (.slice A7 outs.length c7) (outs) vso) ∧ Below w2.heap.size w2 ((((w5.setCell ⟨g, i * 4, none⟩ (.int .i64 yk)).setCell ⟨g, i * 4 + 1, none⟩ (.int .i64 ya)).setCell ⟨g, i * 4 + 2, none⟩ (.int .i64 yb)).setCell ⟨g, i * 4 + 3, none⟩ (.int .i64 yc)) ∧ ((∃ u, w5.cell? ⟨g, i * 4, none⟩ = some u) ∧ (∃ u, w5.cell? ⟨g, i * 4 + 1, none⟩ = some u) ∧ (∃ u, w5.cell? ⟨g, i * 4 + 2, none⟩ = some u) ∧ (∃ u, w5.cell? ⟨g, i * 4 + 3, none⟩ = some u)) ∧ (w5.frozen? ⟨g, i * 4, none⟩ = false ∧ w5.frozen? ⟨g, i * 4 + 1, none⟩ = false ∧ w5.frozen? ⟨g, i * 4 + 2, none⟩ = false ∧ w5.frozen? ⟨g, i * 4 + 3, none⟩ = false) from fun w5 hb5 => by
                    have hk5 := HKX.out.below hb5
                    have hk6 : Keep w5 w2.heap.size (swV (G + 1) nodes.length G (nats sst) (.slice (some ⟨g, 0, none⟩) (dfRun nodes sst sm i).length c5) (dfRun nodes sst sm i) (.slice A6 ins.length c6) ins vsi (.slice A7 outs.length c7) (outs) vso) := by rw [HDL.out]; exact hk5
                    have hil : i < (dfRun nodes sst sm i).length := by rw [HDL.out]; exact hlt
                    have hk8 := swV_node hk6 hil ⟨yk, ya, yb, yc⟩
                    have hna := swV_nodeAt hk6 hil
                    have ho8 : ∀ t, t ≠ g → ((((w5.setCell ⟨g, i * 4, none⟩ (.int .i64 yk)).setCell ⟨g, i * 4 + 1, none⟩ (.int .i64 ya)).setCell ⟨g, i * 4 + 2, none⟩ (.int .i64 yb)).setCell ⟨g, i * 4 + 3, none⟩ (.int .i64 yc)).heap[t]? = w5.heap[t]? := fun t ht => by
                      rw [heap_setCell_other _ ⟨g, i * 4 + 3, none⟩ t _ ht, heap_setCell_other _ ⟨g, i * 4 + 2, none⟩ t _ ht, heap_setCell_other _ ⟨g, i * 4 + 1, none⟩ t _ ht, heap_setCell_other _ ⟨g, i * 4, none⟩ t _ ht]
                    obtain ⟨m0, c0, c1, c2, c3⟩ := HSW.out w5 hb5
                    have hcX : ∀ t, ((((w5.setCell ⟨g, i * 4, none⟩ (.int .i64 yk)).setCell ⟨g, i * 4 + 1, none⟩ (.int .i64 ya)).setCell ⟨g, i * 4 + 2, none⟩ (.int .i64 yb)).setCell ⟨g, i * 4 + 3, none⟩ (.int .i64 yc)).cell? ⟨X, t, none⟩ = w5.cell? ⟨X, t, none⟩ := fun t => World.cell?_of_block (ho8 X (fun e => hgX e.symm))
                    have hcG : ∀ t, ((((w5.setCell ⟨g, i * 4, none⟩ (.int .i64 yk)).setCell ⟨g, i * 4 + 1, none⟩ (.int .i64 ya)).setCell ⟨g, i * 4 + 2, none⟩ (.int .i64 yb)).setCell ⟨g, i * 4 + 3, none⟩ (.int .i64 yc)).cell? ⟨G, t, none⟩ = w5.cell? ⟨G, t, none⟩ := fun t => World.cell?_of_block (ho8 G hgG)
                    refine ⟨⟨(hcG 0).trans m0, (hcX 0).trans c0, (hcX 1).trans c1, (hcX 2).trans c2, (hcX 3).trans c3⟩, ?_, ((((HBX.out.trans (hb5.mono HBX.out.size)).setCell (p := ⟨g, i * 4, none⟩) hgb _).setCell (p := ⟨g, i * 4 + 1, none⟩) hgb _).setCell (p := ⟨g, i * 4 + 2, none⟩) hgb _).setCell (p := ⟨g, i * 4 + 3, none⟩) hgb _, ⟨(hna 0 (by omega)).1, (hna 1 (by omega)).1, (hna 2 (by omega)).1, (hna 3 (by omega)).1⟩, (hna 0 (by omega)).2, (hna 1 (by omega)).2, (hna 2 (by omega)).2, (hna 3 (by omega)).2⟩
                    rw [HDS.out]
                    rw [HDL.out] at hk8
                    exact hk8)
                  have hilN : (i : Int) < (nodes.length : Int) := by omega
                  clear hwx hbx hsx hcx hiu hst hy
                  go_wp2_with fail
                  rw [← HWX.out]
                  clear hX y0 y1 y2 y3 z0 z1 z2
                  go_region_held3 (fun W => W.cell? ⟨G, 0, none⟩ = some (.slice (some ⟨g, 0, none⟩) nodes.length c5) ∧ (W.cell? ⟨X, 0, none⟩ = some (.int .i64 7) ∧ W.cell? ⟨X, 1, none⟩ = some (.int .i64 xa) ∧ W.cell? ⟨X, 2, none⟩ = some (.int .i64 xb) ∧ W.cell? ⟨X, 3, none⟩ = some (.int .i64 xc)))
                    (first | with_reducible exact HX0.out | with_reducible exact HXD.out | with_reducible exact HX5.out | with_reducible exact HX8.out)
                    (first
                      | (go_at_call 70; refine (HPW.out _ HBD.out).mono ?_; rintro e w5 ⟨rfl, hb5⟩; have HB5 := Lib.hid (HBD.out.trans (hb5.mono (Nat.le_refl _))); have HX5 := Lib.hid (HSW.out w5 HB5.out); obtain ⟨hx8, hk8, hb8, ⟨⟨u0, q0⟩, ⟨u1, q1⟩, ⟨u2, q2⟩, ⟨u3, q3⟩⟩, ⟨r0, r1, r2, r3⟩⟩ := HW8.out w5 HB5.out; have HX8 := Lib.hid hx8; have HK8 := Lib.hid hk8; have HB8 := Lib.hid hb8; clear hb5 hx8 hk8 hb8))
                  go_wp2_with fail
                  refine ⟨⟨i + 1, by go_num, by omega, HDL2, HK8, HB8⟩, ?_⟩
                  simp [intOf]; omega
                · have hk7 : (xk == 7) = false := by simpa using h7
                  rw [if_neg h7] at HDS
                  have HDL2 := Lib.hid (show (dfRun nodes sst sm (i + 1)).length = nodes.length by rw [HDS.out]; exact HDL.out)
                  clear hwx hbx hsx hiu h7
                  go_wp2_with fail
                  rw [← HWX.out]
                  refine ⟨⟨i + 1, by go_num, by omega, HDL2, by rw [HDS.out]; exact HKX, HBX⟩, ?_⟩
                  simp [intOf]; omega
              · obtain rfl : i = nodes.length := by omega
                obtain ⟨md, hmd⟩ : ∃ md, dfRun nodes sst sm nodes.length = md := ⟨_, rfl⟩
                rw [hmd] at HK HOUT0
                obtain ⟨m0, m1, m2⟩ := swV_cells HK.out
                clear hlt hi hmd HDL hrn z0 z1 z2
                go_wp2_with fail
                clear m0 m1 m2
                obtain ⟨wo, hwo⟩ : ∃ wo, wo = wr := ⟨_, rfl⟩
                subst hwo
                go_loopw [115] (fun iv wr => ∃ i : Nat, iv = .int .i64 i ∧ i ≤ outs.length ∧ Hid (Keep wr w2.heap.size (swV (G + 1) nodes.length G (nats sst) (.slice A5 nodes.length c5) md (.slice A6 ins.length c6) ins vsi (.slice A7 outs.length c7) (stP (stF sst) outs i) vso)) ∧ Hid (Below w2.heap.size w2 wr)) (fun iv _ => outs.length - (intOf iv).toNat)
                case atStart => exact ⟨0, rfl, Nat.zero_le _, by rw [stP_zero]; exact HK, HB⟩
                case round =>
                  clear HK HB
                  obtain ⟨i, rfl, hi, HK, HB⟩ := hrel
                  by_cases hlt : i < outs.length
                  · obtain ⟨g, c, u, he, hu, y0, y1⟩ := ptT_at (swV_out HK.out) (by rw [stP_length hi]; exact HVO.out) (stP_at hlt)
                    rw [stP_length hi] at he
                    injection he with he1 _ he3
                    subst he1 he3
                    have ho := (swV_out HK.out).ints (ptT_bits (swV_out HK.out) (stP_at hlt) hu)
                    have hq := HFB.out.2 _ (List.mem_append_right _ (List.getElem_mem hlt))
                    have hbl := HF.out.bits _ (List.mem_append_right _ (List.getElem_mem hlt))
                    have HST := Lib.hid (stP_same (f := stF sst) hlt)
                    have HSN := Lib.hid (stP_next (f := stF sst) hlt)
                    have HSA := Lib.hid (stP_at (f := stF sst) hlt)
                    have hsi : (stP (stF sst) outs i).length = outs.length := stP_length hi
                    obtain ⟨p, hp⟩ : ∃ p, outs[i] = p := ⟨_, rfl⟩
                    rw [hp] at y0 ho hq hbl HST HSN HSA
                    obtain ⟨s, bs⟩ := p
                    dsimp only at y0 ho hq hbl
                    obtain ⟨b, d, rfl, -, -⟩ := ho.form (List.length_pos_iff.2 hq.1)
                    have HQ := Lib.hid hq.2
                    have HU := Lib.hid hu
                    have hbX := (ho.base (g := b) rfl).2
                    have hbP := (ho.base (g := b) rfl).1
                    obtain ⟨X, hX⟩ : ∃ X, wr.heap.size = X := ⟨_, rfl⟩
                    have hbx : Below wr.heap.size wr (wr.alloc (.cells #[.string s, .slice (some ⟨b, 0, none⟩) bs.length d] 53)) := (Below.refl _ _).alloc (Nat.le_refl _) _
                    have HKX := Lib.hid (HK.out.below hbx)
                    have HBX := Lib.hid (HB.out.trans (hbx.mono HB.out.size))
                    have HCX := Lib.hid (show (wr.alloc (.cells #[.string s, .slice (some ⟨b, 0, none⟩) bs.length d] 53)).cell? ⟨X, 1, none⟩ = some (.slice (some ⟨b, 0, none⟩) bs.length d) by rw [← hX]; exact World.cell?_alloc_new _ _ _ 1)
                    rw [hX] at hbX
                    clear ho hq hu hp hbx HK HB
                    go_wp2_with fail
                    clear hX
                    obtain ⟨wo2, hwo2⟩ : ∃ wo, wo = wr := ⟨_, rfl⟩
                    subst hwo2
                    go_loopw [122] (fun kv wr => ∃ k : Nat, kv = .int .i64 k ∧ k ≤ bs.length ∧ Hid (Keep wr w2.heap.size (swV (G + 1) nodes.length G (nats sst) (.slice A5 nodes.length c5) md (.slice A6 ins.length c6) ins vsi (.slice (some ⟨g, 0, none⟩) outs.length c7) ((stP (stF sst) outs i).set i ⟨s, mixB (stF sst) bs k⟩) vso)) ∧ Hid (Below w2.heap.size w2 wr) ∧ Hid (wr.cell? ⟨X, 1, none⟩ = some (.slice (some ⟨b, 0, none⟩) bs.length d))) (fun kv _ => bs.length - (intOf kv).toNat)
                    case atStart => exact ⟨0, rfl, Nat.zero_le _, by rw [mixB_zero, HST.out]; exact HKX, HBX, HCX⟩
                    case round =>
                      clear y0 y1 HKX HBX HCX
                      obtain ⟨k, rfl, hk, HK, HB, HCX⟩ := hrel
                      by_cases hkt : k < bs.length
                      · have hat : ((stP (stF sst) outs i).set i ⟨s, mixB (stF sst) bs k⟩)[i]? = some ⟨s, mixB (stF sst) bs k⟩ := by
                          rw [List.getElem?_set]; simp [hsi, hlt]
                        have hoK := (swV_out HK.out).ints (ptT_bits (swV_out HK.out) hat HU.out)
                        have hm := HQ.out _ (List.getElem_mem hkt)
                        have HMN := Lib.hid (mixB_next (f := stF sst) hkt)
                        have hma := mixB_at (f := stF sst) hkt
                        obtain ⟨a, ha⟩ := Int.eq_ofNat_of_zero_le hm.1
                        rw [ha] at hm HMN hma
                        obtain ⟨x0, x1⟩ := hoK.cellAt? hma
                        have hcs : (nats sst)[a]? = some (stF sst a : Int) := stF_at (by have := HLS.out; omega)
                        have p0 := ((HK.out.ints (i := 0) rfl).cellAt? hcs).1
                        have HKN := Lib.hid (swV_setOut HK.out hat HU.out k (stF sst a : Int))
                        have hc1 := HCX.out
                        have HCN := Lib.hid (show ((wr.drew).setCell ⟨b, k, none⟩ (.int .i64 (stF sst a : Int))).cell? ⟨X, 1, none⟩ = some (.slice (some ⟨b, 0, none⟩) bs.length d) by rw [World.cell?_setCell_other (h := by intro h; injection h with h _; omega)]; exact HCX.out)
                        have HBN := Lib.hid (HB.out.drew.setCell (p := ⟨b, k, none⟩) hbP (.int .i64 (stF sst a : Int)))
                        have HKN2 := Lib.hid (swV_setOut HK.out.drew hat HU.out k (stF sst a : Int))
                        have e0 : wr.drew.cell? _ = _ := x0
                        have e1 : wr.drew.frozen? _ = _ := x1
                        clear hoK hma ha HKN hcs
                        go_wp2_with fail
                        go_still_tail 8, (by kernel_rfl)
                        change wpList _ _ _ _ _ wr.drew
                        generalize wr.drew = w9 at e0 e1 HCN HBN HKN2
                        go_wp2_with fail
                        refine ⟨⟨k + 1, by go_num, by omega, ?_, HBN, HCN⟩, ?_⟩
                        · have h := HKN2.out
                          rw [List.set_set] at h
                          rw [show (stF sst a : Int) = rpB (stF sst) (a : Int) from rfl, HMN.out] at h
                          exact Lib.hid h
                        · simp [intOf]; omega
                      · obtain rfl : k = bs.length := by omega
                        rw [mixB_full] at HK
                        have HKN : Hid (Keep wr w2.heap.size (swV (G + 1) nodes.length G (nats sst) (.slice A5 nodes.length c5) md (.slice A6 ins.length c6) ins vsi (.slice (some ⟨g, 0, none⟩) outs.length c7) (stP (stF sst) outs (i + 1)) vso)) := by
                          rw [← HSN.out]; exact HK
                        clear HK HCX
                        go_wp2
                        refine ⟨⟨i + 1, by go_num, by omega, HKN, HB⟩, ?_⟩
                        simp [intOf]; omega
                  · obtain rfl : i = outs.length := by omega
                    rw [stP_full] at HK
                    obtain ⟨A9, c9, he9, -, -⟩ := (rwNodes_at.1 (HK.out.own 2 _ rfl)).shape
                    have hmdl : md.length = nodes.length := by injection he9 with _ e _; exact e.symm
                    obtain ⟨⟨z0, z1, z2⟩, ⟨t0, t1, t2⟩, ⟨f0, f1, f2⟩, -, -, hbw⟩ := HALL.out _ (HB2.out.trans (HB.out.mono HB2.out.size))
                    obtain ⟨e0, e1, e2⟩ := swV_cells HK.out
                    have hbX : w.heap.size + 1 < w2.heap.size := by have := HB2.out.size; have := HS1.out; omega
                    have hnx : ∀ (j : Nat) (r : Rw), (swV (G + 1) nodes.length G (nats sst) (.slice A5 nodes.length c5) md (.slice A6 ins.length c6) ins vsi (.slice A7 outs.length c7) (outs.map (rpP (stF sst))) vso)[j]? = some r → r.v.ownBlock ≠ some (w.heap.size + 1) := fun j r hr e => by have := (HK.out.lt hr e).1; omega
                    have HNF := Lib.hid (swV_net (((HK.out.skip hnx 0 (.slice A5 nodes.length c5)).skip hnx 1 (.slice A6 ins.length c6)).skip hnx 2 (.slice A7 outs.length c7)) HVI.out (by rw [List.length_map]; exact HVO.out))
                    have HBF := Lib.hid (((hbw.setCell (p := ⟨w.heap.size + 1, 0, none⟩) (by simp) (.slice A5 nodes.length c5)).setCell (p := ⟨w.heap.size + 1, 1, none⟩) (by simp) (.slice A6 ins.length c6)).setCell (p := ⟨w.heap.size + 1, 2, none⟩) (by simp) (.slice A7 outs.length c7))
                    have sa0 : (wr.setCell ⟨w.heap.size + 1, 0, none⟩ (.slice A5 nodes.length c5)).cell? ⟨w.heap.size + 1, 0, none⟩ = some (.slice A5 nodes.length c5) := World.cell?_setCell_same _ _ _ t0
                    have sa1 : ((wr.setCell ⟨w.heap.size + 1, 0, none⟩ (.slice A5 nodes.length c5)).setCell ⟨w.heap.size + 1, 1, none⟩ (.slice A6 ins.length c6)).cell? ⟨w.heap.size + 1, 1, none⟩ = some (.slice A6 ins.length c6) := World.cell?_setCell_same _ _ _ (by rw [World.cell?_setCell_other (h := by intro h; injection h with _ h; omega)]; exact t1)
                    obtain ⟨s0, s1, s2⟩ := set3_cells (x := .slice A5 nodes.length c5) (y := .slice A6 ins.length c6) (z := .slice A7 outs.length c7) t0 t1 t2
                    have HOUT := Lib.hid (HOUT0.out _ _ _ rfl rfl rfl)
                    clear hnx hbw he9 HK HB
                    go_wp2
                    refine bodyPost_ret (v := .tuple #[.agg #[.slice A5 nodes.length c5, .slice A6 ins.length c6, .slice A7 outs.length c7], .int .i64 (smany : Int), .int .i64 0]) (by simp [results, Try.results32, go_sem, s0, s1, s2]) rfl ?_
                    exact ⟨_, _, 0, _, _, _, rfl, HNF.out, HOUT.out, HBF.out⟩
  · have HBF := Lib.hid (((HBW.out.setCell (p := ⟨w.heap.size + 1, 0, none⟩) (by simp) (.slice none 0 0)).setCell (p := ⟨w.heap.size + 1, 1, none⟩) (by simp) (.slice none 0 0)).setCell (p := ⟨w.heap.size + 1, 2, none⟩) (by simp) (.slice none 0 0))
    obtain ⟨s0, s1, s2⟩ := set3_cells (x := .slice none 0 0) (y := .slice none 0 0) (z := .slice none 0 0) t0 t1 t2
    have HNF := Lib.hid (show NetV (((w2.setCell ⟨w.heap.size + 1, 0, none⟩ (.slice none 0 0)).setCell ⟨w.heap.size + 1, 1, none⟩ (.slice none 0 0)).setCell ⟨w.heap.size + 1, 2, none⟩ (.slice none 0 0)) (.agg #[.slice none 0 0, .slice none 0 0, .slice none 0 0]) [] [] [] from ⟨_, _, _, rfl, nilRow _ _ _, nilRow _ _ _, nilRow _ _ _⟩)
    have hout : ShrOut nodes ins outs x 0 [] [] [] := ⟨fun _ => ⟨⟨_, HL.out.choose_spec.1⟩, rfl, rfl, rfl, rfl⟩, fun h => absurd h hx⟩
    have HOUT := Lib.hid hout
    clear hout
    go_wp2
    refine bodyPost_ret (v := .tuple #[.agg #[.slice none 0 0, .slice none 0 0, .slice none 0 0], .int .i64 0, .int .i64 x]) (by simp [results, Try.results32, go_sem, s0, s1, s2]) rfl ?_
    exact ⟨_, 0, x, [], [], [], rfl, HNF.out, HOUT.out, HBF.out⟩
end Go.Proofs.Ytbfjacgfifecpaa
