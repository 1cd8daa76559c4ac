/- Nets that are the same: slipstickref06.Same; a few numbers of nat. -/
import Derived.Test.YtdljgifoboiaeaaR07h
namespace Go.Proofs.Ytdljgifoboiaeaa
open Go.RowKit

set_option maxHeartbeats 2000000 in
set_option maxRecDepth 100000 in
theorem ints_same (w : World) (S S' : Nat → Prop) (v u : Value) (xs : List Int) (hx : Row kInt w S v xs) (hy : Row kInt w S' u xs) (hl : xs.length ≤ 1099511627776) :
    Calls Try.prog 133 #[v, u] w fun e w' => e = .returned (.bool true) ∧ Below w.heap.size w w' := by
  obtain ⟨A, c, rfl, -, -⟩ := hx.shape
  obtain ⟨A', c', rfl, -, -⟩ := hy.shape
  have HX := Lib.hid hx
  have HY := Lib.hid hy
  clear hx hy
  go_enter Try.func133, Try.ntmps133
  go_wp2_with fail
  go_loopw [5] (fun i wr => ∃ j : Nat, j ≤ xs.length ∧ i = .int .i64 j ∧ Below w.heap.size w wr) (fun i _ => xs.length - (intOf i).toNat)
  case atStart => exact ⟨0, Nat.zero_le _, rfl, Below.refl _ _⟩
  case round =>
    obtain ⟨j, hj, rfl, hb⟩ := hrel
    have HB := Lib.hid hb
    by_cases hlt : j < xs.length
    · obtain ⟨b1, o1, rfl, x1⟩ := (HX.out.later hb).int_at hlt
      obtain ⟨b2, o2, rfl, x2⟩ := (HY.out.later hb).int_at hlt
      generalize xs[j] = x at *
      clear hb
      go_wp2_with fail
      go_quiet (fail)
      go_wp2
      go_roundw
      case rel =>
        first
          | exact ⟨j + 1, by omega, by go_num, HB.out.trans ((pw_drewN _ _).mono HB.out.size)⟩
          | ((repeat apply Exists.intro); exact ⟨⟨j + 1, by omega, by go_num, HB.out.trans ((pw_drewN _ _).mono HB.out.size)⟩, rfl⟩)
      case measure => simp [intOf]; omega
    · obtain rfl : j = xs.length := by omega
      clear hb
      go_wp2
      go_ret
      exact ⟨rfl, HB.out⟩

set_option maxHeartbeats 4000000 in
set_option maxRecDepth 100000 in
theorem ports_same (w : World) (S S' : Nat → Prop) (v u : Value) (ps : List Port) (hx : Row kPort w S v ps) (hy : Row kPort w S' u ps) (hl : ps.length ≤ 1099511627776) (hb : ∀ q ∈ ps, q.bits.length ≤ 1099511627776) :
    Calls Try.prog 126 #[v, u] w fun e w' => e = .returned (.bool true) ∧ Below w.heap.size w w' := by
  obtain ⟨A, c, rfl, -, -⟩ := hx.shape
  obtain ⟨A', c', rfl, -, -⟩ := hy.shape
  have HX := Lib.hid hx
  have HY := Lib.hid hy
  have HBL := Lib.hid hb
  clear hx hy hb
  go_enter Try.func126, Try.ntmps126
  go_wp2_with fail
  go_loopw [5] (fun i wr => ∃ j : Nat, j ≤ ps.length ∧ i = .int .i64 j ∧ Below w.heap.size w wr) (fun i _ => ps.length - (intOf i).toNat)
  case atStart => exact ⟨0, Nat.zero_le _, rfl, Below.refl _ _⟩
  case round =>
    obtain ⟨j, hj, rfl, hb⟩ := hrel
    have HB := Lib.hid hb
    by_cases hlt : j < ps.length
    · obtain ⟨b1, o1, A1, c1, rfl, x1, y1, r1⟩ := (HX.out.later hb).port_at hlt
      obtain ⟨b2, o2, A2, c2, rfl, x2, y2, r2⟩ := (HY.out.later hb).port_at hlt
      have hbl := HBL.out _ (List.getElem_mem hlt)
      generalize ps[j] = x at *
      obtain ⟨name, bits⟩ := x
      dsimp only at *
      have R1 := Lib.hid (r1.later (Below.refl _ _).drew)
      have R2 := Lib.hid (r2.later (Below.refl _ _).drew)
      clear hb r1 r2
      go_wp2_with fail
      go_still_tail 22, (by kernel_rfl)
      go_wp2_with fail
      refine (ints_same _ _ _ _ _ bits R1.out R2.out hbl).mono ?_
      rintro e w2 ⟨rfl, hb2⟩
      have HB2 := Lib.hid (HB.out.drew.trans (hb2.mono HB.out.size))
      clear hb2
      go_wp2_with fail
      go_roundw
      case rel => exact ⟨j + 1, by omega, by go_num, HB2.out⟩
      case measure => simp [intOf]; omega
    · obtain rfl : j = ps.length := by omega
      clear hb
      go_wp2
      go_ret
      exact ⟨rfl, HB.out⟩

set_option maxHeartbeats 4000000 in
set_option maxRecDepth 100000 in
theorem same_net (w : World) (v u : Value) (nodes : List Node) (ins outs : List Port) (hx : NetV w v nodes ins outs) (hy : NetV w u nodes ins outs) (hnl : nodes.length ≤ 1099511627776) (hi : ins.length ≤ 1073741824) (ho : outs.length ≤ 1073741824) (hib : ∀ q ∈ ins, q.bits.length ≤ 1099511627776) (hob : ∀ q ∈ outs, q.bits.length ≤ 1099511627776) :
    Calls Try.prog 87 #[v, u] w fun e w' => e = .returned (.bool true) ∧ Below w.heap.size w w' := by
  obtain ⟨v1, v2, v3, rfl, h1, h2, h3⟩ := hx
  obtain ⟨u1, u2, u3, rfl, k1, k2, k3⟩ := hy
  obtain ⟨A1, a1, rfl, -, -⟩ := h1.shape
  obtain ⟨A2, a2, rfl, -, -⟩ := h2.shape
  obtain ⟨A3, a3, rfl, -, -⟩ := h3.shape
  obtain ⟨B1, b1, rfl, -, -⟩ := k1.shape
  obtain ⟨B2, b2, rfl, -, -⟩ := k2.shape
  obtain ⟨B3, b3, rfl, -, -⟩ := k3.shape
  let ob1 := netBox (.slice A1 nodes.length a1) (.slice A2 ins.length a2) (.slice A3 outs.length a3)
  let ob2 := netBox (.slice B1 nodes.length b1) (.slice B2 ins.length b2) (.slice B3 outs.length b3)
  have hb0 : Below w.heap.size w ((w.alloc ob1).alloc ob2) := ((Below.refl _ _).alloc (Nat.le_refl _) _).alloc (by simp) _
  have hsz : ((w.alloc ob1).alloc ob2).heap.size = w.heap.size + 2 := by simp
  have hz : ∀ W : World, Below (w.heap.size + 2) ((w.alloc ob1).alloc ob2) W → (W.cell? ⟨w.heap.size, 0, none⟩ = some (.slice A1 nodes.length a1) ∧ W.cell? ⟨w.heap.size, 1, none⟩ = some (.slice A2 ins.length a2) ∧ W.cell? ⟨w.heap.size, 2, none⟩ = some (.slice A3 outs.length a3)) ∧
      (W.cell? ⟨w.heap.size + 1, 0, none⟩ = some (.slice B1 nodes.length b1) ∧ W.cell? ⟨w.heap.size + 1, 1, none⟩ = some (.slice B2 ins.length b2) ∧ W.cell? ⟨w.heap.size + 1, 2, none⟩ = some (.slice B3 outs.length b3)) ∧ Below w.heap.size w W := by
    intro W hW
    have hs1 : (w.alloc ob1).heap.size = w.heap.size + 1 := by simp
    have q : ∀ j, W.cell? ⟨w.heap.size, j, none⟩ = (w.alloc ob1).cell? ⟨w.heap.size, j, none⟩ := fun j => (hW.cell (p := ⟨w.heap.size, j, none⟩) (by show w.heap.size < w.heap.size + 2; omega)).trans (World.cell?_alloc_lt _ _ _ (by simp))
    have r : ∀ j, W.cell? ⟨w.heap.size + 1, j, none⟩ = ((w.alloc ob1).alloc ob2).cell? ⟨(w.alloc ob1).heap.size, j, none⟩ := fun j => by rw [hs1]; exact hW.cell (p := ⟨w.heap.size + 1, j, none⟩) (by show w.heap.size + 1 < w.heap.size + 2; omega)
    exact ⟨⟨(q 0).trans (World.cell?_alloc_new _ _ _ 0), (q 1).trans (World.cell?_alloc_new _ _ _ 1), (q 2).trans (World.cell?_alloc_new _ _ _ 2)⟩, ⟨(r 0).trans (World.cell?_alloc_new _ _ _ 0), (r 1).trans (World.cell?_alloc_new _ _ _ 1), (r 2).trans (World.cell?_alloc_new _ _ _ 2)⟩, hb0.trans (hW.mono (by omega))⟩
  have HZ := Lib.hid hz
  have HSZ := Lib.hid hsz
  have H1 := Lib.hid h1
  have H2 := Lib.hid h2
  have H3 := Lib.hid h3
  have K1 := Lib.hid k1
  have K2 := Lib.hid k2
  have K3 := Lib.hid k3
  have HIB := Lib.hid hib
  have HOB := Lib.hid hob
  obtain ⟨⟨z0, -, -⟩, ⟨y0, -, -⟩, -⟩ := hz _ (Below.refl _ _)
  clear hz hsz h1 h2 h3 k1 k2 k3 hb0 hib hob
  go_enter Try.func87, Try.ntmps87
  go_wp2_with fail
  go_loopw [5] (fun i wr => ∃ j : Nat, j ≤ nodes.length ∧ i = .int .i64 j ∧ Below (w.heap.size + 2) ((w.alloc ob1).alloc ob2) wr) (fun i _ => nodes.length - (intOf i).toNat)
  case atStart => exact ⟨0, Nat.zero_le _, rfl, Below.refl _ _⟩
  case round =>
    obtain ⟨j, hj, rfl, hb⟩ := hrel
    clear z0 y0
    obtain ⟨⟨z0, z1, z2⟩, ⟨y0, y1, y2⟩, hbw⟩ := HZ.out _ hb
    have HB := Lib.hid hb
    by_cases hlt : j < nodes.length
    · obtain ⟨b1, o1, rfl, s0, s1, s2, s3⟩ := (H1.out.later hbw).node_at hlt
      obtain ⟨b2, o2, rfl, t0, t1, t2, t3⟩ := (K1.out.later hbw).node_at hlt
      generalize nodes[j] = x at *
      obtain ⟨kind, xa, xb, xc⟩ := x
      dsimp only at *
      clear hb hbw z1 z2 y1 y2
      go_wp2_with fail
      go_quiet (fail)
      go_wp2
      go_roundw
      case rel =>
        first
          | exact ⟨j + 1, by omega, by go_num, HB.out.trans ((pw_drewN _ _).mono (show w.heap.size + 2 ≤ wr.heap.size by rw [← HSZ.out]; exact HB.out.size))⟩
          | ((repeat apply Exists.intro); exact ⟨⟨j + 1, by omega, by go_num, HB.out.trans ((pw_drewN _ _).mono (show w.heap.size + 2 ≤ wr.heap.size by rw [← HSZ.out]; exact HB.out.size))⟩, rfl⟩)
      case measure => simp [intOf]; omega
    · obtain rfl : j = nodes.length := by omega
      have HBW := Lib.hid hbw
      clear hb hbw
      go_wp2_with fail
      refine (ports_same _ _ _ _ _ ins (H2.out.later HBW.out) (K2.out.later HBW.out) (by omega) HIB.out).mono ?_
      rintro e w1 ⟨rfl, hb1⟩
      have hb2 := HB.out.trans (hb1.mono (by rw [← HSZ.out]; exact HB.out.size))
      have HB2 := Lib.hid hb2
      clear z0 z1 z2 y0 y1 y2
      obtain ⟨⟨z0, z1, z2⟩, ⟨y0, y1, y2⟩, hbw⟩ := HZ.out _ hb2
      have HBW2 := Lib.hid hbw
      clear hb1 hb2 hbw
      go_wp2_with fail
      refine (ports_same _ _ _ _ _ outs (H3.out.later HBW2.out) (K3.out.later HBW2.out) (by omega) HOB.out).mono ?_
      rintro e w2 ⟨rfl, hb3⟩
      have HB3 := Lib.hid (HBW2.out.trans (hb3.mono HBW2.out.size))
      clear hb3
      go_wp2
      go_ret
      exact ⟨rfl, HB3.out⟩
end Go.Proofs.Ytdljgifoboiaeaa
