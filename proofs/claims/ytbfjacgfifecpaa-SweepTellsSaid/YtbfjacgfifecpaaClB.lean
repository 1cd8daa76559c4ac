/- net.Clone: a copy of the call's own. -/
import Derived.Test.YtbfjacgfifecpaaClA
namespace Go.Proofs.Ytbfjacgfifecpaa
open Go.RowKit

theorem ptT_row {w : World} {B : Nat} {v : Value} {ps : List Port} {vs : List Value} (h : Keep w B (ptT v ps vs)) (hl : vs.length = ps.length) : Row kPort w (fun _ => False) v ps := by
  have ho := ptT_hdr h
  obtain ⟨A, c, css, rfl, r1, r2, r0, r3, r4⟩ := ho.row (show 0 < 2 by decide) (Nat.le_refl _)
  have hn := hdrs_length hl
  rw [hn] at r1 r4
  refine ⟨A, c, css, by rw [hn], r1, r2, r0, ⟨by rw [r3.1, hn], fun i p cs hp hc => ?_⟩, fun h0 => ?_⟩
  · have hi := (List.getElem?_eq_some_iff.1 hp).1
    obtain ⟨u, hu⟩ : ∃ u, vs[i]? = some u := ⟨_, List.getElem?_eq_getElem (by omega)⟩
    have hh : (hdrs ps vs)[i]? = some (p.name, u) := by
      unfold hdrs
      rw [List.getElem?_map, (List.getElem?_zip_eq_some (z := (p, u))).2 ⟨hp, hu⟩]
      rfl
    obtain ⟨rfl, -⟩ := r3.2 i _ cs hh hc
    exact ⟨u, rfl, (h.ints (ptT_bits h hp hu)).rowS _ (fun _ _ h => h)⟩
  · obtain ⟨b, off, e, q1, _, q3⟩ := r4 h0
    exact ⟨b, off, e, q1, fun h => h, q3⟩
/-- the rows of a net -/
abbrev netT (vn : Value) (nodes : List Node) (vi : Value) (ins : List Port) (vsi : List Value) (vo : Value) (outs : List Port) (vso : List Value) : List Rw := rwNodes vn nodes :: (ptT vi ins vsi ++ ptT vo outs vso)
theorem Keep.left {w : World} {B : Nat} {T U : List Rw} (h : Keep w B (T ++ U)) : Keep w B T := h.pick id (fun _ _ _ _ e => e) fun i r hr => by
  rw [id, List.getElem?_append_left (List.getElem?_eq_some_iff.1 hr).1]; exact hr
theorem Keep.right {w : World} {B : Nat} {T U : List Rw} (h : Keep w B (T ++ U)) : Keep w B U := h.pick (fun i => T.length + i) (fun i j _ _ e => by omega) fun i r hr => by
  rw [List.getElem?_append_right (by omega), Nat.add_sub_cancel_left]; exact hr
theorem Keep.tail {w : World} {B : Nat} {r : Rw} {U : List Rw} (h : Keep w B (r :: U)) : Keep w B U := Keep.right (T := [r]) h
theorem netT_net {w : World} {B : Nat} {vn vi vo : Value} {nodes : List Node} {ins outs : List Port} {vsi vso : List Value} (h : Keep w B (netT vn nodes vi ins vsi vo outs vso)) (hi : vsi.length = ins.length) (ho : vso.length = outs.length) :
    NetV w (.agg #[vn, vi, vo]) nodes ins outs :=
  ⟨vn, vi, vo, rfl, (rwNodes_at.1 (h.own 0 _ rfl)).rowNodes (fun _ h => h.elim), ptT_row h.tail.left hi, ptT_row h.tail.right ho⟩

set_option maxHeartbeats 2000000 in
set_option maxRecDepth 4096 in
theorem clone_own (w : World) (v : Value) (nodes : List Node) (ins outs : List Port) (hN : NetV w v nodes ins outs) (hnl : nodes.length ≤ 1099511627776) (hil : ins.length ≤ 1073741824) (hol : outs.length ≤ 1073741824) (hbits : ∀ q ∈ ins ++ outs, q.bits.length ≤ 1099511627776) :
    Calls Try.prog 30 #[v] w fun e w' => ∃ vn vi vo vsi vso, e = .returned (.agg #[vn, vi, vo]) ∧ vsi.length = ins.length ∧ vso.length = outs.length ∧ Keep w' w.heap.size (netT vn nodes vi ins vsi vo outs vso) ∧ Below w.heap.size w w' := by
  obtain ⟨An, cn, Ai, ci, Ao, co, rfl, hbox⟩ := hN.box
  let ob := netBox (.slice An nodes.length cn) (.slice Ai ins.length ci) (.slice Ao outs.length co)
  have hsz : (w.alloc ob).heap.size = w.heap.size + 1 := by simp
  obtain ⟨w2, hw2⟩ : ∃ w2, w2 = (w.alloc ob).alloc (netBox (.slice none 0 0) (.slice none 0 0) (.slice none 0 0)) := ⟨_, rfl⟩
  have hsz2 : w2.heap.size = w.heap.size + 2 := by rw [hw2]; simp
  have h02 : Below (w.heap.size + 1) (w.alloc ob) w2 := by rw [hw2]; exact (Below.refl _ _).alloc (by rw [hsz]; exact Nat.le_refl _) _
  have hnew : ∀ i, w2.cell? ⟨w.heap.size + 1, i, none⟩ = (#[Value.slice none 0 0, .slice none 0 0, .slice none 0 0] : Array Value)[i]? := fun i => by
    rw [hw2, ← hsz]
    exact World.cell?_alloc_new _ _ _ i
  have hfr : ∀ i, w2.frozen? ⟨w.heap.size + 1, i, none⟩ = false := fun i => by
    rw [hw2, ← hsz]
    exact World.frozen?_alloc_new _ _ _ i
  have hall : ∀ W, Below (w.heap.size + 2) w2 W → (W.cell? ⟨w.heap.size, 0, none⟩ = some (.slice An nodes.length cn) ∧ W.cell? ⟨w.heap.size, 1, none⟩ = some (.slice Ai ins.length ci) ∧ W.cell? ⟨w.heap.size, 2, none⟩ = some (.slice Ao outs.length co)) ∧ (W.cell? ⟨w.heap.size + 1, 0, none⟩ = some (.slice none 0 0) ∧ W.cell? ⟨w.heap.size + 1, 1, none⟩ = some (.slice none 0 0) ∧ W.cell? ⟨w.heap.size + 1, 2, none⟩ = some (.slice none 0 0)) ∧ (W.frozen? ⟨w.heap.size + 1, 0, none⟩ = false ∧ W.frozen? ⟨w.heap.size + 1, 1, none⟩ = false ∧ W.frozen? ⟨w.heap.size + 1, 2, none⟩ = false) := fun W hW => by
    have hb := hW.block (w.heap.size + 1) (by omega)
    obtain ⟨c0, c1, c2, -⟩ := hbox W (h02.trans (hW.mono (by omega)))
    exact ⟨⟨c0, c1, c2⟩, ⟨(World.cell?_of_block hb).trans (hnew 0), (World.cell?_of_block hb).trans (hnew 1), (World.cell?_of_block hb).trans (hnew 2)⟩, ⟨(World.frozen?_of_block hb).trans (hfr 0), (World.frozen?_of_block hb).trans (hfr 1), (World.frozen?_of_block hb).trans (hfr 2)⟩⟩
  have hrows : ∀ W, Below (w.heap.size + 2) w2 W → Row kNode W (fun _ => False) (.slice An nodes.length cn) nodes ∧ Row kPort W (fun _ => False) (.slice Ai ins.length ci) ins ∧ Row kPort W (fun _ => False) (.slice Ao outs.length co) outs ∧ Below w.heap.size w W := fun W hW => by
    obtain ⟨-, -, -, r1, r2, r3, hb⟩ := hbox W (h02.trans (hW.mono (by omega)))
    exact ⟨r1, r2, r3, hb⟩
  have HSC := Lib.hid (show ∀ (W : World) (x y z : Value), Below (w.heap.size + 2) w2 W → (((W.setCell ⟨w.heap.size + 1, 0, none⟩ x).setCell ⟨w.heap.size + 1, 1, none⟩ y).setCell ⟨w.heap.size + 1, 2, none⟩ z).cell? ⟨w.heap.size, 0, none⟩ = some (.slice An nodes.length cn) ∧ (((W.setCell ⟨w.heap.size + 1, 0, none⟩ x).setCell ⟨w.heap.size + 1, 1, none⟩ y).setCell ⟨w.heap.size + 1, 2, none⟩ z).cell? ⟨w.heap.size, 1, none⟩ = some (.slice Ai ins.length ci) ∧ (((W.setCell ⟨w.heap.size + 1, 0, none⟩ x).setCell ⟨w.heap.size + 1, 1, none⟩ y).setCell ⟨w.heap.size + 1, 2, none⟩ z).cell? ⟨w.heap.size, 2, none⟩ = some (.slice Ao outs.length co) from fun W x y z hW => ⟨cell_set3 (by omega) (hall W hW).1.1, cell_set3 (by omega) (hall W hW).1.2.1, cell_set3 (by omega) (hall W hW).1.2.2⟩)
  have HX0 := Lib.hid (hall w2 (Below.refl _ _))
  have HX1 := Lib.hid (hall w2.drew (Below.refl _ _).drew)
  have HALL := Lib.hid hall
  have HROWS := Lib.hid hrows
  have HW2 := Lib.hid hw2
  have HSZ2 := Lib.hid hsz2
  have HC1 := Lib.hid (clone_nodes_calls w2.drew _ nodes _ (hrows _ (Below.refl _ _).drew).1 hnl)
  have HC2 := Lib.hid (fun W hW => cports_own W _ ins (hrows W hW).2.1 (by omega) fun q hq => hbits q (List.mem_append_left _ hq))
  have HC3 := Lib.hid (fun W hW => cports_own W _ outs (hrows W hW).2.2.1 (by omega) fun q hq => hbits q (List.mem_append_right _ hq))
  clear hN hbox hsz hsz2 h02 hnew hfr hall hrows hbits hw2
  go_enter Try.func30, Try.ntmps30
  go_wp2_with fail
  rw [← HW2.out]
  go_region_held3 (fun W => W.cell? ⟨w.heap.size, 0, none⟩ = some (.slice An nodes.length cn) ∧ W.cell? ⟨w.heap.size, 1, none⟩ = some (.slice Ai ins.length ci) ∧ W.cell? ⟨w.heap.size, 2, none⟩ = some (.slice Ao outs.length co))
    (first | with_reducible exact HX1.out.1 | with_reducible exact HX0.out.1 | with_reducible exact (HALL.out _ HB3.out).1 | with_reducible exact (HALL.out _ HB4.out).1 | with_reducible exact (HALL.out _ HB5.out).1 | with_reducible exact HSC.out _ _ _ _ HB5.out)
    (first
      | (go_at_call 68; refine HC1.out.mono ?_; rintro e w3 ⟨v3, rfl, ho3, hb3⟩; obtain ⟨A3, c3, rfl, -, -⟩ := ho3.shape; have HO3 := Lib.hid ho3; have HB3 : Hid (Below (w.heap.size + 2) w2 w3) := Lib.hid ((Below.refl _ w2).drew.trans (hb3.mono (Nat.le_of_eq HSZ2.out.symm))); clear hb3 ho3)
      | (go_at_call 66; refine (HC3.out _ HB4.out).mono ?_; rintro e w5 ⟨v5, vs5, rfl, hv5, hr5, hb5⟩; obtain ⟨A5, c5, he5, -, -⟩ := (ptT_hdr hr5).shape; have HR5 := Lib.hid hr5; have HV5 := Lib.hid hv5; have HBB5 := Lib.hid hb5; have HE5 := Lib.hid (he5.trans (congrArg (fun n => Value.slice A5 n c5) (hdrs_length hv5))); have HB5 := Lib.hid (HB4.out.trans (hb5.mono (Nat.le_trans (Nat.le_of_eq HSZ2.out.symm) HB4.out.size))); clear hb5 hr5 he5 hv5; obtain ⟨-, ⟨y0, y1, y2⟩, ⟨f0, f1, f2⟩⟩ := HALL.out _ HB5.out; obtain rfl := HE5.out)
      | (go_at_call 66; refine (HC2.out _ HB3.out).mono ?_; rintro e w4 ⟨v4, vs4, rfl, hv4, hr4, hb4⟩; obtain ⟨A4, c4, he4, -, -⟩ := (ptT_hdr hr4).shape; have HE4 := Lib.hid (he4.trans (congrArg (fun n => Value.slice A4 n c4) (hdrs_length hv4))); have HR4 := Lib.hid hr4; have HV4 := Lib.hid hv4; have HBB4 := Lib.hid hb4; have HB4 := Lib.hid (HB3.out.trans (hb4.mono (Nat.le_trans (Nat.le_of_eq HSZ2.out.symm) HB3.out.size))); clear hb4 hr4 he4 hv4; obtain rfl := HE4.out))
  go_wp2
  have hg0 : w2.drew.heap.size = w.heap.size + 2 := HSZ2.out
  have hk3 : Keep w3 (w.heap.size + 2) [rwNodes (.slice A3 nodes.length c3) nodes] := by
    have h := (Keep.nil (w := w2.drew) (B := w2.drew.heap.size) (Nat.le_refl _)).push (r := rwNodes (.slice A3 nodes.length c3) nodes) (w' := w3) ?_ (rwNodes_at.2 HO3.out)
    · rw [hg0] at h; exact h
    · rw [hg0]; exact ⟨HB3.out.os, HB3.out.tape, HB3.out.output, HB3.out.size, fun i hi => HB3.out.block i hi⟩
  have hk4 := hk3.append HBB4.out HR4.out
  have hk5 := hk4.append HBB5.out HR5.out
  have hst : ∀ i, i ≠ w.heap.size + 1 → (((w5.setCell ⟨w.heap.size + 1, 0, none⟩ (.slice A3 nodes.length c3)).setCell ⟨w.heap.size + 1, 1, none⟩ (.slice A4 ins.length c4)).setCell ⟨w.heap.size + 1, 2, none⟩ (.slice A5 outs.length c5)).heap[i]? = w5.heap[i]? := fun i hi => heap_set3 hi
  obtain ⟨wf, hwf⟩ : ∃ wf, wf = (((w5.setCell ⟨w.heap.size + 1, 0, none⟩ (.slice A3 nodes.length c3)).setCell ⟨w.heap.size + 1, 1, none⟩ (.slice A4 ins.length c4)).setCell ⟨w.heap.size + 1, 2, none⟩ (.slice A5 outs.length c5)) := ⟨_, rfl⟩
  have hsf : wf.heap.size = w5.heap.size := by rw [hwf]; simp
  rw [← hwf] at hst
  have hb5 : Below w.heap.size w wf := by
    rw [hwf]
    exact ((((HROWS.out _ HB5.out).2.2.2).setCell (by simp) _).setCell (by simp) _).setCell (by simp) _
  have hg : w5.grownBy wf (some (w.heap.size + 1)) := ⟨by rw [hwf]; rfl, by rw [hwf]; rfl, by rw [hwf]; rfl, by rw [hsf]; exact Nat.le_refl _, fun k hk hne => hst k (fun e => hne (by rw [e]))⟩
  have hkf := (hk5.other hg fun i p hp => by
    cases hb : p.v.ownBlock with
    | none => exact .inl rfl
    | some b => exact .inr fun e => by injection e with e; have := (hk5.lt hp hb).1; omega).lower (B' := w.heap.size) (by omega)
  refine bodyPost_ret (v := .agg #[.slice A3 nodes.length c3, .slice A4 ins.length c4, .slice A5 outs.length c5]) (by simp [results, Try.results30, go_sem, y0, y1, y2]) rfl ?_
  rw [← hwf]
  refine ⟨_, _, _, vs4, vs5, rfl, HV4.out, HV5.out, ?_, hb5⟩
  simpa using hkf
end Go.Proofs.Ytbfjacgfifecpaa
