/- Joined texts: ClA, ClB. -/
import Derived.Test.YtbfjacgfifecpaaJReach
import Derived.Test.YtbfjacgfifecpaaJND

/-! ## net.Clone: each port's bits are in a block of their own. -/
namespace Go.Proofs.Ytbfjacgfifecpaa
open Go.RowKit

theorem own_flat {α : Type} {k : Kd α} {f : α → List Value} {ok : α → Prop} (hK : ∀ w S x cs, k.K w S x cs ↔ cs = f x ∧ ok x) {e : TypeId} {w : World} {B : Nat} {v : Value} {xs : List α} :
    Own k e w none B v xs ↔ (w.ownsRow B e k.size v xs.length (xs.flatMap f) ∧ ∀ x ∈ xs, ok x) := by
  constructor
  · rintro ⟨css, h1, h2, -⟩
    have hcss : css = xs.map f := by
      apply List.ext_getElem?
      intro i
      rcases Nat.lt_or_ge i xs.length with hi | hi
      · have hi' : i < css.length := by rw [h2.1]; exact hi
        have := ((hK _ _ _ _).1 (h2.2 i xs[i] css[i] (by simp [hi]) (by simp [hi']))).1
        simp [hi, hi', this]
      · simp [hi, show css.length ≤ i by rw [h2.1]; exact hi]
    subst hcss
    refine ⟨by rw [List.flatMap_def]; exact h1, fun x hx => ?_⟩
    obtain ⟨i, hi, rfl⟩ := List.getElem_of_mem hx
    exact ((hK _ _ _ _).1 (h2.2 i xs[i] (f xs[i]) (by simp [hi]) (by simp [hi]))).2
  · rintro ⟨h1, h2⟩
    refine ⟨xs.map f, by rw [← List.flatMap_def]; exact h1, ⟨by simp, fun i x cs hx hc => (hK _ _ _ _).2 ⟨?_, h2 x (List.mem_of_getElem? hx)⟩⟩, fun _ _ => foot_none _ _⟩
    rw [List.getElem?_map, hx] at hc
    simpa using hc.symm

def kHdr : Kd (ByteArray × Value) where
  size := 2
  K := fun _ _ x cs => cs = [.string x.1, x.2] ∧ x.2.oneCell' = true
  len := by rintro w S x cs ⟨rfl, -⟩; rfl
  one := by rintro w S x cs ⟨rfl, h⟩ u hu; simp at hu; rcases hu with rfl | rfl <;> first | rfl | exact h
  keep := fun h _ _ => h
def hdrs (ps : List Port) (vs : List Value) : List (ByteArray × Value) := (ps.zip vs).map fun x => (x.1.name, x.2)
abbrev hdrF (x : ByteArray × Value) : List Value := [.string x.1, x.2]
abbrev rwNodes (v : Value) (ns : List Node) : Rw := ⟨38, 4, v, ns.length, ns.flatMap Node.cells⟩
abbrev rwHdr (v : Value) (hs : List (ByteArray × Value)) : Rw := ⟨53, 2, v, hs.length, hs.flatMap hdrF⟩
abbrev rwBits (x : Port × Value) : Rw := rwInts 3 x.2 x.1.bits
/-- the rows of some ports -/
def ptT (v : Value) (ps : List Port) (vs : List Value) : List Rw := rwHdr v (hdrs ps vs) :: (ps.zip vs).map rwBits
theorem rwNodes_at {w : World} {B : Nat} {v : Value} {ns : List Node} : (rwNodes v ns).at w B ↔ Own kNode 38 w none B v ns := by
  rw [own_flat (k := kNode) (f := Node.cells) (ok := fun _ => True) (fun w S x cs => by show cs = x.cells ↔ _; simp)]
  simp [kNode]
theorem rwHdr_own {w : World} {B : Nat} {v : Value} {hs : List (ByteArray × Value)} : Own kHdr 53 w none B v hs ↔ ((rwHdr v hs).at w B ∧ ∀ x ∈ hs, x.2.oneCell' = true) :=
  own_flat (k := kHdr) (f := hdrF) (ok := fun x => x.2.oneCell' = true) (fun _w _S _x _cs => Iff.rfl)
theorem own_oneCell {α : Type} {k : Kd α} {e : TypeId} {w : World} {p : Option Nat} {B : Nat} {v : Value} {xs : List α} (h : Own k e w p B v xs) : v.oneCell' = true := by
  obtain ⟨A, c, rfl, -, -⟩ := h.shape
  rfl
theorem hdrs_length {ps : List Port} {vs : List Value} (h : vs.length = ps.length) : (hdrs ps vs).length = ps.length := by simp [hdrs, h]
theorem ptT_hdr {w : World} {B : Nat} {v : Value} {ps : List Port} {vs : List Value} (h : Keep w B (ptT v ps vs)) : Own kHdr 53 w none B v (hdrs ps vs) := by
  refine rwHdr_own.2 ⟨h.own 0 _ rfl, fun x hx => ?_⟩
  obtain ⟨y, hy, rfl⟩ := List.mem_map.1 hx
  obtain ⟨i, hi, rfl⟩ := List.getElem_of_mem hy
  exact own_oneCell (h.ints (i := i + 1) (by show ((ps.zip vs).map rwBits)[i]? = _; rw [List.getElem?_map, List.getElem?_eq_getElem hi]; rfl))
theorem ptT_bits {w : World} {B : Nat} {v : Value} {ps : List Port} {vs : List Value} (_h : Keep w B (ptT v ps vs)) {i : Nat} {p : Port} {u : Value} (hp : ps[i]? = some p) (hu : vs[i]? = some u) : (ptT v ps vs)[i + 1]? = some (rwInts 3 u p.bits) := by
  show ((ps.zip vs).map rwBits)[i]? = _
  rw [List.getElem?_map, (List.getElem?_zip_eq_some (z := (p, u))).2 ⟨hp, hu⟩]
  rfl
/-- rows that were made later stand behind those that were there -/
theorem Keep.append {w w' : World} {B : Nat} {T U : List Rw} (h : Keep w B T) (hb : Below w.heap.size w w') (hU : Keep w' w.heap.size U) : Keep w' B (T ++ U) := by
  have h' := h.below hb
  have hat : ∀ (i : Nat) (p : Rw), (T ++ U)[i]? = some p → T[i]? = some p ∨ (T.length ≤ i ∧ U[i - T.length]? = some p) := fun i p hp => by
    rcases Nat.lt_or_ge i T.length with hi | hi
    · rw [List.getElem?_append_left hi] at hp; exact .inl hp
    · rw [List.getElem?_append_right hi] at hp; exact .inr ⟨hi, hp⟩
  refine ⟨fun i p hp => ?_, fun i j p q hp hq hij b hb1 hb2 => ?_, h'.base⟩
  · rcases hat i p hp with e | ⟨-, e⟩
    · exact h'.own i p e
    · exact ownsRow_base (hU.own _ p e) h.base
  · rcases hat i p hp with e | ⟨e1, e⟩
    · rcases hat j q hq with e' | ⟨e1', e'⟩
      · exact h.apart i j p q e e' hij b hb1 hb2
      · have := (h.own i p e).lt b hb1
        have := (hU.own _ q e').lt b hb2
        omega
    · rcases hat j q hq with e' | ⟨e1', e'⟩
      · have := (h.own j q e').lt b hb2
        have := (hU.own _ p e).lt b hb1
        omega
      · exact hU.apart _ _ p q e e' (by omega) b hb1 hb2

def ClE (w : World) (B : Nat) (ov : Value) (ps : List Port) (i : Nat) : Prop := ∃ vs : List Value, vs.length = i ∧ Keep w B (ptT ov (ps.take i) vs)
set_option maxHeartbeats 2000000 in
set_option maxRecDepth 4096 in
theorem cports_own (w : World) (v : Value) (ps : List Port) (hx : Row kPort w (fun _ => False) v ps) (hl : ps.length ≤ 1099511627776) (hb : ∀ q ∈ ps, q.bits.length ≤ 1099511627776) :
    Calls Try.prog 66 #[v] w fun e w' => ∃ v' vs, e = .returned v' ∧ vs.length = ps.length ∧ Keep w' w.heap.size (ptT v' ps vs) ∧ Below w.heap.size w w' := by
  obtain ⟨A, c, rfl, -, -⟩ := hx.shape
  have HX := Lib.hid hx
  have HBT := Lib.hid hb
  clear hx hb
  go_enter Try.func66, Try.ntmps66
  go_wp2_with fail
  go_loopw [3, 5, 8] (fun ov pv iv wr => ∃ i : Nat, iv = .int .i64 i ∧ i ≤ ps.length ∧ Hid (ClE wr w.heap.size ov ps i) ∧ Hid (Below w.heap.size w wr)) (fun ov pv iv _ => ps.length - (intOf iv).toNat)
  case atStart => exact ⟨0, rfl, Nat.zero_le _, Lib.hid ⟨[], rfl, ((Keep.nil (Nat.le_refl w.heap.size)).push (Below.refl _ _) (r := rwHdr (.slice none 0 0) []) (World.ownsRow_nil _ _ _ _))⟩, Lib.hid (Below.refl _ _)⟩
  case round =>
    obtain ⟨i, rfl, hi, HE, HB⟩ := hrel
    obtain ⟨vs, hvs, hk⟩ := HE.out
    have HK := Lib.hid hk
    clear hk HE
    by_cases hlt : i < ps.length
    · obtain ⟨b, off, A3, d3, rfl, x0, x1, hxb⟩ := (HX.out.later HB.out).port_at hlt
      have hpl := HBT.out _ (List.getElem_mem hlt)
      have HT := Lib.hid (List.take_succ_eq_append_getElem hlt)
      obtain ⟨x, hxx⟩ : ∃ x, ps[i] = x := ⟨_, rfl⟩
      rw [hxx] at x0 x1 hxb hpl HT
      clear hxx
      obtain ⟨s, bs⟩ := x
      dsimp only at x0 x1 hxb hpl
      obtain ⟨wx, hwx⟩ : ∃ wx, wx = wr.alloc (.cells #[.string s, .slice A3 bs.length d3] 53) := ⟨_, rfl⟩
      have hbx : Below wr.heap.size wr wx := by rw [hwx]; exact (Below.refl _ _).alloc (Nat.le_refl _) _
      have hsx : wx.heap.size = wr.heap.size + 1 := by rw [hwx]; simp
      have hall : ∀ W, Below wx.heap.size wx W → W.cell? ⟨wr.heap.size, 0, none⟩ = some (.string s) ∧ W.cell? ⟨wr.heap.size, 1, none⟩ = some (.slice A3 bs.length d3) := fun W hW => by
        have hc : ∀ i, W.cell? ⟨wr.heap.size, i, none⟩ = wx.cell? ⟨wr.heap.size, i, none⟩ := fun i => hW.cell (by simp; omega)
        rw [hc, hc, hwx]
        exact ⟨World.cell?_alloc_new _ _ _ 0, World.cell?_alloc_new _ _ _ 1⟩
      have HALL := Lib.hid hall
      have HX0 := Lib.hid (hall wx (Below.refl _ _))
      have HX1 := Lib.hid (hall wx.drew (Below.refl _ _).drew)
      have HC := Lib.hid (clone_calls wx.drew _ bs _ ((hxb.later hbx).later (Below.refl _ _).drew) hpl)
      have HWX := Lib.hid hwx
      have HBX := Lib.hid (HB.out.trans (hbx.mono HB.out.size))
      have HKX := Lib.hid ((HK.out.below hbx).drew)
      have hub : ∀ g, u3.ownBlock = some g → g < wr.heap.size := fun g hg => (HK.out.lt (i := 0) rfl hg).2
      have HUB := Lib.hid hub
      have hgr : ∀ W W', Below wx.heap.size wx W → W.grownBy W' u3.ownBlock → W'.cell? ⟨wr.heap.size, 0, none⟩ = some (.string s) ∧ W'.cell? ⟨wr.heap.size, 1, none⟩ = some (.slice A3 bs.length d3) := fun W W' hW hg => by
        have hb := hg.block wr.heap.size (by have := hW.size; omega) (fun e => by have := hub _ e.symm; omega)
        have h2 := hall W hW
        exact ⟨(World.cell?_of_block hb).trans h2.1, (World.cell?_of_block hb).trans h2.2⟩
      have HGR := Lib.hid hgr
      have hwr : w.heap.size ≤ wr.heap.size := HB.out.size
      have HHL := Lib.hid (show ((hdrs (ps.take i) vs).length + 1) * 40 ≤ 140737488355328 by rw [hdrs_length (by simp [hvs]; omega), List.length_take]; omega)
      have HSB := Lib.hid (show ∀ W, Below wx.heap.size wx W → w.heap.size ≤ W.heap.size from fun W hW => by have := hW.size; omega)
      clear hall hxb hpl hwx hbx hub hsx hwr hgr
      go_wp2_with fail
      rw [← HWX.out]
      go_region_held3 (fun W => W.cell? ⟨wr.heap.size, 0, none⟩ = some (.string s) ∧ W.cell? ⟨wr.heap.size, 1, none⟩ = some (.slice A3 bs.length d3))
        (first | with_reducible exact HX1.out | with_reducible exact HX0.out | with_reducible exact HALL.out _ HB3.out | with_reducible exact HALL.out _ HB4.out | with_reducible exact HGR.out _ _ HB3.out HQ5.out)
        (first
          | (go_at_call 67; refine HC.out.mono ?_; rintro e w3 ⟨v3, rfl, ho3, hb3⟩; obtain ⟨A4, c4, rfl, -, -⟩ := ho3.shape; have HB3 := Lib.hid ((Below.refl wx.heap.size wx).drew.trans (hb3.mono (Nat.le_refl _))); have HK3 := Lib.hid (HKX.out.push hb3 (rwInts_at.2 ho3)); have HO3 := Lib.hid (ptT_hdr (HKX.out.below hb3)); have HB4 := Lib.hid (HB3.out.alloc HB3.out.size (.cells #[.string s, .slice A4 bs.length c4] 53)); have HS3 := Lib.hid (HSB.out _ HB3.out); clear hb3 ho3)
          | (refine step_app rfl (wp_app1 kHdr 53 23 (.agg #[.string ⟨#[]⟩, .slice none 0 0]) 40 (.tmp 12) (.tmp 19) rfl Try.underlying23 infoPort rfl Nat.two_pos (by decide) none w.heap.size HO3.out (FootIn.none _) HS3.out rfl (s, .slice A4 bs.length c4) [.string s, .slice A4 bs.length c4] rfl ⟨rfl, rfl⟩ HHL.out ?_); intro v5 w5 q1 q2 q3 q4 q5 q6; have HQ1 := Lib.hid q1; have HQ2 := Lib.hid q2.below; have HQ5 := Lib.hid q5; have HQ6 := Lib.hid q6; clear q1 q2 q3 q4 q5 q6))
      have HBN := Lib.hid ((HBX.out.trans (HB3.out.mono (HSB.out wx (Below.refl _ _)))).trans HQ2.out)
      have hk5 := HK3.out.set (i := 0) (r' := rwHdr v5 (hdrs (ps.take i) vs ++ [(s, .slice A4 bs.length c4)])) rfl (rwHdr_own.1 HQ1.out).1 HQ5.out (HQ6.out.imp id fun ⟨b, h1, h2⟩ => ⟨b, h1, by omega⟩)
      have hn1 : (ps.take i).length = vs.length := by rw [hvs, List.length_take]; omega
      have hkn : Hid (Keep w5 w.heap.size (ptT v5 (ps.take (i + 1)) (vs ++ [.slice A4 bs.length c4]))) := by
        rw [HT.out, ptT, hdrs, List.zip_append hn1, List.map_append, List.map_append]
        exact Lib.hid hk5
      clear hk5
      go_wp2
      refine ⟨⟨i + 1, by go_num, by omega, Lib.hid ⟨_, by simp [hvs], hkn.out⟩, HBN⟩, ?_⟩
      simp [intOf]; omega
    · obtain rfl : i = ps.length := by omega
      rw [List.take_length] at HK
      go_wp2
      go_ret
      exact ⟨_, _, rfl, hvs, HK.out, HB.out⟩
end Go.Proofs.Ytbfjacgfifecpaa

/-! ## net.Clone: a copy of the call's own. -/
namespace Go.Proofs.Ytbfjacgfifecpaa
open Go.RowKit

theorem ptT_row {w : World} {B : Nat} {v : Value} {ps : List Port} {vs : List Value} (h : Keep w B (ptT v ps vs)) (hl : vs.length = ps.length) : Row kPort w (fun _ => False) v ps := by
  have ho := ptT_hdr h
  obtain ⟨A, c, css, rfl, r1, r2, r0, r3, r4⟩ := ho.row (show 0 < 2 by decide) (Nat.le_refl _)
  have hn := hdrs_length hl
  rw [hn] at r1 r4
  refine ⟨A, c, css, by rw [hn], r1, r2, r0, ⟨by rw [r3.1, hn], fun i p cs hp hc => ?_⟩, fun h0 => ?_⟩
  · have hi := (List.getElem?_eq_some_iff.1 hp).1
    obtain ⟨u, hu⟩ : ∃ u, vs[i]? = some u := ⟨_, List.getElem?_eq_getElem (by omega)⟩
    have hh : (hdrs ps vs)[i]? = some (p.name, u) := by
      unfold hdrs
      rw [List.getElem?_map, (List.getElem?_zip_eq_some (z := (p, u))).2 ⟨hp, hu⟩]
      rfl
    obtain ⟨rfl, -⟩ := r3.2 i _ cs hh hc
    exact ⟨u, rfl, (h.ints (ptT_bits h hp hu)).rowS _ (fun _ _ h => h)⟩
  · obtain ⟨b, off, e, q1, _, q3⟩ := r4 h0
    exact ⟨b, off, e, q1, fun h => h, q3⟩
/-- the rows of a net -/
abbrev netT (vn : Value) (nodes : List Node) (vi : Value) (ins : List Port) (vsi : List Value) (vo : Value) (outs : List Port) (vso : List Value) : List Rw := rwNodes vn nodes :: (ptT vi ins vsi ++ ptT vo outs vso)
theorem Keep.left {w : World} {B : Nat} {T U : List Rw} (h : Keep w B (T ++ U)) : Keep w B T := h.pick id (fun _ _ _ _ e => e) fun i r hr => by
  rw [id, List.getElem?_append_left (List.getElem?_eq_some_iff.1 hr).1]; exact hr
theorem Keep.right {w : World} {B : Nat} {T U : List Rw} (h : Keep w B (T ++ U)) : Keep w B U := h.pick (fun i => T.length + i) (fun i j _ _ e => by omega) fun i r hr => by
  rw [List.getElem?_append_right (by omega), Nat.add_sub_cancel_left]; exact hr
theorem Keep.tail {w : World} {B : Nat} {r : Rw} {U : List Rw} (h : Keep w B (r :: U)) : Keep w B U := Keep.right (T := [r]) h
theorem netT_net {w : World} {B : Nat} {vn vi vo : Value} {nodes : List Node} {ins outs : List Port} {vsi vso : List Value} (h : Keep w B (netT vn nodes vi ins vsi vo outs vso)) (hi : vsi.length = ins.length) (ho : vso.length = outs.length) :
    NetV w (.agg #[vn, vi, vo]) nodes ins outs :=
  ⟨vn, vi, vo, rfl, (rwNodes_at.1 (h.own 0 _ rfl)).rowNodes (fun _ h => h.elim), ptT_row h.tail.left hi, ptT_row h.tail.right ho⟩

set_option maxHeartbeats 2000000 in
set_option maxRecDepth 4096 in
theorem clone_own (w : World) (v : Value) (nodes : List Node) (ins outs : List Port) (hN : NetV w v nodes ins outs) (hnl : nodes.length ≤ 1099511627776) (hil : ins.length ≤ 1073741824) (hol : outs.length ≤ 1073741824) (hbits : ∀ q ∈ ins ++ outs, q.bits.length ≤ 1099511627776) :
    Calls Try.prog 30 #[v] w fun e w' => ∃ vn vi vo vsi vso, e = .returned (.agg #[vn, vi, vo]) ∧ vsi.length = ins.length ∧ vso.length = outs.length ∧ Keep w' w.heap.size (netT vn nodes vi ins vsi vo outs vso) ∧ Below w.heap.size w w' := by
  obtain ⟨An, cn, Ai, ci, Ao, co, rfl, hbox⟩ := hN.box
  let ob := netBox (.slice An nodes.length cn) (.slice Ai ins.length ci) (.slice Ao outs.length co)
  have hsz : (w.alloc ob).heap.size = w.heap.size + 1 := by simp
  obtain ⟨w2, hw2⟩ : ∃ w2, w2 = (w.alloc ob).alloc (netBox (.slice none 0 0) (.slice none 0 0) (.slice none 0 0)) := ⟨_, rfl⟩
  have hsz2 : w2.heap.size = w.heap.size + 2 := by rw [hw2]; simp
  have h02 : Below (w.heap.size + 1) (w.alloc ob) w2 := by rw [hw2]; exact (Below.refl _ _).alloc (by rw [hsz]; exact Nat.le_refl _) _
  have hnew : ∀ i, w2.cell? ⟨w.heap.size + 1, i, none⟩ = (#[Value.slice none 0 0, .slice none 0 0, .slice none 0 0] : Array Value)[i]? := fun i => by
    rw [hw2, ← hsz]
    exact World.cell?_alloc_new _ _ _ i
  have hfr : ∀ i, w2.frozen? ⟨w.heap.size + 1, i, none⟩ = false := fun i => by
    rw [hw2, ← hsz]
    exact World.frozen?_alloc_new _ _ _ i
  have hall : ∀ W, Below (w.heap.size + 2) w2 W → (W.cell? ⟨w.heap.size, 0, none⟩ = some (.slice An nodes.length cn) ∧ W.cell? ⟨w.heap.size, 1, none⟩ = some (.slice Ai ins.length ci) ∧ W.cell? ⟨w.heap.size, 2, none⟩ = some (.slice Ao outs.length co)) ∧ (W.cell? ⟨w.heap.size + 1, 0, none⟩ = some (.slice none 0 0) ∧ W.cell? ⟨w.heap.size + 1, 1, none⟩ = some (.slice none 0 0) ∧ W.cell? ⟨w.heap.size + 1, 2, none⟩ = some (.slice none 0 0)) ∧ (W.frozen? ⟨w.heap.size + 1, 0, none⟩ = false ∧ W.frozen? ⟨w.heap.size + 1, 1, none⟩ = false ∧ W.frozen? ⟨w.heap.size + 1, 2, none⟩ = false) := fun W hW => by
    have hb := hW.block (w.heap.size + 1) (by omega)
    obtain ⟨c0, c1, c2, -⟩ := hbox W (h02.trans (hW.mono (by omega)))
    exact ⟨⟨c0, c1, c2⟩, ⟨(World.cell?_of_block hb).trans (hnew 0), (World.cell?_of_block hb).trans (hnew 1), (World.cell?_of_block hb).trans (hnew 2)⟩, ⟨(World.frozen?_of_block hb).trans (hfr 0), (World.frozen?_of_block hb).trans (hfr 1), (World.frozen?_of_block hb).trans (hfr 2)⟩⟩
  have hrows : ∀ W, Below (w.heap.size + 2) w2 W → Row kNode W (fun _ => False) (.slice An nodes.length cn) nodes ∧ Row kPort W (fun _ => False) (.slice Ai ins.length ci) ins ∧ Row kPort W (fun _ => False) (.slice Ao outs.length co) outs ∧ Below w.heap.size w W := fun W hW => by
    obtain ⟨-, -, -, r1, r2, r3, hb⟩ := hbox W (h02.trans (hW.mono (by omega)))
    exact ⟨r1, r2, r3, hb⟩
  have HSC := Lib.hid (show ∀ (W : World) (x y z : Value), Below (w.heap.size + 2) w2 W → (((W.setCell ⟨w.heap.size + 1, 0, none⟩ x).setCell ⟨w.heap.size + 1, 1, none⟩ y).setCell ⟨w.heap.size + 1, 2, none⟩ z).cell? ⟨w.heap.size, 0, none⟩ = some (.slice An nodes.length cn) ∧ (((W.setCell ⟨w.heap.size + 1, 0, none⟩ x).setCell ⟨w.heap.size + 1, 1, none⟩ y).setCell ⟨w.heap.size + 1, 2, none⟩ z).cell? ⟨w.heap.size, 1, none⟩ = some (.slice Ai ins.length ci) ∧ (((W.setCell ⟨w.heap.size + 1, 0, none⟩ x).setCell ⟨w.heap.size + 1, 1, none⟩ y).setCell ⟨w.heap.size + 1, 2, none⟩ z).cell? ⟨w.heap.size, 2, none⟩ = some (.slice Ao outs.length co) from fun W x y z hW => ⟨cell_set3 (by omega) (hall W hW).1.1, cell_set3 (by omega) (hall W hW).1.2.1, cell_set3 (by omega) (hall W hW).1.2.2⟩)
  have HX0 := Lib.hid (hall w2 (Below.refl _ _))
  have HX1 := Lib.hid (hall w2.drew (Below.refl _ _).drew)
  have HALL := Lib.hid hall
  have HROWS := Lib.hid hrows
  have HW2 := Lib.hid hw2
  have HSZ2 := Lib.hid hsz2
  have HC1 := Lib.hid (clone_nodes_calls w2.drew _ nodes _ (hrows _ (Below.refl _ _).drew).1 hnl)
  have HC2 := Lib.hid (fun W hW => cports_own W _ ins (hrows W hW).2.1 (by omega) fun q hq => hbits q (List.mem_append_left _ hq))
  have HC3 := Lib.hid (fun W hW => cports_own W _ outs (hrows W hW).2.2.1 (by omega) fun q hq => hbits q (List.mem_append_right _ hq))
  clear hN hbox hsz hsz2 h02 hnew hfr hall hrows hbits hw2
  go_enter Try.func30, Try.ntmps30
  go_wp2_with fail
  rw [← HW2.out]
  go_region_held3 (fun W => W.cell? ⟨w.heap.size, 0, none⟩ = some (.slice An nodes.length cn) ∧ W.cell? ⟨w.heap.size, 1, none⟩ = some (.slice Ai ins.length ci) ∧ W.cell? ⟨w.heap.size, 2, none⟩ = some (.slice Ao outs.length co))
    (first | with_reducible exact HX1.out.1 | with_reducible exact HX0.out.1 | with_reducible exact (HALL.out _ HB3.out).1 | with_reducible exact (HALL.out _ HB4.out).1 | with_reducible exact (HALL.out _ HB5.out).1 | with_reducible exact HSC.out _ _ _ _ HB5.out)
    (first
      | (go_at_call 68; refine HC1.out.mono ?_; rintro e w3 ⟨v3, rfl, ho3, hb3⟩; obtain ⟨A3, c3, rfl, -, -⟩ := ho3.shape; have HO3 := Lib.hid ho3; have HB3 : Hid (Below (w.heap.size + 2) w2 w3) := Lib.hid ((Below.refl _ w2).drew.trans (hb3.mono (Nat.le_of_eq HSZ2.out.symm))); clear hb3 ho3)
      | (go_at_call 66; refine (HC3.out _ HB4.out).mono ?_; rintro e w5 ⟨v5, vs5, rfl, hv5, hr5, hb5⟩; obtain ⟨A5, c5, he5, -, -⟩ := (ptT_hdr hr5).shape; have HR5 := Lib.hid hr5; have HV5 := Lib.hid hv5; have HBB5 := Lib.hid hb5; have HE5 := Lib.hid (he5.trans (congrArg (fun n => Value.slice A5 n c5) (hdrs_length hv5))); have HB5 := Lib.hid (HB4.out.trans (hb5.mono (Nat.le_trans (Nat.le_of_eq HSZ2.out.symm) HB4.out.size))); clear hb5 hr5 he5 hv5; obtain ⟨-, ⟨y0, y1, y2⟩, ⟨f0, f1, f2⟩⟩ := HALL.out _ HB5.out; obtain rfl := HE5.out)
      | (go_at_call 66; refine (HC2.out _ HB3.out).mono ?_; rintro e w4 ⟨v4, vs4, rfl, hv4, hr4, hb4⟩; obtain ⟨A4, c4, he4, -, -⟩ := (ptT_hdr hr4).shape; have HE4 := Lib.hid (he4.trans (congrArg (fun n => Value.slice A4 n c4) (hdrs_length hv4))); have HR4 := Lib.hid hr4; have HV4 := Lib.hid hv4; have HBB4 := Lib.hid hb4; have HB4 := Lib.hid (HB3.out.trans (hb4.mono (Nat.le_trans (Nat.le_of_eq HSZ2.out.symm) HB3.out.size))); clear hb4 hr4 he4 hv4; obtain rfl := HE4.out))
  go_wp2
  have hg0 : w2.drew.heap.size = w.heap.size + 2 := HSZ2.out
  have hk3 : Keep w3 (w.heap.size + 2) [rwNodes (.slice A3 nodes.length c3) nodes] := by
    have h := (Keep.nil (w := w2.drew) (B := w2.drew.heap.size) (Nat.le_refl _)).push (r := rwNodes (.slice A3 nodes.length c3) nodes) (w' := w3) ?_ (rwNodes_at.2 HO3.out)
    · rw [hg0] at h; exact h
    · rw [hg0]; exact ⟨HB3.out.os, HB3.out.tape, HB3.out.output, HB3.out.size, fun i hi => HB3.out.block i hi⟩
  have hk4 := hk3.append HBB4.out HR4.out
  have hk5 := hk4.append HBB5.out HR5.out
  have hst : ∀ i, i ≠ w.heap.size + 1 → (((w5.setCell ⟨w.heap.size + 1, 0, none⟩ (.slice A3 nodes.length c3)).setCell ⟨w.heap.size + 1, 1, none⟩ (.slice A4 ins.length c4)).setCell ⟨w.heap.size + 1, 2, none⟩ (.slice A5 outs.length c5)).heap[i]? = w5.heap[i]? := fun i hi => heap_set3 hi
  obtain ⟨wf, hwf⟩ : ∃ wf, wf = (((w5.setCell ⟨w.heap.size + 1, 0, none⟩ (.slice A3 nodes.length c3)).setCell ⟨w.heap.size + 1, 1, none⟩ (.slice A4 ins.length c4)).setCell ⟨w.heap.size + 1, 2, none⟩ (.slice A5 outs.length c5)) := ⟨_, rfl⟩
  have hsf : wf.heap.size = w5.heap.size := by rw [hwf]; simp
  rw [← hwf] at hst
  have hb5 : Below w.heap.size w wf := by
    rw [hwf]
    exact ((((HROWS.out _ HB5.out).2.2.2).setCell (by simp) _).setCell (by simp) _).setCell (by simp) _
  have hg : w5.grownBy wf (some (w.heap.size + 1)) := ⟨by rw [hwf]; rfl, by rw [hwf]; rfl, by rw [hwf]; rfl, by rw [hsf]; exact Nat.le_refl _, fun k hk hne => hst k (fun e => hne (by rw [e]))⟩
  have hkf := (hk5.other hg fun i p hp => by
    cases hb : p.v.ownBlock with
    | none => exact .inl rfl
    | some b => exact .inr fun e => by injection e with e; have := (hk5.lt hp hb).1; omega).lower (B' := w.heap.size) (by omega)
  refine bodyPost_ret (v := .agg #[.slice A3 nodes.length c3, .slice A4 ins.length c4, .slice A5 outs.length c5]) (by simp [results, Try.results30, go_sem, y0, y1, y2]) rfl ?_
  rw [← hwf]
  refine ⟨_, _, _, vs4, vs5, rfl, HV4.out, HV5.out, ?_, hb5⟩
  simpa using hkf
end Go.Proofs.Ytbfjacgfifecpaa
