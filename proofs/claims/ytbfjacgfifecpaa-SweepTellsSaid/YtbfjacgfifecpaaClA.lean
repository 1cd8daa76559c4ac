/- net.Clone: each port's bits are in a block of their own. -/
import Derived.Test.YtbfjacgfifecpaaKeep
import Derived.Test.YtbfjacgfifecpaaNs
namespace Go.Proofs.Ytbfjacgfifecpaa
open Go.RowKit

theorem own_flat {α : Type} {k : Kd α} {f : α → List Value} {ok : α → Prop} (hK : ∀ w S x cs, k.K w S x cs ↔ cs = f x ∧ ok x) {e : TypeId} {w : World} {B : Nat} {v : Value} {xs : List α} :
    Own k e w none B v xs ↔ (w.ownsRow B e k.size v xs.length (xs.flatMap f) ∧ ∀ x ∈ xs, ok x) := by
  constructor
  · rintro ⟨css, h1, h2, -⟩
    have hcss : css = xs.map f := by
      apply List.ext_getElem?
      intro i
      rcases Nat.lt_or_ge i xs.length with hi | hi
      · have hi' : i < css.length := by rw [h2.1]; exact hi
        have := ((hK _ _ _ _).1 (h2.2 i xs[i] css[i] (by simp [hi]) (by simp [hi']))).1
        simp [hi, hi', this]
      · simp [hi, show css.length ≤ i by rw [h2.1]; exact hi]
    subst hcss
    refine ⟨by rw [List.flatMap_def]; exact h1, fun x hx => ?_⟩
    obtain ⟨i, hi, rfl⟩ := List.getElem_of_mem hx
    exact ((hK _ _ _ _).1 (h2.2 i xs[i] (f xs[i]) (by simp [hi]) (by simp [hi]))).2
  · rintro ⟨h1, h2⟩
    refine ⟨xs.map f, by rw [← List.flatMap_def]; exact h1, ⟨by simp, fun i x cs hx hc => (hK _ _ _ _).2 ⟨?_, h2 x (List.mem_of_getElem? hx)⟩⟩, fun _ _ => foot_none _ _⟩
    rw [List.getElem?_map, hx] at hc
    simpa using hc.symm

def kHdr : Kd (ByteArray × Value) where
  size := 2
  K := fun _ _ x cs => cs = [.string x.1, x.2] ∧ x.2.oneCell' = true
  len := by rintro w S x cs ⟨rfl, -⟩; rfl
  one := by rintro w S x cs ⟨rfl, h⟩ u hu; simp at hu; rcases hu with rfl | rfl <;> first | rfl | exact h
  keep := fun h _ _ => h
def hdrs (ps : List Port) (vs : List Value) : List (ByteArray × Value) := (ps.zip vs).map fun x => (x.1.name, x.2)
abbrev hdrF (x : ByteArray × Value) : List Value := [.string x.1, x.2]
abbrev rwNodes (v : Value) (ns : List Node) : Rw := ⟨38, 4, v, ns.length, ns.flatMap Node.cells⟩
abbrev rwHdr (v : Value) (hs : List (ByteArray × Value)) : Rw := ⟨53, 2, v, hs.length, hs.flatMap hdrF⟩
abbrev rwBits (x : Port × Value) : Rw := rwInts 3 x.2 x.1.bits
/-- the rows of some ports -/
def ptT (v : Value) (ps : List Port) (vs : List Value) : List Rw := rwHdr v (hdrs ps vs) :: (ps.zip vs).map rwBits
theorem rwNodes_at {w : World} {B : Nat} {v : Value} {ns : List Node} : (rwNodes v ns).at w B ↔ Own kNode 38 w none B v ns := by
  rw [own_flat (k := kNode) (f := Node.cells) (ok := fun _ => True) (fun w S x cs => by show cs = x.cells ↔ _; simp)]
  simp [kNode]
theorem rwHdr_own {w : World} {B : Nat} {v : Value} {hs : List (ByteArray × Value)} : Own kHdr 53 w none B v hs ↔ ((rwHdr v hs).at w B ∧ ∀ x ∈ hs, x.2.oneCell' = true) :=
  own_flat (k := kHdr) (f := hdrF) (ok := fun x => x.2.oneCell' = true) (fun w S x cs => Iff.rfl)
theorem own_oneCell {α : Type} {k : Kd α} {e : TypeId} {w : World} {p : Option Nat} {B : Nat} {v : Value} {xs : List α} (h : Own k e w p B v xs) : v.oneCell' = true := by
  obtain ⟨A, c, rfl, -, -⟩ := h.shape
  rfl
theorem hdrs_length {ps : List Port} {vs : List Value} (h : vs.length = ps.length) : (hdrs ps vs).length = ps.length := by simp [hdrs, h]
theorem ptT_hdr {w : World} {B : Nat} {v : Value} {ps : List Port} {vs : List Value} (h : Keep w B (ptT v ps vs)) : Own kHdr 53 w none B v (hdrs ps vs) := by
  refine rwHdr_own.2 ⟨h.own 0 _ rfl, fun x hx => ?_⟩
  obtain ⟨y, hy, rfl⟩ := List.mem_map.1 hx
  obtain ⟨i, hi, rfl⟩ := List.getElem_of_mem hy
  exact own_oneCell (h.ints (i := i + 1) (by show ((ps.zip vs).map rwBits)[i]? = _; rw [List.getElem?_map, List.getElem?_eq_getElem hi]; rfl))
theorem ptT_bits {w : World} {B : Nat} {v : Value} {ps : List Port} {vs : List Value} (h : Keep w B (ptT v ps vs)) {i : Nat} {p : Port} {u : Value} (hp : ps[i]? = some p) (hu : vs[i]? = some u) : (ptT v ps vs)[i + 1]? = some (rwInts 3 u p.bits) := by
  show ((ps.zip vs).map rwBits)[i]? = _
  rw [List.getElem?_map, (List.getElem?_zip_eq_some (z := (p, u))).2 ⟨hp, hu⟩]
  rfl
/-- rows that were made later stand behind those that were there -/
theorem Keep.append {w w' : World} {B : Nat} {T U : List Rw} (h : Keep w B T) (hb : Below w.heap.size w w') (hU : Keep w' w.heap.size U) : Keep w' B (T ++ U) := by
  have h' := h.below hb
  have hat : ∀ (i : Nat) (p : Rw), (T ++ U)[i]? = some p → T[i]? = some p ∨ (T.length ≤ i ∧ U[i - T.length]? = some p) := fun i p hp => by
    rcases Nat.lt_or_ge i T.length with hi | hi
    · rw [List.getElem?_append_left hi] at hp; exact .inl hp
    · rw [List.getElem?_append_right hi] at hp; exact .inr ⟨hi, hp⟩
  refine ⟨fun i p hp => ?_, fun i j p q hp hq hij b hb1 hb2 => ?_, h'.base⟩
  · rcases hat i p hp with e | ⟨-, e⟩
    · exact h'.own i p e
    · exact ownsRow_base (hU.own _ p e) h.base
  · rcases hat i p hp with e | ⟨e1, e⟩
    · rcases hat j q hq with e' | ⟨e1', e'⟩
      · exact h.apart i j p q e e' hij b hb1 hb2
      · have := (h.own i p e).lt b hb1
        have := (hU.own _ q e').lt b hb2
        omega
    · rcases hat j q hq with e' | ⟨e1', e'⟩
      · have := (h.own j q e').lt b hb2
        have := (hU.own _ p e).lt b hb1
        omega
      · exact hU.apart _ _ p q e e' (by omega) b hb1 hb2

def ClE (w : World) (B : Nat) (ov : Value) (ps : List Port) (i : Nat) : Prop := ∃ vs : List Value, vs.length = i ∧ Keep w B (ptT ov (ps.take i) vs)
set_option maxHeartbeats 2000000 in
set_option maxRecDepth 4096 in
theorem cports_own (w : World) (v : Value) (ps : List Port) (hx : Row kPort w (fun _ => False) v ps) (hl : ps.length ≤ 1099511627776) (hb : ∀ q ∈ ps, q.bits.length ≤ 1099511627776) :
    Calls Try.prog 66 #[v] w fun e w' => ∃ v' vs, e = .returned v' ∧ vs.length = ps.length ∧ Keep w' w.heap.size (ptT v' ps vs) ∧ Below w.heap.size w w' := by
  obtain ⟨A, c, rfl, -, -⟩ := hx.shape
  have HX := Lib.hid hx
  have HBT := Lib.hid hb
  clear hx hb
  go_enter Try.func66, Try.ntmps66
  go_wp2_with fail
  go_loopw [3, 5, 8] (fun ov pv iv wr => ∃ i : Nat, iv = .int .i64 i ∧ i ≤ ps.length ∧ Hid (ClE wr w.heap.size ov ps i) ∧ Hid (Below w.heap.size w wr)) (fun ov pv iv _ => ps.length - (intOf iv).toNat)
  case atStart => exact ⟨0, rfl, Nat.zero_le _, Lib.hid ⟨[], rfl, ((Keep.nil (Nat.le_refl w.heap.size)).push (Below.refl _ _) (r := rwHdr (.slice none 0 0) []) (World.ownsRow_nil _ _ _ _))⟩, Lib.hid (Below.refl _ _)⟩
  case round =>
    obtain ⟨i, rfl, hi, HE, HB⟩ := hrel
    obtain ⟨vs, hvs, hk⟩ := HE.out
    have HK := Lib.hid hk
    clear hk HE
    by_cases hlt : i < ps.length
    · obtain ⟨b, off, A3, d3, rfl, x0, x1, hxb⟩ := (HX.out.later HB.out).port_at hlt
      have hpl := HBT.out _ (List.getElem_mem hlt)
      have HT := Lib.hid (List.take_succ_eq_append_getElem hlt)
      obtain ⟨x, hxx⟩ : ∃ x, ps[i] = x := ⟨_, rfl⟩
      rw [hxx] at x0 x1 hxb hpl HT
      clear hxx
      obtain ⟨s, bs⟩ := x
      dsimp only at x0 x1 hxb hpl
      obtain ⟨wx, hwx⟩ : ∃ wx, wx = wr.alloc (.cells #[.string s, .slice A3 bs.length d3] 53) := ⟨_, rfl⟩
      have hbx : Below wr.heap.size wr wx := by rw [hwx]; exact (Below.refl _ _).alloc (Nat.le_refl _) _
      have hsx : wx.heap.size = wr.heap.size + 1 := by rw [hwx]; simp
      have hall : ∀ W, Below wx.heap.size wx W → W.cell? ⟨wr.heap.size, 0, none⟩ = some (.string s) ∧ W.cell? ⟨wr.heap.size, 1, none⟩ = some (.slice A3 bs.length d3) := fun W hW => by
        have hc : ∀ i, W.cell? ⟨wr.heap.size, i, none⟩ = wx.cell? ⟨wr.heap.size, i, none⟩ := fun i => hW.cell (by simp; omega)
        rw [hc, hc, hwx]
        exact ⟨World.cell?_alloc_new _ _ _ 0, World.cell?_alloc_new _ _ _ 1⟩
      have HALL := Lib.hid hall
      have HX0 := Lib.hid (hall wx (Below.refl _ _))
      have HX1 := Lib.hid (hall wx.drew (Below.refl _ _).drew)
      have HC := Lib.hid (clone_calls wx.drew _ bs _ ((hxb.later hbx).later (Below.refl _ _).drew) hpl)
      have HWX := Lib.hid hwx
      have HBX := Lib.hid (HB.out.trans (hbx.mono HB.out.size))
      have HKX := Lib.hid ((HK.out.below hbx).drew)
      have hub : ∀ g, u3.ownBlock = some g → g < wr.heap.size := fun g hg => (HK.out.lt (i := 0) rfl hg).2
      have HUB := Lib.hid hub
      have hgr : ∀ W W', Below wx.heap.size wx W → W.grownBy W' u3.ownBlock → W'.cell? ⟨wr.heap.size, 0, none⟩ = some (.string s) ∧ W'.cell? ⟨wr.heap.size, 1, none⟩ = some (.slice A3 bs.length d3) := fun W W' hW hg => by
        have hb := hg.block wr.heap.size (by have := hW.size; omega) (fun e => by have := hub _ e.symm; omega)
        have h2 := hall W hW
        exact ⟨(World.cell?_of_block hb).trans h2.1, (World.cell?_of_block hb).trans h2.2⟩
      have HGR := Lib.hid hgr
      have hwr : w.heap.size ≤ wr.heap.size := HB.out.size
      have HHL := Lib.hid (show ((hdrs (ps.take i) vs).length + 1) * 40 ≤ 140737488355328 by rw [hdrs_length (by simp [hvs]; omega), List.length_take]; omega)
      have HSB := Lib.hid (show ∀ W, Below wx.heap.size wx W → w.heap.size ≤ W.heap.size from fun W hW => by have := hW.size; omega)
      clear hall hxb hpl hwx hbx hub hsx hwr hgr
      go_wp2_with fail
      rw [← HWX.out]
      go_region_held3 (fun W => W.cell? ⟨wr.heap.size, 0, none⟩ = some (.string s) ∧ W.cell? ⟨wr.heap.size, 1, none⟩ = some (.slice A3 bs.length d3))
        (first | with_reducible exact HX1.out | with_reducible exact HX0.out | with_reducible exact HALL.out _ HB3.out | with_reducible exact HALL.out _ HB4.out | with_reducible exact HGR.out _ _ HB3.out HQ5.out)
        (first
          | (go_at_call 67; refine HC.out.mono ?_; rintro e w3 ⟨v3, rfl, ho3, hb3⟩; obtain ⟨A4, c4, rfl, -, -⟩ := ho3.shape; have HB3 := Lib.hid ((Below.refl wx.heap.size wx).drew.trans (hb3.mono (Nat.le_refl _))); have HK3 := Lib.hid (HKX.out.push hb3 (rwInts_at.2 ho3)); have HO3 := Lib.hid (ptT_hdr (HKX.out.below hb3)); have HB4 := Lib.hid (HB3.out.alloc HB3.out.size (.cells #[.string s, .slice A4 bs.length c4] 53)); have HS3 := Lib.hid (HSB.out _ HB3.out); clear hb3 ho3)
          | (refine step_app rfl (wp_app1 kHdr 53 23 (.agg #[.string ⟨#[]⟩, .slice none 0 0]) 40 (.tmp 12) (.tmp 19) rfl Try.underlying23 infoPort rfl Nat.two_pos (by decide) none w.heap.size HO3.out (FootIn.none _) HS3.out rfl (s, .slice A4 bs.length c4) [.string s, .slice A4 bs.length c4] rfl ⟨rfl, rfl⟩ HHL.out ?_); intro v5 w5 q1 q2 q3 q4 q5 q6; have HQ1 := Lib.hid q1; have HQ2 := Lib.hid q2.below; have HQ5 := Lib.hid q5; have HQ6 := Lib.hid q6; clear q1 q2 q3 q4 q5 q6))
      have HBN := Lib.hid ((HBX.out.trans (HB3.out.mono (HSB.out wx (Below.refl _ _)))).trans HQ2.out)
      have hk5 := HK3.out.set (i := 0) (r' := rwHdr v5 (hdrs (ps.take i) vs ++ [(s, .slice A4 bs.length c4)])) rfl (rwHdr_own.1 HQ1.out).1 HQ5.out (HQ6.out.imp id fun ⟨b, h1, h2⟩ => ⟨b, h1, by omega⟩)
      have hn1 : (ps.take i).length = vs.length := by rw [hvs, List.length_take]; omega
      have hkn : Hid (Keep w5 w.heap.size (ptT v5 (ps.take (i + 1)) (vs ++ [.slice A4 bs.length c4]))) := by
        rw [HT.out, ptT, hdrs, List.zip_append hn1, List.map_append, List.map_append]
        exact Lib.hid hk5
      clear hk5
      go_wp2
      refine ⟨⟨i + 1, by go_num, by omega, Lib.hid ⟨_, by simp [hvs], hkn.out⟩, HBN⟩, ?_⟩
      simp [intOf]; omega
    · obtain rfl : i = ps.length := by omega
      rw [List.take_length] at HK
      go_wp2
      go_ret
      exact ⟨_, _, rfl, hvs, HK.out, HB.out⟩
end Go.Proofs.Ytbfjacgfifecpaa
