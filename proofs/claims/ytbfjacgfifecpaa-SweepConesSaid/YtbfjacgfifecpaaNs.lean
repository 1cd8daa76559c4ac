/- net.Clone. -/
import Derived.Test.YtbfjacgfifecpaaNh
import Derived.Test.YtbfjacgfifecpaaNb
import Derived.Test.YtbfjacgfifecpaaKNet
import Derived.Laws.EntriesVeiled
import Derived.Deep.RegionHeld3
namespace Go.Proofs.Ytbfjacgfifecpaa
open Go.RowKit

abbrev under (n : Nat) (i : Nat) : Prop := i < n
theorem enter_f66 (args : Array Value) (W : World) : (callFunc 66 args).run Try.prog W = .ok (.enter 66 args) W := by kernel_rfl

theorem portClash {w wr W : World} {u : Value} {m g : Nat} (hm : m = wr.heap.size + 1) (hw : w.heap.size ≤ wr.heap.size) (hu : ∀ g, u.ownBlock = some g → g < wr.heap.size) (hg : m ≤ g) (h : (foot W none g ∨ u.ownBlock = some g) ∨ under w.heap.size g) : False := by
  rcases h with (h | h) | h
  · exact foot_none _ _ h
  · have := hu g h; omega
  · have : g < w.heap.size := h
    omega

set_option maxHeartbeats 2000000 in
set_option maxRecDepth 4096 in
theorem cports_net (w : World) (v : Value) (ps : List Port) (hx : Row kPort w (fun _ => False) v ps) (hl : ps.length ≤ 1099511627776) (hb : ∀ q ∈ ps, q.bits.length ≤ 1099511627776) :
    Calls Try.prog 66 #[v] w fun e w' => ∃ v', e = .returned v' ∧ Row kPort w' (under w.heap.size) v' ps ∧ Below w.heap.size w w' := by
  obtain ⟨A, c, rfl, -, -⟩ := hx.shape
  have HX := Lib.hid hx
  have HBT := Lib.hid hb
  clear hx hb
  go_enter Try.func66, Try.ntmps66
  go_wp2_with fail
  go_loopw [3, 5, 8] (fun ov pv iv wr => ∃ i : Nat, iv = .int .i64 i ∧ i ≤ ps.length ∧ Hid (Own (kPortOff (under w.heap.size)) 53 wr none w.heap.size ov (ps.take i)) ∧ Hid (Below w.heap.size w wr)) (fun ov pv iv _ => ps.length - (intOf iv).toNat)
  case atStart => exact ⟨0, rfl, Nat.zero_le _, Lib.hid (Own.nil _ _ _ _ _), Lib.hid (Below.refl _ _)⟩
  case round =>
    obtain ⟨i, rfl, hi, HO, HB⟩ := hrel
    by_cases hlt : i < ps.length
    · obtain ⟨b, off, A3, d3, rfl, x0, x1, hxb⟩ := (HX.out.later HB.out).port_at hlt
      have hpl := HBT.out _ (List.getElem_mem hlt)
      have HT := Lib.hid (List.take_succ_eq_append_getElem hlt)
      have hll : ((ps.take i).length + 1) * 40 ≤ 140737488355328 := by rw [List.length_take]; omega
      have HLL := Lib.hid hll
      obtain ⟨x, hxx⟩ : ∃ x, ps[i] = x := ⟨_, rfl⟩
      rw [hxx] at x0 x1 hxb hpl HT
      clear hxx hll
      obtain ⟨s, bs⟩ := x
      dsimp only at x0 x1 hxb hpl
      obtain ⟨wx, hwx⟩ : ∃ wx, wx = wr.alloc (.cells #[.string s, .slice A3 bs.length d3] 53) := ⟨_, rfl⟩
      have hbx : Below wr.heap.size wr wx := by rw [hwx]; exact (Below.refl _ _).alloc (Nat.le_refl _) _
      have hsx : wx.heap.size = wr.heap.size + 1 := by rw [hwx]; simp
      have hall : ∀ W, Below wx.heap.size wx W → W.cell? ⟨wr.heap.size, 0, none⟩ = some (.string s) ∧ W.cell? ⟨wr.heap.size, 1, none⟩ = some (.slice A3 bs.length d3) := fun W hW => by
        have hc : ∀ i, W.cell? ⟨wr.heap.size, i, none⟩ = wx.cell? ⟨wr.heap.size, i, none⟩ := fun i => hW.cell (by simp; omega)
        rw [hc, hc, hwx]
        exact ⟨World.cell?_alloc_new _ _ _ 0, World.cell?_alloc_new _ _ _ 1⟩
      have HALL := Lib.hid hall
      have HX0 := Lib.hid (hall wx (Below.refl _ _))
      have HX1 := Lib.hid (hall wx.drew (Below.refl _ _).drew)
      have HC := Lib.hid (clone_calls wx.drew _ bs _ ((hxb.later hbx).later (Below.refl _ _).drew) hpl)
      have HWX := Lib.hid hwx
      have HBX := Lib.hid (HB.out.trans (hbx.mono HB.out.size))
      have hox := HO.out.alloc (FootIn.none _) (.cells #[.string s, .slice A3 bs.length d3] 53)
      rw [← hwx] at hox
      have HOX := Lib.hid (hox.drew (FootIn.none _))
      have hub : ∀ g, u3.ownBlock = some g → g < wr.heap.size := fun g hg => (HO.out.base hg).2
      have HUB := Lib.hid hub
      have hgr : ∀ W W', Below wx.heap.size wx W → W.grownBy W' u3.ownBlock → W'.cell? ⟨wr.heap.size, 0, none⟩ = some (.string s) ∧ W'.cell? ⟨wr.heap.size, 1, none⟩ = some (.slice A3 bs.length d3) := fun W W' hW hg => by
        have hb := hg.block wr.heap.size (by have := hW.size; omega) (fun e => by have := hub _ e.symm; omega)
        have h2 := hall W hW
        exact ⟨(World.cell?_of_block hb).trans h2.1, (World.cell?_of_block hb).trans h2.2⟩
      have HGR := Lib.hid hgr
      have hwr : w.heap.size ≤ wr.heap.size := HB.out.size
      have hdr : wx.drew.heap.size = wr.heap.size + 1 := hsx
      have HDR := Lib.hid hdr
      have HWR := Lib.hid hwr
      have HSB := Lib.hid (show ∀ W, Below wx.heap.size wx W → w.heap.size ≤ W.heap.size from fun W hW => by have := hW.size; omega)
      clear hall hxb hpl hwx hbx hox hub hsx hwr hdr hgr
      go_wp2_with fail
      rw [← HWX.out]
      go_region_held3 (fun W => W.cell? ⟨wr.heap.size, 0, none⟩ = some (.string s) ∧ W.cell? ⟨wr.heap.size, 1, none⟩ = some (.slice A3 bs.length d3))
        (first | with_reducible exact HX1.out | with_reducible exact HX0.out | with_reducible exact HALL.out _ HB3.out | with_reducible exact HALL.out _ HB4.out | with_reducible exact HGR.out _ _ HB3.out HQ5.out)
        (first
          | (go_at_call 67; refine HC.out.mono ?_; rintro e w3 ⟨v3, rfl, ho3, hb3⟩; obtain ⟨A4, c4, rfl, -, -⟩ := ho3.shape; have HB3 := Lib.hid ((Below.refl wx.heap.size wx).drew.trans (hb3.mono (Nat.le_refl _))); have HO3 := Lib.hid (HOX.out.kept (Kept.of_below_all hb3 (FootIn.none _) (Nat.le_refl _))); have HP := Lib.hid (show (kPortOff (under w.heap.size)).K w3 (fun i => foot w3 none i ∨ u3.ownBlock = some i) ⟨s, bs⟩ [.string s, .slice A4 bs.length c4] from ⟨_, rfl, ho3.rowS _ (fun g hg hm => portClash HDR.out HWR.out HUB.out (ho3.base hg).1 hm)⟩); have HB4 := Lib.hid (HB3.out.alloc HB3.out.size (.cells #[.string s, .slice A4 bs.length c4] 53)); have HS3 := Lib.hid (HSB.out _ HB3.out); clear hb3 ho3)
          | (refine step_app rfl (wp_app1 (kPortOff (under w.heap.size)) 53 23 (.agg #[.string ⟨#[]⟩, .slice none 0 0]) 40 (.tmp 12) (.tmp 19) rfl Try.underlying23 infoPort rfl Nat.two_pos (by decide) none w.heap.size HO3.out (FootIn.none _) HS3.out rfl ⟨s, bs⟩ [.string s, .slice A4 bs.length c4] rfl HP.out HLL.out ?_); intro v5 w5 q1 q2 q3 q4 q5 q6; have HQ1 := Lib.hid q1; have HQ2 := Lib.hid q2.below; have HQ5 := Lib.hid q5; clear q1 q2 q3 q4 q5 q6))
      rw [← HT.out] at HQ1
      have HBN := Lib.hid ((HBX.out.trans (HB3.out.mono (HSB.out wx (Below.refl _ _)))).trans HQ2.out)
      go_wp2
      refine ⟨⟨i + 1, by go_num, by omega, HQ1, HBN⟩, ?_⟩
      simp [intOf]; omega
    · obtain rfl : i = ps.length := by omega
      rw [List.take_length] at HO
      go_wp2
      go_ret
      exact ⟨_, rfl, HO.out.rowPorts (fun _ h => h), HB.out⟩

set_option maxHeartbeats 2000000 in
set_option maxRecDepth 4096 in
theorem clone_net (w : World) (v : Value) (nodes : List Node) (ins outs : List Port) (hN : NetV w v nodes ins outs) (hnl : nodes.length ≤ 1099511627776) (hil : ins.length ≤ 1073741824) (hol : outs.length ≤ 1073741824) (hbits : ∀ q ∈ ins ++ outs, q.bits.length ≤ 1099511627776) :
    Calls Try.prog 30 #[v] w fun e w' => ∃ vn vi vo, e = .returned (.agg #[vn, vi, vo]) ∧ Own kNode 38 w' none w.heap.size vn nodes ∧ Row kPort w' (fun i => vn.ownBlock = some i) vi ins ∧ Row kPort w' (fun i => vn.ownBlock = some i) vo outs ∧ Below w.heap.size w w' := by
  obtain ⟨An, cn, Ai, ci, Ao, co, rfl, hbox⟩ := hN.box
  let ob := netBox (.slice An nodes.length cn) (.slice Ai ins.length ci) (.slice Ao outs.length co)
  have hsz : (w.alloc ob).heap.size = w.heap.size + 1 := by simp
  obtain ⟨w2, hw2⟩ : ∃ w2, w2 = (w.alloc ob).alloc (netBox (.slice none 0 0) (.slice none 0 0) (.slice none 0 0)) := ⟨_, rfl⟩
  have hsz2 : w2.heap.size = w.heap.size + 2 := by rw [hw2]; simp
  have h02 : Below (w.heap.size + 1) (w.alloc ob) w2 := by rw [hw2]; exact (Below.refl _ _).alloc (by rw [hsz]; exact Nat.le_refl _) _
  have hnew : ∀ i, w2.cell? ⟨w.heap.size + 1, i, none⟩ = (#[Value.slice none 0 0, .slice none 0 0, .slice none 0 0] : Array Value)[i]? := fun i => by
    rw [hw2, ← hsz]
    exact World.cell?_alloc_new _ _ _ i
  have hfr : ∀ i, w2.frozen? ⟨w.heap.size + 1, i, none⟩ = false := fun i => by
    rw [hw2, ← hsz]
    exact World.frozen?_alloc_new _ _ _ i
  have hall : ∀ W, Below (w.heap.size + 2) w2 W → (W.cell? ⟨w.heap.size, 0, none⟩ = some (.slice An nodes.length cn) ∧ W.cell? ⟨w.heap.size, 1, none⟩ = some (.slice Ai ins.length ci) ∧ W.cell? ⟨w.heap.size, 2, none⟩ = some (.slice Ao outs.length co)) ∧ (W.cell? ⟨w.heap.size + 1, 0, none⟩ = some (.slice none 0 0) ∧ W.cell? ⟨w.heap.size + 1, 1, none⟩ = some (.slice none 0 0) ∧ W.cell? ⟨w.heap.size + 1, 2, none⟩ = some (.slice none 0 0)) ∧ (W.frozen? ⟨w.heap.size + 1, 0, none⟩ = false ∧ W.frozen? ⟨w.heap.size + 1, 1, none⟩ = false ∧ W.frozen? ⟨w.heap.size + 1, 2, none⟩ = false) := fun W hW => by
    have hb := hW.block (w.heap.size + 1) (by omega)
    obtain ⟨c0, c1, c2, -⟩ := hbox W (h02.trans (hW.mono (by omega)))
    exact ⟨⟨c0, c1, c2⟩, ⟨(World.cell?_of_block hb).trans (hnew 0), (World.cell?_of_block hb).trans (hnew 1), (World.cell?_of_block hb).trans (hnew 2)⟩, ⟨(World.frozen?_of_block hb).trans (hfr 0), (World.frozen?_of_block hb).trans (hfr 1), (World.frozen?_of_block hb).trans (hfr 2)⟩⟩
  have hrows : ∀ W, Below (w.heap.size + 2) w2 W → Row kNode W (fun _ => False) (.slice An nodes.length cn) nodes ∧ Row kPort W (fun _ => False) (.slice Ai ins.length ci) ins ∧ Row kPort W (fun _ => False) (.slice Ao outs.length co) outs ∧ Below w.heap.size w W := fun W hW => by
    obtain ⟨-, -, -, r1, r2, r3, hb⟩ := hbox W (h02.trans (hW.mono (by omega)))
    exact ⟨r1, r2, r3, hb⟩
  have HSC := Lib.hid (show ∀ (W : World) (x y z : Value), Below (w.heap.size + 2) w2 W → (((W.setCell ⟨w.heap.size + 1, 0, none⟩ x).setCell ⟨w.heap.size + 1, 1, none⟩ y).setCell ⟨w.heap.size + 1, 2, none⟩ z).cell? ⟨w.heap.size, 0, none⟩ = some (.slice An nodes.length cn) ∧ (((W.setCell ⟨w.heap.size + 1, 0, none⟩ x).setCell ⟨w.heap.size + 1, 1, none⟩ y).setCell ⟨w.heap.size + 1, 2, none⟩ z).cell? ⟨w.heap.size, 1, none⟩ = some (.slice Ai ins.length ci) ∧ (((W.setCell ⟨w.heap.size + 1, 0, none⟩ x).setCell ⟨w.heap.size + 1, 1, none⟩ y).setCell ⟨w.heap.size + 1, 2, none⟩ z).cell? ⟨w.heap.size, 2, none⟩ = some (.slice Ao outs.length co) from fun W x y z hW => ⟨cell_set3 (by omega) (hall W hW).1.1, cell_set3 (by omega) (hall W hW).1.2.1, cell_set3 (by omega) (hall W hW).1.2.2⟩)
  have HX0 := Lib.hid (hall w2 (Below.refl _ _))
  have HX1 := Lib.hid (hall w2.drew (Below.refl _ _).drew)
  have HALL := Lib.hid hall
  have HROWS := Lib.hid hrows
  have HW2 := Lib.hid hw2
  have HSZ2 := Lib.hid hsz2
  have HC1 := Lib.hid (clone_nodes_calls w2.drew _ nodes _ (hrows _ (Below.refl _ _).drew).1 hnl)
  have HC2 := Lib.hid (fun W hW => cports_net W _ ins (hrows W hW).2.1 (by omega) fun q hq => hbits q (List.mem_append_left _ hq))
  have HC3 := Lib.hid (fun W hW => cports_net W _ outs (hrows W hW).2.2.1 (by omega) fun q hq => hbits q (List.mem_append_right _ hq))
  clear hN hbox hsz hsz2 h02 hnew hfr hall hrows hbits hw2
  go_enter Try.func30, Try.ntmps30
  go_wp2_with fail
  rw [← HW2.out]
  go_region_held3 (fun W => W.cell? ⟨w.heap.size, 0, none⟩ = some (.slice An nodes.length cn) ∧ W.cell? ⟨w.heap.size, 1, none⟩ = some (.slice Ai ins.length ci) ∧ W.cell? ⟨w.heap.size, 2, none⟩ = some (.slice Ao outs.length co))
    (first | with_reducible exact HX1.out.1 | with_reducible exact HX0.out.1 | with_reducible exact (HALL.out _ HB3.out).1 | with_reducible exact (HALL.out _ HB4.out).1 | with_reducible exact (HALL.out _ HB5.out).1 | with_reducible exact HSC.out _ _ _ _ HB5.out)
    (first
      | (go_at_call 68; refine HC1.out.mono ?_; rintro e w3 ⟨v3, rfl, ho3, hb3⟩; obtain ⟨A3, c3, rfl, -, -⟩ := ho3.shape; have HO3 := Lib.hid ho3; have HB3 : Hid (Below (w.heap.size + 2) w2 w3) := Lib.hid ((Below.refl _ w2).drew.trans (hb3.mono (Nat.le_of_eq HSZ2.out.symm))); clear hb3 ho3)
      | (go_at_call 66; refine (HC3.out _ HB4.out).mono ?_; rintro e w5 ⟨v5, rfl, hr5, hb5⟩; obtain ⟨A5, c5, rfl, -, -⟩ := hr5.shape; have HR5 := Lib.hid hr5; have HBB5 := Lib.hid hb5; have HB5 := Lib.hid (HB4.out.trans (hb5.mono (Nat.le_trans (Nat.le_of_eq HSZ2.out.symm) HB4.out.size))); clear hb5 hr5; obtain ⟨-, ⟨y0, y1, y2⟩, ⟨f0, f1, f2⟩⟩ := HALL.out _ HB5.out)
      | (go_at_call 66; refine (HC2.out _ HB3.out).mono ?_; rintro e w4 ⟨v4, rfl, hr4, hb4⟩; obtain ⟨A4, c4, rfl, -, -⟩ := hr4.shape; have HR4 := Lib.hid hr4; have HBB4 := Lib.hid hb4; have HB4 := Lib.hid (HB3.out.trans (hb4.mono (Nat.le_trans (Nat.le_of_eq HSZ2.out.symm) HB3.out.size))); clear hb4 hr4))
  go_wp2
  have hg0 : w2.drew.heap.size = w.heap.size + 2 := HSZ2.out
  have hs3 : w.heap.size + 2 ≤ w3.heap.size := by have := HB3.out.size; have := HSZ2.out; omega
  have hs4 : w.heap.size + 2 ≤ w4.heap.size := by have := HBB4.out.size; omega
  have hown : ∀ g, (Value.slice A3 nodes.length c3).ownBlock = some g → w.heap.size + 2 ≤ g ∧ g < w3.heap.size := fun g hg => by have := HO3.out.base hg; omega
  have hk5 : Below w3.heap.size w3 w5 := HBB4.out.trans (HBB5.out.mono HBB4.out.size)
  have hst : ∀ i, i ≠ w.heap.size + 1 → (((w5.setCell ⟨w.heap.size + 1, 0, none⟩ (.slice A3 nodes.length c3)).setCell ⟨w.heap.size + 1, 1, none⟩ (.slice A4 ins.length c4)).setCell ⟨w.heap.size + 1, 2, none⟩ (.slice A5 outs.length c5)).heap[i]? = w5.heap[i]? := fun i hi => heap_set3 hi
  obtain ⟨wf, hwf⟩ : ∃ wf, wf = (((w5.setCell ⟨w.heap.size + 1, 0, none⟩ (.slice A3 nodes.length c3)).setCell ⟨w.heap.size + 1, 1, none⟩ (.slice A4 ins.length c4)).setCell ⟨w.heap.size + 1, 2, none⟩ (.slice A5 outs.length c5)) := ⟨_, rfl⟩
  have hsf : wf.heap.size = w5.heap.size := by rw [hwf]; simp
  rw [← hwf] at hst
  have hb5 : Below w.heap.size w wf := by
    rw [hwf]
    exact ((((HROWS.out _ HB5.out).2.2.2).setCell (by simp) _).setCell (by simp) _).setCell (by simp) _
  refine bodyPost_ret (v := .agg #[.slice A3 nodes.length c3, .slice A4 ins.length c4, .slice A5 outs.length c5]) (by simp [results, Try.results30, go_sem, y0, y1, y2]) rfl ?_
  rw [← hwf]
  have o5 := (HO3.out.kept (Kept.of_below_all hk5 (FootIn.none _) (Nat.le_refl _))).lower (B' := w.heap.size + 2) (by rw [hg0]; exact Nat.le_refl _)
  refine ⟨_, _, _, rfl, ?_, ?_, ?_, hb5⟩
  · have hg : w5.grownBy wf (some (w.heap.size + 1)) := ⟨by rw [hwf]; rfl, by rw [hwf]; rfl, by rw [hwf]; rfl, by rw [hsf]; exact Nat.le_refl _, fun k hk hne => hst k (fun e => hne (by rw [e]))⟩
    exact (o5.other hg (fun i => ⟨fun hf => (foot_none _ _ hf).elim, fun hf => (foot_none _ _ hf).elim⟩) (.inr (fun e => by have := hown _ e; omega)) (fun _ _ h => h)).lower (by omega)
  · exact (HR4.out.later HBB5.out).keep ⟨by rw [hsf]; exact Nat.le_refl _, fun i hi hn => hst i (fun e => hn (show i < w3.heap.size by omega))⟩ (fun i hi h => (hown i h).2)
  · exact HR5.out.keep ⟨by rw [hsf]; exact Nat.le_refl _, fun i hi hn => hst i (fun e => hn (show i < w4.heap.size by omega))⟩ (fun i hi h => Nat.lt_of_lt_of_le (hown i h).2 HBB4.out.size)
end Go.Proofs.Ytbfjacgfifecpaa
