/- fold.folded: the walk. -/
import Derived.Test.YtbfjacgfifecpaaFoL
import Derived.Test.YtbfjacgfifecpaaFoP
namespace Go.Proofs.Ytbfjacgfifecpaa
open Go.RowKit

section
variable {w w' : World} {B G : Nat} {sv vn vi vo v' : Value} {sl : List Int} {ns : List Node} {is' os' : List Port} {vsi vso : List Value}
theorem foV_push (h : Keep w B (foV G vn ns vi is' vsi vo os' vso sv sl)) {x : Int} (ho : Own kInt 3 w' none B v' (sl ++ [x])) (hg : w.grownBy w' sv.ownBlock) (hloc : v'.ownBlock = sv.ownBlock ∨ ∃ b, v'.ownBlock = some b ∧ w.heap.size ≤ b) :
    (w'.cell? ⟨G, 3, none⟩ = some sv ∧ w'.frozen? ⟨G, 3, none⟩ = false) ∧ Keep (w'.setCell ⟨G, 3, none⟩ v') B (foV G vn ns vi is' vsi vo os' vso v' (sl ++ [x])) := by
  have h1 : Keep w' B ((foV G vn ns vi is' vsi vo os' vso sv sl).set 1 (rwInts 3 v' (sl ++ [x]))) := h.setRow (i := 1) rfl ho hg hloc
  exact ⟨h1.cell (i := 0) (r := rwFo G vn vi vo sv) rfl rfl (j := 3) rfl, h1.store (i := 0) (r := rwFo G vn vi vo sv) rfl rfl 3 v'⟩
theorem cells_setA : ∀ (ns : List Node) (a : Nat) (v : Int) (x : Node), ns[a]? = some x → (ns.flatMap Node.cells).set (a * 4 + 1) (.int .i64 v) = (ns.set a ⟨x.kind, v, x.b, x.c⟩).flatMap Node.cells
  | [], a, v, x, h => by simp at h
  | y :: ns, 0, v, x, h => by simp at h; subst h; simp [Node.cells]
  | y :: ns, a + 1, v, x, h => by
    have ih := cells_setA ns a v x (by simpa using h)
    have hl : y.cells.length = 4 := rfl
    rw [List.set_cons_succ, List.flatMap_cons, List.flatMap_cons, show (a + 1) * 4 + 1 = y.cells.length + (a * 4 + 1) by rw [hl]; omega, List.set_append_right _ _ (by omega), Nat.add_sub_cancel_left, ih]
theorem foV_setA {g c : Nat} (h : Keep w B (foV G (.slice (some ⟨g, 0, none⟩) ns.length c) ns vi is' vsi vo os' vso sv sl)) {a : Nat} {x : Node} (hx : ns[a]? = some x) (v : Int) :
    Keep (w.setCell ⟨g, a * 4 + 1, none⟩ (.int .i64 v)) B (foV G (.slice (some ⟨g, 0, none⟩) ns.length c) (ns.set a ⟨x.kind, v, x.b, x.c⟩) vi is' vsi vo os' vso sv sl) := by
  have h1 := h.store (i := 2) (r := rwNodes (.slice (some ⟨g, 0, none⟩) ns.length c) ns) rfl rfl (a * 4 + 1) (.int .i64 v)
  have e : foV G (.slice (some ⟨g, 0, none⟩) ns.length c) (ns.set a ⟨x.kind, v, x.b, x.c⟩) vi is' vsi vo os' vso sv sl = rwFo G (.slice (some ⟨g, 0, none⟩) ns.length c) vi vo sv :: rwInts 3 sv sl :: (⟨38, 4, .slice (some ⟨g, 0, none⟩) ns.length c, ns.length, (ns.flatMap Node.cells).set (a * 4 + 1) (.int .i64 v)⟩ : Rw) :: (ptT vi is' vsi ++ ptT vo os' vso) := by
    rw [cells_setA ns a v x hx]
    simp [swU]
  rw [e]
  exact h1
theorem foV_out (h : Keep w B (foV G vn ns vi is' vsi vo os' vso sv sl)) : Keep w B (ptT vo os' vso) := h.tail.tail.tail.right
theorem foV_setOut (h : Keep w B (foV G vn ns vi is' vsi vo os' vso sv sl)) {i : Nat} {p : Port} (hp : os'[i]? = some p) {b m c : Nat} (hu : vso[i]? = some (.slice (some ⟨b, 0, none⟩) m c)) (j : Nat) (r : Int) :
    Keep (w.setCell ⟨b, j, none⟩ (.int .i64 r)) B (foV G vn ns vi is' vsi vo (os'.set i ⟨p.name, p.bits.set j r⟩) vso sv sl) := by
  have h' : Keep w B ((rwFo G vn vi vo sv :: rwInts 3 sv sl :: rwNodes vn ns :: ptT vi is' vsi) ++ (ptT vo os' vso ++ [])) := by
    rw [List.append_nil]; exact h
  have h2 := h'.ptSet hp hu j r
  rw [List.append_nil] at h2
  exact h2
theorem foV_net (h : Keep w B (foV G vn ns vi is' vsi vo os' vso sv sl)) (hi : vsi.length = is'.length) (ho : vso.length = os'.length) : NetV w (.agg #[vn, vi, vo]) ns is' os' := netT_net h.tail.tail hi ho
end
/-- what fold.folded tells -/
def FoOut (nodes : List Node) (ins outs : List Port) (n' : List Node) (o' : List Port) (st : List Nat) : Prop :=
  ∃ l, LevOut nodes ins outs 0 l ∧ FoI nodes (ordL l) (foRun nodes (ordL l)) ∧ st = (foRun nodes (ordL l)).st ∧ n' = dfRun nodes (foRun nodes (ordL l)).st (foRun nodes (ordL l)).m nodes.length ∧ o' = outs.map (rpP (stF (foRun nodes (ordL l)).st))
def FoRes (w w' : World) (nodes : List Node) (ins outs : List Port) (x : Int) (pv : Value) : Prop :=
  (x ≠ 0 ∧ pv = .pointer none ∧ ∃ k, LevOut nodes ins outs x k) ∨ (x = 0 ∧ ∃ B G vn vi vo vsi vso sv n' st o', w.heap.size ≤ B ∧ pv = .pointer (some ⟨G, 0, none⟩) ∧ vsi.length = ins.length ∧ vso.length = outs.length ∧ Keep w' B (foV G vn n' vi ins vsi vo o' vso sv (nats st)) ∧ FoOut nodes ins outs n' o' st)
theorem ren7_by (f : Nat → Nat) (x : Node) (h : x.kind = 7) : byN f x = ⟨7, (f x.a.toNat : Int), x.b, x.c⟩ := by
  obtain ⟨k, a, b, c⟩ := x
  dsimp only at h
  subst h
  rfl
theorem dfRun_lenF (nodes : List Node) (st : List Nat) (m : List Node) : ∀ i, (dfRun nodes st m i).length = m.length := by
  intro i
  induction i with
  | zero => rfl
  | succ i ih =>
    rw [dfRun_succ, dfStep]
    split
    · split
      · rw [List.length_set, ih]
      · exact ih
    · exact ih
theorem dfRun_atF {nodes : List Node} {st : List Nat} {m : List Node} (hm : m.length = nodes.length) (u : Nat) : ∀ i, i ≤ nodes.length → (dfRun nodes st m i)[u]? = if u < i ∧ kindAt nodes u = 7 then (nodes[u]?).map (byN (stF st)) else m[u]? := by
  intro i
  induction i with
  | zero => exact fun _ => by rw [if_neg (by omega)]; rfl
  | succ i ih =>
    intro hi
    have h2 := ih (by omega)
    have hnx := List.getElem?_eq_getElem (show i < nodes.length by omega)
    have hk := kindAt_eq hnx
    rw [dfRun_succ, dfStep, hnx]
    dsimp only
    by_cases h7 : nodes[i].kind = 7
    · rw [if_pos h7, List.getElem?_set]
      by_cases e : i = u
      · subst e
        rw [if_pos rfl, if_pos (by rw [dfRun_lenF]; omega), if_pos ⟨by omega, by rw [hk]; exact h7⟩, hnx]
        rfl
      · rw [if_neg e, h2]
        by_cases hc : u < i ∧ kindAt nodes u = 7
        · rw [if_pos hc, if_pos ⟨by omega, hc.2⟩]
        · rw [if_neg hc, if_neg (fun h => hc ⟨by omega, h.2⟩)]
    · rw [if_neg h7, h2]
      by_cases hc : u < i ∧ kindAt nodes u = 7
      · rw [if_pos hc, if_pos ⟨by omega, hc.2⟩]
      · rw [if_neg hc, if_neg (fun h => hc ⟨by
          rcases Nat.lt_or_ge u i with h' | h'
          · exact h'
          · obtain rfl : u = i := by omega
            exact absurd (hk.symm.trans h.2) h7, h.2⟩)]

set_option maxHeartbeats 8000000 in
set_option maxRecDepth 100000 in
theorem folded_net (w : World) (v : Value) (nodes : List Node) (ins outs : List Port) (hN : NetV w v nodes ins outs) (hF : Fits nodes ins outs) :
    Calls Try.prog 80 #[v] w fun e w' => ∃ pv x, e = .returned (.tuple #[pv, .int .i64 x]) ∧ FoRes w w' nodes ins outs x pv ∧ Below w.heap.size w w' := by
  obtain ⟨An, cn, Ai, ci, Ao, co, rfl, hbox⟩ := hN.box
  let ob := netBox (.slice An nodes.length cn) (.slice Ai ins.length ci) (.slice Ao outs.length co)
  obtain ⟨w1, hw1⟩ : ∃ w1, w1 = w.alloc ob := ⟨_, rfl⟩
  have hs1 : w1.heap.size = w.heap.size + 1 := by rw [hw1]; simp [ob]
  have hall : ∀ W, Below w1.heap.size w1 W → (W.cell? ⟨w.heap.size, 0, none⟩ = some (.slice An nodes.length cn) ∧ W.cell? ⟨w.heap.size, 1, none⟩ = some (.slice Ai ins.length ci) ∧ W.cell? ⟨w.heap.size, 2, none⟩ = some (.slice Ao outs.length co)) ∧ Row kNode W (fun _ => False) (.slice An nodes.length cn) nodes ∧ NetV W (.agg #[.slice An nodes.length cn, .slice Ai ins.length ci, .slice Ao outs.length co]) nodes ins outs ∧ Below w.heap.size w W := fun W hW => by
    rw [hs1, hw1] at hW
    obtain ⟨c0, c1, c2, r1, r2, r3, hb3⟩ := hbox W hW
    exact ⟨⟨c0, c1, c2⟩, r1, ⟨_, _, _, rfl, r1, r2, r3⟩, hb3⟩
  obtain ⟨⟨z0, z1, z2⟩, -, hn1, -⟩ := hall w1 (Below.refl _ _)
  have HC := Lib.hid (order_net w1 _ nodes ins outs hn1 hF)
  have HALL := Lib.hid hall
  have HW1 := Lib.hid hw1
  have HS1 := Lib.hid hs1
  have HF := Lib.hid hF
  have hnl := hF.nl
  have hil := hF.il
  have hol := hF.ol
  rw [hw1] at z0 z1 z2
  clear hN hbox hw1 hs1 hall hn1 hF
  go_enter Try.func80, Try.ntmps80
  go_wp2_with fail
  rw [← HW1.out]
  refine HC.out.mono ?_
  rintro e w2 ⟨v2, o2, x, rfl, hr2, hl2, hb2⟩
  have HL := Lib.hid hl2
  have HB2 := Lib.hid hb2
  have HR2 := Lib.hid hr2
  clear z0 z1 z2 HC hl2 hb2 hr2
  obtain ⟨⟨z0, z1, z2⟩, -, hn2, hbw⟩ := HALL.out _ HB2.out
  have HBW := Lib.hid hbw
  clear hbw
  by_cases hx : x = 0
  · subst hx
    obtain ⟨l, hlev, ho2⟩ := HL.out
    have hez := errP_zero hlev.choose_spec.1.symm
    have HFB := Lib.hid (formed_in hez.2.1)
    have HFR := Lib.hid (Frm.of hez.2.1)
    have hn62 : nodes.length ≤ 262144 := hez.1.1
    have HLV := Lib.hid hlev
    have hisl : IsLev nodes l := by obtain ⟨b, h1, h2, h3, h4, h5⟩ := hlev; exact h4 rfl
    have HNN := Lib.hid hlev.nonneg
    have hll : l.length = nodes.length := hisl.1
    have holen : (ordL l).length = nodes.length := by rw [ordL_length hlev.nonneg, hll]
    obtain ⟨A2, c2, he2, -, -⟩ := HR2.out.shape
    rw [ho2, List.length_map, holen] at he2
    subst he2
    have HO2 := Lib.hid ho2
    have HOL := Lib.hid holen
    have HLL := Lib.hid hll
    have HC := Lib.hid (clone_own w2 _ nodes ins outs hn2 hnl hil hol HF.out.bits)
    clear hez hn2 hlev hisl hll holen ho2
    go_wp2_with fail
    refine HC.out.mono ?_
    rintro e w4 ⟨vn, vi, vo, vsi, vso, rfl, hvi, hvo, hk4, hb4⟩
    obtain ⟨A5, c5, he5, -, -⟩ := (rwNodes_at.1 (hk4.own 0 _ rfl)).shape
    obtain ⟨A6, c6, he6, -, -⟩ := (ptT_hdr hk4.tail.left).shape
    obtain ⟨A7, c7, he7, -, -⟩ := (ptT_hdr hk4.tail.right).shape
    rw [hdrs_length hvi] at he6
    rw [hdrs_length hvo] at he7
    subst he5 he6 he7
    obtain ⟨G, hG⟩ : ∃ G, w4.heap.size = G := ⟨_, rfl⟩
    have k1 := hk4.push (w' := w4.alloc (.cells #[.slice A5 nodes.length c5, .slice A6 ins.length c6, .slice A7 outs.length c7, .slice none 0 0] 106)) (r := rwFo w4.heap.size (.slice A5 nodes.length c5) (.slice A6 ins.length c6) (.slice A7 outs.length c7) (.slice none 0 0)) ((Below.refl _ _).alloc (Nat.le_refl _) _) (World.ownsRow_lit w4 #[.slice A5 nodes.length c5, .slice A6 ins.length c6, .slice A7 outs.length c7, .slice none 0 0] 1 (Nat.le_refl _) (by simp [maxLen]) rfl)
    have k2 := k1.push (Below.refl _ _) (r := rwInts 3 (.slice none 0 0) []) (rwInts_at.2 (Own.nil kInt 3 _ none _))
    have k3 := k2.front2
    rw [hG] at k3
    have HK0 := Lib.hid (show Keep _ w2.heap.size (foV G (.slice A5 nodes.length c5) nodes (.slice A6 ins.length c6) ins vsi (.slice A7 outs.length c7) outs vso (.slice none 0 0) (nats (List.range 0))) from k3)
    have hb26 : Below w2.heap.size w2 (w4.alloc (.cells #[.slice A5 nodes.length c5, .slice A6 ins.length c6, .slice A7 outs.length c7, .slice none 0 0] 106)) := hb4.alloc hb4.size _
    obtain ⟨⟨y0, y1, y2⟩, -⟩ := HALL.out _ (HB2.out.trans (hb26.mono HB2.out.size))
    have HB26 := Lib.hid hb26
    have HVI := Lib.hid hvi
    have HVO := Lib.hid hvo
    have HGG := Lib.hid (show w2.heap.size ≤ G by have := hb4.size; omega)
    clear k1 k2 k3 hk4 hvi hvo hb4 hb26 HC z0 z1 z2
    go_wp2_with fail
    clear hG y0 y1 y2
    go_loopw [7, 32] (fun _ iv wr => ∃ (i : Nat) (sv : Value), iv = .int .i64 i ∧ i ≤ nodes.length ∧ Hid (Keep wr w2.heap.size (foV G (.slice A5 nodes.length c5) nodes (.slice A6 ins.length c6) ins vsi (.slice A7 outs.length c7) outs vso sv (nats (List.range i)))) ∧ Hid (Below w2.heap.size w2 wr)) (fun _ iv _ => nodes.length - (intOf iv).toNat)
    case atStart => exact ⟨0, _, rfl, Nat.zero_le _, HK0, HB26⟩
    case round =>
      clear HK0 HB26
      obtain ⟨i, sv, rfl, hi, HK, HB⟩ := hrel
      by_cases hlt : i < nodes.length
      · obtain ⟨⟨-, -, -, k3⟩, kf⟩ := foV_cells HK.out
        have HO := Lib.hid (HK.out.ints (i := 1) rfl)
        have hbs := HB.out.size
        have hrl : (nats (List.range i)).length = i := by simp
        have hrs : nats (List.range (i + 1)) = nats (List.range i) ++ [(i : Int)] := by rw [List.range_succ]; exact List.map_append
        have HRS := Lib.hid hrs
        have hgb : w2.heap.size ≤ G := HGG.out
        obtain ⟨sl, hsl⟩ : ∃ sl, nats (List.range i) = sl := ⟨_, rfl⟩
        rw [hsl] at HK HO HRS hrl
        have hsl1 : (sl ++ [(i : Int)]).length = i + 1 := by simp [hrl]
        have hbd : (sl.length + 1) * 8 ≤ 140737488355328 := by omega
        clear hsl hrs
        go_wp2_with (at_builtin; go_loud (refine app1 kInt 3 28 (.int .i64 0) 8 rfl (.tmp 39) (.tmp 41) rfl Try.underlying28 infoInt rfl (by decide) (by decide) none w2.heap.size HO.out (FootIn.none _) hbs rfl (i : Int) [.int .i64 i] rfl rfl hbd ?_; intro v' w5 q1 q2 _ q4 q5 q6; obtain ⟨A9, c9, hv9, -, -⟩ := q1.shape; rw [hsl1] at hv9; subst hv9; obtain ⟨⟨e0, e1⟩, hk5⟩ := foV_push HK.out q1 q5 (q6.imp id fun ⟨b, h1, h2⟩ => ⟨b, h1, Nat.le_of_lt h2⟩); have HK5 := Lib.hid hk5; have HB5 := Lib.hid ((HB.out.trans (q2.below)).setCell (p := ⟨G, 3, none⟩) hgb (.slice A9 (i + 1) c9)); clear q1 q2 q4 q5 q6 hk5))
        refine ⟨⟨i + 1, _, by go_num, by omega, by rw [HRS.out]; exact HK5, HB5⟩, ?_⟩
        simp [intOf]; omega
      · obtain rfl : i = nodes.length := by omega
        have hsvs := (HK.out.ints (i := 1) rfl).shape
        obtain ⟨A8, c8, hv8, -, -⟩ := hsvs
        rw [show (nats (List.range nodes.length)).length = nodes.length by simp] at hv8
        subst hv8
        have HK0 := Lib.hid (show Keep wr w2.heap.size (foV G (.slice A5 nodes.length c5) (foRun nodes ((ordL l).take 0)).m (.slice A6 ins.length c6) ins vsi (.slice A7 outs.length c7) outs vso (.slice A8 nodes.length c8) (nats (foRun nodes ((ordL l).take 0)).st)) from HK.out)
        clear HK hlt hi
        go_wp2_with fail
        obtain ⟨wo, hwo⟩ : ∃ wo, wo = wr := ⟨_, rfl⟩
        subst hwo
        go_loopw [9, 10, 48] (fun _ _ jv wr => ∃ j : Nat, jv = .int .i64 j ∧ j ≤ nodes.length ∧ Hid (FoI nodes ((ordL l).take j) (foRun nodes ((ordL l).take j))) ∧ Hid (Keep wr w2.heap.size (foV G (.slice A5 nodes.length c5) (foRun nodes ((ordL l).take j)).m (.slice A6 ins.length c6) ins vsi (.slice A7 outs.length c7) outs vso (.slice A8 nodes.length c8) (nats (foRun nodes ((ordL l).take j)).st))) ∧ Hid (Below w2.heap.size w2 wr)) (fun _ _ jv _ => nodes.length - (intOf jv).toNat)
        case atStart => exact ⟨0, rfl, Nat.zero_le _, Lib.hid (by rw [List.take_zero]; exact FoI.init HFR.out), HK0, HB⟩
        case round =>
          clear HK0 HB
          obtain ⟨j, rfl, hj, HI, HK, HB⟩ := hrel
          obtain ⟨⟨z0, z1, z2⟩, hrn, -, -⟩ := HALL.out _ (HB2.out.trans (HB.out.mono HB2.out.size))
          by_cases hlt : j < nodes.length
          · have hlo : j < (ordL l).length := by rw [HOL.out]; exact hlt
            obtain ⟨b, off, rfl, x0⟩ := (HR2.out.later HB.out).int_at (i := j) (by rw [HO2.out, List.length_map]; exact hlo)
            have hoj : o2[j]'(by rw [HO2.out, List.length_map]; exact hlo) = (((ordL l)[j] : Nat) : Int) := by
              have h1 : o2[j]? = some (((ordL l)[j] : Nat) : Int) := by rw [HO2.out, List.getElem?_map, List.getElem?_eq_getElem hlo]; rfl
              rw [List.getElem?_eq_getElem (by rw [HO2.out, List.length_map]; exact hlo)] at h1
              injection h1
            rw [hoj] at x0
            have ham := (mem_ordL HNN.out).1 (List.getElem_mem hlo)
            have hTK := List.take_succ_eq_append_getElem hlo
            have hnm : (ordL l)[j] ∉ (ordL l).take j := not_mem_take (ordL_nodup l) hlo
            obtain ⟨a, ha⟩ : ∃ a, (ordL l)[j] = a := ⟨_, rfl⟩
            rw [ha] at x0 ham hTK hnm
            rw [HLL.out] at ham
            have HST := Lib.hid (show foRun nodes ((ordL l).take (j + 1)) = foStep nodes (foRun nodes ((ordL l).take j)) a by rw [hTK, foRun_snoc])
            have HI2 := Lib.hid (show FoI nodes ((ordL l).take (j + 1)) (foRun nodes ((ordL l).take (j + 1))) by rw [HST.out, hTK]; exact HI.out.step HFR.out ham)
            obtain ⟨s, hs⟩ : ∃ s, foRun nodes ((ordL l).take j) = s := ⟨_, rfl⟩
            rw [hs] at HI HK HST
            obtain ⟨sm, sst⟩ := s
            clear ha hs hoj
            have hmo := HI.out.out a hnm
            have hlm : sm.length = nodes.length := HI.out.lm
            have hls : sst.length = nodes.length := HI.out.ls
            obtain ⟨b3, off3, rfl, y0, y1, y2, y3⟩ := hrn.node_at ham
            have hnx := List.getElem?_eq_getElem ham
            have hrt := HFR.out _ (List.getElem_mem ham)
            obtain ⟨x, hxx⟩ : ∃ x, nodes[a] = x := ⟨_, rfl⟩
            rw [hxx] at y0 y1 y2 y3 hrt hnx
            clear hxx hrn
            have HSTEP := Lib.hid (show foStep nodes ⟨sm, sst⟩ a = if isGt x then ⟨sm.set a (look sm (renN (stF sst) x)).1, if (look sm (renN (stF sst) x)).2 = -1 then sst else sst.set a (look sm (renN (stF sst) x)).2.toNat⟩ else ⟨sm, sst⟩ by unfold foStep; rw [hnx])
            by_cases hg : isGt x
            · obtain ⟨g, hg5⟩ : ∃ g, A5 = some ⟨g, 0, none⟩ := by
                obtain ⟨g, c, he, -⟩ := (rwNodes_at.1 (HK.out.own 2 _ rfl)).form (by rw [hlm]; omega)
                injection he with he
                exact ⟨g, he⟩
              subst hg5
              obtain ⟨P, hP8⟩ : ∃ P, A8 = some ⟨P, 0, none⟩ := by
                obtain ⟨g, c, he, -⟩ := (HK.out.ints (i := 1) rfl).form (by rw [List.length_map, hls]; omega)
                injection he with he
                exact ⟨g, he⟩
              subst hP8
              obtain ⟨r, hr⟩ : ∃ r, look sm (renN (stF sst) x) = r := ⟨_, rfl⟩
              have HC := Lib.hid (look_net wr w2.heap.size G nodes.length g c5 P c8 sm sst (.slice A6 ins.length c6) (.slice A7 outs.length c7) ins outs vsi vso HK.out hlm hls HI.out.bs HI.out.nd a ham x (by rw [hmo, hnx]) hg (okX_right hrt hg) r hr)
              rw [if_pos hg, hr] at HSTEP
              have HNEXT := Lib.hid (HST.out.trans HSTEP.out)
              obtain ⟨xk, xa, xb, xc⟩ := x
              dsimp only at y0 y1 y2 y3
              have hk1 : 2 ≤ xk := hg.1
              have hk2 : xk ≤ 6 := hg.2
              clear hr hg hmo hnm hTK hrt hnx HI HST HSTEP
              go_wp2_with fail
              refine HC.out.mono ?_
              rintro e w5 ⟨rfl, hk5, hb5⟩
              have HK5 := Lib.hid hk5
              have HB5 := Lib.hid (HB.out.trans hb5)
              clear hk5 hb5 HC
              go_wp2_with fail
              refine ⟨⟨j + 1, by go_num, by omega, HI2, by rw [HNEXT.out]; exact HK5, HB5⟩, ?_⟩
              simp [intOf]; omega
            · rw [if_neg hg] at HSTEP
              have HNEXT := Lib.hid (HST.out.trans HSTEP.out)
              obtain ⟨xk, xa, xb, xc⟩ := x
              dsimp only at y0 y1 y2 y3
              have hkk : xk < 2 ∨ 6 < xk := by
                have : ¬ (2 ≤ xk ∧ xk ≤ 6) := hg
                omega
              clear hg hmo hnm hTK hrt hnx HI HST HSTEP
              rcases hkk with hkk | hkk
              · go_wp2_with fail
                refine ⟨⟨j + 1, by go_num, by omega, HI2, by rw [HNEXT.out]; exact HK, HB⟩, ?_⟩
                simp [intOf]; omega
              · go_wp2_with fail
                refine ⟨⟨j + 1, by go_num, by omega, HI2, by rw [HNEXT.out]; exact HK, HB⟩, ?_⟩
                simp [intOf]; omega
          · obtain rfl : j = nodes.length := by omega
            have htk : (ordL l).take nodes.length = ordL l := List.take_of_length_le (by rw [HOL.out]; exact Nat.le_refl _)
            rw [htk] at HI HK
            have HFO := Lib.hid (show ∀ n' o' st', n' = dfRun nodes (foRun nodes (ordL l)).st (foRun nodes (ordL l)).m nodes.length → o' = outs.map (rpP (stF (foRun nodes (ordL l)).st)) → st' = (foRun nodes (ordL l)).st → FoOut nodes ins outs n' o' st' from fun n' o' st' h1 h2 h3 => ⟨l, HLV.out, HI.out, h3, h1, h2⟩)
            obtain ⟨s, hs⟩ : ∃ s, foRun nodes (ordL l) = s := ⟨_, rfl⟩
            rw [hs] at HI HK HFO
            obtain ⟨sm, sst⟩ := s
            dsimp only at HFO HK
            have hlm : sm.length = nodes.length := HI.out.lm
            have hls : sst.length = nodes.length := HI.out.ls
            have HKD := Lib.hid (fun (i : Nat) (hi : i < nodes.length) => show ∃ y : Node, sm[i]? = some y ∧ ((nodes[i].kind = 7 ∧ y = nodes[i]) ∨ (nodes[i].kind ≠ 7 ∧ y.kind ≠ 7)) by
              have hnx := List.getElem?_eq_getElem hi
              by_cases hg : isGt nodes[i]
              · obtain ⟨y, h1, h2⟩ := HI.out.gate i _ hnx hg
                have h3 := h2.1
                have h4 : 2 ≤ nodes[i].kind ∧ nodes[i].kind ≤ 6 := hg
                exact ⟨y, h1, .inr ⟨by omega, by omega⟩⟩
              · have h1 := HI.out.fix i _ hnx hg
                by_cases h7 : nodes[i].kind = 7
                · exact ⟨_, h1, .inl ⟨h7, rfl⟩⟩
                · exact ⟨_, h1, .inr ⟨h7, h7⟩⟩)
            have HBS := Lib.hid HI.out.bs
            have HK0 := Lib.hid (show Keep wr w2.heap.size (foV G (.slice A5 nodes.length c5) (dfRun nodes sst sm 0) (.slice A6 ins.length c6) ins vsi (.slice A7 outs.length c7) outs vso (.slice A8 nodes.length c8) (nats sst)) from HK.out)
            obtain ⟨⟨k0, k1, k2, k3⟩, -⟩ := foV_cells HK.out
            clear hs htk HI HK hlt hj hrn z0 z1 z2
            go_wp2_with fail
            clear k0 k1 k2 k3
            obtain ⟨wo, hwo⟩ : ∃ wo, wo = wr := ⟨_, rfl⟩
            subst hwo
            go_loopw [11, 12, 74] (fun _ _ iv wr => ∃ i : Nat, iv = .int .i64 i ∧ i ≤ nodes.length ∧ Hid (Keep wr w2.heap.size (foV G (.slice A5 nodes.length c5) (dfRun nodes sst sm i) (.slice A6 ins.length c6) ins vsi (.slice A7 outs.length c7) outs vso (.slice A8 nodes.length c8) (nats sst))) ∧ Hid (Below w2.heap.size w2 wr)) (fun _ _ iv _ => nodes.length - (intOf iv).toNat)
            case atStart => exact ⟨0, rfl, Nat.zero_le _, HK0, HB⟩
            case round =>
              clear HK0 HB
              obtain ⟨i, rfl, hi, HK, HB⟩ := hrel
              by_cases hlt : i < nodes.length
              · have hdl : (dfRun nodes sst sm i).length = nodes.length := by rw [dfRun_lenF]; exact hlm
                have hrow := foV_row HK.out
                rw [← hdl] at hrow
                obtain ⟨g2, off, he, y0, y1, y2, y3⟩ := hrow.node_at (i := i) (by omega)
                obtain ⟨g, c', he', -, -⟩ := (rwNodes_at.1 (HK.out.own 2 _ rfl)).form (by omega)
                injection he' with he' e3 e4
                clear e3 e4
                rw [he'] at he
                injection he with he
                injection he with e1 e2
                subst e1 e2
                subst he'
                simp only [Nat.zero_add] at y0 y1 y2 y3
                have hnx := List.getElem?_eq_getElem hlt
                obtain ⟨y, hy1, hy2⟩ := HKD.out i hlt
                have hdi : (dfRun nodes sst sm i)[i]? = some y := by rw [dfRun_atF hlm i i (by omega), if_neg (by omega)]; exact hy1
                have hdg : (dfRun nodes sst sm i)[i]'(by omega) = y := by
                  rw [List.getElem?_eq_getElem (by omega)] at hdi
                  injection hdi
                rw [hdg] at y0 y1 y2 y3
                have HDS := Lib.hid (show dfRun nodes sst sm (i + 1) = if nodes[i].kind = 7 then (dfRun nodes sst sm i).set i (byN (stF sst) nodes[i]) else dfRun nodes sst sm i by rw [dfRun_succ, dfStep, hnx])
                have hiu := HFB.out.1 _ (List.getElem_mem hlt)
                obtain ⟨wx, hwx⟩ : ∃ wx, wx = wr.alloc (ndBox y) := ⟨_, rfl⟩
                have hbx : Below wr.heap.size wr wx := by rw [hwx]; exact (Below.refl _ _).alloc (Nat.le_refl _) _
                have HBX := Lib.hid (HB.out.trans (hbx.mono HB.out.size))
                have HKX := Lib.hid (HK.out.below hbx)
                have HWX := Lib.hid hwx
                have q1 : wx.cell? ⟨wr.heap.size, 1, none⟩ = some (.int .i64 y.a) := by rw [hwx]; exact World.cell?_alloc_new _ _ _ 1
                by_cases h7 : nodes[i].kind = 7
                · obtain ⟨-, hyn⟩ := hy2.resolve_right fun h => h.1 h7
                  rw [if_pos h7, ren7_by _ _ h7, ← hyn] at HDS
                  rw [← hyn] at h7 hiu
                  have hua := hiu y.a (by simp [usesR, many, h7])
                  obtain ⟨ua, hua1⟩ := Int.eq_ofNat_of_zero_le hua.1
                  obtain ⟨P, hP8⟩ : ∃ P, A8 = some ⟨P, 0, none⟩ := by
                    obtain ⟨g, c, he, -⟩ := (HK.out.ints (i := 1) rfl).form (by rw [List.length_map, hls]; omega)
                    injection he with he
                    exact ⟨g, he⟩
                  subst hP8
                  have hual : ua < nodes.length := by omega
                  have p0 := (foV_at (u := ua) HKX.out (by omega)).1
                  obtain ⟨⟨m0, -, -, m3⟩, -⟩ := foV_cells HKX.out
                  have hk6 : Keep wx w2.heap.size (foV G (.slice (some ⟨g, 0, none⟩) (dfRun nodes sst sm i).length c5) (dfRun nodes sst sm i) (.slice A6 ins.length c6) ins vsi (.slice A7 outs.length c7) outs vso (.slice (some ⟨P, 0, none⟩) nodes.length c8) (nats sst)) := by rw [hdl]; exact HKX.out
                  obtain ⟨⟨u1, n1⟩, n2⟩ := foV_nodeAt hk6 (a := i) (by omega) 1 (by omega)
                  have hk7 := foV_setA hk6 hdi (stF sst ua : Int)
                  rw [hdl] at hk7
                  have hgb : w2.heap.size ≤ g := (HK.out.lt (i := 2) (b := g) rfl rfl).1
                  have hb7 := HBX.out.setCell (p := ⟨g, i * 4 + 1, none⟩) hgb (.int .i64 (stF sst ua : Int))
                  have HDN := Lib.hid (show dfRun nodes sst sm (i + 1) = (dfRun nodes sst sm i).set i ⟨y.kind, (stF sst ua : Int), y.b, y.c⟩ by rw [HDS.out, hua1, Int.toNat_natCast, h7])
                  have HK7 := Lib.hid hk7
                  have HB7 := Lib.hid hb7
                  have hnl2 : (i : Int) < (nodes.length : Int) := by omega
                  obtain ⟨va, hva⟩ : ∃ va, stF sst ua = va := ⟨_, rfl⟩
                  rw [hva] at HK7 HB7 HDN p0
                  clear hrow hnx hy1 hy2 hdi hdg hiu hwx hbx hyn hua hk6 hk7 hgb hb7 HDS hdl hva
                  obtain ⟨yk, ya, yb, yc⟩ := y
                  dsimp only at y0 y1 y2 y3 q1 HDN HK7 h7 hua1
                  subst h7
                  subst hua1
                  go_wp2_with fail
                  rw [← HWX.out]
                  go_region_with (fail)
                  all_goals
                    go_wp2_with fail
                    first
                      | refine ⟨⟨i + 1, by go_num, by omega, by rw [HDN.out]; exact HK7, HB7⟩, ?_⟩
                      | refine ⟨⟨i + 1, by go_num, by omega, by rw [HDN.out]; exact Lib.hid HK7.out.drew, Lib.hid HB7.out.drew⟩, ?_⟩
                    simp [intOf]; omega
                · obtain ⟨-, hy7⟩ := hy2.resolve_left fun h => h7 h.1
                  have hk7 : (y.kind == 7) = false := by simpa using hy7
                  rw [if_neg h7] at HDS
                  clear hrow hnx hy1 hy2 hdi hdg hiu hwx hbx h7 hy7 hdl q1
                  obtain ⟨yk, ya, yb, yc⟩ := y
                  dsimp only at y0 y1 y2 y3 hk7
                  go_wp2_with fail
                  rw [← HWX.out]
                  refine ⟨⟨i + 1, by go_num, by omega, by rw [HDS.out]; exact HKX, HBX⟩, ?_⟩
                  simp [intOf]; omega
              · obtain rfl : i = nodes.length := by omega
                obtain ⟨md, hmd⟩ : ∃ md, dfRun nodes sst sm nodes.length = md := ⟨_, rfl⟩
                rw [hmd] at HK
                have HMD := Lib.hid hmd
                obtain ⟨⟨m0, m1, m2, m3⟩, -⟩ := foV_cells HK.out
                clear hlt hi hmd
                go_wp2_with fail
                clear m0 m1 m2 m3
                obtain ⟨wo, hwo⟩ : ∃ wo, wo = wr := ⟨_, rfl⟩
                subst hwo
                go_loopw [14, 105] (fun _ iv wr => ∃ i : Nat, iv = .int .i64 i ∧ i ≤ outs.length ∧ Hid (Keep wr w2.heap.size (foV G (.slice A5 nodes.length c5) md (.slice A6 ins.length c6) ins vsi (.slice A7 outs.length c7) (stP (stF sst) outs i) vso (.slice A8 nodes.length c8) (nats sst))) ∧ Hid (Below w2.heap.size w2 wr)) (fun _ iv _ => outs.length - (intOf iv).toNat)
                case atStart => exact ⟨0, rfl, Nat.zero_le _, by rw [stP_zero]; exact HK, HB⟩
                case round =>
                  clear HK HB
                  obtain ⟨i, rfl, hi, HK, HB⟩ := hrel
                  by_cases hlt : i < outs.length
                  · obtain ⟨g, c, u, he, hu, y0, y1⟩ := ptT_at (foV_out HK.out) (by rw [stP_length hi]; exact HVO.out) (stP_at hlt)
                    rw [stP_length hi] at he
                    injection he with he1 he2 he3
                    clear he2
                    subst he1 he3
                    have ho := (foV_out HK.out).ints (ptT_bits (foV_out HK.out) (stP_at hlt) hu)
                    have hq := HFB.out.2 _ (List.mem_append_right _ (List.getElem_mem hlt))
                    have hbl := HF.out.bits _ (List.mem_append_right _ (List.getElem_mem hlt))
                    have HST := Lib.hid (stP_same (f := stF sst) hlt)
                    have HSN := Lib.hid (stP_next (f := stF sst) hlt)
                    have hsi : (stP (stF sst) outs i).length = outs.length := stP_length hi
                    obtain ⟨p, hp⟩ : ∃ p, outs[i] = p := ⟨_, rfl⟩
                    rw [hp] at y0 ho hq hbl HST HSN
                    obtain ⟨s, bs⟩ := p
                    dsimp only at y0 ho hq hbl
                    obtain ⟨b, d, rfl, -, -⟩ := ho.form (List.length_pos_iff.2 hq.1)
                    have HQ := Lib.hid hq.2
                    have HU := Lib.hid hu
                    have hbX := (ho.base (g := b) rfl).2
                    have hbP := (ho.base (g := b) rfl).1
                    obtain ⟨X, hX⟩ : ∃ X, wr.heap.size = X := ⟨_, rfl⟩
                    have hbx : Below wr.heap.size wr (wr.alloc (.cells #[.string s, .slice (some ⟨b, 0, none⟩) bs.length d] 53)) := (Below.refl _ _).alloc (Nat.le_refl _) _
                    have HKX := Lib.hid (HK.out.below hbx)
                    have HBX := Lib.hid (HB.out.trans (hbx.mono HB.out.size))
                    have HCX := Lib.hid (show (wr.alloc (.cells #[.string s, .slice (some ⟨b, 0, none⟩) bs.length d] 53)).cell? ⟨X, 1, none⟩ = some (.slice (some ⟨b, 0, none⟩) bs.length d) by rw [← hX]; exact World.cell?_alloc_new _ _ _ 1)
                    rw [hX] at hbX
                    have HSI := Lib.hid hsi
                    clear ho hq hu hp hbx HK HB hsi
                    go_wp2_with fail
                    clear hX
                    obtain ⟨wo2, hwo2⟩ : ∃ wo, wo = wr := ⟨_, rfl⟩
                    subst hwo2
                    go_loopw [15, 16, 112] (fun _ _ kv wr => ∃ k : Nat, kv = .int .i64 k ∧ k ≤ bs.length ∧ Hid (Keep wr w2.heap.size (foV G (.slice A5 nodes.length c5) md (.slice A6 ins.length c6) ins vsi (.slice (some ⟨g, 0, none⟩) outs.length c7) ((stP (stF sst) outs i).set i ⟨s, mixB (stF sst) bs k⟩) vso (.slice A8 nodes.length c8) (nats sst))) ∧ Hid (Below w2.heap.size w2 wr) ∧ Hid (wr.cell? ⟨X, 1, none⟩ = some (.slice (some ⟨b, 0, none⟩) bs.length d))) (fun _ _ kv _ => bs.length - (intOf kv).toNat)
                    case atStart => exact ⟨0, rfl, Nat.zero_le _, by rw [mixB_zero, HST.out]; exact HKX, HBX, HCX⟩
                    case round =>
                      clear y0 y1 HKX HBX HCX
                      obtain ⟨k, rfl, hk, HK, HB, HCX⟩ := hrel
                      by_cases hkt : k < bs.length
                      · have hat : ((stP (stF sst) outs i).set i ⟨s, mixB (stF sst) bs k⟩)[i]? = some ⟨s, mixB (stF sst) bs k⟩ := by
                          rw [List.getElem?_set]; simp [HSI.out, hlt]
                        have hoK := (foV_out HK.out).ints (ptT_bits (foV_out HK.out) hat HU.out)
                        have hm := HQ.out _ (List.getElem_mem hkt)
                        have HMN := Lib.hid (mixB_next (f := stF sst) hkt)
                        have hma := mixB_at (f := stF sst) hkt
                        obtain ⟨a, ha⟩ := Int.eq_ofNat_of_zero_le hm.1
                        rw [ha] at hm HMN hma
                        obtain ⟨x0, x1⟩ := hoK.cellAt? hma
                        have hal : a < nodes.length := by omega
                        obtain ⟨P, hP8⟩ : ∃ P, A8 = some ⟨P, 0, none⟩ := by
                          obtain ⟨g, c, he, -⟩ := (HK.out.ints (i := 1) rfl).form (by rw [List.length_map, hls]; omega)
                          injection he with he
                          exact ⟨g, he⟩
                        subst hP8
                        have p0 := (foV_at (u := a) HK.out (by omega)).1
                        obtain ⟨⟨-, -, -, m3⟩, -⟩ := foV_cells HK.out
                        have HKN := Lib.hid (foV_setOut HK.out hat HU.out k (stF sst a : Int))
                        have hc1 := HCX.out
                        have HCN := Lib.hid (show (wr.setCell ⟨b, k, none⟩ (.int .i64 (stF sst a : Int))).cell? ⟨X, 1, none⟩ = some (.slice (some ⟨b, 0, none⟩) bs.length d) by rw [World.cell?_setCell_other (h := by intro h; injection h with h _; omega)]; exact HCX.out)
                        have HBN := Lib.hid (HB.out.setCell (p := ⟨b, k, none⟩) hbP (.int .i64 (stF sst a : Int)))
                        have HMB := Lib.hid (show ((stP (stF sst) outs i).set i ⟨s, mixB (stF sst) bs k⟩).set i ⟨s, (mixB (stF sst) bs k).set k (stF sst a : Int)⟩ = (stP (stF sst) outs i).set i ⟨s, mixB (stF sst) bs (k + 1)⟩ by
                          rw [List.set_set, show (stF sst a : Int) = rpB (stF sst) (a : Int) from rfl, HMN.out])
                        obtain ⟨va, hva⟩ : ∃ va, stF sst a = va := ⟨_, rfl⟩
                        rw [hva] at p0 HKN HCN HBN HMB
                        dsimp only at HKN
                        rw [HMB.out] at HKN
                        clear hoK hma ha hat hva HMB HMN hm
                        go_wp2_with fail
                        go_region_with (fail)
                        all_goals
                          go_wp2_with fail
                          first
                            | refine ⟨⟨k + 1, by go_num, by omega, HKN, HBN, HCN⟩, ?_⟩
                            | refine ⟨⟨k + 1, by go_num, by omega, Lib.hid HKN.out.drew, Lib.hid HBN.out.drew, HCN⟩, ?_⟩
                          simp [intOf]; omega
                      · obtain rfl : k = bs.length := by omega
                        rw [mixB_full] at HK
                        have HKN : Hid (Keep wr w2.heap.size (foV G (.slice A5 nodes.length c5) md (.slice A6 ins.length c6) ins vsi (.slice (some ⟨g, 0, none⟩) outs.length c7) (stP (stF sst) outs (i + 1)) vso (.slice A8 nodes.length c8) (nats sst))) := by
                          rw [← HSN.out]; exact HK
                        clear HK HCX
                        go_wp2
                        refine ⟨⟨i + 1, by go_num, by omega, HKN, HB⟩, ?_⟩
                        simp [intOf]; omega
                  · obtain rfl : i = outs.length := by omega
                    rw [stP_full] at HK
                    obtain ⟨-, -, -, hbw⟩ := HALL.out _ (HB2.out.trans (HB.out.mono HB2.out.size))
                    have HBE := Lib.hid hbw
                    have HRES := Lib.hid (show FoRes w wr nodes ins outs 0 (.pointer (some ⟨G, 0, none⟩)) from .inr ⟨rfl, w2.heap.size, G, _, _, _, vsi, vso, _, md, sst, _, HBW.out.size, rfl, HVI.out, HVO.out, HK.out, HFO.out _ _ _ HMD.out.symm rfl rfl⟩)
                    clear hbw
                    go_wp2
                    go_ret2
                    exact ⟨_, _, rfl, HRES.out, HBE.out⟩
  · have HXL := Lib.hid (show FoRes w w2 nodes ins outs x (.pointer none) from .inl ⟨hx, rfl, _, HL.out.choose_spec.1⟩)
    have hxb : (x != 0) = true := by simpa using hx
    clear hx
    go_wp2_with fail
    go_ret2
    exact ⟨_, _, rfl, HXL.out, HBW.out⟩
end Go.Proofs.Ytbfjacgfifecpaa
