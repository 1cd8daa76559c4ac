/- fold.Fold, fold.Stands: the walks. -/
import Derived.Test.YtbfjacgfifecpaaFoN
namespace Go.Proofs.Ytbfjacgfifecpaa
open Go.RowKit

/-- of how many nodes another one stands, or the kind is another -/
def cntF (nodes n' : List Node) (st : List Nat) (i : Nat) : Nat := (List.range i).countP fun u => decide (stF st u ≠ u) || decide (kindAt n' u ≠ kindAt nodes u)
theorem cntF_succ (nodes n' : List Node) (st : List Nat) (i : Nat) : cntF nodes n' st (i + 1) = cntF nodes n' st i + if (decide (stF st i ≠ i) || decide (kindAt n' i ≠ kindAt nodes i)) = true then 1 else 0 := by
  unfold cntF
  rw [List.range_succ, List.countP_append, List.countP_cons, List.countP_nil, Nat.zero_add]
theorem cntF_le (nodes n' : List Node) (st : List Nat) (i : Nat) : cntF nodes n' st i ≤ i := by
  have h := List.countP_le_length (p := fun u => decide (stF st u ≠ u) || decide (kindAt n' u ≠ kindAt nodes u)) (l := List.range i)
  rw [List.length_range] at h
  exact h
/-- what fold.Fold tells -/
def FldOut (nodes : List Node) (ins outs : List Port) (x m : Int) (n' : List Node) (i' o' : List Port) : Prop :=
  (∃ k, LevOut nodes ins outs x k) ∧ (x ≠ 0 → m = 0 ∧ n' = [] ∧ i' = [] ∧ o' = []) ∧ (x = 0 → ∃ st, FoOut nodes ins outs n' o' st ∧ i' = ins ∧ m = ((cntF nodes n' st nodes.length : Nat) : Int))
theorem FoOut.lens {nodes : List Node} {ins outs : List Port} {n' : List Node} {o' : List Port} {st : List Nat} (h : FoOut nodes ins outs n' o' st) : n'.length = nodes.length ∧ st.length = nodes.length ∧ o'.length = outs.length ∧ nodes.length ≤ 262144 ∧ ∀ u, u < nodes.length → stF st u < nodes.length := by
  obtain ⟨l, h1, h2, rfl, rfl, rfl⟩ := h
  exact ⟨by rw [dfRun_lenF]; exact h2.lm, h2.ls, by rw [List.length_map], (errP_zero h1.choose_spec.1.symm).1.1, h2.bs⟩

set_option maxHeartbeats 2000000 in
set_option maxRecDepth 100000 in
theorem fold_net (w : World) (v : Value) (nodes : List Node) (ins outs : List Port) (hN : NetV w v nodes ins outs) (hF : Fits nodes ins outs) :
    Calls Try.prog 45 #[v] w fun e w' => ∃ v' m x n' i' o', e = .returned (.tuple #[v', .int .i64 m, .int .i64 x]) ∧ NetV w' v' n' i' o' ∧ FldOut nodes ins outs x m n' i' o' ∧ Below w.heap.size w w' := by
  obtain ⟨An, cn, Ai, ci, Ao, co, rfl, hbox⟩ := hN.box
  let ob := netBox (.slice An nodes.length cn) (.slice Ai ins.length ci) (.slice Ao outs.length co)
  have hsz : (w.alloc ob).heap.size = w.heap.size + 1 := by simp
  obtain ⟨w1, hw1⟩ : ∃ w1, w1 = (w.alloc ob).alloc zeroNet := ⟨_, rfl⟩
  have hs1 : w1.heap.size = w.heap.size + 1 + 1 := by rw [hw1]; simp
  have h01 : Below (w.heap.size + 1) (w.alloc ob) w1 := by rw [hw1]; exact (Below.refl _ _).alloc (by rw [hsz]; exact Nat.le_refl _) _
  have hnew : ∀ i, w1.cell? ⟨w.heap.size + 1, i, none⟩ = (#[Value.slice none 0 0, .slice none 0 0, .slice none 0 0] : Array Value)[i]? := fun i => by
    rw [hw1, ← hsz]
    exact World.cell?_alloc_new _ _ _ i
  have hfr : ∀ i, w1.frozen? ⟨w.heap.size + 1, i, none⟩ = false := fun i => by
    rw [hw1, ← hsz]
    exact World.frozen?_alloc_new _ _ _ i
  have hall : ∀ W, Below w1.heap.size w1 W → (W.cell? ⟨w.heap.size, 0, none⟩ = some (.slice An nodes.length cn) ∧ W.cell? ⟨w.heap.size, 1, none⟩ = some (.slice Ai ins.length ci) ∧ W.cell? ⟨w.heap.size, 2, none⟩ = some (.slice Ao outs.length co)) ∧ (W.cell? ⟨w.heap.size + 1, 0, none⟩ = some (.slice none 0 0) ∧ W.cell? ⟨w.heap.size + 1, 1, none⟩ = some (.slice none 0 0) ∧ W.cell? ⟨w.heap.size + 1, 2, none⟩ = some (.slice none 0 0)) ∧ (W.frozen? ⟨w.heap.size + 1, 0, none⟩ = false ∧ W.frozen? ⟨w.heap.size + 1, 1, none⟩ = false ∧ W.frozen? ⟨w.heap.size + 1, 2, none⟩ = false) ∧ Row kNode W (fun _ => False) (.slice An nodes.length cn) nodes ∧ NetV W (.agg #[.slice An nodes.length cn, .slice Ai ins.length ci, .slice Ao outs.length co]) nodes ins outs ∧ Below w.heap.size w W := fun W hW => by
    have hb := hW.block (w.heap.size + 1) (by omega)
    obtain ⟨c0, c1, c2, r1, r2, r3, hb3⟩ := hbox W (h01.trans (hW.mono (by omega)))
    exact ⟨⟨c0, c1, c2⟩, ⟨(World.cell?_of_block hb).trans (hnew 0), (World.cell?_of_block hb).trans (hnew 1), (World.cell?_of_block hb).trans (hnew 2)⟩, ⟨(World.frozen?_of_block hb).trans (hfr 0), (World.frozen?_of_block hb).trans (hfr 1), (World.frozen?_of_block hb).trans (hfr 2)⟩, r1, ⟨_, _, _, rfl, r1, r2, r3⟩, hb3⟩
  obtain ⟨⟨z0, z1, z2⟩, -, -, -, hn1, -⟩ := hall w1 (Below.refl _ _)
  have HC := Lib.hid (folded_net w1 _ nodes ins outs hn1 hF)
  have HALL := Lib.hid hall
  have HW1 := Lib.hid hw1
  have HS1 := Lib.hid hs1
  clear hN hbox hsz hw1 hs1 h01 hnew hfr hall hn1 hF
  go_enter Try.func45, Try.ntmps45
  go_wp2_with fail
  rw [← HW1.out]
  go_wp2_with fail
  refine HC.out.mono ?_
  rintro e w2 ⟨pv, x, rfl, hres, hb2⟩
  have HB2 := Lib.hid hb2
  have HRES := Lib.hid hres
  clear z0 z1 z2 HC hb2 hres
  obtain ⟨⟨z0, z1, z2⟩, ⟨t0, t1, t2⟩, ⟨f0, f1, f2⟩, hrn, -, hbw⟩ := HALL.out _ HB2.out
  have HBW := Lib.hid hbw
  clear hbw
  by_cases hx : x = 0
  · subst hx
    obtain ⟨-, B, G, vn, vi, vo, vsi, vso, sv, n', st, o', hBw, rfl, hvi, hvo, hk, hout⟩ := HRES.out.resolve_left fun h => h.1 rfl
    obtain ⟨hl1, hl2, hl3, hn62, hbs⟩ := hout.lens
    have HK := Lib.hid hk
    obtain ⟨A5, c5, he5, -, -⟩ := (rwNodes_at.1 (hk.own 2 _ rfl)).shape
    obtain ⟨A6, c6, he6, -, -⟩ := (ptT_hdr hk.tail.tail.tail.left).shape
    obtain ⟨A7, c7, he7, -, -⟩ := (ptT_hdr hk.tail.tail.tail.right).shape
    obtain ⟨A8, c8, he8, -, -⟩ := (hk.ints (i := 1) rfl).shape
    rw [hdrs_length hvi] at he6
    rw [hdrs_length (by rw [hl3]; exact hvo)] at he7
    rw [List.length_map, hl2] at he8
    rw [hl1] at he5
    subst he5 he6 he7 he8
    obtain ⟨⟨m0, m1, m2, m3⟩, -⟩ := foV_cells hk
    have HNV := Lib.hid (foV_net hk hvi (by rw [hl3]; exact hvo))
    have HOUT := Lib.hid hout
    have hbX : w.heap.size + 1 < B := by have := HS1.out; omega
    have hnX : ∀ (j : Nat) (r : Rw), (foV G (.slice A5 nodes.length c5) n' (.slice A6 ins.length c6) ins vsi (.slice A7 o'.length c7) o' vso (.slice A8 nodes.length c8) (nats st))[j]? = some r → r.v.ownBlock ≠ some (w.heap.size + 1) := fun j r hr e => by have := (hk.lt hr e).1; omega
    have HNX := Lib.hid hnX
    have hrow := foV_row hk
    rw [← hl1] at hrow
    have HROW := Lib.hid hrow
    have HST := Lib.hid (show ∀ u, u < nodes.length → ∃ P, A8 = some ⟨P, 0, none⟩ ∧ w2.cell? ⟨P, u, none⟩ = some (.int .i64 (stF st u : Nat)) from fun u hu => by
      obtain ⟨P, c, he, -⟩ := (hk.ints (i := 1) rfl).form (by rw [List.length_map, hl2]; omega)
      injection he with he
      subst he
      exact ⟨P, rfl, (foV_at hk (by omega)).1⟩)
    have HL1 := Lib.hid hl1
    have HVI := Lib.hid hvi
    have HVO := Lib.hid (show vso.length = o'.length by rw [hl3]; exact hvo)
    clear hk hout hvi hvo hl2 hl3 hbs hrow hnX hBw
    go_wp2_with fail
    go_loopw [7, 8, 9, 24] (fun mv _ _ iv wr => ∃ i : Nat, iv = .int .i64 i ∧ i ≤ nodes.length ∧ mv = .int .i64 ((cntF nodes n' st i : Nat) : Int) ∧ Hid (Below w2.heap.size w2 wr)) (fun _ _ _ iv _ => nodes.length - (intOf iv).toNat)
    case atStart => exact ⟨0, rfl, Nat.zero_le _, rfl, Lib.hid (Below.refl _ _)⟩
    case round =>
      obtain ⟨i, rfl, hi, rfl, HB⟩ := hrel
      have HBN := Lib.hid (HB2.out.trans (HB.out.mono HB2.out.size))
      by_cases hlt : i < nodes.length
      · clear z0 z1 z2 t0 t1 t2 f0 f1 f2 hrn
        obtain ⟨⟨z0, z1, z2⟩, -, -, hrn, -, -⟩ := HALL.out _ HBN.out
        obtain ⟨P, hP, p0'⟩ := HST.out i hlt
        subst hP
        have p0 := cellBelow HB.out p0'
        have m0x := cellBelow HB.out m0
        obtain ⟨b, off, rfl, x0, -, -, -⟩ := hrn.node_at hlt
        obtain ⟨b2, off2, he2, y0, -, -, -⟩ := (HROW.out.later HB.out).node_at (i := i) (by rw [HL1.out]; exact hlt)
        subst he2
        have HCS := Lib.hid (cntF_succ nodes n' st i)
        have hk1 := kindAt_eq (List.getElem?_eq_getElem hlt)
        have hk2 := kindAt_eq (List.getElem?_eq_getElem (show i < n'.length by rw [HL1.out]; exact hlt))
        have hcl := cntF_le nodes n' st i
        obtain ⟨ka, hka⟩ : ∃ k, kindAt nodes i = k := ⟨_, rfl⟩
        obtain ⟨kb, hkb⟩ : ∃ k, kindAt n' i = k := ⟨_, rfl⟩
        rw [← hk1, hka] at x0
        rw [← hk2, hkb] at y0
        rw [hka, hkb] at HCS
        obtain ⟨cc, hcc⟩ : ∃ cc, cntF nodes n' st i = cc := ⟨_, rfl⟩
        obtain ⟨sa, hsa⟩ : ∃ sa, stF st i = sa := ⟨_, rfl⟩
        rw [hcc] at hcl HCS ⊢
        rw [hsa] at HCS p0 p0'
        clear hk1 hk2 hka hkb hcc hsa hrn
        by_cases hs : sa = i
        · subst hs
          by_cases hk : kb = ka
          · have HC2 := Lib.hid (show cntF nodes n' st (sa + 1) = cc by rw [HCS.out]; simp [hk])
            subst hk
            have hq : (kb != kb) = false := by simp
            clear HCS
            go_wp2_with fail
            go_quiet (fail)
            go_wp2
            refine ⟨⟨sa + 1, by go_num, by omega, by rw [HC2.out], Lib.hid (HB.out.trans ((pw_drewN _ _).mono HB.out.size))⟩, ?_⟩
            simp [intOf]; omega
          · have HC2 := Lib.hid (show cntF nodes n' st (sa + 1) = cc + 1 by rw [HCS.out]; simp [hk])
            have hq : (kb != ka) = true := by simpa using hk
            clear HCS hk
            go_wp2_with fail
            go_quiet (fail)
            go_wp2
            refine ⟨⟨sa + 1, by go_num, by omega, by rw [HC2.out]; go_num, Lib.hid (HB.out.trans ((pw_drewN _ _).mono HB.out.size))⟩, ?_⟩
            simp [intOf]; omega
        · have HC2 := Lib.hid (show cntF nodes n' st (i + 1) = cc + 1 by rw [HCS.out]; simp [hs])
          have hq : ((sa : Int) != (i : Int)) = true := by simp; omega
          clear HCS
          go_wp2_with fail
          go_quiet (fail)
          go_wp2
          refine ⟨⟨i + 1, by go_num, by omega, by rw [HC2.out]; go_num, Lib.hid (HB.out.trans ((pw_drewN _ _).mono HB.out.size))⟩, ?_⟩
          simp [intOf]; omega
      · obtain rfl : i = nodes.length := by omega
        have m0x := cellBelow HB.out m0
        have m1x := cellBelow HB.out m1
        have m2x := cellBelow HB.out m2
        clear z0 z1 z2 t0 t1 t2 f0 f1 f2 m0 m1 m2 m3 hrn
        obtain ⟨-, ⟨t0, t1, t2⟩, ⟨f0, f1, f2⟩, -, -, hbw⟩ := HALL.out _ HBN.out
        have hkw := HK.out.below HB.out
        have HNF := Lib.hid (foV_net (((hkw.skip HNX.out 0 (.slice A5 nodes.length c5)).skip HNX.out 1 (.slice A6 ins.length c6)).skip HNX.out 2 (.slice A7 o'.length c7)) HVI.out HVO.out)
        have HBF := Lib.hid (((hbw.setCell (p := ⟨w.heap.size + 1, 0, none⟩) (by simp) (.slice A5 nodes.length c5)).setCell (p := ⟨w.heap.size + 1, 1, none⟩) (by simp) (.slice A6 ins.length c6)).setCell (p := ⟨w.heap.size + 1, 2, none⟩) (by simp) (.slice A7 o'.length c7))
        have sa0 : (wr.setCell ⟨w.heap.size + 1, 0, none⟩ (.slice A5 nodes.length c5)).cell? ⟨w.heap.size + 1, 0, none⟩ = some (.slice A5 nodes.length c5) := World.cell?_setCell_same _ _ _ t0
        have sa1 : ((wr.setCell ⟨w.heap.size + 1, 0, none⟩ (.slice A5 nodes.length c5)).setCell ⟨w.heap.size + 1, 1, none⟩ (.slice A6 ins.length c6)).cell? ⟨w.heap.size + 1, 1, none⟩ = some (.slice A6 ins.length c6) := World.cell?_setCell_same _ _ _ (by rw [World.cell?_setCell_other (h := by intro h; injection h with _ h; omega)]; exact t1)
        obtain ⟨s0, s1, s2⟩ := set3_cells (x := .slice A5 nodes.length c5) (y := .slice A6 ins.length c6) (z := .slice A7 o'.length c7) t0 t1 t2
        have HO := Lib.hid (show FldOut nodes ins outs 0 ((cntF nodes n' st nodes.length : Nat) : Int) n' ins o' from ⟨⟨_, HOUT.out.choose_spec.1⟩, fun h => absurd rfl h, fun _ => ⟨st, HOUT.out, rfl, rfl⟩⟩)
        obtain ⟨cc, hcc⟩ : ∃ cc, cntF nodes n' st nodes.length = cc := ⟨_, rfl⟩
        rw [hcc] at HO ⊢
        clear hbw hkw hcc
        go_wp2
        refine bodyPost_ret (v := .tuple #[.agg #[.slice A5 nodes.length c5, .slice A6 ins.length c6, .slice A7 o'.length c7], .int .i64 (cc : Int), .int .i64 0]) (by simp [results, Try.results45, go_sem, s0, s1, s2, sa0, sa1]) rfl ?_
        exact ⟨_, _, 0, _, _, _, rfl, HNF.out, HO.out, HBF.out⟩
  · obtain ⟨-, rfl, hlev⟩ := HRES.out.resolve_right fun h => hx h.1
    have hxb : (x != 0) = true := by simpa using hx
    have HBF := Lib.hid (((HBW.out.setCell (p := ⟨w.heap.size + 1, 0, none⟩) (by simp) (.slice none 0 0)).setCell (p := ⟨w.heap.size + 1, 1, none⟩) (by simp) (.slice none 0 0)).setCell (p := ⟨w.heap.size + 1, 2, none⟩) (by simp) (.slice none 0 0))
    obtain ⟨s0, s1, s2⟩ := set3_cells (x := .slice none 0 0) (y := .slice none 0 0) (z := .slice none 0 0) t0 t1 t2
    have HNF := Lib.hid (show NetV (((w2.setCell ⟨w.heap.size + 1, 0, none⟩ (.slice none 0 0)).setCell ⟨w.heap.size + 1, 1, none⟩ (.slice none 0 0)).setCell ⟨w.heap.size + 1, 2, none⟩ (.slice none 0 0)) (.agg #[.slice none 0 0, .slice none 0 0, .slice none 0 0]) [] [] [] from ⟨_, _, _, rfl, nilRow _ _ _, nilRow _ _ _, nilRow _ _ _⟩)
    have HOUT := Lib.hid (show FldOut nodes ins outs x 0 [] [] [] from ⟨hlev, fun _ => ⟨rfl, rfl, rfl, rfl⟩, fun h => absurd h hx⟩)
    clear hx hlev
    go_wp2
    refine bodyPost_ret (v := .tuple #[.agg #[.slice none 0 0, .slice none 0 0, .slice none 0 0], .int .i64 0, .int .i64 x]) (by simp [results, Try.results45, go_sem, s0, s1, s2]) rfl ?_
    exact ⟨_, 0, x, [], [], [], rfl, HNF.out, HOUT.out, HBF.out⟩

set_option maxHeartbeats 2000000 in
set_option maxRecDepth 100000 in
theorem stands_net (w : World) (v : Value) (nodes : List Node) (ins outs : List Port) (hN : NetV w v nodes ins outs) (hF : Fits nodes ins outs) :
    Calls Try.prog 79 #[v] w fun e w' => ∃ v' x st, e = .returned (.tuple #[v', .int .i64 x]) ∧ Row kInt w' (fun _ => False) v' (nats st) ∧ (∃ k, LevOut nodes ins outs x k) ∧ (x = 0 → ∃ n' o', FoOut nodes ins outs n' o' st) ∧ Below w.heap.size w w' := by
  obtain ⟨An, cn, Ai, ci, Ao, co, rfl, hbox⟩ := hN.box
  let ob := netBox (.slice An nodes.length cn) (.slice Ai ins.length ci) (.slice Ao outs.length co)
  obtain ⟨w1, hw1⟩ : ∃ w1, w1 = w.alloc ob := ⟨_, rfl⟩
  have hs1 : w1.heap.size = w.heap.size + 1 := by rw [hw1]; simp [ob]
  rw [← hw1, ← hs1] at hbox
  obtain ⟨z0, z1, z2, r1, r2, r3, -⟩ := hbox w1 (Below.refl _ _)
  have HC := Lib.hid (folded_net w1 _ nodes ins outs ⟨_, _, _, rfl, r1, r2, r3⟩ hF)
  have HBX := Lib.hid (fun W hW => (hbox W hW).2.2.2.2.2.2)
  have HW1 := Lib.hid hw1
  rw [hw1] at z0 z1 z2
  clear hN hbox hw1 hs1 hF r1 r2 r3
  go_enter Try.func79, Try.ntmps79
  go_wp2_with fail
  rw [← HW1.out]
  refine HC.out.mono ?_
  rintro e w2 ⟨pv, x, rfl, hres, hb2⟩
  have HBW := Lib.hid (HBX.out _ hb2)
  have HRES := Lib.hid hres
  clear z0 z1 z2 HC hb2 hres
  by_cases hx : x = 0
  · subst hx
    obtain ⟨-, B, G, vn, vi, vo, vsi, vso, sv, n', st, o', hBw, rfl, hvi, hvo, hk, hout⟩ := HRES.out.resolve_left fun h => h.1 rfl
    obtain ⟨⟨-, -, -, m3⟩, -⟩ := foV_cells hk
    have HR := Lib.hid ((hk.ints (i := 1) rfl).rowS (fun _ => False) (fun _ _ h => h))
    have HO := Lib.hid hout
    obtain ⟨A8, c8, he8, -, -⟩ := (hk.ints (i := 1) rfl).shape
    rw [List.length_map] at he8
    subst he8
    clear hk hout hvi hvo hBw
    go_wp2_with fail
    go_ret2
    exact ⟨_, 0, st, rfl, HR.out, ⟨_, HO.out.choose_spec.1⟩, fun _ => ⟨_, _, HO.out⟩, HBW.out⟩
  · obtain ⟨-, rfl, hlev⟩ := HRES.out.resolve_right fun h => hx h.1
    have hxb : (x != 0) = true := by simpa using hx
    have HL := Lib.hid hlev
    have HX := Lib.hid hx
    clear hx hlev
    go_wp2_with fail
    go_ret2
    exact ⟨_, x, [], rfl, nilRow _ _ _, HL.out, fun h => absurd h HX.out, HBW.out⟩
end Go.Proofs.Ytbfjacgfifecpaa
