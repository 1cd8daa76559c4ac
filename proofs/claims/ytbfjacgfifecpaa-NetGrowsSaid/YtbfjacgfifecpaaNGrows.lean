/- slipsticklaw06.NetGrows: the walk. -/
import Derived.Test.YtbfjacgfifecpaaGrow
namespace Go.Proofs.Ytbfjacgfifecpaa
open Go.RowKit

theorem new2 {a n : Nat} (ha : a < n) : NewNode ⟨2, a, 0, 0⟩ n := by
  refine ⟨?_, by simp, fun u hu => ?_⟩
  · simp [rightB, usesR, many]; omega
  · simp [usesN, usesR, many] at hu; omega
theorem new345 {k : Int} {a b n : Nat} (hk : k = 3 ∨ k = 4 ∨ k = 5) (ha : a < n) (hb : b < n) : NewNode ⟨k, a, b, 0⟩ n := by
  rcases hk with rfl | rfl | rfl
  all_goals
    refine ⟨?_, by simp, fun u hu => ?_⟩
    · simp [rightB, usesR, many]; omega
    · simp [usesN, usesR, many] at hu; omega
theorem new6 {a b c n : Nat} (ha : a < n) (hb : b < n) (hc : c < n) : NewNode ⟨6, a, b, c⟩ n := by
  refine ⟨?_, by simp, fun u hu => ?_⟩
  · simp [rightB, usesR, many]; omega
  · simp [usesN, usesR, many] at hu; omega
theorem new7 {a b n : Nat} (ha : a < n) (hb : b < 2) : NewNode ⟨7, a, b, 0⟩ n := by
  refine ⟨?_, by simp, fun u hu => ?_⟩
  · simp [rightB, usesR, many, bitB]; omega
  · simp [usesN] at hu

theorem growBox {w5 w6 w7 : World} {vn vi vo : Value} {g B : Nat} (hs : w6.heap.size = w5.heap.size + 1) (hc : ∀ j, w6.cell? ⟨w5.heap.size, j, none⟩ = (#[vn, vi, vo] : Array Value)[j]?) (hf : ∀ j, w6.frozen? ⟨w5.heap.size, j, none⟩ = false) (ho : vn.ownBlock = some g) (hg : B ≤ g ∧ g < w5.heap.size) (h : w6.grownBy w7 vn.ownBlock) :
    w7.cell? ⟨w5.heap.size, 0, none⟩ = some vn ∧ w7.cell? ⟨w5.heap.size, 1, none⟩ = some vi ∧ w7.cell? ⟨w5.heap.size, 2, none⟩ = some vo ∧ w7.frozen? ⟨w5.heap.size, 0, none⟩ = false ∧ w7.frozen? ⟨w5.heap.size, 1, none⟩ = false ∧ w7.frozen? ⟨w5.heap.size, 2, none⟩ = false := by
  have hb := h.block w5.heap.size (by omega) (by rw [ho]; intro e; injection e; omega)
  exact ⟨(World.cell?_of_block hb).trans (hc 0), (World.cell?_of_block hb).trans (hc 1), (World.cell?_of_block hb).trans (hc 2), (World.frozen?_of_block hb).trans (hf 0), (World.frozen?_of_block hb).trans (hf 1), (World.frozen?_of_block hb).trans (hf 2)⟩

theorem growNet {w5 w6 w7 : World} {vn vi vo : Value} {g B c n : Nat} {A7 : Option Addr} {ns : List Node} {ins outs : List Port} (hri : Row kPort w5 (fun i => vn.ownBlock = some i) vi ins) (hro : Row kPort w5 (fun i => vn.ownBlock = some i) vo outs)
    (hx6 : Below w5.heap.size w5 w6) (hs : w6.heap.size = w5.heap.size + 1) (ho : vn.ownBlock = some g) (hg : B ≤ g ∧ g < w5.heap.size) (q1 : Own kNode 38 w7 none B (.slice A7 n c) ns) (q5 : w6.grownBy w7 vn.ownBlock)
    (q6 : (Value.slice A7 n c).ownBlock = vn.ownBlock ∨ ∃ b, (Value.slice A7 n c).ownBlock = some b ∧ w6.heap.size < b) (hB : B ≤ w5.heap.size) {u : Value} :
    NetV (w7.setCell ⟨w5.heap.size, 0, none⟩ u) (.agg #[.slice A7 n c, vi, vo]) ns ins outs ∧ Below B w6 (w7.setCell ⟨w5.heap.size, 0, none⟩ u) := by
  have hset : w7.grownBy (w7.setCell ⟨w5.heap.size, 0, none⟩ u) (some w5.heap.size) := ⟨rfl, rfl, rfl, by simp, fun k hk hne => Below.heap_setCell _ _ _ _ (fun e => hne (by rw [e]))⟩
  have hne : (Value.slice A7 n c).ownBlock ≠ some w5.heap.size := fun e => by
    rcases q6 with h | ⟨b, h, hb⟩
    · rw [h, ho] at e; injection e; omega
    · rw [h] at e; injection e; omega
  have h8 := q1.other hset (fun i => ⟨fun hf => (foot_none _ _ hf).elim, fun hf => (foot_none _ _ hf).elim⟩) (.inr hne) (fun _ _ h => h)
  have hsame : ∀ i, i < w5.heap.size → ¬ (vn.ownBlock = some i) → (w7.setCell ⟨w5.heap.size, 0, none⟩ u).heap[i]? = w5.heap[i]? := fun i hi hn => by
    rw [hset.block i (by have := q5.size; omega) (by intro e; injection e; omega), q5.block i (by omega) (fun e => hn e.symm), hx6.block i hi]
  have hsz : w5.heap.size ≤ (w7.setCell ⟨w5.heap.size, 0, none⟩ u).heap.size := by have h1 := q5.size; have h2 := hset.size; omega
  refine ⟨⟨_, _, _, rfl, (h8.row (by decide) (Nat.le_refl _)).mono (fun _ _ h => h.elim), hri.keep ⟨hsz, hsame⟩ (fun _ _ h => h.elim), hro.keep ⟨hsz, hsame⟩ (fun _ _ h => h.elim)⟩, ?_⟩
  exact ((Below.refl B w6).grown q5 (by omega) (fun k hk => by rw [ho] at hk; injection hk; omega)).setCell hB _


set_option maxHeartbeats 4000000 in
set_option maxRecDepth 100000 in
theorem netGrows_walk (w : World) (v : Value) (nodes : List Node) (ins outs : List Port) (k a b c : Nat) (hk : k < 256) (ha : a < 256) (hb : b < 256) (hc : c < 256) (hN : NetV w v nodes ins outs) (hw : ∀ q ∈ ins ++ outs, q.bits.length + q.name.size ≤ 281474976710656) :
    Calls Try.prog 6 #[v, .int .u8 k, .int .u8 a, .int .u8 b, .int .u8 c] w fun e w' => e = .returned (.bool true) ∧ Below w.heap.size w w' := by
  obtain ⟨An, cn, Ai, ci, Ao, co, rfl, hbox⟩ := hN.box
  obtain ⟨w0, hw0⟩ : ∃ w0, w0 = w.alloc (netBox (.slice An nodes.length cn) (.slice Ai ins.length ci) (.slice Ao outs.length co)) := ⟨_, rfl⟩
  have hs0 : w0.heap.size = w.heap.size + 1 := by rw [hw0]; simp
  rw [← hw0, ← hs0] at hbox
  have hall : ∀ W, Below w0.heap.size w0 W → (W.cell? ⟨w.heap.size, 0, none⟩ = some (.slice An nodes.length cn) ∧ W.cell? ⟨w.heap.size, 1, none⟩ = some (.slice Ai ins.length ci) ∧ W.cell? ⟨w.heap.size, 2, none⟩ = some (.slice Ao outs.length co)) ∧ NetV W (.agg #[.slice An nodes.length cn, .slice Ai ins.length ci, .slice Ao outs.length co]) nodes ins outs ∧ Below w.heap.size w W := fun W hW => by
    obtain ⟨c0, c1, c2, r1, r2, r3, hb⟩ := hbox W hW
    exact ⟨⟨c0, c1, c2⟩, ⟨_, _, _, rfl, r1, r2, r3⟩, hb⟩
  have HALL := Lib.hid hall
  have HW0 := Lib.hid hw0
  have HWT := Lib.hid hw
  clear hN hbox hs0 hall hw0 hw
  go_enter Try.func6, Try.ntmps6
  go_wp2_with fail
  rw [← HW0.out]
  refine (awake06 w0).mono ?_
  rintro e w1 ⟨rfl, hb1⟩
  have HB1 := Lib.hid hb1
  obtain ⟨⟨z0, z1, z2⟩, hn, -⟩ := HALL.out _ hb1
  have hl : Calls Try.prog 15 #[.agg #[.slice An nodes.length cn, .slice Ai ins.length ci, .slice Ao outs.length co], .int .i64 60] w1 fun e w' => e = .returned (.bool (largeB nodes ins outs 60)) ∧ Below w1.heap.size w1 w' := large_ref w1 _ nodes ins outs 60 hn HWT.out
  have HC := Lib.hid hl
  clear hb1 hn hl HW0
  go_wp2_with fail
  refine HC.out.mono ?_
  rintro e w2 ⟨rfl, hb2⟩
  have HB2 := Lib.hid (HB1.out.trans (hb2.mono HB1.out.size))
  clear hb2 HC z0 z1 z2
  cases hL : largeB nodes ins outs 60 with
  | true =>
    have HBW := Lib.hid (HALL.out _ HB2.out).2.2
    clear hL
    go_wp2
    go_ret
    exact ⟨rfl, HBW.out⟩
  | false =>
    have HF := Lib.hid (fits_of hL)
    have hn60 := (small_of hL).1
    have HN60 := Lib.hid hn60
    clear hL hn60
    obtain ⟨⟨z0, z1, z2⟩, hn, -⟩ := HALL.out _ HB2.out
    by_cases hz : nodes.length = 0
    · have HBW := Lib.hid (HALL.out _ HB2.out).2.2
      have hzi : (nodes.length : Int) = 0 := by omega
      clear hn
      go_wp2
      go_ret
      exact ⟨rfl, HBW.out⟩
    · have hq : ((nodes.length : Int) == 0) = false := by
        have : ¬ (nodes.length : Int) = 0 := by omega
        simpa using this
      have HC := Lib.hid (lev_net w2 _ nodes ins outs hn HF.out)
      have HZ := Lib.hid hz
      clear hn hz
      go_wp2_with fail
      refine HC.out.mono ?_
      rintro e w3 ⟨v3, l, x, rfl, hr3, hl3, hb3⟩
      obtain ⟨A3, c3, rfl, -, -⟩ := hr3.shape
      have HR3 := Lib.hid hr3
      have HL := Lib.hid hl3
      have HB3 := Lib.hid (HB2.out.trans (hb3.mono HB2.out.size))
      have HX3 := Lib.hid hb3
      clear hb3 HC hr3 hl3 z0 z1 z2 hq
      obtain ⟨⟨z0, z1, z2⟩, hn, hbw⟩ := HALL.out _ HB3.out
      by_cases hx0 : x = 0
      · subst hx0
        have hnl := HN60.out
        have hnz := HZ.out
        clear hn hbw
        obtain ⟨A, hA⟩ : ∃ A : Nat, A = a % nodes.length := ⟨_, rfl⟩
        obtain ⟨B2, hB2⟩ : ∃ A : Nat, A = b % 2 := ⟨_, rfl⟩
        obtain ⟨Bn, hBn⟩ : ∃ A : Nat, A = b % nodes.length := ⟨_, rfl⟩
        obtain ⟨Cn, hCn⟩ : ∃ A : Nat, A = c % nodes.length := ⟨_, rfl⟩
        have hAl : A < nodes.length := by rw [hA]; exact Nat.mod_lt _ (by omega)
        have hB2l : B2 < 2 := by omega
        have hBnl : Bn < nodes.length := by rw [hBn]; exact Nat.mod_lt _ (by omega)
        have hCnl : Cn < nodes.length := by rw [hCn]; exact Nat.mod_lt _ (by omega)
        have eA : (a : Int) % (nodes.length : Int) = (A : Int) := by rw [hA]; rfl
        have eB2 : (b : Int) % 2 = (B2 : Int) := by omega
        have eBn : (b : Int) % (nodes.length : Int) = (Bn : Int) := by rw [hBn]; rfl
        have eCn : (c : Int) % (nodes.length : Int) = (Cn : Int) := by rw [hCn]; rfl
        have HAL := Lib.hid hAl
        have HB2L := Lib.hid hB2l
        have HBNL := Lib.hid hBnl
        have HCNL := Lib.hid hCnl
        clear hA hB2 hBn hCn hAl hB2l hBnl hCnl
        rcases (show k % 6 = 0 ∨ k % 6 = 1 ∨ k % 6 = 2 ∨ k % 6 = 3 ∨ k % 6 = 4 ∨ k % 6 = 5 by omega) with h | h | h | h | h | h
        · have ek : (k : Int) % 6 = 0 := by omega
          clear h
          have hxn : NewNode ⟨2, (A : Int), 0, 0⟩ nodes.length := new2 HAL.out
          have HXN := Lib.hid hxn
          have HLG := Lib.hid (lev_grow HL.out HN60.out hxn)
          have HFG := Lib.hid (fits_grow (x := ⟨2, (A : Int), 0, 0⟩) HF.out HN60.out)
          obtain ⟨w4, hw4⟩ : ∃ w4, w4 = w3.alloc (.cells #[.int .i64 2, .int .i64 (A : Int), .int .i64 0, .int .i64 0] 38) := ⟨_, rfl⟩
          have hx4 : Below w3.heap.size w3 w4 := by rw [hw4]; exact (Below.refl _ _).alloc (Nat.le_refl _) _
          have hs4 : w4.heap.size = w3.heap.size + 1 := by rw [hw4]; simp
          have HND := Lib.hid (show ∀ W, Below w4.heap.size w4 W → W.cell? ⟨w3.heap.size, 0, none⟩ = some (.int .i64 2) ∧ W.cell? ⟨w3.heap.size, 1, none⟩ = some (.int .i64 (A : Int)) ∧ W.cell? ⟨w3.heap.size, 2, none⟩ = some (.int .i64 0) ∧ W.cell? ⟨w3.heap.size, 3, none⟩ = some (.int .i64 0) from fun W hW => by
            have hcc : ∀ j, W.cell? ⟨w3.heap.size, j, none⟩ = w4.cell? ⟨w3.heap.size, j, none⟩ := fun j => hW.cell (by simp; omega)
            rw [hcc, hcc, hcc, hcc, hw4]
            exact ⟨World.cell?_alloc_new _ _ _ 0, World.cell?_alloc_new _ _ _ 1, World.cell?_alloc_new _ _ _ 2, World.cell?_alloc_new _ _ _ 3⟩)
          have HB4 := Lib.hid (HB3.out.trans (hx4.mono HB3.out.size))
          have HX4 := Lib.hid hx4
          have HW4 := Lib.hid hw4
          obtain ⟨⟨y0, y1, y2⟩, hn, -⟩ := HALL.out _ HB4.out
          have HC := Lib.hid (clone_net w4 _ nodes ins outs hn HF.out.nl HF.out.il HF.out.ol HF.out.bits)
          rw [hw4] at y0 y1 y2
          clear hn hw4 hx4 hxn hs4
          go_wp2_with fail
          rw [← HW4.out]
          refine HC.out.mono ?_
          rintro e w5 ⟨vn, vi, vo, rfl, hon, hri, hro, hb5⟩
          obtain ⟨g, cg, he, -, -⟩ := hon.form (by have := HZ.out; omega)
          obtain ⟨Ai2, ci2, rfl, -, -⟩ := hri.shape
          obtain ⟨Ao2, co2, rfl, -, -⟩ := hro.shape
          have hob : vn.ownBlock = some g := by rw [he]; rfl
          have hgb := hon.base (g := g) hob
          have h1c : vn.cells = #[vn] := by rw [he]; rfl
          have h1d : vn.oneCell' = true := by rw [he]; rfl
          have hst : (store ⟨w5.heap.size, 0, none⟩ vn).run Try.prog (w5.alloc (.cells #[.slice none 0 0, .slice none 0 0, .slice none 0 0] 25)) = .ok () (w5.alloc (.cells #[vn, .slice none 0 0, .slice none 0 0] 25)) := by rw [he]; go_simp
          have HOB := Lib.hid hob
          clear he
          have HB5 := Lib.hid (HB4.out.trans (hb5.mono HB4.out.size))
          have HX5 := Lib.hid hb5
          obtain ⟨w6, hw6⟩ : ∃ w6, w6 = w5.alloc (.cells #[vn, .slice Ai2 ins.length ci2, .slice Ao2 outs.length co2] 25) := ⟨_, rfl⟩
          have hs6 : w6.heap.size = w5.heap.size + 1 := by rw [hw6]; simp
          have hx6 : Below w5.heap.size w5 w6 := by rw [hw6]; exact (Below.refl _ _).alloc (Nat.le_refl _) _
          have hbox6 : ∀ j, w6.cell? ⟨w5.heap.size, j, none⟩ = (#[vn, .slice Ai2 ins.length ci2, .slice Ao2 outs.length co2] : Array Value)[j]? := fun j => by rw [hw6]; exact World.cell?_alloc_new _ _ _ j
          have hfro6 : ∀ j, w6.frozen? ⟨w5.heap.size, j, none⟩ = false := fun j => by rw [hw6]; exact World.frozen?_alloc_new _ _ _ j
          have hon6 := hon.kept (Kept.of_below_all hx6 (FootIn.none _) (Nat.le_refl _))
          obtain ⟨n0, n1, n2, n3⟩ := HND.out w6 (hb5.trans (hx6.mono hb5.size))
          have HON6 := Lib.hid hon6
          have HRI5 := Lib.hid hri
          have HRO5 := Lib.hid hro
          have HW6 := Lib.hid hw6
          have HX6 := Lib.hid hx6
          have HS6 := Lib.hid hs6
          have HBX6 := Lib.hid hbox6
          have HFR6 := Lib.hid hfro6
          have HGB := Lib.hid hgb
          have hap : (nodes.length + 1) * 32 ≤ 140737488355328 := by have := HN60.out; omega
          have h46 : w4.heap.size ≤ w6.heap.size := Nat.le_trans hb5.size hx6.size
          rw [hw6] at n0 n1 n2 n3
          clear hon hri hro hb5 hw6 hx6 hs6 hbox6 hfro6 hon6 hgb HC y0 y1 y2
          go_wp2_with (at_builtin; go_loud (rw [← HW6.out]; refine app1 kNode 38 22 (.agg #[.int .i64 0, .int .i64 0, .int .i64 0, .int .i64 0]) 32 rfl (.tmp 78) (.tmp 80) rfl Try.underlying22 infoNode rfl (by decide) (by decide) none w4.heap.size HON6.out (FootIn.none _) h46 rfl ⟨2, (A : Int), 0, 0⟩ [.int .i64 2, .int .i64 (A : Int), .int .i64 0, .int .i64 0] (congrArg (fun m => Value.slice (some ⟨m, 0, none⟩) 1 1) HS6.out.symm) rfl hap ?_; intro v7 w7 q1 q2 q3 q4 q5 q6; obtain ⟨A7, c7, he7, -, -⟩ := q1.shape; subst he7; obtain ⟨t0, t1, t2, t3, t4, t5⟩ := growBox HS6.out HBX6.out HFR6.out HOB.out HGB.out q5; have HQ1 := Lib.hid q1; have HQ5 := Lib.hid q5; have HQ6 := Lib.hid q6; clear q1 q2 q3 q4 q5 q6))
          obtain ⟨hn8, hb8⟩ := growNet (u := .slice A7 (nodes.length + 1) c7) HRI5.out HRO5.out HX6.out HS6.out HOB.out HGB.out HQ1.out HQ5.out (HQ6.out.imp id fun ⟨b, h1, h2⟩ => ⟨b, h1, h2⟩) HX5.out.size
          have hl8 : (nodes ++ [(⟨2, (A : Int), 0, 0⟩ : Node)]).length = nodes.length + 1 := by rw [List.length_append]; rfl
          rw [hl8] at hn8
          obtain ⟨w8, hw8⟩ : ∃ w8, w8 = w7.setCell ⟨w5.heap.size, 0, none⟩ (.slice A7 (nodes.length + 1) c7) := ⟨_, rfl⟩
          rw [← hw8] at hn8 hb8
          rw [← hw8]
          have hx48 : Below w4.heap.size w4 w8 := (HX5.out.trans (HX6.out.mono HX5.out.size)).trans hb8
          have HC := Lib.hid (lev_net w8 _ _ ins outs hn8 HFG.out)
          have HX8 := Lib.hid hx48
          clear hn8 hb8 hl8 hw8 hx48 t0 t1 t2 t3 t4 t5
          with_reducible refine HC.out.mono ?_
          rintro e w9 ⟨v9, l9, x9, rfl, hr9, hl9, hb9⟩
          obtain ⟨rfl, rfl⟩ := HLG.out.unique hl9
          have hll : l.length = nodes.length := by obtain ⟨b, h1, h2, h3, h4, h5⟩ := HL.out; exact (h4 rfl).1
          obtain ⟨A9, c9, he9, hcap, -⟩ := hr9.shape
          have hl9' : (l ++ [lvl (usesN ⟨2, (A : Int), 0, 0⟩) l]).length = nodes.length + 1 := by rw [List.length_append, hll]; rfl
          rw [hl9'] at he9 hcap
          subst he9
          have htk : (l ++ [lvl (usesN ⟨2, (A : Int), 0, 0⟩) l]).take nodes.length = l := by rw [← hll, List.take_left]
          have hrt := row_take hr9 (m := nodes.length) (by omega)
          rw [htk] at hrt
          have hx39 : Below w3.heap.size w3 w9 := (HX4.out.trans (HX8.out.mono HX4.out.size)).trans (hb9.mono (Nat.le_trans HX4.out.size HX8.out.size))
          have HC2 := Lib.hid (ints_same w9 _ _ l hrt (HR3.out.later hx39) (by have := HN60.out; omega))
          have HBW := Lib.hid ((HALL.out _ (HB3.out.trans (hx39.mono HB3.out.size))).2.2)
          have hcap2 : (nodes.length : Int) ≤ c9 := by omega
          clear hr9 hl9 hb9 hrt htk hx39 hl9' HC HX8
          rw [hll] at HC2
          go_wp2_with fail
          with_reducible refine HC2.out.mono ?_
          rintro e w10 ⟨rfl, hb10⟩
          have HBF := Lib.hid (HBW.out.trans (hb10.mono HBW.out.size))
          clear hb10
          go_wp2
          go_ret
          exact ⟨rfl, HBF.out⟩
        · have ek : (k : Int) % 6 = 1 := by omega
          clear h
          have hxn : NewNode ⟨3, (A : Int), (Bn : Int), 0⟩ nodes.length := new345 (.inl rfl) HAL.out HBNL.out
          have HXN := Lib.hid hxn
          have HLG := Lib.hid (lev_grow HL.out HN60.out hxn)
          have HFG := Lib.hid (fits_grow (x := ⟨3, (A : Int), (Bn : Int), 0⟩) HF.out HN60.out)
          obtain ⟨w4, hw4⟩ : ∃ w4, w4 = w3.alloc (.cells #[.int .i64 3, .int .i64 (A : Int), .int .i64 (Bn : Int), .int .i64 0] 38) := ⟨_, rfl⟩
          have hx4 : Below w3.heap.size w3 w4 := by rw [hw4]; exact (Below.refl _ _).alloc (Nat.le_refl _) _
          have hs4 : w4.heap.size = w3.heap.size + 1 := by rw [hw4]; simp
          have HND := Lib.hid (show ∀ W, Below w4.heap.size w4 W → W.cell? ⟨w3.heap.size, 0, none⟩ = some (.int .i64 3) ∧ W.cell? ⟨w3.heap.size, 1, none⟩ = some (.int .i64 (A : Int)) ∧ W.cell? ⟨w3.heap.size, 2, none⟩ = some (.int .i64 (Bn : Int)) ∧ W.cell? ⟨w3.heap.size, 3, none⟩ = some (.int .i64 0) from fun W hW => by
            have hcc : ∀ j, W.cell? ⟨w3.heap.size, j, none⟩ = w4.cell? ⟨w3.heap.size, j, none⟩ := fun j => hW.cell (by simp; omega)
            rw [hcc, hcc, hcc, hcc, hw4]
            exact ⟨World.cell?_alloc_new _ _ _ 0, World.cell?_alloc_new _ _ _ 1, World.cell?_alloc_new _ _ _ 2, World.cell?_alloc_new _ _ _ 3⟩)
          have HB4 := Lib.hid (HB3.out.trans (hx4.mono HB3.out.size))
          have HX4 := Lib.hid hx4
          have HW4 := Lib.hid hw4
          obtain ⟨⟨y0, y1, y2⟩, hn, -⟩ := HALL.out _ HB4.out
          have HC := Lib.hid (clone_net w4 _ nodes ins outs hn HF.out.nl HF.out.il HF.out.ol HF.out.bits)
          rw [hw4] at y0 y1 y2
          clear hn hw4 hx4 hxn hs4
          go_wp2_with fail
          rw [← HW4.out]
          refine HC.out.mono ?_
          rintro e w5 ⟨vn, vi, vo, rfl, hon, hri, hro, hb5⟩
          obtain ⟨g, cg, he, -, -⟩ := hon.form (by have := HZ.out; omega)
          obtain ⟨Ai2, ci2, rfl, -, -⟩ := hri.shape
          obtain ⟨Ao2, co2, rfl, -, -⟩ := hro.shape
          have hob : vn.ownBlock = some g := by rw [he]; rfl
          have hgb := hon.base (g := g) hob
          have h1c : vn.cells = #[vn] := by rw [he]; rfl
          have h1d : vn.oneCell' = true := by rw [he]; rfl
          have hst : (store ⟨w5.heap.size, 0, none⟩ vn).run Try.prog (w5.alloc (.cells #[.slice none 0 0, .slice none 0 0, .slice none 0 0] 25)) = .ok () (w5.alloc (.cells #[vn, .slice none 0 0, .slice none 0 0] 25)) := by rw [he]; go_simp
          have HOB := Lib.hid hob
          clear he
          have HB5 := Lib.hid (HB4.out.trans (hb5.mono HB4.out.size))
          have HX5 := Lib.hid hb5
          obtain ⟨w6, hw6⟩ : ∃ w6, w6 = w5.alloc (.cells #[vn, .slice Ai2 ins.length ci2, .slice Ao2 outs.length co2] 25) := ⟨_, rfl⟩
          have hs6 : w6.heap.size = w5.heap.size + 1 := by rw [hw6]; simp
          have hx6 : Below w5.heap.size w5 w6 := by rw [hw6]; exact (Below.refl _ _).alloc (Nat.le_refl _) _
          have hbox6 : ∀ j, w6.cell? ⟨w5.heap.size, j, none⟩ = (#[vn, .slice Ai2 ins.length ci2, .slice Ao2 outs.length co2] : Array Value)[j]? := fun j => by rw [hw6]; exact World.cell?_alloc_new _ _ _ j
          have hfro6 : ∀ j, w6.frozen? ⟨w5.heap.size, j, none⟩ = false := fun j => by rw [hw6]; exact World.frozen?_alloc_new _ _ _ j
          have hon6 := hon.kept (Kept.of_below_all hx6 (FootIn.none _) (Nat.le_refl _))
          obtain ⟨n0, n1, n2, n3⟩ := HND.out w6 (hb5.trans (hx6.mono hb5.size))
          have HON6 := Lib.hid hon6
          have HRI5 := Lib.hid hri
          have HRO5 := Lib.hid hro
          have HW6 := Lib.hid hw6
          have HX6 := Lib.hid hx6
          have HS6 := Lib.hid hs6
          have HBX6 := Lib.hid hbox6
          have HFR6 := Lib.hid hfro6
          have HGB := Lib.hid hgb
          have hap : (nodes.length + 1) * 32 ≤ 140737488355328 := by have := HN60.out; omega
          have h46 : w4.heap.size ≤ w6.heap.size := Nat.le_trans hb5.size hx6.size
          rw [hw6] at n0 n1 n2 n3
          clear hon hri hro hb5 hw6 hx6 hs6 hbox6 hfro6 hon6 hgb HC y0 y1 y2
          go_wp2_with (at_builtin; go_loud (rw [← HW6.out]; refine app1 kNode 38 22 (.agg #[.int .i64 0, .int .i64 0, .int .i64 0, .int .i64 0]) 32 rfl (.tmp 78) (.tmp 80) rfl Try.underlying22 infoNode rfl (by decide) (by decide) none w4.heap.size HON6.out (FootIn.none _) h46 rfl ⟨3, (A : Int), (Bn : Int), 0⟩ [.int .i64 3, .int .i64 (A : Int), .int .i64 (Bn : Int), .int .i64 0] (congrArg (fun m => Value.slice (some ⟨m, 0, none⟩) 1 1) HS6.out.symm) rfl hap ?_; intro v7 w7 q1 q2 q3 q4 q5 q6; obtain ⟨A7, c7, he7, -, -⟩ := q1.shape; subst he7; obtain ⟨t0, t1, t2, t3, t4, t5⟩ := growBox HS6.out HBX6.out HFR6.out HOB.out HGB.out q5; have HQ1 := Lib.hid q1; have HQ5 := Lib.hid q5; have HQ6 := Lib.hid q6; clear q1 q2 q3 q4 q5 q6))
          obtain ⟨hn8, hb8⟩ := growNet (u := .slice A7 (nodes.length + 1) c7) HRI5.out HRO5.out HX6.out HS6.out HOB.out HGB.out HQ1.out HQ5.out (HQ6.out.imp id fun ⟨b, h1, h2⟩ => ⟨b, h1, h2⟩) HX5.out.size
          have hl8 : (nodes ++ [(⟨3, (A : Int), (Bn : Int), 0⟩ : Node)]).length = nodes.length + 1 := by rw [List.length_append]; rfl
          rw [hl8] at hn8
          obtain ⟨w8, hw8⟩ : ∃ w8, w8 = w7.setCell ⟨w5.heap.size, 0, none⟩ (.slice A7 (nodes.length + 1) c7) := ⟨_, rfl⟩
          rw [← hw8] at hn8 hb8
          rw [← hw8]
          have hx48 : Below w4.heap.size w4 w8 := (HX5.out.trans (HX6.out.mono HX5.out.size)).trans hb8
          have HC := Lib.hid (lev_net w8 _ _ ins outs hn8 HFG.out)
          have HX8 := Lib.hid hx48
          clear hn8 hb8 hl8 hw8 hx48 t0 t1 t2 t3 t4 t5
          with_reducible refine HC.out.mono ?_
          rintro e w9 ⟨v9, l9, x9, rfl, hr9, hl9, hb9⟩
          obtain ⟨rfl, rfl⟩ := HLG.out.unique hl9
          have hll : l.length = nodes.length := by obtain ⟨b, h1, h2, h3, h4, h5⟩ := HL.out; exact (h4 rfl).1
          obtain ⟨A9, c9, he9, hcap, -⟩ := hr9.shape
          have hl9' : (l ++ [lvl (usesN ⟨3, (A : Int), (Bn : Int), 0⟩) l]).length = nodes.length + 1 := by rw [List.length_append, hll]; rfl
          rw [hl9'] at he9 hcap
          subst he9
          have htk : (l ++ [lvl (usesN ⟨3, (A : Int), (Bn : Int), 0⟩) l]).take nodes.length = l := by rw [← hll, List.take_left]
          have hrt := row_take hr9 (m := nodes.length) (by omega)
          rw [htk] at hrt
          have hx39 : Below w3.heap.size w3 w9 := (HX4.out.trans (HX8.out.mono HX4.out.size)).trans (hb9.mono (Nat.le_trans HX4.out.size HX8.out.size))
          have HC2 := Lib.hid (ints_same w9 _ _ l hrt (HR3.out.later hx39) (by have := HN60.out; omega))
          have HBW := Lib.hid ((HALL.out _ (HB3.out.trans (hx39.mono HB3.out.size))).2.2)
          have hcap2 : (nodes.length : Int) ≤ c9 := by omega
          clear hr9 hl9 hb9 hrt htk hx39 hl9' HC HX8
          rw [hll] at HC2
          go_wp2_with fail
          with_reducible refine HC2.out.mono ?_
          rintro e w10 ⟨rfl, hb10⟩
          have HBF := Lib.hid (HBW.out.trans (hb10.mono HBW.out.size))
          clear hb10
          go_wp2
          go_ret
          exact ⟨rfl, HBF.out⟩
        · have ek : (k : Int) % 6 = 2 := by omega
          clear h
          have hxn : NewNode ⟨4, (A : Int), (Bn : Int), 0⟩ nodes.length := new345 (.inr (.inl rfl)) HAL.out HBNL.out
          have HXN := Lib.hid hxn
          have HLG := Lib.hid (lev_grow HL.out HN60.out hxn)
          have HFG := Lib.hid (fits_grow (x := ⟨4, (A : Int), (Bn : Int), 0⟩) HF.out HN60.out)
          obtain ⟨w4, hw4⟩ : ∃ w4, w4 = w3.alloc (.cells #[.int .i64 4, .int .i64 (A : Int), .int .i64 (Bn : Int), .int .i64 0] 38) := ⟨_, rfl⟩
          have hx4 : Below w3.heap.size w3 w4 := by rw [hw4]; exact (Below.refl _ _).alloc (Nat.le_refl _) _
          have hs4 : w4.heap.size = w3.heap.size + 1 := by rw [hw4]; simp
          have HND := Lib.hid (show ∀ W, Below w4.heap.size w4 W → W.cell? ⟨w3.heap.size, 0, none⟩ = some (.int .i64 4) ∧ W.cell? ⟨w3.heap.size, 1, none⟩ = some (.int .i64 (A : Int)) ∧ W.cell? ⟨w3.heap.size, 2, none⟩ = some (.int .i64 (Bn : Int)) ∧ W.cell? ⟨w3.heap.size, 3, none⟩ = some (.int .i64 0) from fun W hW => by
            have hcc : ∀ j, W.cell? ⟨w3.heap.size, j, none⟩ = w4.cell? ⟨w3.heap.size, j, none⟩ := fun j => hW.cell (by simp; omega)
            rw [hcc, hcc, hcc, hcc, hw4]
            exact ⟨World.cell?_alloc_new _ _ _ 0, World.cell?_alloc_new _ _ _ 1, World.cell?_alloc_new _ _ _ 2, World.cell?_alloc_new _ _ _ 3⟩)
          have HB4 := Lib.hid (HB3.out.trans (hx4.mono HB3.out.size))
          have HX4 := Lib.hid hx4
          have HW4 := Lib.hid hw4
          obtain ⟨⟨y0, y1, y2⟩, hn, -⟩ := HALL.out _ HB4.out
          have HC := Lib.hid (clone_net w4 _ nodes ins outs hn HF.out.nl HF.out.il HF.out.ol HF.out.bits)
          rw [hw4] at y0 y1 y2
          clear hn hw4 hx4 hxn hs4
          go_wp2_with fail
          rw [← HW4.out]
          refine HC.out.mono ?_
          rintro e w5 ⟨vn, vi, vo, rfl, hon, hri, hro, hb5⟩
          obtain ⟨g, cg, he, -, -⟩ := hon.form (by have := HZ.out; omega)
          obtain ⟨Ai2, ci2, rfl, -, -⟩ := hri.shape
          obtain ⟨Ao2, co2, rfl, -, -⟩ := hro.shape
          have hob : vn.ownBlock = some g := by rw [he]; rfl
          have hgb := hon.base (g := g) hob
          have h1c : vn.cells = #[vn] := by rw [he]; rfl
          have h1d : vn.oneCell' = true := by rw [he]; rfl
          have hst : (store ⟨w5.heap.size, 0, none⟩ vn).run Try.prog (w5.alloc (.cells #[.slice none 0 0, .slice none 0 0, .slice none 0 0] 25)) = .ok () (w5.alloc (.cells #[vn, .slice none 0 0, .slice none 0 0] 25)) := by rw [he]; go_simp
          have HOB := Lib.hid hob
          clear he
          have HB5 := Lib.hid (HB4.out.trans (hb5.mono HB4.out.size))
          have HX5 := Lib.hid hb5
          obtain ⟨w6, hw6⟩ : ∃ w6, w6 = w5.alloc (.cells #[vn, .slice Ai2 ins.length ci2, .slice Ao2 outs.length co2] 25) := ⟨_, rfl⟩
          have hs6 : w6.heap.size = w5.heap.size + 1 := by rw [hw6]; simp
          have hx6 : Below w5.heap.size w5 w6 := by rw [hw6]; exact (Below.refl _ _).alloc (Nat.le_refl _) _
          have hbox6 : ∀ j, w6.cell? ⟨w5.heap.size, j, none⟩ = (#[vn, .slice Ai2 ins.length ci2, .slice Ao2 outs.length co2] : Array Value)[j]? := fun j => by rw [hw6]; exact World.cell?_alloc_new _ _ _ j
          have hfro6 : ∀ j, w6.frozen? ⟨w5.heap.size, j, none⟩ = false := fun j => by rw [hw6]; exact World.frozen?_alloc_new _ _ _ j
          have hon6 := hon.kept (Kept.of_below_all hx6 (FootIn.none _) (Nat.le_refl _))
          obtain ⟨n0, n1, n2, n3⟩ := HND.out w6 (hb5.trans (hx6.mono hb5.size))
          have HON6 := Lib.hid hon6
          have HRI5 := Lib.hid hri
          have HRO5 := Lib.hid hro
          have HW6 := Lib.hid hw6
          have HX6 := Lib.hid hx6
          have HS6 := Lib.hid hs6
          have HBX6 := Lib.hid hbox6
          have HFR6 := Lib.hid hfro6
          have HGB := Lib.hid hgb
          have hap : (nodes.length + 1) * 32 ≤ 140737488355328 := by have := HN60.out; omega
          have h46 : w4.heap.size ≤ w6.heap.size := Nat.le_trans hb5.size hx6.size
          rw [hw6] at n0 n1 n2 n3
          clear hon hri hro hb5 hw6 hx6 hs6 hbox6 hfro6 hon6 hgb HC y0 y1 y2
          go_wp2_with (at_builtin; go_loud (rw [← HW6.out]; refine app1 kNode 38 22 (.agg #[.int .i64 0, .int .i64 0, .int .i64 0, .int .i64 0]) 32 rfl (.tmp 78) (.tmp 80) rfl Try.underlying22 infoNode rfl (by decide) (by decide) none w4.heap.size HON6.out (FootIn.none _) h46 rfl ⟨4, (A : Int), (Bn : Int), 0⟩ [.int .i64 4, .int .i64 (A : Int), .int .i64 (Bn : Int), .int .i64 0] (congrArg (fun m => Value.slice (some ⟨m, 0, none⟩) 1 1) HS6.out.symm) rfl hap ?_; intro v7 w7 q1 q2 q3 q4 q5 q6; obtain ⟨A7, c7, he7, -, -⟩ := q1.shape; subst he7; obtain ⟨t0, t1, t2, t3, t4, t5⟩ := growBox HS6.out HBX6.out HFR6.out HOB.out HGB.out q5; have HQ1 := Lib.hid q1; have HQ5 := Lib.hid q5; have HQ6 := Lib.hid q6; clear q1 q2 q3 q4 q5 q6))
          obtain ⟨hn8, hb8⟩ := growNet (u := .slice A7 (nodes.length + 1) c7) HRI5.out HRO5.out HX6.out HS6.out HOB.out HGB.out HQ1.out HQ5.out (HQ6.out.imp id fun ⟨b, h1, h2⟩ => ⟨b, h1, h2⟩) HX5.out.size
          have hl8 : (nodes ++ [(⟨4, (A : Int), (Bn : Int), 0⟩ : Node)]).length = nodes.length + 1 := by rw [List.length_append]; rfl
          rw [hl8] at hn8
          obtain ⟨w8, hw8⟩ : ∃ w8, w8 = w7.setCell ⟨w5.heap.size, 0, none⟩ (.slice A7 (nodes.length + 1) c7) := ⟨_, rfl⟩
          rw [← hw8] at hn8 hb8
          rw [← hw8]
          have hx48 : Below w4.heap.size w4 w8 := (HX5.out.trans (HX6.out.mono HX5.out.size)).trans hb8
          have HC := Lib.hid (lev_net w8 _ _ ins outs hn8 HFG.out)
          have HX8 := Lib.hid hx48
          clear hn8 hb8 hl8 hw8 hx48 t0 t1 t2 t3 t4 t5
          with_reducible refine HC.out.mono ?_
          rintro e w9 ⟨v9, l9, x9, rfl, hr9, hl9, hb9⟩
          obtain ⟨rfl, rfl⟩ := HLG.out.unique hl9
          have hll : l.length = nodes.length := by obtain ⟨b, h1, h2, h3, h4, h5⟩ := HL.out; exact (h4 rfl).1
          obtain ⟨A9, c9, he9, hcap, -⟩ := hr9.shape
          have hl9' : (l ++ [lvl (usesN ⟨4, (A : Int), (Bn : Int), 0⟩) l]).length = nodes.length + 1 := by rw [List.length_append, hll]; rfl
          rw [hl9'] at he9 hcap
          subst he9
          have htk : (l ++ [lvl (usesN ⟨4, (A : Int), (Bn : Int), 0⟩) l]).take nodes.length = l := by rw [← hll, List.take_left]
          have hrt := row_take hr9 (m := nodes.length) (by omega)
          rw [htk] at hrt
          have hx39 : Below w3.heap.size w3 w9 := (HX4.out.trans (HX8.out.mono HX4.out.size)).trans (hb9.mono (Nat.le_trans HX4.out.size HX8.out.size))
          have HC2 := Lib.hid (ints_same w9 _ _ l hrt (HR3.out.later hx39) (by have := HN60.out; omega))
          have HBW := Lib.hid ((HALL.out _ (HB3.out.trans (hx39.mono HB3.out.size))).2.2)
          have hcap2 : (nodes.length : Int) ≤ c9 := by omega
          clear hr9 hl9 hb9 hrt htk hx39 hl9' HC HX8
          rw [hll] at HC2
          go_wp2_with fail
          with_reducible refine HC2.out.mono ?_
          rintro e w10 ⟨rfl, hb10⟩
          have HBF := Lib.hid (HBW.out.trans (hb10.mono HBW.out.size))
          clear hb10
          go_wp2
          go_ret
          exact ⟨rfl, HBF.out⟩
        · have ek : (k : Int) % 6 = 3 := by omega
          clear h
          have hxn : NewNode ⟨5, (A : Int), (Bn : Int), 0⟩ nodes.length := new345 (.inr (.inr rfl)) HAL.out HBNL.out
          have HXN := Lib.hid hxn
          have HLG := Lib.hid (lev_grow HL.out HN60.out hxn)
          have HFG := Lib.hid (fits_grow (x := ⟨5, (A : Int), (Bn : Int), 0⟩) HF.out HN60.out)
          obtain ⟨w4, hw4⟩ : ∃ w4, w4 = w3.alloc (.cells #[.int .i64 5, .int .i64 (A : Int), .int .i64 (Bn : Int), .int .i64 0] 38) := ⟨_, rfl⟩
          have hx4 : Below w3.heap.size w3 w4 := by rw [hw4]; exact (Below.refl _ _).alloc (Nat.le_refl _) _
          have hs4 : w4.heap.size = w3.heap.size + 1 := by rw [hw4]; simp
          have HND := Lib.hid (show ∀ W, Below w4.heap.size w4 W → W.cell? ⟨w3.heap.size, 0, none⟩ = some (.int .i64 5) ∧ W.cell? ⟨w3.heap.size, 1, none⟩ = some (.int .i64 (A : Int)) ∧ W.cell? ⟨w3.heap.size, 2, none⟩ = some (.int .i64 (Bn : Int)) ∧ W.cell? ⟨w3.heap.size, 3, none⟩ = some (.int .i64 0) from fun W hW => by
            have hcc : ∀ j, W.cell? ⟨w3.heap.size, j, none⟩ = w4.cell? ⟨w3.heap.size, j, none⟩ := fun j => hW.cell (by simp; omega)
            rw [hcc, hcc, hcc, hcc, hw4]
            exact ⟨World.cell?_alloc_new _ _ _ 0, World.cell?_alloc_new _ _ _ 1, World.cell?_alloc_new _ _ _ 2, World.cell?_alloc_new _ _ _ 3⟩)
          have HB4 := Lib.hid (HB3.out.trans (hx4.mono HB3.out.size))
          have HX4 := Lib.hid hx4
          have HW4 := Lib.hid hw4
          obtain ⟨⟨y0, y1, y2⟩, hn, -⟩ := HALL.out _ HB4.out
          have HC := Lib.hid (clone_net w4 _ nodes ins outs hn HF.out.nl HF.out.il HF.out.ol HF.out.bits)
          rw [hw4] at y0 y1 y2
          clear hn hw4 hx4 hxn hs4
          go_wp2_with fail
          rw [← HW4.out]
          refine HC.out.mono ?_
          rintro e w5 ⟨vn, vi, vo, rfl, hon, hri, hro, hb5⟩
          obtain ⟨g, cg, he, -, -⟩ := hon.form (by have := HZ.out; omega)
          obtain ⟨Ai2, ci2, rfl, -, -⟩ := hri.shape
          obtain ⟨Ao2, co2, rfl, -, -⟩ := hro.shape
          have hob : vn.ownBlock = some g := by rw [he]; rfl
          have hgb := hon.base (g := g) hob
          have h1c : vn.cells = #[vn] := by rw [he]; rfl
          have h1d : vn.oneCell' = true := by rw [he]; rfl
          have hst : (store ⟨w5.heap.size, 0, none⟩ vn).run Try.prog (w5.alloc (.cells #[.slice none 0 0, .slice none 0 0, .slice none 0 0] 25)) = .ok () (w5.alloc (.cells #[vn, .slice none 0 0, .slice none 0 0] 25)) := by rw [he]; go_simp
          have HOB := Lib.hid hob
          clear he
          have HB5 := Lib.hid (HB4.out.trans (hb5.mono HB4.out.size))
          have HX5 := Lib.hid hb5
          obtain ⟨w6, hw6⟩ : ∃ w6, w6 = w5.alloc (.cells #[vn, .slice Ai2 ins.length ci2, .slice Ao2 outs.length co2] 25) := ⟨_, rfl⟩
          have hs6 : w6.heap.size = w5.heap.size + 1 := by rw [hw6]; simp
          have hx6 : Below w5.heap.size w5 w6 := by rw [hw6]; exact (Below.refl _ _).alloc (Nat.le_refl _) _
          have hbox6 : ∀ j, w6.cell? ⟨w5.heap.size, j, none⟩ = (#[vn, .slice Ai2 ins.length ci2, .slice Ao2 outs.length co2] : Array Value)[j]? := fun j => by rw [hw6]; exact World.cell?_alloc_new _ _ _ j
          have hfro6 : ∀ j, w6.frozen? ⟨w5.heap.size, j, none⟩ = false := fun j => by rw [hw6]; exact World.frozen?_alloc_new _ _ _ j
          have hon6 := hon.kept (Kept.of_below_all hx6 (FootIn.none _) (Nat.le_refl _))
          obtain ⟨n0, n1, n2, n3⟩ := HND.out w6 (hb5.trans (hx6.mono hb5.size))
          have HON6 := Lib.hid hon6
          have HRI5 := Lib.hid hri
          have HRO5 := Lib.hid hro
          have HW6 := Lib.hid hw6
          have HX6 := Lib.hid hx6
          have HS6 := Lib.hid hs6
          have HBX6 := Lib.hid hbox6
          have HFR6 := Lib.hid hfro6
          have HGB := Lib.hid hgb
          have hap : (nodes.length + 1) * 32 ≤ 140737488355328 := by have := HN60.out; omega
          have h46 : w4.heap.size ≤ w6.heap.size := Nat.le_trans hb5.size hx6.size
          rw [hw6] at n0 n1 n2 n3
          clear hon hri hro hb5 hw6 hx6 hs6 hbox6 hfro6 hon6 hgb HC y0 y1 y2
          go_wp2_with (at_builtin; go_loud (rw [← HW6.out]; refine app1 kNode 38 22 (.agg #[.int .i64 0, .int .i64 0, .int .i64 0, .int .i64 0]) 32 rfl (.tmp 78) (.tmp 80) rfl Try.underlying22 infoNode rfl (by decide) (by decide) none w4.heap.size HON6.out (FootIn.none _) h46 rfl ⟨5, (A : Int), (Bn : Int), 0⟩ [.int .i64 5, .int .i64 (A : Int), .int .i64 (Bn : Int), .int .i64 0] (congrArg (fun m => Value.slice (some ⟨m, 0, none⟩) 1 1) HS6.out.symm) rfl hap ?_; intro v7 w7 q1 q2 q3 q4 q5 q6; obtain ⟨A7, c7, he7, -, -⟩ := q1.shape; subst he7; obtain ⟨t0, t1, t2, t3, t4, t5⟩ := growBox HS6.out HBX6.out HFR6.out HOB.out HGB.out q5; have HQ1 := Lib.hid q1; have HQ5 := Lib.hid q5; have HQ6 := Lib.hid q6; clear q1 q2 q3 q4 q5 q6))
          obtain ⟨hn8, hb8⟩ := growNet (u := .slice A7 (nodes.length + 1) c7) HRI5.out HRO5.out HX6.out HS6.out HOB.out HGB.out HQ1.out HQ5.out (HQ6.out.imp id fun ⟨b, h1, h2⟩ => ⟨b, h1, h2⟩) HX5.out.size
          have hl8 : (nodes ++ [(⟨5, (A : Int), (Bn : Int), 0⟩ : Node)]).length = nodes.length + 1 := by rw [List.length_append]; rfl
          rw [hl8] at hn8
          obtain ⟨w8, hw8⟩ : ∃ w8, w8 = w7.setCell ⟨w5.heap.size, 0, none⟩ (.slice A7 (nodes.length + 1) c7) := ⟨_, rfl⟩
          rw [← hw8] at hn8 hb8
          rw [← hw8]
          have hx48 : Below w4.heap.size w4 w8 := (HX5.out.trans (HX6.out.mono HX5.out.size)).trans hb8
          have HC := Lib.hid (lev_net w8 _ _ ins outs hn8 HFG.out)
          have HX8 := Lib.hid hx48
          clear hn8 hb8 hl8 hw8 hx48 t0 t1 t2 t3 t4 t5
          with_reducible refine HC.out.mono ?_
          rintro e w9 ⟨v9, l9, x9, rfl, hr9, hl9, hb9⟩
          obtain ⟨rfl, rfl⟩ := HLG.out.unique hl9
          have hll : l.length = nodes.length := by obtain ⟨b, h1, h2, h3, h4, h5⟩ := HL.out; exact (h4 rfl).1
          obtain ⟨A9, c9, he9, hcap, -⟩ := hr9.shape
          have hl9' : (l ++ [lvl (usesN ⟨5, (A : Int), (Bn : Int), 0⟩) l]).length = nodes.length + 1 := by rw [List.length_append, hll]; rfl
          rw [hl9'] at he9 hcap
          subst he9
          have htk : (l ++ [lvl (usesN ⟨5, (A : Int), (Bn : Int), 0⟩) l]).take nodes.length = l := by rw [← hll, List.take_left]
          have hrt := row_take hr9 (m := nodes.length) (by omega)
          rw [htk] at hrt
          have hx39 : Below w3.heap.size w3 w9 := (HX4.out.trans (HX8.out.mono HX4.out.size)).trans (hb9.mono (Nat.le_trans HX4.out.size HX8.out.size))
          have HC2 := Lib.hid (ints_same w9 _ _ l hrt (HR3.out.later hx39) (by have := HN60.out; omega))
          have HBW := Lib.hid ((HALL.out _ (HB3.out.trans (hx39.mono HB3.out.size))).2.2)
          have hcap2 : (nodes.length : Int) ≤ c9 := by omega
          clear hr9 hl9 hb9 hrt htk hx39 hl9' HC HX8
          rw [hll] at HC2
          go_wp2_with fail
          with_reducible refine HC2.out.mono ?_
          rintro e w10 ⟨rfl, hb10⟩
          have HBF := Lib.hid (HBW.out.trans (hb10.mono HBW.out.size))
          clear hb10
          go_wp2
          go_ret
          exact ⟨rfl, HBF.out⟩
        · have ek : (k : Int) % 6 = 4 := by omega
          clear h
          have hxn : NewNode ⟨6, (A : Int), (Bn : Int), (Cn : Int)⟩ nodes.length := new6 HAL.out HBNL.out HCNL.out
          have HXN := Lib.hid hxn
          have HLG := Lib.hid (lev_grow HL.out HN60.out hxn)
          have HFG := Lib.hid (fits_grow (x := ⟨6, (A : Int), (Bn : Int), (Cn : Int)⟩) HF.out HN60.out)
          obtain ⟨w4, hw4⟩ : ∃ w4, w4 = w3.alloc (.cells #[.int .i64 6, .int .i64 (A : Int), .int .i64 (Bn : Int), .int .i64 (Cn : Int)] 38) := ⟨_, rfl⟩
          have hx4 : Below w3.heap.size w3 w4 := by rw [hw4]; exact (Below.refl _ _).alloc (Nat.le_refl _) _
          have hs4 : w4.heap.size = w3.heap.size + 1 := by rw [hw4]; simp
          have HND := Lib.hid (show ∀ W, Below w4.heap.size w4 W → W.cell? ⟨w3.heap.size, 0, none⟩ = some (.int .i64 6) ∧ W.cell? ⟨w3.heap.size, 1, none⟩ = some (.int .i64 (A : Int)) ∧ W.cell? ⟨w3.heap.size, 2, none⟩ = some (.int .i64 (Bn : Int)) ∧ W.cell? ⟨w3.heap.size, 3, none⟩ = some (.int .i64 (Cn : Int)) from fun W hW => by
            have hcc : ∀ j, W.cell? ⟨w3.heap.size, j, none⟩ = w4.cell? ⟨w3.heap.size, j, none⟩ := fun j => hW.cell (by simp; omega)
            rw [hcc, hcc, hcc, hcc, hw4]
            exact ⟨World.cell?_alloc_new _ _ _ 0, World.cell?_alloc_new _ _ _ 1, World.cell?_alloc_new _ _ _ 2, World.cell?_alloc_new _ _ _ 3⟩)
          have HB4 := Lib.hid (HB3.out.trans (hx4.mono HB3.out.size))
          have HX4 := Lib.hid hx4
          have HW4 := Lib.hid hw4
          obtain ⟨⟨y0, y1, y2⟩, hn, -⟩ := HALL.out _ HB4.out
          have HC := Lib.hid (clone_net w4 _ nodes ins outs hn HF.out.nl HF.out.il HF.out.ol HF.out.bits)
          rw [hw4] at y0 y1 y2
          clear hn hw4 hx4 hxn hs4
          go_wp2_with fail
          rw [← HW4.out]
          refine HC.out.mono ?_
          rintro e w5 ⟨vn, vi, vo, rfl, hon, hri, hro, hb5⟩
          obtain ⟨g, cg, he, -, -⟩ := hon.form (by have := HZ.out; omega)
          obtain ⟨Ai2, ci2, rfl, -, -⟩ := hri.shape
          obtain ⟨Ao2, co2, rfl, -, -⟩ := hro.shape
          have hob : vn.ownBlock = some g := by rw [he]; rfl
          have hgb := hon.base (g := g) hob
          have h1c : vn.cells = #[vn] := by rw [he]; rfl
          have h1d : vn.oneCell' = true := by rw [he]; rfl
          have hst : (store ⟨w5.heap.size, 0, none⟩ vn).run Try.prog (w5.alloc (.cells #[.slice none 0 0, .slice none 0 0, .slice none 0 0] 25)) = .ok () (w5.alloc (.cells #[vn, .slice none 0 0, .slice none 0 0] 25)) := by rw [he]; go_simp
          have HOB := Lib.hid hob
          clear he
          have HB5 := Lib.hid (HB4.out.trans (hb5.mono HB4.out.size))
          have HX5 := Lib.hid hb5
          obtain ⟨w6, hw6⟩ : ∃ w6, w6 = w5.alloc (.cells #[vn, .slice Ai2 ins.length ci2, .slice Ao2 outs.length co2] 25) := ⟨_, rfl⟩
          have hs6 : w6.heap.size = w5.heap.size + 1 := by rw [hw6]; simp
          have hx6 : Below w5.heap.size w5 w6 := by rw [hw6]; exact (Below.refl _ _).alloc (Nat.le_refl _) _
          have hbox6 : ∀ j, w6.cell? ⟨w5.heap.size, j, none⟩ = (#[vn, .slice Ai2 ins.length ci2, .slice Ao2 outs.length co2] : Array Value)[j]? := fun j => by rw [hw6]; exact World.cell?_alloc_new _ _ _ j
          have hfro6 : ∀ j, w6.frozen? ⟨w5.heap.size, j, none⟩ = false := fun j => by rw [hw6]; exact World.frozen?_alloc_new _ _ _ j
          have hon6 := hon.kept (Kept.of_below_all hx6 (FootIn.none _) (Nat.le_refl _))
          obtain ⟨n0, n1, n2, n3⟩ := HND.out w6 (hb5.trans (hx6.mono hb5.size))
          have HON6 := Lib.hid hon6
          have HRI5 := Lib.hid hri
          have HRO5 := Lib.hid hro
          have HW6 := Lib.hid hw6
          have HX6 := Lib.hid hx6
          have HS6 := Lib.hid hs6
          have HBX6 := Lib.hid hbox6
          have HFR6 := Lib.hid hfro6
          have HGB := Lib.hid hgb
          have hap : (nodes.length + 1) * 32 ≤ 140737488355328 := by have := HN60.out; omega
          have h46 : w4.heap.size ≤ w6.heap.size := Nat.le_trans hb5.size hx6.size
          rw [hw6] at n0 n1 n2 n3
          clear hon hri hro hb5 hw6 hx6 hs6 hbox6 hfro6 hon6 hgb HC y0 y1 y2
          go_wp2_with (at_builtin; go_loud (rw [← HW6.out]; refine app1 kNode 38 22 (.agg #[.int .i64 0, .int .i64 0, .int .i64 0, .int .i64 0]) 32 rfl (.tmp 78) (.tmp 80) rfl Try.underlying22 infoNode rfl (by decide) (by decide) none w4.heap.size HON6.out (FootIn.none _) h46 rfl ⟨6, (A : Int), (Bn : Int), (Cn : Int)⟩ [.int .i64 6, .int .i64 (A : Int), .int .i64 (Bn : Int), .int .i64 (Cn : Int)] (congrArg (fun m => Value.slice (some ⟨m, 0, none⟩) 1 1) HS6.out.symm) rfl hap ?_; intro v7 w7 q1 q2 q3 q4 q5 q6; obtain ⟨A7, c7, he7, -, -⟩ := q1.shape; subst he7; obtain ⟨t0, t1, t2, t3, t4, t5⟩ := growBox HS6.out HBX6.out HFR6.out HOB.out HGB.out q5; have HQ1 := Lib.hid q1; have HQ5 := Lib.hid q5; have HQ6 := Lib.hid q6; clear q1 q2 q3 q4 q5 q6))
          obtain ⟨hn8, hb8⟩ := growNet (u := .slice A7 (nodes.length + 1) c7) HRI5.out HRO5.out HX6.out HS6.out HOB.out HGB.out HQ1.out HQ5.out (HQ6.out.imp id fun ⟨b, h1, h2⟩ => ⟨b, h1, h2⟩) HX5.out.size
          have hl8 : (nodes ++ [(⟨6, (A : Int), (Bn : Int), (Cn : Int)⟩ : Node)]).length = nodes.length + 1 := by rw [List.length_append]; rfl
          rw [hl8] at hn8
          obtain ⟨w8, hw8⟩ : ∃ w8, w8 = w7.setCell ⟨w5.heap.size, 0, none⟩ (.slice A7 (nodes.length + 1) c7) := ⟨_, rfl⟩
          rw [← hw8] at hn8 hb8
          rw [← hw8]
          have hx48 : Below w4.heap.size w4 w8 := (HX5.out.trans (HX6.out.mono HX5.out.size)).trans hb8
          have HC := Lib.hid (lev_net w8 _ _ ins outs hn8 HFG.out)
          have HX8 := Lib.hid hx48
          clear hn8 hb8 hl8 hw8 hx48 t0 t1 t2 t3 t4 t5
          with_reducible refine HC.out.mono ?_
          rintro e w9 ⟨v9, l9, x9, rfl, hr9, hl9, hb9⟩
          obtain ⟨rfl, rfl⟩ := HLG.out.unique hl9
          have hll : l.length = nodes.length := by obtain ⟨b, h1, h2, h3, h4, h5⟩ := HL.out; exact (h4 rfl).1
          obtain ⟨A9, c9, he9, hcap, -⟩ := hr9.shape
          have hl9' : (l ++ [lvl (usesN ⟨6, (A : Int), (Bn : Int), (Cn : Int)⟩) l]).length = nodes.length + 1 := by rw [List.length_append, hll]; rfl
          rw [hl9'] at he9 hcap
          subst he9
          have htk : (l ++ [lvl (usesN ⟨6, (A : Int), (Bn : Int), (Cn : Int)⟩) l]).take nodes.length = l := by rw [← hll, List.take_left]
          have hrt := row_take hr9 (m := nodes.length) (by omega)
          rw [htk] at hrt
          have hx39 : Below w3.heap.size w3 w9 := (HX4.out.trans (HX8.out.mono HX4.out.size)).trans (hb9.mono (Nat.le_trans HX4.out.size HX8.out.size))
          have HC2 := Lib.hid (ints_same w9 _ _ l hrt (HR3.out.later hx39) (by have := HN60.out; omega))
          have HBW := Lib.hid ((HALL.out _ (HB3.out.trans (hx39.mono HB3.out.size))).2.2)
          have hcap2 : (nodes.length : Int) ≤ c9 := by omega
          clear hr9 hl9 hb9 hrt htk hx39 hl9' HC HX8
          rw [hll] at HC2
          go_wp2_with fail
          with_reducible refine HC2.out.mono ?_
          rintro e w10 ⟨rfl, hb10⟩
          have HBF := Lib.hid (HBW.out.trans (hb10.mono HBW.out.size))
          clear hb10
          go_wp2
          go_ret
          exact ⟨rfl, HBF.out⟩
        · have ek : (k : Int) % 6 = 5 := by omega
          clear h
          have hxn : NewNode ⟨7, (A : Int), (B2 : Int), 0⟩ nodes.length := new7 HAL.out HB2L.out
          have HXN := Lib.hid hxn
          have HLG := Lib.hid (lev_grow HL.out HN60.out hxn)
          have HFG := Lib.hid (fits_grow (x := ⟨7, (A : Int), (B2 : Int), 0⟩) HF.out HN60.out)
          obtain ⟨w4, hw4⟩ : ∃ w4, w4 = w3.alloc (.cells #[.int .i64 7, .int .i64 (A : Int), .int .i64 (B2 : Int), .int .i64 0] 38) := ⟨_, rfl⟩
          have hx4 : Below w3.heap.size w3 w4 := by rw [hw4]; exact (Below.refl _ _).alloc (Nat.le_refl _) _
          have hs4 : w4.heap.size = w3.heap.size + 1 := by rw [hw4]; simp
          have HND := Lib.hid (show ∀ W, Below w4.heap.size w4 W → W.cell? ⟨w3.heap.size, 0, none⟩ = some (.int .i64 7) ∧ W.cell? ⟨w3.heap.size, 1, none⟩ = some (.int .i64 (A : Int)) ∧ W.cell? ⟨w3.heap.size, 2, none⟩ = some (.int .i64 (B2 : Int)) ∧ W.cell? ⟨w3.heap.size, 3, none⟩ = some (.int .i64 0) from fun W hW => by
            have hcc : ∀ j, W.cell? ⟨w3.heap.size, j, none⟩ = w4.cell? ⟨w3.heap.size, j, none⟩ := fun j => hW.cell (by simp; omega)
            rw [hcc, hcc, hcc, hcc, hw4]
            exact ⟨World.cell?_alloc_new _ _ _ 0, World.cell?_alloc_new _ _ _ 1, World.cell?_alloc_new _ _ _ 2, World.cell?_alloc_new _ _ _ 3⟩)
          have HB4 := Lib.hid (HB3.out.trans (hx4.mono HB3.out.size))
          have HX4 := Lib.hid hx4
          have HW4 := Lib.hid hw4
          obtain ⟨⟨y0, y1, y2⟩, hn, -⟩ := HALL.out _ HB4.out
          have HC := Lib.hid (clone_net w4 _ nodes ins outs hn HF.out.nl HF.out.il HF.out.ol HF.out.bits)
          rw [hw4] at y0 y1 y2
          clear hn hw4 hx4 hxn hs4
          go_wp2_with fail
          rw [← HW4.out]
          refine HC.out.mono ?_
          rintro e w5 ⟨vn, vi, vo, rfl, hon, hri, hro, hb5⟩
          obtain ⟨g, cg, he, -, -⟩ := hon.form (by have := HZ.out; omega)
          obtain ⟨Ai2, ci2, rfl, -, -⟩ := hri.shape
          obtain ⟨Ao2, co2, rfl, -, -⟩ := hro.shape
          have hob : vn.ownBlock = some g := by rw [he]; rfl
          have hgb := hon.base (g := g) hob
          have h1c : vn.cells = #[vn] := by rw [he]; rfl
          have h1d : vn.oneCell' = true := by rw [he]; rfl
          have hst : (store ⟨w5.heap.size, 0, none⟩ vn).run Try.prog (w5.alloc (.cells #[.slice none 0 0, .slice none 0 0, .slice none 0 0] 25)) = .ok () (w5.alloc (.cells #[vn, .slice none 0 0, .slice none 0 0] 25)) := by rw [he]; go_simp
          have HOB := Lib.hid hob
          clear he
          have HB5 := Lib.hid (HB4.out.trans (hb5.mono HB4.out.size))
          have HX5 := Lib.hid hb5
          obtain ⟨w6, hw6⟩ : ∃ w6, w6 = w5.alloc (.cells #[vn, .slice Ai2 ins.length ci2, .slice Ao2 outs.length co2] 25) := ⟨_, rfl⟩
          have hs6 : w6.heap.size = w5.heap.size + 1 := by rw [hw6]; simp
          have hx6 : Below w5.heap.size w5 w6 := by rw [hw6]; exact (Below.refl _ _).alloc (Nat.le_refl _) _
          have hbox6 : ∀ j, w6.cell? ⟨w5.heap.size, j, none⟩ = (#[vn, .slice Ai2 ins.length ci2, .slice Ao2 outs.length co2] : Array Value)[j]? := fun j => by rw [hw6]; exact World.cell?_alloc_new _ _ _ j
          have hfro6 : ∀ j, w6.frozen? ⟨w5.heap.size, j, none⟩ = false := fun j => by rw [hw6]; exact World.frozen?_alloc_new _ _ _ j
          have hon6 := hon.kept (Kept.of_below_all hx6 (FootIn.none _) (Nat.le_refl _))
          obtain ⟨n0, n1, n2, n3⟩ := HND.out w6 (hb5.trans (hx6.mono hb5.size))
          have HON6 := Lib.hid hon6
          have HRI5 := Lib.hid hri
          have HRO5 := Lib.hid hro
          have HW6 := Lib.hid hw6
          have HX6 := Lib.hid hx6
          have HS6 := Lib.hid hs6
          have HBX6 := Lib.hid hbox6
          have HFR6 := Lib.hid hfro6
          have HGB := Lib.hid hgb
          have hap : (nodes.length + 1) * 32 ≤ 140737488355328 := by have := HN60.out; omega
          have h46 : w4.heap.size ≤ w6.heap.size := Nat.le_trans hb5.size hx6.size
          rw [hw6] at n0 n1 n2 n3
          clear hon hri hro hb5 hw6 hx6 hs6 hbox6 hfro6 hon6 hgb HC y0 y1 y2
          go_wp2_with (at_builtin; go_loud (rw [← HW6.out]; refine app1 kNode 38 22 (.agg #[.int .i64 0, .int .i64 0, .int .i64 0, .int .i64 0]) 32 rfl (.tmp 78) (.tmp 80) rfl Try.underlying22 infoNode rfl (by decide) (by decide) none w4.heap.size HON6.out (FootIn.none _) h46 rfl ⟨7, (A : Int), (B2 : Int), 0⟩ [.int .i64 7, .int .i64 (A : Int), .int .i64 (B2 : Int), .int .i64 0] (congrArg (fun m => Value.slice (some ⟨m, 0, none⟩) 1 1) HS6.out.symm) rfl hap ?_; intro v7 w7 q1 q2 q3 q4 q5 q6; obtain ⟨A7, c7, he7, -, -⟩ := q1.shape; subst he7; obtain ⟨t0, t1, t2, t3, t4, t5⟩ := growBox HS6.out HBX6.out HFR6.out HOB.out HGB.out q5; have HQ1 := Lib.hid q1; have HQ5 := Lib.hid q5; have HQ6 := Lib.hid q6; clear q1 q2 q3 q4 q5 q6))
          obtain ⟨hn8, hb8⟩ := growNet (u := .slice A7 (nodes.length + 1) c7) HRI5.out HRO5.out HX6.out HS6.out HOB.out HGB.out HQ1.out HQ5.out (HQ6.out.imp id fun ⟨b, h1, h2⟩ => ⟨b, h1, h2⟩) HX5.out.size
          have hl8 : (nodes ++ [(⟨7, (A : Int), (B2 : Int), 0⟩ : Node)]).length = nodes.length + 1 := by rw [List.length_append]; rfl
          rw [hl8] at hn8
          obtain ⟨w8, hw8⟩ : ∃ w8, w8 = w7.setCell ⟨w5.heap.size, 0, none⟩ (.slice A7 (nodes.length + 1) c7) := ⟨_, rfl⟩
          rw [← hw8] at hn8 hb8
          rw [← hw8]
          have hx48 : Below w4.heap.size w4 w8 := (HX5.out.trans (HX6.out.mono HX5.out.size)).trans hb8
          have HC := Lib.hid (lev_net w8 _ _ ins outs hn8 HFG.out)
          have HX8 := Lib.hid hx48
          clear hn8 hb8 hl8 hw8 hx48 t0 t1 t2 t3 t4 t5
          with_reducible refine HC.out.mono ?_
          rintro e w9 ⟨v9, l9, x9, rfl, hr9, hl9, hb9⟩
          obtain ⟨rfl, rfl⟩ := HLG.out.unique hl9
          have hll : l.length = nodes.length := by obtain ⟨b, h1, h2, h3, h4, h5⟩ := HL.out; exact (h4 rfl).1
          obtain ⟨A9, c9, he9, hcap, -⟩ := hr9.shape
          have hl9' : (l ++ [lvl (usesN ⟨7, (A : Int), (B2 : Int), 0⟩) l]).length = nodes.length + 1 := by rw [List.length_append, hll]; rfl
          rw [hl9'] at he9 hcap
          subst he9
          have htk : (l ++ [lvl (usesN ⟨7, (A : Int), (B2 : Int), 0⟩) l]).take nodes.length = l := by rw [← hll, List.take_left]
          have hrt := row_take hr9 (m := nodes.length) (by omega)
          rw [htk] at hrt
          have hx39 : Below w3.heap.size w3 w9 := (HX4.out.trans (HX8.out.mono HX4.out.size)).trans (hb9.mono (Nat.le_trans HX4.out.size HX8.out.size))
          have HC2 := Lib.hid (ints_same w9 _ _ l hrt (HR3.out.later hx39) (by have := HN60.out; omega))
          have HBW := Lib.hid ((HALL.out _ (HB3.out.trans (hx39.mono HB3.out.size))).2.2)
          have hcap2 : (nodes.length : Int) ≤ c9 := by omega
          clear hr9 hl9 hb9 hrt htk hx39 hl9' HC HX8
          rw [hll] at HC2
          go_wp2_with fail
          with_reducible refine HC2.out.mono ?_
          rintro e w10 ⟨rfl, hb10⟩
          have HBF := Lib.hid (HBW.out.trans (hb10.mono HBW.out.size))
          clear hb10
          go_wp2
          go_ret
          exact ⟨rfl, HBF.out⟩
      · have hq : (x != 0) = true := by simpa using hx0
        have HBW := Lib.hid hbw
        clear hx0 hn hbw
        go_wp2
        go_ret
        exact ⟨rfl, HBW.out⟩
end Go.Proofs.Ytbfjacgfifecpaa
