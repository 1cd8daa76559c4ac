/- Rows of nodes, of ports, and nets that are the same. -/
import Derived.Test.YtbfjacgfifecpaaNp
import Derived.Test.YtbfjacgfifecpaaNc
import Derived.Laws.EntriesVeiled
namespace Go.Proofs.Ytbfjacgfifecpaa
open Go.RowKit


theorem equal_nodes (w : World) (v u : Value) (xs ys : List Node) (hx : Row kNode w (fun _ => False) v xs) (hy : Row kNode w (fun _ => False) u ys) (hl : xs.length ≤ 1099511627776) :
    Calls Try.prog 63 #[v, u] w fun e w' => e = .returned (.bool (decide (xs = ys))) ∧ Below w.heap.size w w' := by
  obtain ⟨A, c, rfl, -, -⟩ := hx.shape
  obtain ⟨A2, c2, rfl, -, -⟩ := hy.shape
  have HX := Lib.hid hx
  have HY := Lib.hid hy
  clear hx hy
  by_cases hlen : xs.length = ys.length
  · have hq : ((xs.length : Int) != (ys.length : Int)) = false := by simp [hlen]
    have HLEN := Lib.hid hlen
    have hly : ys.length ≤ 1099511627776 := by omega
    clear hlen
    go_enter Try.func63, Try.ntmps63
    go_wp2_with fail
    clear hq
    go_loopw [5, 13] (fun rv iv wr => ∃ i : Nat, iv = .int .i64 i ∧ i ≤ xs.length ∧ Hid (xs.take i = ys.take i) ∧ Hid (Below w.heap.size w wr)) (fun rv iv _ => xs.length - (intOf iv).toNat)
    case atStart => exact ⟨0, rfl, Nat.zero_le _, Lib.hid rfl, Lib.hid (Below.refl _ _)⟩
    case round =>
      obtain ⟨i, rfl, hi, HT, HB⟩ := hrel
      by_cases hlt : i < xs.length
      · have hlt2 : i < ys.length := by rw [← HLEN.out]; exact hlt
        obtain ⟨b, off, rfl, x0, x1, x2, x3⟩ := HX.out.node_at hlt
        obtain ⟨b2, off2, rfl, y0, y1, y2, y3⟩ := HY.out.node_at hlt2
        replace x0 := cellBelow HB.out x0
        replace x1 := cellBelow HB.out x1
        replace x2 := cellBelow HB.out x2
        replace x3 := cellBelow HB.out x3
        replace y0 := cellBelow HB.out y0
        replace y1 := cellBelow HB.out y1
        replace y2 := cellBelow HB.out y2
        replace y3 := cellBelow HB.out y3
        have HTS := Lib.hid (take_step HT.out hlt hlt2)
        have HNE := Lib.hid (ne_at (xs := xs) (ys := ys) hlt hlt2)
        obtain ⟨x, hxx⟩ : ∃ x, xs[i] = x := ⟨_, rfl⟩
        obtain ⟨y, hyy⟩ : ∃ y, ys[i] = y := ⟨_, rfl⟩
        rw [hxx] at x0 x1 x2 x3
        rw [hyy] at y0 y1 y2 y3
        rw [hxx, hyy] at HTS HNE
        clear hxx hyy
        obtain ⟨xk, xa, xb, xc⟩ := x
        obtain ⟨yk, ya, yb, yc⟩ := y
        dsimp only at x0 x1 x2 x3 y0 y1 y2 y3
        by_cases ek : xk = yk
        · subst ek
          by_cases ea : xa = ya
          · subst ea
            by_cases eb : xb = yb
            · subst eb
              by_cases ec : xc = yc
              · subst ec
                have HTN := Lib.hid (HTS.out rfl)
                clear HTS HNE
                go_wp2
                go_quiet (fail)
                go_wp2
                refine ⟨⟨i + 1, by go_num, by omega, HTN, Lib.hid (HB.out.trans ((pw_drewN _ _).mono HB.out.size))⟩, ?_⟩
                simp [intOf]; omega
              · have HNN := Lib.hid (HNE.out (by intro h; injection h with h1 h2 h3 h4; exact ec h4))
                have hq : (xc == yc) = false := by simpa using ec
                clear HTS HNE ec
                go_wp2
                go_quiet (fail)
                go_wp2
                go_ret
                exact ⟨by rw [decide_eq_false HNN.out]; rfl, HB.out.trans ((pw_drewN _ _).mono HB.out.size)⟩
            · have HNN := Lib.hid (HNE.out (by intro h; injection h with h1 h2 h3 h4; exact eb h3))
              have hq : (xb == yb) = false := by simpa using eb
              clear HTS HNE eb
              go_wp2
              go_quiet (fail)
              go_wp2
              go_ret
              exact ⟨by rw [decide_eq_false HNN.out]; rfl, HB.out.trans ((pw_drewN _ _).mono HB.out.size)⟩
          · have HNN := Lib.hid (HNE.out (by intro h; injection h with h1 h2 h3 h4; exact ea h2))
            have hq : (xa == ya) = false := by simpa using ea
            clear HTS HNE ea
            go_wp2
            go_quiet (fail)
            go_wp2
            go_ret
            exact ⟨by rw [decide_eq_false HNN.out]; rfl, HB.out.trans ((pw_drewN _ _).mono HB.out.size)⟩
        · have HNN := Lib.hid (HNE.out (by intro h; injection h with h1 h2 h3 h4; exact ek h1))
          have hq : (xk == yk) = false := by simpa using ek
          clear HTS HNE ek
          go_wp2
          go_quiet (fail)
          go_wp2
          go_ret
          exact ⟨by rw [decide_eq_false HNN.out]; rfl, HB.out.trans ((pw_drewN _ _).mono HB.out.size)⟩
      · obtain rfl : i = xs.length := by omega
        have hee : xs = ys := by
          have h := HT.out
          rw [List.take_length, HLEN.out, List.take_length] at h
          exact h
        have HEE := Lib.hid hee
        clear hee
        go_wp2
        go_ret
        exact ⟨by rw [decide_eq_true HEE.out]; rfl, HB.out⟩
  · have hq : ((xs.length : Int) != (ys.length : Int)) = true := by simp; omega
    have HNE : Hid (xs ≠ ys) := Lib.hid fun e => hlen (by rw [e])
    clear hlen
    go_enter Try.func63, Try.ntmps63
    go_wp2_with fail
    go_ret
    exact ⟨by rw [decide_eq_false HNE.out]; rfl, Below.refl _ _⟩

def sameP (p q : Port) : Bool := decide (p = q)
theorem bytes_inj {s t : ByteArray} (h : s.toList = t.toList) : s = t := by
  rw [Lib.toList_data, Lib.toList_data] at h
  exact ByteArray.ext (Array.toList_inj.1 h)
theorem enter_f61 (args : Array Value) (W : World) : (callFunc 61 args).run Try.prog W = .ok (.enter 61 args) W := by kernel_rfl
theorem samePort_net (W : World) (A A2 : Option Addr) (c c2 : Nat) (p q : Port) (hp : Row kInt W (fun _ => False) (.slice A p.bits.length c) p.bits) (hq : Row kInt W (fun _ => False) (.slice A2 q.bits.length c2) q.bits) (hl : p.bits.length ≤ 1099511627776) :
    Calls Try.prog 61 #[portV A c p, portV A2 c2 q] W fun e W' => e = .returned (.bool (sameP p q)) ∧ Below W.heap.size W W' := by
  obtain ⟨s, bs⟩ := p
  obtain ⟨t, cs⟩ := q
  obtain ⟨o, ho⟩ : ∃ o : Obj, o = .cells #[.string s, .slice A bs.length c] 53 := ⟨_, rfl⟩
  obtain ⟨o2, ho2⟩ : ∃ o : Obj, o = .cells #[.string t, .slice A2 cs.length c2] 53 := ⟨_, rfl⟩
  have hb1 : Below W.heap.size W ((W.alloc o).alloc o2) := ((Below.refl _ _).alloc (Nat.le_refl _) _).alloc (by simp) _
  have he := equal_ints ((W.alloc o).alloc o2) _ _ bs cs (hp.later hb1) (hq.later hb1) hl
  subst ho
  subst ho2
  have HE := Lib.hid he
  have HB := Lib.hid hb1
  clear he hb1 hp hq
  by_cases hst : s = t
  · subst hst
    have HD : Hid (sameP ⟨s, bs⟩ ⟨s, cs⟩ = decide (bs = cs)) := Lib.hid (by rw [sameP, decide_eq_decide]; simp)
    go_enter Try.func61, Try.ntmps61
    go_wp2_with fail
    refine HE.out.mono ?_
    rintro e w2 ⟨rfl, hb2⟩
    have HB2 := Lib.hid (HB.out.trans (hb2.mono (by rw [World.size_alloc, World.size_alloc]; omega)))
    clear hb2
    go_wp2
    go_ret
    exact ⟨by rw [HD.out]; rfl, HB2.out⟩
  · have HD : Hid (sameP ⟨s, bs⟩ ⟨t, cs⟩ = false) := Lib.hid (decide_eq_false (by intro h; injection h with h1 h2; exact hst h1))
    have hq : (s.toList == t.toList) = false := by simpa using fun h => hst (bytes_inj h)
    clear hst
    go_enter Try.func61, Try.ntmps61
    go_wp2_with fail
    go_ret
    exact ⟨by rw [HD.out]; rfl, HB.out⟩

theorem equal_ports (w : World) (v u : Value) (xs ys : List Port) (hx : Row kPort w (fun _ => False) v xs) (hy : Row kPort w (fun _ => False) u ys) (hl : xs.length ≤ 1099511627776) (hb : ∀ q ∈ xs, q.bits.length ≤ 1099511627776) :
    Calls Try.prog 64 #[v, u, .func (.func 61) #[] #[]] w fun e w' => e = .returned (.bool (decide (xs = ys))) ∧ Below w.heap.size w w' := by
  obtain ⟨A, c, rfl, -, -⟩ := hx.shape
  obtain ⟨A2, c2, rfl, -, -⟩ := hy.shape
  have HX := Lib.hid hx
  have HY := Lib.hid hy
  have HBT := Lib.hid hb
  have he := enter_f61
  clear hx hy hb
  by_cases hlen : xs.length = ys.length
  · have hq : ((xs.length : Int) != (ys.length : Int)) = false := by simp [hlen]
    have HLEN := Lib.hid hlen
    have hly : ys.length ≤ 1099511627776 := by omega
    clear hlen
    go_enter Try.func64, Try.ntmps64
    go_wp2_with fail
    clear hq
    go_loopw [7, 8, 9, 17] (fun r1 r2 r3 iv wr => ∃ i : Nat, iv = .int .i64 i ∧ i ≤ xs.length ∧ Hid (xs.take i = ys.take i) ∧ Hid (Below w.heap.size w wr)) (fun r1 r2 r3 iv _ => xs.length - (intOf iv).toNat)
    case atStart => exact ⟨0, rfl, Nat.zero_le _, Lib.hid rfl, Lib.hid (Below.refl _ _)⟩
    case round =>
      obtain ⟨i, rfl, hi, HT, HB⟩ := hrel
      by_cases hlt : i < xs.length
      · have hlt2 : i < ys.length := by rw [← HLEN.out]; exact hlt
        obtain ⟨b, off, A3, d3, rfl, x0, x1, hxb⟩ := (HX.out.later HB.out).port_at hlt
        obtain ⟨b2, off2, A4, d4, rfl, y0, y1, hyb⟩ := (HY.out.later HB.out).port_at hlt2
        have HTS := Lib.hid (take_step HT.out hlt hlt2)
        have HNE := Lib.hid (ne_at (xs := xs) (ys := ys) hlt hlt2)
        have hpl := HBT.out _ (List.getElem_mem hlt)
        obtain ⟨x, hxx⟩ : ∃ x, xs[i] = x := ⟨_, rfl⟩
        obtain ⟨y, hyy⟩ : ∃ y, ys[i] = y := ⟨_, rfl⟩
        rw [hxx] at x0 x1 hxb hpl
        rw [hyy] at y0 y1 hyb
        rw [hxx, hyy] at HTS HNE
        clear hxx hyy
        have hb2 : Below wr.heap.size wr ((wr.alloc (.cells #[.string x.name, .slice A3 x.bits.length d3] 53)).alloc (.cells #[.string y.name, .slice A4 y.bits.length d4] 53)) := ((Below.refl _ _).alloc (Nat.le_refl _) _).alloc (by simp) _
        have y0' := cellBelow ((Below.refl wr.heap.size wr).alloc (Nat.le_refl _) (.cells #[.string x.name, .slice A3 x.bits.length d3] 53)) y0
        have y1' := cellBelow ((Below.refl wr.heap.size wr).alloc (Nat.le_refl _) (.cells #[.string x.name, .slice A3 x.bits.length d3] 53)) y1
        have HC := Lib.hid (samePort_net _ A3 A4 d3 d4 x y (hxb.later hb2) (hyb.later hb2) hpl)
        have HB2 := Lib.hid (HB.out.trans (hb2.mono HB.out.size))
        clear hb2 hxb hyb hpl
        go_wp2_with fail
        refine HC.out.mono ?_
        rintro e w2 ⟨rfl, hb3⟩
        have HB3 := Lib.hid (HB2.out.trans (hb3.mono HB2.out.size))
        clear hb3 HC y0' y1' x0 x1 y0 y1
        cases hs : sameP x y with
        | true =>
          have HTN := Lib.hid (HTS.out (of_decide_eq_true hs))
          clear hs HTS HNE
          go_wp2
          refine ⟨⟨i + 1, by go_num, by omega, HTN, HB3⟩, ?_⟩
          simp [intOf]; omega
        | false =>
          have HNN := Lib.hid (HNE.out (of_decide_eq_false hs))
          clear hs HTS HNE
          go_wp2
          go_ret
          exact ⟨by rw [decide_eq_false HNN.out]; rfl, HB3.out⟩
      · obtain rfl : i = xs.length := by omega
        have hee : xs = ys := by
          have h := HT.out
          rw [List.take_length, HLEN.out, List.take_length] at h
          exact h
        have HEE := Lib.hid hee
        clear hee
        go_wp2
        go_ret
        exact ⟨by rw [decide_eq_true HEE.out]; rfl, HB.out⟩
  · have hq : ((xs.length : Int) != (ys.length : Int)) = true := by simp; omega
    have HNE : Hid (xs ≠ ys) := Lib.hid fun e => hlen (by rw [e])
    clear hlen
    go_enter Try.func64, Try.ntmps64
    go_wp2_with fail
    go_ret
    exact ⟨by rw [decide_eq_false HNE.out]; rfl, Below.refl _ _⟩

theorem NetV.boxes {w : World} {v u : Value} {nodes nodes2 : List Node} {ins outs ins2 outs2 : List Port} (h : NetV w v nodes ins outs) (h2 : NetV w u nodes2 ins2 outs2) :
    ∃ An cn Ai ci Ao co Bn dn Bi di Bo eo, v = .agg #[.slice An nodes.length cn, .slice Ai ins.length ci, .slice Ao outs.length co] ∧ u = .agg #[.slice Bn nodes2.length dn, .slice Bi ins2.length di, .slice Bo outs2.length eo] ∧
      ∀ W, Below (w.heap.size + 2) ((w.alloc (netBox (.slice An nodes.length cn) (.slice Ai ins.length ci) (.slice Ao outs.length co))).alloc (netBox (.slice Bn nodes2.length dn) (.slice Bi ins2.length di) (.slice Bo outs2.length eo))) W →
        (W.cell? ⟨w.heap.size, 0, none⟩ = some (.slice An nodes.length cn) ∧ W.cell? ⟨w.heap.size, 1, none⟩ = some (.slice Ai ins.length ci) ∧ W.cell? ⟨w.heap.size, 2, none⟩ = some (.slice Ao outs.length co)) ∧
        (W.cell? ⟨w.heap.size + 1, 0, none⟩ = some (.slice Bn nodes2.length dn) ∧ W.cell? ⟨w.heap.size + 1, 1, none⟩ = some (.slice Bi ins2.length di) ∧ W.cell? ⟨w.heap.size + 1, 2, none⟩ = some (.slice Bo outs2.length eo)) ∧
        (Row kNode W (fun _ => False) (.slice An nodes.length cn) nodes ∧ Row kPort W (fun _ => False) (.slice Ai ins.length ci) ins ∧ Row kPort W (fun _ => False) (.slice Ao outs.length co) outs) ∧
        (Row kNode W (fun _ => False) (.slice Bn nodes2.length dn) nodes2 ∧ Row kPort W (fun _ => False) (.slice Bi ins2.length di) ins2 ∧ Row kPort W (fun _ => False) (.slice Bo outs2.length eo) outs2) ∧ Below w.heap.size w W := by
  obtain ⟨An, cn, Ai, ci, Ao, co, rfl, hb⟩ := h.box
  obtain ⟨vn, vi, vo, rfl, r1, r2, r3⟩ := h2
  obtain ⟨Bn, dn, rfl, -, -⟩ := r1.shape
  obtain ⟨Bi, di, rfl, -, -⟩ := r2.shape
  obtain ⟨Bo, eo, rfl, -, -⟩ := r3.shape
  refine ⟨An, cn, Ai, ci, Ao, co, Bn, dn, Bi, di, Bo, eo, rfl, rfl, fun W hW => ?_⟩
  have hs : (w.alloc (netBox (.slice An nodes.length cn) (.slice Ai ins.length ci) (.slice Ao outs.length co))).heap.size = w.heap.size + 1 := by simp
  have h1 : Below (w.heap.size + 1) (w.alloc (netBox (.slice An nodes.length cn) (.slice Ai ins.length ci) (.slice Ao outs.length co))) W := ((Below.refl _ _).alloc (by rw [hs]; exact Nat.le_refl _) _).trans (hW.mono (by omega))
  obtain ⟨c1, c2, c3, q1, q2, q3, hbw⟩ := hb W h1
  have hc : ∀ i, W.cell? ⟨w.heap.size + 1, i, none⟩ = _ := fun i => (hW.cell (p := ⟨w.heap.size + 1, i, none⟩) (by simp))
  have e0 : ((w.alloc (netBox (.slice An nodes.length cn) (.slice Ai ins.length ci) (.slice Ao outs.length co))).alloc (netBox (.slice Bn nodes2.length dn) (.slice Bi ins2.length di) (.slice Bo outs2.length eo))).cell? ⟨w.heap.size + 1, 0, none⟩ = some (.slice Bn nodes2.length dn) := by
    rw [← hs]
    exact World.cell?_alloc_new _ _ _ 0
  have e1 : ((w.alloc (netBox (.slice An nodes.length cn) (.slice Ai ins.length ci) (.slice Ao outs.length co))).alloc (netBox (.slice Bn nodes2.length dn) (.slice Bi ins2.length di) (.slice Bo outs2.length eo))).cell? ⟨w.heap.size + 1, 1, none⟩ = some (.slice Bi ins2.length di) := by
    rw [← hs]
    exact World.cell?_alloc_new _ _ _ 1
  have e2 : ((w.alloc (netBox (.slice An nodes.length cn) (.slice Ai ins.length ci) (.slice Ao outs.length co))).alloc (netBox (.slice Bn nodes2.length dn) (.slice Bi ins2.length di) (.slice Bo outs2.length eo))).cell? ⟨w.heap.size + 1, 2, none⟩ = some (.slice Bo outs2.length eo) := by
    rw [← hs]
    exact World.cell?_alloc_new _ _ _ 2
  exact ⟨⟨c1, c2, c3⟩, ⟨(hc 0).trans e0, (hc 1).trans e1, (hc 2).trans e2⟩, ⟨q1, q2, q3⟩, ⟨r1.later hbw, r2.later hbw, r3.later hbw⟩, hbw⟩

def sameN (n n2 : List Node) (i i2 o o2 : List Port) : Bool := (decide (n = n2) && decide (i = i2)) && decide (o = o2)
theorem same_net (w : World) (v u : Value) (nodes nodes2 : List Node) (ins outs ins2 outs2 : List Port) (hN : NetV w v nodes ins outs) (hM : NetV w u nodes2 ins2 outs2) (hnl : nodes.length ≤ 1099511627776) (hil : ins.length ≤ 1073741824) (hol : outs.length ≤ 1073741824)
    (hbits : ∀ q ∈ ins ++ outs, q.bits.length ≤ 1099511627776) :
    Calls Try.prog 28 #[v, u] w fun e w' => e = .returned (.bool (sameN nodes nodes2 ins ins2 outs outs2)) ∧ Below w.heap.size w w' := by
  obtain ⟨An, cn, Ai, ci, Ao, co, Bn, dn, Bi, di, Bo, eo, rfl, rfl, hbox⟩ := hN.boxes hM
  obtain ⟨w2, hw2⟩ : ∃ w2, w2 = ((w.alloc (netBox (.slice An nodes.length cn) (.slice Ai ins.length ci) (.slice Ao outs.length co))).alloc (netBox (.slice Bn nodes2.length dn) (.slice Bi ins2.length di) (.slice Bo outs2.length eo))) := ⟨_, rfl⟩
  have hsz : w2.heap.size = w.heap.size + 2 := by rw [hw2]; simp
  rw [← hw2] at hbox
  obtain ⟨⟨c0, c1, c2⟩, ⟨d0, d1, d2⟩, ⟨r0, r1, r2⟩, ⟨s0, s1, s2⟩, -⟩ := hbox w2 (Below.refl _ _)
  have HBOX := Lib.hid hbox
  have HSZ := Lib.hid hsz
  have hc63 := equal_nodes w2 _ _ nodes nodes2 r0 s0 hnl
  have HC := Lib.hid hc63
  have HBI := Lib.hid (fun q hq => hbits q (List.mem_append_left _ hq))
  have HBO := Lib.hid (fun q hq => hbits q (List.mem_append_right _ hq))
  rw [hw2] at c0 c1 c2 d0 d1 d2
  have HW := Lib.hid hw2
  clear hbox hsz hc63 hbits r0 r1 r2 s0 s1 s2 hN hM hw2
  go_enter Try.func28, Try.ntmps28
  go_wp2_with fail
  rw [← HW.out]
  clear c0 c1 c2 d0 d1 d2
  refine HC.out.mono ?_
  rintro e w3 ⟨rfl, hb3⟩
  have HB3 : Hid (Below (w.heap.size + 2) w2 w3) := Lib.hid (by rw [HSZ.out] at hb3; exact hb3)
  clear hb3 HC
  obtain ⟨⟨c0, c1, c2⟩, ⟨d0, d1, d2⟩, ⟨r0, r1, r2⟩, ⟨s0, s1, s2⟩, hbw⟩ := HBOX.out w3 HB3.out
  cases h1 : decide (nodes = nodes2) with
  | false =>
    have HR : Hid (sameN nodes nodes2 ins ins2 outs outs2 = false) := Lib.hid (by rw [sameN, h1]; rfl)
    have HBW := Lib.hid hbw
    clear h1 r0 r1 r2 s0 s1 s2 hbw
    go_wp2
    go_ret
    exact ⟨by rw [HR.out]; rfl, HBW.out⟩
  | true =>
    have H1 := Lib.hid h1
    have HC := Lib.hid (equal_ports w3 _ _ ins ins2 r1 s1 (by omega) HBI.out)
    clear h1 r0 r1 r2 s0 s1 s2 hbw
    go_wp2_with fail
    clear c0 c1 c2 d0 d1 d2
    refine HC.out.mono ?_
    rintro e w4 ⟨rfl, hb4⟩
    have HB4 := Lib.hid (HB3.out.trans (hb4.mono (by have := HB3.out.size; rw [HSZ.out] at this; exact this)))
    clear hb4 HC
    obtain ⟨⟨c0, c1, c2⟩, ⟨d0, d1, d2⟩, ⟨r0, r1, r2⟩, ⟨s0, s1, s2⟩, hbw⟩ := HBOX.out w4 HB4.out
    cases h2 : decide (ins = ins2) with
    | false =>
      have HR : Hid (sameN nodes nodes2 ins ins2 outs outs2 = false) := Lib.hid (by rw [sameN, h2, Bool.and_false]; rfl)
      have HBW := Lib.hid hbw
      clear h2 r0 r1 r2 s0 s1 s2 hbw
      go_wp2
      go_ret
      exact ⟨by rw [HR.out]; rfl, HBW.out⟩
    | true =>
      have H2 := Lib.hid h2
      have HC := Lib.hid (equal_ports w4 _ _ outs outs2 r2 s2 (by omega) HBO.out)
      clear h2 r0 r1 r2 s0 s1 s2 hbw
      go_wp2_with fail
      clear c0 c1 c2 d0 d1 d2
      refine HC.out.mono ?_
      rintro e w5 ⟨rfl, hb5⟩
      have HB5 := Lib.hid (HB4.out.trans (hb5.mono (by have := HB4.out.size; rw [HSZ.out] at this; exact this)))
      clear hb5 HC
      obtain ⟨-, -, -, -, hbw⟩ := HBOX.out w5 HB5.out
      have HBW := Lib.hid hbw
      have HR : Hid (sameN nodes nodes2 ins ins2 outs outs2 = decide (outs = outs2)) := Lib.hid (by rw [sameN, H1.out, H2.out]; rfl)
      clear hbw
      go_wp2
      go_ret
      exact ⟨by rw [HR.out]; rfl, HBW.out⟩
end Go.Proofs.Ytbfjacgfifecpaa
