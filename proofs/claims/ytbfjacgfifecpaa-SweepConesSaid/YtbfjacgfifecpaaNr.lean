/- The reference's Same. -/
import Derived.Test.YtbfjacgfifecpaaNq
namespace Go.Proofs.Ytbfjacgfifecpaa
open Go.RowKit

set_option maxHeartbeats 1000000 in
theorem ports_ref (w : World) (v u : Value) (xs ys : List Port) (hx : Row kPort w (fun _ => False) v xs) (hy : Row kPort w (fun _ => False) u ys) (hl : xs.length ≤ 1099511627776) (hb : ∀ q ∈ xs, q.bits.length ≤ 1099511627776) :
    Calls Try.prog 65 #[v, u] w fun e w' => e = .returned (.bool (decide (xs = ys))) ∧ Below w.heap.size w w' := by
  obtain ⟨A, c, rfl, -, -⟩ := hx.shape
  obtain ⟨A2, c2, rfl, -, -⟩ := hy.shape
  have HX := Lib.hid hx
  have HY := Lib.hid hy
  have HBT := Lib.hid hb
  clear hx hy hb
  by_cases hlen : xs.length = ys.length
  · have hq : ((xs.length : Int) != (ys.length : Int)) = false := by simp [hlen]
    have HLEN := Lib.hid hlen
    have hly : ys.length ≤ 1099511627776 := by omega
    clear hlen
    go_enter Try.func65, Try.ntmps65
    go_wp2_with fail
    clear hq
    go_loopw [5] (fun iv wr => ∃ i : Nat, iv = .int .i64 i ∧ i ≤ xs.length ∧ Hid (xs.take i = ys.take i) ∧ Hid (Below w.heap.size w wr)) (fun iv _ => xs.length - (intOf iv).toNat)
    case atStart => exact ⟨0, rfl, Nat.zero_le _, Lib.hid rfl, Lib.hid (Below.refl _ _)⟩
    case round =>
      obtain ⟨i, rfl, hi, HT, HB⟩ := hrel
      by_cases hlt : i < xs.length
      · have hlt2 : i < ys.length := by rw [← HLEN.out]; exact hlt
        obtain ⟨b, off, A3, d3, rfl, x0, x1, hxb⟩ := (HX.out.later HB.out).port_at hlt
        obtain ⟨b2, off2, A4, d4, rfl, y0, y1, hyb⟩ := (HY.out.later HB.out).port_at hlt2
        have HTS := Lib.hid (take_step HT.out hlt hlt2)
        have HNE := Lib.hid (ne_at (xs := xs) (ys := ys) hlt hlt2)
        have hpl := HBT.out _ (List.getElem_mem hlt)
        obtain ⟨x, hxx⟩ : ∃ x, xs[i] = x := ⟨_, rfl⟩
        obtain ⟨y, hyy⟩ : ∃ y, ys[i] = y := ⟨_, rfl⟩
        rw [hxx] at x0 x1 hxb hpl
        rw [hyy] at y0 y1 hyb
        rw [hxx, hyy] at HTS HNE
        clear hxx hyy
        obtain ⟨s, bs⟩ := x
        obtain ⟨t, cs⟩ := y
        dsimp only at x0 x1 hxb hpl y0 y1 hyb
        have hall : ∀ W, Below wr.heap.size wr W → W.cell? ⟨b, off + i * 2, none⟩ = some (.string s) ∧ W.cell? ⟨b, off + i * 2 + 1, none⟩ = some (.slice A3 bs.length d3) ∧ W.cell? ⟨b2, off2 + i * 2, none⟩ = some (.string t) ∧ W.cell? ⟨b2, off2 + i * 2 + 1, none⟩ = some (.slice A4 cs.length d4) := fun W hW => ⟨cellBelow hW x0, cellBelow hW x1, cellBelow hW y0, cellBelow hW y1⟩
        have HALL := Lib.hid hall
        have HX0 := Lib.hid (hall wr (Below.refl _ _))
        have HX1 := Lib.hid (hall wr.drew (Below.refl _ _).drew)
        have hcall : ∀ W, Below wr.heap.size wr W → _ := fun W hW => ints_ref W _ _ bs cs (hxb.later hW) (hyb.later hW) hpl
        have HC := Lib.hid hcall
        have HPL := Lib.hid hpl
        clear hall hxb hyb hpl hcall
        by_cases hst : s = t
        · subst hst
          have HTN : Hid (bs = cs → xs.take (i + 1) = ys.take (i + 1)) := Lib.hid fun h => HTS.out (by rw [h])
          have HNN : Hid (¬ bs = cs → xs ≠ ys) := Lib.hid fun h => HNE.out (by intro e; injection e with e1 e2; exact h e2)
          clear HTS HNE x0 x1 y0 y1
          go_wp2_with fail
          go_region_held3 (fun W => W.cell? ⟨b, off + i * 2, none⟩ = some (.string s) ∧ W.cell? ⟨b, off + i * 2 + 1, none⟩ = some (.slice A3 bs.length d3) ∧ W.cell? ⟨b2, off2 + i * 2, none⟩ = some (.string s) ∧ W.cell? ⟨b2, off2 + i * 2 + 1, none⟩ = some (.slice A4 cs.length d4))
            (first | with_reducible exact HX1.out | with_reducible exact HX0.out | with_reducible exact HALL.out _ HB3.out)
            (first | (go_at_call 21; refine (HC.out _ (Below.refl _ _).drew).mono ?_; rintro e w3 ⟨rfl, hb3⟩; have HB3 := Lib.hid ((Below.refl wr.heap.size wr).drew.trans (hb3.mono (Nat.le_refl _))); clear hb3))
          have HBN := Lib.hid (HB.out.trans (HB3.out.mono HB.out.size))
          cases hbc : decide (bs = cs) with
          | true =>
            have HTM := Lib.hid (HTN.out (of_decide_eq_true hbc))
            clear hbc HTN HNN
            go_wp2
            refine ⟨⟨i + 1, by go_num, by omega, HTM, HBN⟩, ?_⟩
            simp [intOf]; omega
          | false =>
            have HNM := Lib.hid (HNN.out (of_decide_eq_false hbc))
            clear hbc HTN HNN
            go_wp2
            go_ret
            exact ⟨by rw [decide_eq_false HNM.out]; rfl, HBN.out⟩
        · have HNN := Lib.hid (HNE.out (by intro h; injection h with h1 h2; exact hst h1))
          have hq : (s.toList == t.toList) = false := by simpa using fun h => hst (bytes_inj h)
          clear HTS HNE hst
          go_wp2
          go_quiet (fail)
          go_wp2
          go_ret
          exact ⟨by rw [decide_eq_false HNN.out]; rfl, HB.out.trans ((pw_drewN _ _).mono HB.out.size)⟩
      · obtain rfl : i = xs.length := by omega
        have hee : xs = ys := by
          have h := HT.out
          rw [List.take_length, HLEN.out, List.take_length] at h
          exact h
        have HEE := Lib.hid hee
        clear hee
        go_wp2
        go_ret
        exact ⟨by rw [decide_eq_true HEE.out]; rfl, HB.out⟩
  · have hq : ((xs.length : Int) != (ys.length : Int)) = true := by simp; omega
    have HNE : Hid (xs ≠ ys) := Lib.hid fun e => hlen (by rw [e])
    clear hlen
    go_enter Try.func65, Try.ntmps65
    go_wp2_with fail
    go_ret
    exact ⟨by rw [decide_eq_false HNE.out]; rfl, Below.refl _ _⟩

set_option maxHeartbeats 1000000 in
theorem sameNet_ref (w : World) (v u : Value) (nodes nodes2 : List Node) (ins outs ins2 outs2 : List Port) (hN : NetV w v nodes ins outs) (hM : NetV w u nodes2 ins2 outs2) (hnl : nodes.length ≤ 1099511627776) (hil : ins.length ≤ 1073741824) (hol : outs.length ≤ 1073741824)
    (hbits : ∀ q ∈ ins ++ outs, q.bits.length ≤ 1099511627776) :
    Calls Try.prog 29 #[v, u] w fun e w' => e = .returned (.bool (sameN nodes nodes2 ins ins2 outs outs2)) ∧ Below w.heap.size w w' := by
  obtain ⟨An, cn, Ai, ci, Ao, co, Bn, dn, Bi, di, Bo, eo, rfl, rfl, hbox⟩ := hN.boxes hM
  obtain ⟨w2, hw2⟩ : ∃ w2, w2 = ((w.alloc (netBox (.slice An nodes.length cn) (.slice Ai ins.length ci) (.slice Ao outs.length co))).alloc (netBox (.slice Bn nodes2.length dn) (.slice Bi ins2.length di) (.slice Bo outs2.length eo))) := ⟨_, rfl⟩
  have hsz : w2.heap.size = w.heap.size + 2 := by rw [hw2]; simp
  rw [← hw2] at hbox
  obtain ⟨⟨c0, c1, c2⟩, ⟨d0, d1, d2⟩, -, -, hbw⟩ := hbox w2 (Below.refl _ _)
  have HBOX := Lib.hid hbox
  have HSZ := Lib.hid hsz
  have HBI := Lib.hid (fun q hq => hbits q (List.mem_append_left _ hq))
  have HBO := Lib.hid (fun q hq => hbits q (List.mem_append_right _ hq))
  have HBW0 := Lib.hid hbw
  rw [hw2] at c0 c1 c2 d0 d1 d2
  have HW := Lib.hid hw2
  clear hbox hsz hbits hN hM hbw hw2
  by_cases hlen : nodes.length = nodes2.length
  · have hq : ((nodes.length : Int) != (nodes2.length : Int)) = false := by simp [hlen]
    have HLEN := Lib.hid hlen
    clear hlen
    go_enter Try.func29, Try.ntmps29
    go_wp2_with fail
    rw [← HW.out]
    clear hq c0 c1 c2 d0 d1 d2
    go_loopw [5] (fun iv wr => ∃ i : Nat, iv = .int .i64 i ∧ i ≤ nodes.length ∧ Hid (nodes.take i = nodes2.take i) ∧ Hid (Below (w.heap.size + 2) w2 wr)) (fun iv _ => nodes.length - (intOf iv).toNat)
    case atStart => exact ⟨0, rfl, Nat.zero_le _, Lib.hid rfl, Lib.hid (Below.refl _ _)⟩
    case round =>
      obtain ⟨i, rfl, hi, HT, HB⟩ := hrel
      obtain ⟨⟨c0, c1, c2⟩, ⟨d0, d1, d2⟩, ⟨r0, r1, r2⟩, ⟨s0, s1, s2⟩, hbw⟩ := HBOX.out wr HB.out
      have HBW := Lib.hid hbw
      clear hbw
      by_cases hlt : i < nodes.length
      · have hlt2 : i < nodes2.length := by rw [← HLEN.out]; exact hlt
        obtain ⟨b, off, rfl, x0, x1, x2, x3⟩ := r0.node_at hlt
        obtain ⟨b2, off2, rfl, y0, y1, y2, y3⟩ := s0.node_at hlt2
        have HTS := Lib.hid (take_step HT.out hlt hlt2)
        have HNE := Lib.hid (ne_at (xs := nodes) (ys := nodes2) hlt hlt2)
        obtain ⟨x, hxx⟩ : ∃ x, nodes[i] = x := ⟨_, rfl⟩
        obtain ⟨y, hyy⟩ : ∃ y, nodes2[i] = y := ⟨_, rfl⟩
        rw [hxx] at x0 x1 x2 x3
        rw [hyy] at y0 y1 y2 y3
        rw [hxx, hyy] at HTS HNE
        clear hxx hyy r0 r1 r2 s0 s1 s2
        obtain ⟨xk, xa, xb, xc⟩ := x
        obtain ⟨yk, ya, yb, yc⟩ := y
        dsimp only at x0 x1 x2 x3 y0 y1 y2 y3
        by_cases ek : xk = yk
        · subst ek
          by_cases ea : xa = ya
          · subst ea
            by_cases eb : xb = yb
            · subst eb
              by_cases ec : xc = yc
              · subst ec
                have HTN := Lib.hid (HTS.out rfl)
                clear HTS HNE
                go_wp2
                go_quiet (fail)
                go_wp2
                refine ⟨⟨i + 1, by go_num, by omega, HTN, Lib.hid (HB.out.trans ((pw_drewN _ _).mono (by have := HB.out.size; rw [HSZ.out] at this; exact this)))⟩, ?_⟩
                simp [intOf]; omega
              · have HNN := Lib.hid (HNE.out (by intro h; injection h with h1 h2 h3 h4; exact ec h4))
                have hq : (xc == yc) = false := by simpa using ec
                clear HTS HNE ec
                go_wp2
                go_quiet (fail)
                go_wp2
                go_ret
                exact ⟨by rw [sameN, decide_eq_false HNN.out]; rfl, HBW.out.trans ((pw_drewN _ _).mono HBW.out.size)⟩
            · have HNN := Lib.hid (HNE.out (by intro h; injection h with h1 h2 h3 h4; exact eb h3))
              have hq : (xb == yb) = false := by simpa using eb
              clear HTS HNE eb
              go_wp2
              go_quiet (fail)
              go_wp2
              go_ret
              exact ⟨by rw [sameN, decide_eq_false HNN.out]; rfl, HBW.out.trans ((pw_drewN _ _).mono HBW.out.size)⟩
          · have HNN := Lib.hid (HNE.out (by intro h; injection h with h1 h2 h3 h4; exact ea h2))
            have hq : (xa == ya) = false := by simpa using ea
            clear HTS HNE ea
            go_wp2
            go_quiet (fail)
            go_wp2
            go_ret
            exact ⟨by rw [sameN, decide_eq_false HNN.out]; rfl, HBW.out.trans ((pw_drewN _ _).mono HBW.out.size)⟩
        · have HNN := Lib.hid (HNE.out (by intro h; injection h with h1 h2 h3 h4; exact ek h1))
          have hq : (xk == yk) = false := by simpa using ek
          clear HTS HNE ek
          go_wp2
          go_quiet (fail)
          go_wp2
          go_ret
          exact ⟨by rw [sameN, decide_eq_false HNN.out]; rfl, HBW.out.trans ((pw_drewN _ _).mono HBW.out.size)⟩
      · obtain rfl : i = nodes.length := by omega
        have hee : nodes = nodes2 := by
          have h := HT.out
          rw [List.take_length, HLEN.out, List.take_length] at h
          exact h
        have H1 := Lib.hid (decide_eq_true hee)
        have HC := Lib.hid (ports_ref wr _ _ ins ins2 r1 s1 (by omega) HBI.out)
        clear hee r0 r1 r2 s0 s1 s2
        go_wp2_with fail
        clear c0 c1 c2 d0 d1 d2
        refine HC.out.mono ?_
        rintro e w4 ⟨rfl, hb4⟩
        have HB4 := Lib.hid (HB.out.trans (hb4.mono (by have := HB.out.size; rw [HSZ.out] at this; exact this)))
        clear hb4 HC
        obtain ⟨⟨c0, c1, c2⟩, ⟨d0, d1, d2⟩, ⟨r0, r1, r2⟩, ⟨s0, s1, s2⟩, hbw⟩ := HBOX.out w4 HB4.out
        cases h2 : decide (ins = ins2) with
        | false =>
          have HR : Hid (sameN nodes nodes2 ins ins2 outs outs2 = false) := Lib.hid (by rw [sameN, h2, Bool.and_false]; rfl)
          have HBW := Lib.hid hbw
          clear h2 r0 r1 r2 s0 s1 s2 hbw
          go_wp2
          go_ret
          exact ⟨by rw [HR.out]; rfl, HBW.out⟩
        | true =>
          have H2 := Lib.hid h2
          have HC := Lib.hid (ports_ref w4 _ _ outs outs2 r2 s2 (by omega) HBO.out)
          clear h2 r0 r1 r2 s0 s1 s2 hbw
          go_wp2_with fail
          clear c0 c1 c2 d0 d1 d2
          refine HC.out.mono ?_
          rintro e w5 ⟨rfl, hb5⟩
          have HB5 := Lib.hid (HB4.out.trans (hb5.mono (by have := HB4.out.size; rw [HSZ.out] at this; exact this)))
          clear hb5 HC
          obtain ⟨-, -, -, -, hbw⟩ := HBOX.out w5 HB5.out
          have HBW := Lib.hid hbw
          have HR : Hid (sameN nodes nodes2 ins ins2 outs outs2 = decide (outs = outs2)) := Lib.hid (by rw [sameN, H1.out, H2.out]; rfl)
          clear hbw
          go_wp2
          go_ret
          exact ⟨by rw [HR.out]; rfl, HBW.out⟩
  · have hq : ((nodes.length : Int) != (nodes2.length : Int)) = true := by simp; omega
    have HNE : Hid (nodes ≠ nodes2) := Lib.hid fun e => hlen (by rw [e])
    clear hlen
    go_enter Try.func29, Try.ntmps29
    go_wp2_with fail
    rw [← HW.out]
    go_ret
    exact ⟨by rw [sameN, decide_eq_false HNE.out]; rfl, HBW0.out⟩
end Go.Proofs.Ytbfjacgfifecpaa
