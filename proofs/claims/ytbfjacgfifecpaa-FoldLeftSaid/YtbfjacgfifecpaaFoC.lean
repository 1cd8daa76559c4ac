/- fold: the walks of (*folder).both, odd, choice. -/
import Derived.Test.YtbfjacgfifecpaaFoB
namespace Go.Proofs.Ytbfjacgfifecpaa
open Go.RowKit


section
variable (w : World) (S : Nat → Prop) (G c : Nat) (A : Option Addr) (m : List Node) (hc : w.cell? ⟨G, 0, none⟩ = some (.slice A m.length c)) (hr : Row kNode w S (.slice A m.length c) m)
include hc hr
set_option maxHeartbeats 4000000 in
set_option maxRecDepth 100000 in
theorem both_net (x : Node) (ua ub : Nat) (hua : ua < m.length) (hub : ub < m.length) (hxa : x.a = ua) (hxb : x.b = ub) (v : Int) (hv : v = 0 ∨ v = 1) :
    Calls Try.prog 105 #[.pointer (some ⟨G, 0, none⟩), nodeV x, .int .i64 v] w fun e w' => e = .returned (.tuple #[nodeV (bothN m x v).1, .int .i64 (bothN m x v).2]) ∧ Below w.heap.size w w' := by
  obtain ⟨xk, xa, xb, xc⟩ := x
  dsimp only at hxa hxb
  obtain ⟨Wb, hWb⟩ : ∃ Wb, Wb = (w.alloc (ndBox ⟨xk, xa, xb, xc⟩)).alloc zeroNd := ⟨_, rfl⟩
  obtain ⟨hsb, hbx⟩ := box2 w ⟨xk, xa, xb, xc⟩ Wb hWb
  have HWB := Lib.hid hWb
  have HBX := Lib.hid hbx
  obtain ⟨⟨q0, q1, q2, q3⟩, -, -⟩ := hbx Wb (Below.refl _ _)
  have HIS := Lib.hid (fun (W : World) (hW : Below Wb.heap.size Wb W) (z : Int) (u : Nat) (hz : z = u) (hu : u < m.length) (v : Int) (i : Bool) (hi : isN m z v = i) => show Calls Try.prog 110 #[.pointer (some ⟨G, 0, none⟩), .int .i64 z, .int .i64 v] W fun e w' => e = .returned (.bool i) ∧ w' = W by subst hz; rw [← hi]; exact is_net W S G c A m (cellBelow (hbx W hW).2.2 hc) (hr.later (hbx W hW).2.2) u hu v)
  have HOT := Lib.hid (fun (W : World) (hW : Below Wb.heap.size Wb W) (y z : Int) (u v : Nat) (hy : y = u) (hz : z = v) (hu : u < m.length) (hv : v < m.length) (i : Bool) (hi : otherN m y z = i) => show Calls Try.prog 111 #[.pointer (some ⟨G, 0, none⟩), .int .i64 y, .int .i64 z] W fun e w' => e = .returned (.bool i) ∧ Below W.heap.size W w' by subst hy hz; rw [← hi]; exact other_net W S G c A m (cellBelow (hbx W hW).2.2 hc) (hr.later (hbx W hW).2.2) u v hu hv)
  clear hWb hsb hbx hc hr
  have hwv : IntKind.i64.wrap (1 - v) = 1 - v := IntWalk.i64_in _ (by omega)
  obtain ⟨i1, hi1⟩ : ∃ i, isN m xa v = i := ⟨_, rfl⟩
  obtain ⟨i2, hi2⟩ : ∃ i, isN m xb v = i := ⟨_, rfl⟩
  obtain ⟨i3, hi3⟩ : ∃ i, isN m xa (1 - v) = i := ⟨_, rfl⟩
  obtain ⟨i4, hi4⟩ : ∃ i, isN m xb (1 - v) = i := ⟨_, rfl⟩
  obtain ⟨i5, hi5⟩ : ∃ i, otherN m xa xb = i := ⟨_, rfl⟩
  have HR := Lib.hid (show bothN m ⟨xk, xa, xb, xc⟩ v = if (i1 || i2) = true then (⟨0, v, 0, 0⟩, -1) else if i3 = true then (⟨xk, xa, xb, xc⟩, xb) else if i4 = true then (⟨xk, xa, xb, xc⟩, xa) else if xa = xb then (⟨xk, xa, xb, xc⟩, xa) else if i5 = true then (⟨0, v, 0, 0⟩, -1) else (⟨xk, xa, xb, xc⟩, -1) by
    rw [bothN]
    simp only [hi1, hi2, hi3, hi4, hi5])
  have HEQ := Lib.hid (trivial)
  have HXA := Lib.hid hxa
  have HXB := Lib.hid hxb
  have HI1 := Lib.hid hi1
  have HI2 := Lib.hid hi2
  have HI3 := Lib.hid hi3
  have HI4 := Lib.hid hi4
  have HI5 := Lib.hid hi5
  clear hv hxa hxb hi1 hi2 hi3 hi4 hi5
  go_enter Try.func105, Try.ntmps105
  go_wp2_with fail
  rw [← HWB.out]
  go_quiet (fail)
  obtain ⟨W1, hW1⟩ : ∃ W1, W1 = Wb.drewN nq := ⟨_, rfl⟩
  have hdr : Below Wb.heap.size Wb W1 := by rw [hW1]; exact pw_drewN _ _
  rw [← hW1]
  clear q0 q1 q2 q3 hW1
  obtain ⟨⟨q0, q1, q2, q3⟩, ⟨⟨t0, t1, t2, t3⟩, ⟨f0, f1, f2, f3⟩⟩, hbw⟩ := HBX.out W1 hdr
  have HBW := Lib.hid hbw
  have HDR := Lib.hid hdr
  clear hdr hbw
  have H1 := Lib.hid (HIS.out W1 HDR.out xa ua HXA.out hua v i1 HI1.out)
  have H2 := Lib.hid (HIS.out W1 HDR.out xb ub HXB.out hub v i2 HI2.out)
  have H3 := Lib.hid (HIS.out W1 HDR.out xa ua HXA.out hua (1 - v) i3 HI3.out)
  have H4 := Lib.hid (HIS.out W1 HDR.out xb ub HXB.out hub (1 - v) i4 HI4.out)
  have H5 := Lib.hid (HOT.out W1 HDR.out xa xb ua ub HXA.out HXB.out hua hub i5 HI5.out)
  clear HI1 HI2 HI3 HI4 HI5 HIS HOT HXA HXB hua hub
  go_wp2_with fail
  refine H1.out.mono ?_
  rintro e w' ⟨rfl, rfl⟩
  cases i1 with
  | true =>
    obtain ⟨s0, s1, s2, s3⟩ := set4_cells (x0 := .int .i64 (0)) (x1 := .int .i64 (v)) (x2 := .int .i64 (0)) (x3 := .int .i64 (0)) t0 t1 t2 t3
    go_wp2_with fail
    refine bodyPost_ret (v := .tuple #[nodeV ⟨0, v, 0, 0⟩, .int .i64 (-1)]) (by simp [results, Try.results105, go_sem, s0, s1, s2, s3]) rfl ⟨by simp [HR.out, HEQ.out], ?_⟩
    repeat' first | exact HBW.out | refine Below.drew ?_ | refine Below.setCell ?_ (by simp) _
  | false =>
    go_wp2_with fail
    refine H2.out.mono ?_
    rintro e w' ⟨rfl, rfl⟩
    cases i2 with
    | true =>
      obtain ⟨s0, s1, s2, s3⟩ := set4_cells (x0 := .int .i64 (0)) (x1 := .int .i64 (v)) (x2 := .int .i64 (0)) (x3 := .int .i64 (0)) t0 t1 t2 t3
      go_wp2_with fail
      refine bodyPost_ret (v := .tuple #[nodeV ⟨0, v, 0, 0⟩, .int .i64 (-1)]) (by simp [results, Try.results105, go_sem, s0, s1, s2, s3]) rfl ⟨by simp [HR.out, HEQ.out], ?_⟩
      repeat' first | exact HBW.out | refine Below.drew ?_ | refine Below.setCell ?_ (by simp) _
    | false =>
      go_wp2_with fail
      refine H3.out.mono ?_
      rintro e w' ⟨rfl, rfl⟩
      cases i3 with
      | true =>
        obtain ⟨s0, s1, s2, s3⟩ := set4_cells (x0 := .int .i64 (xk)) (x1 := .int .i64 (xa)) (x2 := .int .i64 (xb)) (x3 := .int .i64 (xc)) t0 t1 t2 t3
        go_wp2_with fail
        refine bodyPost_ret (v := .tuple #[nodeV ⟨xk, xa, xb, xc⟩, .int .i64 (xb)]) (by simp [results, Try.results105, go_sem, s0, s1, s2, s3]) rfl ⟨by simp [HR.out, HEQ.out], ?_⟩
        repeat' first | exact HBW.out | refine Below.drew ?_ | refine Below.setCell ?_ (by simp) _
      | false =>
        go_wp2_with fail
        refine H4.out.mono ?_
        rintro e w' ⟨rfl, rfl⟩
        cases i4 with
        | true =>
          obtain ⟨s0, s1, s2, s3⟩ := set4_cells (x0 := .int .i64 (xk)) (x1 := .int .i64 (xa)) (x2 := .int .i64 (xb)) (x3 := .int .i64 (xc)) t0 t1 t2 t3
          go_wp2_with fail
          refine bodyPost_ret (v := .tuple #[nodeV ⟨xk, xa, xb, xc⟩, .int .i64 (xa)]) (by simp [results, Try.results105, go_sem, s0, s1, s2, s3]) rfl ⟨by simp [HR.out, HEQ.out], ?_⟩
          repeat' first | exact HBW.out | refine Below.drew ?_ | refine Below.setCell ?_ (by simp) _
        | false =>
          by_cases heq : xa = xb
          · subst heq
            obtain ⟨s0, s1, s2, s3⟩ := set4_cells (x0 := .int .i64 (xk)) (x1 := .int .i64 (xa)) (x2 := .int .i64 (xa)) (x3 := .int .i64 (xc)) t0 t1 t2 t3
            go_wp2_with fail
            refine bodyPost_ret (v := .tuple #[nodeV ⟨xk, xa, xa, xc⟩, .int .i64 (xa)]) (by simp [results, Try.results105, go_sem, s0, s1, s2, s3]) rfl ⟨by simp [HR.out, HEQ.out], ?_⟩
            repeat' first | exact HBW.out | refine Below.drew ?_ | refine Below.setCell ?_ (by simp) _
          · have hne : (xa == xb) = false := by simpa using heq
            have HEQ := Lib.hid heq
            clear heq
            go_wp2_with fail
            refine H5.out.mono ?_
            rintro e w2 ⟨rfl, hb2⟩
            have hb2' := HDR.out.trans (hb2.mono HDR.out.size)
            clear t0 t1 t2 t3 f0 f1 f2 f3 q0 q1 q2 q3
            obtain ⟨⟨q0, q1, q2, q3⟩, ⟨⟨t0, t1, t2, t3⟩, ⟨f0, f1, f2, f3⟩⟩, hbw⟩ := HBX.out w2 hb2'
            have HBO := Lib.hid hbw
            clear hb2 hb2' hbw
            cases i5 with
            | true =>
              obtain ⟨s0, s1, s2, s3⟩ := set4_cells (x0 := .int .i64 (0)) (x1 := .int .i64 (v)) (x2 := .int .i64 (0)) (x3 := .int .i64 (0)) t0 t1 t2 t3
              go_wp2_with fail
              refine bodyPost_ret (v := .tuple #[nodeV ⟨0, v, 0, 0⟩, .int .i64 (-1)]) (by simp [results, Try.results105, go_sem, s0, s1, s2, s3]) rfl ⟨by simp [HR.out, HEQ.out], ?_⟩
              repeat' first | exact HBO.out | refine Below.drew ?_ | refine Below.setCell ?_ (by simp) _
            | false =>
              obtain ⟨s0, s1, s2, s3⟩ := set4_cells (x0 := .int .i64 (xk)) (x1 := .int .i64 (xa)) (x2 := .int .i64 (xb)) (x3 := .int .i64 (xc)) t0 t1 t2 t3
              go_wp2_with fail
              refine bodyPost_ret (v := .tuple #[nodeV ⟨xk, xa, xb, xc⟩, .int .i64 (-1)]) (by simp [results, Try.results105, go_sem, s0, s1, s2, s3]) rfl ⟨by simp [HR.out, HEQ.out], ?_⟩
              repeat' first | exact HBO.out | refine Below.drew ?_ | refine Below.setCell ?_ (by simp) _
set_option maxHeartbeats 4000000 in
set_option maxRecDepth 100000 in
theorem odd_net (x : Node) (ua ub : Nat) (hua : ua < m.length) (hub : ub < m.length) (hxa : x.a = ua) (hxb : x.b = ub) :
    Calls Try.prog 106 #[.pointer (some ⟨G, 0, none⟩), nodeV x] w fun e w' => e = .returned (.tuple #[nodeV (oddN m x).1, .int .i64 (oddN m x).2]) ∧ Below w.heap.size w w' := by
  obtain ⟨xk, xa, xb, xc⟩ := x
  dsimp only at hxa hxb
  obtain ⟨Wb, hWb⟩ : ∃ Wb, Wb = (w.alloc (ndBox ⟨xk, xa, xb, xc⟩)).alloc zeroNd := ⟨_, rfl⟩
  obtain ⟨hsb, hbx⟩ := box2 w ⟨xk, xa, xb, xc⟩ Wb hWb
  have HWB := Lib.hid hWb
  have HBX := Lib.hid hbx
  obtain ⟨⟨q0, q1, q2, q3⟩, -, -⟩ := hbx Wb (Below.refl _ _)
  have HIS := Lib.hid (fun (W : World) (hW : Below Wb.heap.size Wb W) (z : Int) (u : Nat) (hz : z = u) (hu : u < m.length) (v : Int) (i : Bool) (hi : isN m z v = i) => show Calls Try.prog 110 #[.pointer (some ⟨G, 0, none⟩), .int .i64 z, .int .i64 v] W fun e w' => e = .returned (.bool i) ∧ w' = W by subst hz; rw [← hi]; exact is_net W S G c A m (cellBelow (hbx W hW).2.2 hc) (hr.later (hbx W hW).2.2) u hu v)
  have HOT := Lib.hid (fun (W : World) (hW : Below Wb.heap.size Wb W) (y z : Int) (u v : Nat) (hy : y = u) (hz : z = v) (hu : u < m.length) (hv : v < m.length) (i : Bool) (hi : otherN m y z = i) => show Calls Try.prog 111 #[.pointer (some ⟨G, 0, none⟩), .int .i64 y, .int .i64 z] W fun e w' => e = .returned (.bool i) ∧ Below W.heap.size W w' by subst hy hz; rw [← hi]; exact other_net W S G c A m (cellBelow (hbx W hW).2.2 hc) (hr.later (hbx W hW).2.2) u v hu hv)
  clear hWb hsb hbx hc hr
  obtain ⟨i1, hi1⟩ : ∃ i, isN m xa 0 = i := ⟨_, rfl⟩
  obtain ⟨i2, hi2⟩ : ∃ i, isN m xb 0 = i := ⟨_, rfl⟩
  obtain ⟨i3, hi3⟩ : ∃ i, isN m xa 1 = i := ⟨_, rfl⟩
  obtain ⟨i4, hi4⟩ : ∃ i, isN m xb 1 = i := ⟨_, rfl⟩
  obtain ⟨i5, hi5⟩ : ∃ i, otherN m xa xb = i := ⟨_, rfl⟩
  have HR := Lib.hid (show oddN m ⟨xk, xa, xb, xc⟩ = if xa = xb then (⟨0, 0, 0, 0⟩, -1) else if i1 = true then (⟨xk, xa, xb, xc⟩, xb) else if i2 = true then (⟨xk, xa, xb, xc⟩, xa) else if i3 = true then (⟨2, xb, 0, 0⟩, -1) else if i4 = true then (⟨2, xa, 0, 0⟩, -1) else if i5 = true then (⟨0, 1, 0, 0⟩, -1) else (⟨xk, xa, xb, xc⟩, -1) by
    rw [oddN]
    simp only [hi1, hi2, hi3, hi4, hi5])
  have HEQ := Lib.hid (trivial)
  have HXA := Lib.hid hxa
  have HXB := Lib.hid hxb
  have HI1 := Lib.hid hi1
  have HI2 := Lib.hid hi2
  have HI3 := Lib.hid hi3
  have HI4 := Lib.hid hi4
  have HI5 := Lib.hid hi5
  clear hxa hxb hi1 hi2 hi3 hi4 hi5
  go_enter Try.func106, Try.ntmps106
  go_wp2_with fail
  rw [← HWB.out]
  go_quiet (fail)
  obtain ⟨W1, hW1⟩ : ∃ W1, W1 = Wb.drewN nq := ⟨_, rfl⟩
  have hdr : Below Wb.heap.size Wb W1 := by rw [hW1]; exact pw_drewN _ _
  rw [← hW1]
  clear q0 q1 q2 q3 hW1
  obtain ⟨⟨q0, q1, q2, q3⟩, ⟨⟨t0, t1, t2, t3⟩, ⟨f0, f1, f2, f3⟩⟩, hbw⟩ := HBX.out W1 hdr
  have HBW := Lib.hid hbw
  have HDR := Lib.hid hdr
  clear hdr hbw
  have H1 := Lib.hid (HIS.out W1 HDR.out xa ua HXA.out hua 0 i1 HI1.out)
  have H2 := Lib.hid (HIS.out W1 HDR.out xb ub HXB.out hub 0 i2 HI2.out)
  have H3 := Lib.hid (HIS.out W1 HDR.out xa ua HXA.out hua 1 i3 HI3.out)
  have H4 := Lib.hid (HIS.out W1 HDR.out xb ub HXB.out hub 1 i4 HI4.out)
  have H5 := Lib.hid (HOT.out W1 HDR.out xa xb ua ub HXA.out HXB.out hua hub i5 HI5.out)
  clear HI1 HI2 HI3 HI4 HI5 HIS HOT HXA HXB hua hub
  by_cases heq : xa = xb
  · subst heq
    obtain ⟨s0, s1, s2, s3⟩ := set4_cells (x0 := .int .i64 (0)) (x1 := .int .i64 (0)) (x2 := .int .i64 (0)) (x3 := .int .i64 (0)) t0 t1 t2 t3
    go_wp2_with fail
    refine bodyPost_ret (v := .tuple #[nodeV ⟨0, 0, 0, 0⟩, .int .i64 (-1)]) (by simp [results, Try.results106, go_sem, s0, s1, s2, s3]) rfl ⟨by simp [HR.out, HEQ.out], ?_⟩
    repeat' first | exact HBW.out | refine Below.drew ?_ | refine Below.setCell ?_ (by simp) _
  · have hne : (xa == xb) = false := by simpa using heq
    have HEQ := Lib.hid heq
    clear heq
    go_wp2_with fail
    refine H1.out.mono ?_
    rintro e w' ⟨rfl, rfl⟩
    cases i1 with
    | true =>
      obtain ⟨s0, s1, s2, s3⟩ := set4_cells (x0 := .int .i64 (xk)) (x1 := .int .i64 (xa)) (x2 := .int .i64 (xb)) (x3 := .int .i64 (xc)) t0 t1 t2 t3
      go_wp2_with fail
      refine bodyPost_ret (v := .tuple #[nodeV ⟨xk, xa, xb, xc⟩, .int .i64 (xb)]) (by simp [results, Try.results106, go_sem, s0, s1, s2, s3]) rfl ⟨by simp [HR.out, HEQ.out], ?_⟩
      repeat' first | exact HBW.out | refine Below.drew ?_ | refine Below.setCell ?_ (by simp) _
    | false =>
      go_wp2_with fail
      refine H2.out.mono ?_
      rintro e w' ⟨rfl, rfl⟩
      cases i2 with
      | true =>
        obtain ⟨s0, s1, s2, s3⟩ := set4_cells (x0 := .int .i64 (xk)) (x1 := .int .i64 (xa)) (x2 := .int .i64 (xb)) (x3 := .int .i64 (xc)) t0 t1 t2 t3
        go_wp2_with fail
        refine bodyPost_ret (v := .tuple #[nodeV ⟨xk, xa, xb, xc⟩, .int .i64 (xa)]) (by simp [results, Try.results106, go_sem, s0, s1, s2, s3]) rfl ⟨by simp [HR.out, HEQ.out], ?_⟩
        repeat' first | exact HBW.out | refine Below.drew ?_ | refine Below.setCell ?_ (by simp) _
      | false =>
        go_wp2_with fail
        refine H3.out.mono ?_
        rintro e w' ⟨rfl, rfl⟩
        cases i3 with
        | true =>
          obtain ⟨s0, s1, s2, s3⟩ := set4_cells (x0 := .int .i64 (2)) (x1 := .int .i64 (xb)) (x2 := .int .i64 (0)) (x3 := .int .i64 (0)) t0 t1 t2 t3
          go_wp2_with fail
          refine bodyPost_ret (v := .tuple #[nodeV ⟨2, xb, 0, 0⟩, .int .i64 (-1)]) (by simp [results, Try.results106, go_sem, s0, s1, s2, s3]) rfl ⟨by simp [HR.out, HEQ.out], ?_⟩
          repeat' first | exact HBW.out | refine Below.drew ?_ | refine Below.setCell ?_ (by simp) _
        | false =>
          go_wp2_with fail
          refine H4.out.mono ?_
          rintro e w' ⟨rfl, rfl⟩
          cases i4 with
          | true =>
            obtain ⟨s0, s1, s2, s3⟩ := set4_cells (x0 := .int .i64 (2)) (x1 := .int .i64 (xa)) (x2 := .int .i64 (0)) (x3 := .int .i64 (0)) t0 t1 t2 t3
            go_wp2_with fail
            refine bodyPost_ret (v := .tuple #[nodeV ⟨2, xa, 0, 0⟩, .int .i64 (-1)]) (by simp [results, Try.results106, go_sem, s0, s1, s2, s3]) rfl ⟨by simp [HR.out, HEQ.out], ?_⟩
            repeat' first | exact HBW.out | refine Below.drew ?_ | refine Below.setCell ?_ (by simp) _
          | false =>
            go_wp2_with fail
            refine H5.out.mono ?_
            rintro e w2 ⟨rfl, hb2⟩
            have hb2' := HDR.out.trans (hb2.mono HDR.out.size)
            clear t0 t1 t2 t3 f0 f1 f2 f3 q0 q1 q2 q3
            obtain ⟨⟨q0, q1, q2, q3⟩, ⟨⟨t0, t1, t2, t3⟩, ⟨f0, f1, f2, f3⟩⟩, hbw⟩ := HBX.out w2 hb2'
            have HBO := Lib.hid hbw
            clear hb2 hb2' hbw
            cases i5 with
            | true =>
              obtain ⟨s0, s1, s2, s3⟩ := set4_cells (x0 := .int .i64 (0)) (x1 := .int .i64 (1)) (x2 := .int .i64 (0)) (x3 := .int .i64 (0)) t0 t1 t2 t3
              go_wp2_with fail
              refine bodyPost_ret (v := .tuple #[nodeV ⟨0, 1, 0, 0⟩, .int .i64 (-1)]) (by simp [results, Try.results106, go_sem, s0, s1, s2, s3]) rfl ⟨by simp [HR.out, HEQ.out], ?_⟩
              repeat' first | exact HBO.out | refine Below.drew ?_ | refine Below.setCell ?_ (by simp) _
            | false =>
              obtain ⟨s0, s1, s2, s3⟩ := set4_cells (x0 := .int .i64 (xk)) (x1 := .int .i64 (xa)) (x2 := .int .i64 (xb)) (x3 := .int .i64 (xc)) t0 t1 t2 t3
              go_wp2_with fail
              refine bodyPost_ret (v := .tuple #[nodeV ⟨xk, xa, xb, xc⟩, .int .i64 (-1)]) (by simp [results, Try.results106, go_sem, s0, s1, s2, s3]) rfl ⟨by simp [HR.out, HEQ.out], ?_⟩
              repeat' first | exact HBO.out | refine Below.drew ?_ | refine Below.setCell ?_ (by simp) _
set_option maxHeartbeats 4000000 in
set_option maxRecDepth 100000 in
theorem choice_net (x : Node) (ua ub uc : Nat) (hua : ua < m.length) (hub : ub < m.length) (huc : uc < m.length) (hxa : x.a = ua) (hxb : x.b = ub) (hxc : x.c = uc) :
    Calls Try.prog 107 #[.pointer (some ⟨G, 0, none⟩), nodeV x] w fun e w' => e = .returned (.tuple #[nodeV (choiceN m x).1, .int .i64 (choiceN m x).2]) ∧ Below w.heap.size w w' := by
  obtain ⟨xk, xa, xb, xc⟩ := x
  dsimp only at hxa hxb hxc
  obtain ⟨Wb, hWb⟩ : ∃ Wb, Wb = (w.alloc (ndBox ⟨xk, xa, xb, xc⟩)).alloc zeroNd := ⟨_, rfl⟩
  obtain ⟨hsb, hbx⟩ := box2 w ⟨xk, xa, xb, xc⟩ Wb hWb
  have HWB := Lib.hid hWb
  have HBX := Lib.hid hbx
  obtain ⟨⟨q0, q1, q2, q3⟩, -, -⟩ := hbx Wb (Below.refl _ _)
  have HIS := Lib.hid (fun (W : World) (hW : Below Wb.heap.size Wb W) (z : Int) (u : Nat) (hz : z = u) (hu : u < m.length) (v : Int) (i : Bool) (hi : isN m z v = i) => show Calls Try.prog 110 #[.pointer (some ⟨G, 0, none⟩), .int .i64 z, .int .i64 v] W fun e w' => e = .returned (.bool i) ∧ w' = W by subst hz; rw [← hi]; exact is_net W S G c A m (cellBelow (hbx W hW).2.2 hc) (hr.later (hbx W hW).2.2) u hu v)
  have HOT := Lib.hid (fun (W : World) (hW : Below Wb.heap.size Wb W) (y z : Int) (u v : Nat) (hy : y = u) (hz : z = v) (hu : u < m.length) (hv : v < m.length) (i : Bool) (hi : otherN m y z = i) => show Calls Try.prog 111 #[.pointer (some ⟨G, 0, none⟩), .int .i64 y, .int .i64 z] W fun e w' => e = .returned (.bool i) ∧ Below W.heap.size W w' by subst hy hz; rw [← hi]; exact other_net W S G c A m (cellBelow (hbx W hW).2.2 hc) (hr.later (hbx W hW).2.2) u v hu hv)
  clear hWb hsb hbx hc hr
  obtain ⟨c0, hc0⟩ : ∃ i, isN m xc 0 = i := ⟨_, rfl⟩
  obtain ⟨c1, hc1⟩ : ∃ i, isN m xc 1 = i := ⟨_, rfl⟩
  obtain ⟨a0, ha0⟩ : ∃ i, isN m xa 0 = i := ⟨_, rfl⟩
  obtain ⟨b1, hb1⟩ : ∃ i, isN m xb 1 = i := ⟨_, rfl⟩
  obtain ⟨a1, ha1⟩ : ∃ i, isN m xa 1 = i := ⟨_, rfl⟩
  obtain ⟨b0, hb0⟩ : ∃ i, isN m xb 0 = i := ⟨_, rfl⟩
  have HR := Lib.hid (show choiceN m ⟨xk, xa, xb, xc⟩ = if c0 = true then (⟨xk, xa, xb, xc⟩, xa) else if xa = xb ∧ c1 = false then (⟨xk, xa, xb, xc⟩, xa) else if c1 = true then (⟨xk, xa, xb, xc⟩, xb) else if (a0 && b1) = true then (⟨xk, xa, xb, xc⟩, xc) else if (a1 && b0) = true then (⟨2, xc, 0, 0⟩, -1) else if a0 = true then (⟨3, xb, xc, 0⟩, -1) else if b1 = true then (⟨4, xa, xc, 0⟩, -1) else (⟨xk, xa, xb, xc⟩, -1) by
    rw [choiceN]
    simp only [hc0, hc1, ha0, hb1, ha1, hb0])
  have HEQ := Lib.hid (trivial)
  have HXA := Lib.hid hxa
  have HXB := Lib.hid hxb
  have HXC := Lib.hid hxc
  have HI1 := Lib.hid hc0
  have HI2 := Lib.hid hc1
  have HI3 := Lib.hid ha0
  have HI4 := Lib.hid hb1
  have HI5 := Lib.hid ha1
  have HI6 := Lib.hid hb0
  clear hxa hxb hxc hc0 hc1 ha0 hb1 ha1 hb0
  go_enter Try.func107, Try.ntmps107
  go_wp2_with fail
  rw [← HWB.out]
  go_quiet (fail)
  obtain ⟨W1, hW1⟩ : ∃ W1, W1 = Wb.drewN nq := ⟨_, rfl⟩
  have hdr : Below Wb.heap.size Wb W1 := by rw [hW1]; exact pw_drewN _ _
  rw [← hW1]
  clear q0 q1 q2 q3 hW1
  obtain ⟨⟨q0, q1, q2, q3⟩, ⟨⟨t0, t1, t2, t3⟩, ⟨f0, f1, f2, f3⟩⟩, hbw⟩ := HBX.out W1 hdr
  have HBW := Lib.hid hbw
  have HDR := Lib.hid hdr
  clear hdr hbw
  have C0 := Lib.hid (HIS.out W1 HDR.out xc uc HXC.out huc 0 c0 HI1.out)
  have C1 := Lib.hid (HIS.out W1 HDR.out xc uc HXC.out huc 1 c1 HI2.out)
  have A0 := Lib.hid (HIS.out W1 HDR.out xa ua HXA.out hua 0 a0 HI3.out)
  have B1 := Lib.hid (HIS.out W1 HDR.out xb ub HXB.out hub 1 b1 HI4.out)
  have A1 := Lib.hid (HIS.out W1 HDR.out xa ua HXA.out hua 1 a1 HI5.out)
  have B0 := Lib.hid (HIS.out W1 HDR.out xb ub HXB.out hub 0 b0 HI6.out)
  clear HI1 HI2 HI3 HI4 HI5 HI6 HIS HOT HXA HXB HXC hua hub huc HBX HDR
  go_wp2_with fail
  refine C0.out.mono ?_
  rintro e w' ⟨rfl, rfl⟩
  cases c0 with
  | true =>
    obtain ⟨s0, s1, s2, s3⟩ := set4_cells (x0 := .int .i64 (xk)) (x1 := .int .i64 (xa)) (x2 := .int .i64 (xb)) (x3 := .int .i64 (xc)) t0 t1 t2 t3
    go_wp2_with fail
    refine bodyPost_ret (v := .tuple #[nodeV ⟨xk, xa, xb, xc⟩, .int .i64 (xa)]) (by simp [results, Try.results107, go_sem, s0, s1, s2, s3]) rfl ⟨by simp [HR.out, HEQ.out], ?_⟩
    repeat' first | exact HBW.out | refine Below.drew ?_ | refine Below.setCell ?_ (by simp) _
  | false =>
    by_cases heq : xa = xb
    · subst heq
      go_wp2_with fail
      refine C1.out.mono ?_
      rintro e w' ⟨rfl, rfl⟩
      cases c1 with
      | false =>
        obtain ⟨s0, s1, s2, s3⟩ := set4_cells (x0 := .int .i64 (xk)) (x1 := .int .i64 (xa)) (x2 := .int .i64 (xa)) (x3 := .int .i64 (xc)) t0 t1 t2 t3
        go_wp2_with fail
        refine bodyPost_ret (v := .tuple #[nodeV ⟨xk, xa, xa, xc⟩, .int .i64 (xa)]) (by simp [results, Try.results107, go_sem, s0, s1, s2, s3]) rfl ⟨by simp [HR.out, HEQ.out], ?_⟩
        repeat' first | exact HBW.out | refine Below.drew ?_ | refine Below.setCell ?_ (by simp) _
      | true =>
        go_wp2_with fail
        refine C1.out.mono ?_
        rintro e w' ⟨rfl, rfl⟩
        obtain ⟨s0, s1, s2, s3⟩ := set4_cells (x0 := .int .i64 (xk)) (x1 := .int .i64 (xa)) (x2 := .int .i64 (xa)) (x3 := .int .i64 (xc)) t0 t1 t2 t3
        go_wp2_with fail
        refine bodyPost_ret (v := .tuple #[nodeV ⟨xk, xa, xa, xc⟩, .int .i64 (xa)]) (by simp [results, Try.results107, go_sem, s0, s1, s2, s3]) rfl ⟨by simp [HR.out, HEQ.out], ?_⟩
        repeat' first | exact HBW.out | refine Below.drew ?_ | refine Below.setCell ?_ (by simp) _
    · have hne : (xa == xb) = false := by simpa using heq
      have HEQ := Lib.hid heq
      clear heq
      go_wp2_with fail
      refine C1.out.mono ?_
      rintro e w' ⟨rfl, rfl⟩
      cases c1 with
      | true =>
        obtain ⟨s0, s1, s2, s3⟩ := set4_cells (x0 := .int .i64 (xk)) (x1 := .int .i64 (xa)) (x2 := .int .i64 (xb)) (x3 := .int .i64 (xc)) t0 t1 t2 t3
        go_wp2_with fail
        refine bodyPost_ret (v := .tuple #[nodeV ⟨xk, xa, xb, xc⟩, .int .i64 (xb)]) (by simp [results, Try.results107, go_sem, s0, s1, s2, s3]) rfl ⟨by simp [HR.out, HEQ.out], ?_⟩
        repeat' first | exact HBW.out | refine Below.drew ?_ | refine Below.setCell ?_ (by simp) _
      | false =>
        go_wp2_with fail
        refine A0.out.mono ?_
        rintro e w' ⟨rfl, rfl⟩
        cases a0 with
        | true =>
          go_wp2_with fail
          refine B1.out.mono ?_
          rintro e w' ⟨rfl, rfl⟩
          cases b1 with
          | true =>
            obtain ⟨s0, s1, s2, s3⟩ := set4_cells (x0 := .int .i64 (xk)) (x1 := .int .i64 (xa)) (x2 := .int .i64 (xb)) (x3 := .int .i64 (xc)) t0 t1 t2 t3
            go_wp2_with fail
            refine bodyPost_ret (v := .tuple #[nodeV ⟨xk, xa, xb, xc⟩, .int .i64 (xc)]) (by simp [results, Try.results107, go_sem, s0, s1, s2, s3]) rfl ⟨by simp [HR.out, HEQ.out], ?_⟩
            repeat' first | exact HBW.out | refine Below.drew ?_ | refine Below.setCell ?_ (by simp) _
          | false =>
            go_wp2_with fail
            refine A1.out.mono ?_
            rintro e w' ⟨rfl, rfl⟩
            cases a1 with
            | true =>
              go_wp2_with fail
              refine B0.out.mono ?_
              rintro e w' ⟨rfl, rfl⟩
              cases b0 with
              | true =>
                obtain ⟨s0, s1, s2, s3⟩ := set4_cells (x0 := .int .i64 (2)) (x1 := .int .i64 (xc)) (x2 := .int .i64 (0)) (x3 := .int .i64 (0)) t0 t1 t2 t3
                go_wp2_with fail
                refine bodyPost_ret (v := .tuple #[nodeV ⟨2, xc, 0, 0⟩, .int .i64 (-1)]) (by simp [results, Try.results107, go_sem, s0, s1, s2, s3]) rfl ⟨by simp [HR.out, HEQ.out], ?_⟩
                repeat' first | exact HBW.out | refine Below.drew ?_ | refine Below.setCell ?_ (by simp) _
              | false =>
                go_wp2_with fail
                refine A0.out.mono ?_
                rintro e w' ⟨rfl, rfl⟩
                obtain ⟨s0, s1, s2, s3⟩ := set4_cells (x0 := .int .i64 (3)) (x1 := .int .i64 (xb)) (x2 := .int .i64 (xc)) (x3 := .int .i64 (0)) t0 t1 t2 t3
                go_wp2_with fail
                refine bodyPost_ret (v := .tuple #[nodeV ⟨3, xb, xc, 0⟩, .int .i64 (-1)]) (by simp [results, Try.results107, go_sem, s0, s1, s2, s3]) rfl ⟨by simp [HR.out, HEQ.out], ?_⟩
                repeat' first | exact HBW.out | refine Below.drew ?_ | refine Below.setCell ?_ (by simp) _
            | false =>
              go_wp2_with fail
              refine A0.out.mono ?_
              rintro e w' ⟨rfl, rfl⟩
              obtain ⟨s0, s1, s2, s3⟩ := set4_cells (x0 := .int .i64 (3)) (x1 := .int .i64 (xb)) (x2 := .int .i64 (xc)) (x3 := .int .i64 (0)) t0 t1 t2 t3
              go_wp2_with fail
              refine bodyPost_ret (v := .tuple #[nodeV ⟨3, xb, xc, 0⟩, .int .i64 (-1)]) (by simp [results, Try.results107, go_sem, s0, s1, s2, s3]) rfl ⟨by simp [HR.out, HEQ.out], ?_⟩
              repeat' first | exact HBW.out | refine Below.drew ?_ | refine Below.setCell ?_ (by simp) _
        | false =>
          go_wp2_with fail
          refine A1.out.mono ?_
          rintro e w' ⟨rfl, rfl⟩
          cases a1 with
          | true =>
            go_wp2_with fail
            refine B0.out.mono ?_
            rintro e w' ⟨rfl, rfl⟩
            cases b0 with
            | true =>
              obtain ⟨s0, s1, s2, s3⟩ := set4_cells (x0 := .int .i64 (2)) (x1 := .int .i64 (xc)) (x2 := .int .i64 (0)) (x3 := .int .i64 (0)) t0 t1 t2 t3
              go_wp2_with fail
              refine bodyPost_ret (v := .tuple #[nodeV ⟨2, xc, 0, 0⟩, .int .i64 (-1)]) (by simp [results, Try.results107, go_sem, s0, s1, s2, s3]) rfl ⟨by simp [HR.out, HEQ.out], ?_⟩
              repeat' first | exact HBW.out | refine Below.drew ?_ | refine Below.setCell ?_ (by simp) _
            | false =>
              go_wp2_with fail
              refine A0.out.mono ?_
              rintro e w' ⟨rfl, rfl⟩
              go_wp2_with fail
              refine B1.out.mono ?_
              rintro e w' ⟨rfl, rfl⟩
              cases b1 with
              | true =>
                obtain ⟨s0, s1, s2, s3⟩ := set4_cells (x0 := .int .i64 (4)) (x1 := .int .i64 (xa)) (x2 := .int .i64 (xc)) (x3 := .int .i64 (0)) t0 t1 t2 t3
                go_wp2_with fail
                refine bodyPost_ret (v := .tuple #[nodeV ⟨4, xa, xc, 0⟩, .int .i64 (-1)]) (by simp [results, Try.results107, go_sem, s0, s1, s2, s3]) rfl ⟨by simp [HR.out, HEQ.out], ?_⟩
                repeat' first | exact HBW.out | refine Below.drew ?_ | refine Below.setCell ?_ (by simp) _
              | false =>
                obtain ⟨s0, s1, s2, s3⟩ := set4_cells (x0 := .int .i64 (xk)) (x1 := .int .i64 (xa)) (x2 := .int .i64 (xb)) (x3 := .int .i64 (xc)) t0 t1 t2 t3
                go_wp2_with fail
                refine bodyPost_ret (v := .tuple #[nodeV ⟨xk, xa, xb, xc⟩, .int .i64 (-1)]) (by simp [results, Try.results107, go_sem, s0, s1, s2, s3]) rfl ⟨by simp [HR.out, HEQ.out], ?_⟩
                repeat' first | exact HBW.out | refine Below.drew ?_ | refine Below.setCell ?_ (by simp) _
          | false =>
            go_wp2_with fail
            refine A0.out.mono ?_
            rintro e w' ⟨rfl, rfl⟩
            go_wp2_with fail
            refine B1.out.mono ?_
            rintro e w' ⟨rfl, rfl⟩
            cases b1 with
            | true =>
              obtain ⟨s0, s1, s2, s3⟩ := set4_cells (x0 := .int .i64 (4)) (x1 := .int .i64 (xa)) (x2 := .int .i64 (xc)) (x3 := .int .i64 (0)) t0 t1 t2 t3
              go_wp2_with fail
              refine bodyPost_ret (v := .tuple #[nodeV ⟨4, xa, xc, 0⟩, .int .i64 (-1)]) (by simp [results, Try.results107, go_sem, s0, s1, s2, s3]) rfl ⟨by simp [HR.out, HEQ.out], ?_⟩
              repeat' first | exact HBW.out | refine Below.drew ?_ | refine Below.setCell ?_ (by simp) _
            | false =>
              obtain ⟨s0, s1, s2, s3⟩ := set4_cells (x0 := .int .i64 (xk)) (x1 := .int .i64 (xa)) (x2 := .int .i64 (xb)) (x3 := .int .i64 (xc)) t0 t1 t2 t3
              go_wp2_with fail
              refine bodyPost_ret (v := .tuple #[nodeV ⟨xk, xa, xb, xc⟩, .int .i64 (-1)]) (by simp [results, Try.results107, go_sem, s0, s1, s2, s3]) rfl ⟨by simp [HR.out, HEQ.out], ?_⟩
              repeat' first | exact HBW.out | refine Below.drew ?_ | refine Below.setCell ?_ (by simp) _
end
end Go.Proofs.Ytbfjacgfifecpaa
