/- build.Fold, walked. -/
import Derived.Test.YtdljgifoboiaeaaFold
namespace Go.Proofs.Ytdljgifoboiaeaa
open Go.RowKit
attribute [local go_sem] Oper.semAt_some

theorem tmps_pat {l : List Value} {d : List Deferred} {T : (Nat → Value) → List Value} (h : T (fun i => l.getD i undef) = l) : ∃ u, ({ tmps := l.toArray, defers := d } : Act) = { tmps := (T u).toArray, defers := d } := ⟨_, by rw [h]⟩

section
variable {C : World → Prop} {p X : Nat} {st0 st st' : BSt} {w w' : World} {N n : Nat} {L : List Ent} {K F : (Int → Bool) → Prop}

set_option maxHeartbeats 4000000 in
set_option maxRecDepth 100000 in
theorem Env.fold (E : Env C p X st0 w st N L K) (kind : Int) {v : Value} {xs : List Int} (hx : Ent.word v xs ∈ L) (hN : N + 1024 < 1099511627776) :
    Calls Try.prog 118 #[.pointer (some ⟨p, 0, none⟩), .int .i64 kind, v] w (ToldPl C p X st0 st w (N + 1024) L K fun V c => V c = foldB kind (xs.map V)) := by
  have hl := E.len hx
  obtain ⟨A1, c1, rfl, -, -⟩ := E.shape hx
  obtain ⟨f, hgate, hrun, hlay⟩ := gate_fold p kind
  have HLAY := Lib.hid hlay
  clear hlay
  by_cases h0 : xs.length = 0
  · obtain rfl := List.length_eq_zero_iff.1 h0
    go_enter Try.func118, Try.ntmps118
    by_cases h3 : kind = 3
    · subst h3
      go_wp2_with fail
      refine (E.bit 1 (by omega)).mono ?_
      rintro e w2 ⟨c, st2, rfl, k, x, E2⟩
      go_wp2
      go_ret
      exact ⟨c, st2, rfl, k, x, (E2.cntle (by omega)).know fun V h => ⟨h.1, h.2.trans (by rfl)⟩⟩
    · have e3 : (kind == 3) = false := by simpa using h3
      go_wp2_with fail
      refine (E.bit 0 (by omega)).mono ?_
      rintro e w2 ⟨c, st2, rfl, k, x, E2⟩
      go_wp2
      go_ret
      exact ⟨c, st2, rfl, k, x, (E2.cntle (by omega)).know fun V h => ⟨h.1, h.2.trans (by simp [foldB, h3])⟩⟩
  · refine (callsIn_wide (n := 3)).1 (callsIn_of_wp_marks Try.func118 rfl trivial (wpIn_wide.2 ?_))
    simp only [Try.ntmps118, List.size_toArray, List.length_cons, List.length_nil, Nat.reduceAdd, Nat.reduceSub, Array.replicate_succ, Array.replicate_zero, List.push_toArray, List.append_toArray, List.nil_append, List.cons_append]
    go_wp2_with fail
    refine (hgate _).mono ?_
    rintro e w1 ⟨rfl, rfl⟩
    have E0 := E.mark.alloc (.cells #[.func (.func f) #[.pointer (some ⟨p, 0, none⟩)] #[]] 112)
    have hbl := E.box (.func (.func f) #[.pointer (some ⟨p, 0, none⟩)] #[]) 112
    have k0 := E0.c.2
    go_wp2_with fail
    refine (E0.clone (xs := xs) (by repeat with_reducible first | apply mem_hd | assumption | apply mem_tl)).mono ?_
    rintro e w2 ⟨v2, ys0, st2, hl2, rfl, k2, x2, f2, E2⟩
    obtain ⟨A2, c2, rfl, -, -⟩ := E2.shape (xs := ys0) (by repeat with_reducible first | apply mem_hd | assumption | apply mem_tl)
    have hbl := hbl.then k2
    obtain ⟨bl, hble⟩ : ∃ bl, w.heap.size = bl := ⟨_, rfl⟩
    have HBL := Lib.hid hble
    rw [hble] at hbl
    go_wp2_with fail
    have hpos : Hid (0 < ys0.length ∧ ys0.length ≤ xs.length) := Lib.hid (by have := hl2.out; omega)
    have hE2 := (E2.know (K' := fun V => K V ∧ foldB kind (ys0.map V) = foldB kind (xs.map V)) fun V h => ⟨h.1, by rw [h.2]⟩).cntle (N' := N + (xs.length - ys0.length)) (by omega)
    clear E2 E0 k0 k2 x2 f2 hble hgate
    refine wp_loop (fun a W => ∃ (A : Option Addr) (c : Nat) (ys : List Int) (st' : BSt) (ds : List Deferred), Hid (0 < ys.length ∧ ys.length ≤ xs.length) ∧ Box W p bl (.func (.func f) #[.pointer (some ⟨p, 0, none⟩)] #[]) ∧ Marks w.heap.size W ds ∧
      Env (fun a => C a ∧ Kept w.heap.size (some p) w a) p W.heap.size st W st' (N + (xs.length - ys.length)) (.word (.slice A ys.length c) ys :: L) (fun V => K V ∧ foldB kind (ys.map V) = foldB kind (xs.map V)) ∧
      ∃ u : Nat → Value, a = { tmps := ([u 0, u 1, u 2, u 3, u 4, u 5, u 6, u 7, .pointer (some ⟨bl, 0, none⟩), .slice A ys.length c, u 10, u 11, u 12, u 13, u 14, u 15, u 16, u 17, u 18, u 19, u 20, u 21, u 22, u 23, u 24, u 25, u 26, u 27, u 28, u 29, u 30, u 31, u 32, u 33, u 34, u 35, u 36, u 37, u 38, u 39, u 40, u 41, u 42, u 43, u 44, u 45, u 46, u 47, u 48, u 49, u 50, u 51, u 52]).toArray, defers := ds }) (fun a _ => lenOf (a.tmps.getD 9 undef)) ?start ?round
    case start => exact ⟨A2, c2, ys0, st2, [], hpos, hbl, Marks.nil _ _, hE2, tmps_pat rfl⟩
    case round =>
      clear hE2 hbl hl2 hpos
      rintro a W ⟨A, c, ys, st', ds, hn, hb, hm, E3, u, rfl⟩
      have hn1 := hn.out.1
      by_cases h1 : ys.length = 1
      · obtain ⟨b1, o1, rfl⟩ := E3.start_ (xs := ys) (by repeat with_reducible first | apply mem_hd | assumption | apply mem_tl) hn1
        have q0 : W.cell? ⟨b1, o1, none⟩ = some (.int .i64 ys[0]) := E3.cell (xs := ys) (by repeat with_reducible first | apply mem_hd | assumption | apply mem_tl) hn1
        obtain ⟨y0, rfl⟩ := List.length_eq_one_iff.1 h1
        have E4 : Env C p X st0 W st' (N + 1024) (.pl y0 :: L) (fun V => K V ∧ V y0 = foldB kind (xs.map V)) :=
          ((E.behind E3.c.2 E3.ext (E3.done E)).addPl ((E3.okay (xs := [y0]) (by repeat with_reducible first | apply mem_hd | assumption | apply mem_tl)).at (i := 0) Nat.zero_lt_one)).cntle (by omega) |>.know fun V h => ⟨h.1, by rw [← h.2]; exact (foldB_one kind _).symm⟩
        go_wp2
        refine leave_marks (B := w.heap.size) (v := .int .i64 y0) (fun w => by simp [results, Try.results118, go_sem]) (fun V => Kept w.heap.size (some p) w V ∧ Env C p X st0 V st' (N + 1024) (.pl y0 :: L) (fun V => K V ∧ V y0 = foldB kind (xs.map V))) (fun V V' row ⟨k, EV⟩ hg hr => ?_) (fun V ⟨k, EV⟩ => ⟨y0, st', rfl, k, E3.ext, EV⟩) ds W hm ⟨E3.c.2, E4⟩
        have hEs := E.size
        exact ⟨k.trans ((EV.lift hEs k.size).turned hg hr).2, (EV.turned hg fun r e => ⟨Nat.le_trans hEs (hr r e).1, (hr r e).2⟩).1⟩
      · have hn2 := hn.out.2
        have hlb : bl < W.heap.size := hb.lt
        have hys := E3.len (xs := ys) (by repeat with_reducible first | apply mem_hd | assumption | apply mem_tl)
        obtain ⟨b, off, rfl⟩ := E3.start_ (xs := ys) (by repeat with_reducible first | apply mem_hd | assumption | apply mem_tl) hn1
        obtain ⟨A', c', he, hcap, hmax⟩ := E3.shape (xs := ys) (by repeat with_reducible first | apply mem_hd | assumption | apply mem_tl)
        injection he with he1 he2 he3
        subst he3
        clear he1 he2
        have E5 := E3.alloc (.cells #[.slice none 0 0] 26)
        have bn := E3.box (.slice none 0 0) 26
        have E6 := E5.alloc (.cells #[.slice (some ⟨b, off, none⟩) ys.length c] 26)
        have bs := E5.box (.slice (some ⟨b, off, none⟩) ys.length c) 26
        have E7 := E6.alloc (.cells #[.int .i64 2] 3)
        have bk := E6.box (.int .i64 2) 3
        have ka : ∀ {V : World} (o : Obj), Env (fun a => C a ∧ Kept w.heap.size (some p) w a) p W.heap.size st V st' (N + (xs.length - ys.length)) (.word (.slice (some ⟨b, off, none⟩) ys.length c) ys :: L) (fun V => K V ∧ foldB kind (ys.map V) = foldB kind (xs.map V)) → Kept V.heap.size (some p) V (V.alloc o) := fun o EV => Kept.of_below_all ((Below.refl _ _).alloc (Nat.le_refl _) o) EV.rep.fin (Nat.le_refl _)
        have bn := (bn.then (ka (.cells #[.slice (some ⟨b, off, none⟩) ys.length c] 26) E5)).then (ka (.cells #[.int .i64 2] 3) E6)
        have bs := bs.then (ka (.cells #[.int .i64 2] 3) E6)
        have hb := ((hb.then (ka (.cells #[.slice none 0 0] 26) E3)).then (ka (.cells #[.slice (some ⟨b, off, none⟩) ys.length c] 26) E5)).then (ka (.cells #[.int .i64 2] 3) E6)
        have hm := ((hm.keep fun i hi h => Below.heap_alloc _ (.cells #[.slice none 0 0] 26) i hi).keep fun i hi h => Below.heap_alloc _ (.cells #[.slice (some ⟨b, off, none⟩) ys.length c] 26) i hi).keep fun i hi h => Below.heap_alloc _ (.cells #[.int .i64 2] 3) i hi
        go_wp2_with fail
        refine (chunk_calls _ _ _ _ _ (by decide)).mono ?_
        rintro e W2 ⟨rfl, rfl⟩
        clear E5 E6 ka
        go_wp2_with fail
        simp only [World.size_alloc] at bs bk
        obtain ⟨W2, hW2⟩ : ∃ W2, ((W.alloc (.cells #[.slice none 0 0] 26)).alloc (.cells #[.slice (some ⟨b, off, none⟩) ys.length c] 26)).alloc (.cells #[.int .i64 2] 3) = W2 := ⟨_, rfl⟩
        have hsz : W2.heap.size = W.heap.size + 1 + 1 + 1 := by rw [← hW2]; simp
        rw [hW2] at E7 bn bs bk hb hm ⊢
        have hlt : bl < W2.heap.size := hb.lt
        clear hW2
        obtain ⟨I, hID⟩ : ∃ I : List Nat → World → Prop, I = fun pre V => ∃ v r st'', Hid (r.length = pre.length) ∧ Box V p W.heap.size v ∧ Box V p (W.heap.size + 1) (.slice (some ⟨b, off, none⟩) ys.length c) ∧ Box V p (W.heap.size + 1 + 1) (.int .i64 2) ∧ Box V p bl (.func (.func f) #[.pointer (some ⟨p, 0, none⟩)] #[]) ∧ KeepsOthers W2 V ∧ Fine V p st'' W2.heap.size v r ∧
          Env (fun a => C a ∧ Kept w.heap.size (some p) w a) p W.heap.size st V st'' (N + (xs.length - ys.length) + ((ys.take (2 * pre.length)).length - pre.length)) (.word (.slice (some ⟨b, off, none⟩) ys.length c) ys :: L) (fun V => (K V ∧ foldB kind (ys.map V) = foldB kind (xs.map V)) ∧ foldB kind (r.map V) = foldB kind ((ys.take (2 * pre.length)).map V)) := ⟨_, rfl⟩
        have hI : ∀ pre, Calm W2.heap.size (I pre) := by
          rw [hID]
          rintro pre V V' row ⟨v, r, st'', g1, g2, g3, g4, g5, g6, g7, g8⟩ hg hr
          have hr' : ∀ r, row = some r → W.heap.size ≤ r ∧ ∃ o : Obj, V.heap[r]? = some o ∧ o.isCells = false := fun r e => ⟨by have := (hr r e).1; omega, (hr r e).2⟩
          exact ⟨v, r, st'', g1, g2.turned g8 hg hr', g3.turned g8 hg hr', g4.turned g8 hg hr', g5.turned g8 hg hr', ⟨Nat.le_trans g6.size hg.size, fun k o hk ho => (hg.block k (Array.getElem?_eq_some_iff.1 (g6.same k o hk ho)).1 fun e => by have := (hr k e.symm).1; have := (Array.getElem?_eq_some_iff.1 hk).1; omega).trans (g6.same k o hk ho)⟩, g7.turned g8 hg hr', (g8.turned hg hr').1⟩
        have hI0 : I [] W2 := hID ▸ ⟨.slice none 0 0, [], st', Lib.hid rfl, bn, bs, bk, hb, KeepsOthers.refl _, ⟨Own.nil _ _ _ _ _, Okay.nil _, by simp⟩, (E7.know fun V h => ⟨h, rfl⟩).cntle (by omega)⟩
        have HI := Lib.hid hI
        have HI0 := Lib.hid hI0
        have HID := Lib.hid hID
        clear hI hI0 hID
        refine wpIn_wide.1 (range_law (n := 3) (gf := 131) (lb := #[.pointer (some ⟨W.heap.size + 1, 0, none⟩), .pointer (some ⟨W.heap.size + 1 + 1, 0, none⟩)]) rfl (enters_of Try.func131 (by kernel_rfl) rfl) (chunk_iter 2 (W.heap.size + 1) (W.heap.size + 1 + 1) b off ys.length c 2 (by omega) (by unfold maxLen at hmax ⊢; omega)) (fun _ => rfl) W2.heap.size (Nat.le_refl _) I HI.out ?hBx HI0.out
          (fun i => { tmps := ([u 0, u 1, u 2, u 3, u 4, u 5, u 6, u 7, .pointer (some ⟨bl, 0, none⟩), .slice (some ⟨b, off, none⟩) ys.length c, .pointer (some ⟨W.heap.size, 0, none⟩), chunkOf b off ys.length 2 i, u 12, u 13, u 14, u 15, u 16, u 17, u 18, u 19, u 20, u 21, u 22, u 23, u 24, .slice (some ⟨b, off, none⟩) ys.length c, .int .i64 ys.length, .bool false, u 28, u 29, u 30, .slice (some ⟨b, off, none⟩) ys.length c, .func (.func 131) #[] #[.pointer (some ⟨W.heap.size + 1, 0, none⟩), .pointer (some ⟨W.heap.size + 1 + 1, 0, none⟩)], chunkOf b off ys.length 2 i, u 34, u 35, u 36, u 37, u 38, u 39, u 40, u 41, u 42, u 43, u 44, u 45, u 46, u 47, u 48, u 49, u 50, u 51, u 52]).toArray, defers := [] }) ?assign ?body ?done)
        case hBx =>
          intro pre V hI
          rw [HID.out] at hI
          obtain ⟨v, r, st'', g1, g2, g3, g4, g5, g6, g7, g8⟩ := hI
          exact ⟨g3.1, g4.1⟩
        case assign =>
          intro l x V K hK
          gi_wp2
          exact hK
        case body =>
          intro l pre i V hI hx
          rw [HID.out] at hI
          obtain ⟨v, r, st'', g1, g2, g3, g4, g5, g6, g7, g8⟩ := hI
          obtain ⟨hi, hin⟩ := hx
          obtain ⟨A'', c'', hv, -, -⟩ := g7.own.shape
          subst hv
          have ka := (g8.okay (xs := ys) (by repeat with_reducible first | apply mem_hd | assumption | apply mem_tl)).at hin
          have q0 : V.cell? ⟨b, off + i, none⟩ = some (.int .i64 ys[i]) := g8.cell (xs := ys) (by repeat with_reducible first | apply mem_hd | assumption | apply mem_tl) hin
          have HI := Lib.hid hi
          clear hi
          have hmx : Try.prog.follows .mixedOrders = true := by kernel_rfl
          by_cases h2 : i + 1 < ys.length
          · have hch : chunkOf b off ys.length 2 i = .slice (some ⟨b, off + i, none⟩) 2 2 := by unfold chunkOf; rw [show min 2 (ys.length - i) = 2 by omega]
            have kb := (g8.okay (xs := ys) (by repeat with_reducible first | apply mem_hd | assumption | apply mem_tl)).at h2
            have q1 : V.cell? ⟨b, off + i + 1, none⟩ = some (.int .i64 ys[i + 1]) := g8.cell (xs := ys) (by repeat with_reducible first | apply mem_hd | assumption | apply mem_tl) h2
            rw [hch]
            have q2 := g5.1
            gi_wp2
            refine regionIn (fun V' => V'.cell? ⟨bl, 0, none⟩ = some (.func (.func f) #[.pointer (some ⟨p, 0, none⟩)] #[]) ∧ V'.cell? ⟨b, off + i, none⟩ = some (.int .i64 ys[i]) ∧ V'.cell? ⟨b, off + i + 1, none⟩ = some (.int .i64 ys[i + 1])) hmx (by kernel_rfl) (fun ⟨_, _, h, _⟩ => by cases h) ⟨q2, q0, q1⟩ (fun hS => ?_)
            (refine takeOp (i := 0) (v := ?_) rfl (by kernel_rfl) (by kernel_rfl) (by kernel_rfl) (fun _ _ _ h => h) (by rfl) ?_ (by assumption) ?_; rotate_left; (focus (intro w hSw; (try dsimp only at hSw); go_simp; try with_reducible rfl)); (try simp only [Act.put, List.setIfInBounds_toArray, List.set_cons_zero, List.set_cons_succ])); (refine takeOp (i := 1) (v := ?_) rfl (by kernel_rfl) (by kernel_rfl) (by kernel_rfl) (fun _ _ _ h => h) (by rfl) ?_ (by assumption) ?_; rotate_left; (focus (intro w hSw; (try dsimp only at hSw); go_simp; try with_reducible rfl)); (try simp only [Act.put, List.setIfInBounds_toArray, List.set_cons_zero, List.set_cons_succ])); (refine takeOp (i := 2) (v := ?_) rfl (by kernel_rfl) (by kernel_rfl) (by kernel_rfl) (fun _ _ _ h => h) (by rfl) ?_ (by assumption) ?_; rotate_left; (focus (intro w hSw; (try dsimp only at hSw); go_simp; try with_reducible rfl)); (try simp only [Act.put, List.setIfInBounds_toArray, List.set_cons_zero, List.set_cons_succ])); (refine takeOp (i := 3) (v := ?_) rfl (by kernel_rfl) (by kernel_rfl) (by kernel_rfl) (fun _ _ _ h => h) (by rfl) ?_ (by assumption) ?_; rotate_left; (focus (intro w hSw; (try dsimp only at hSw); go_simp; try with_reducible rfl)); (try simp only [Act.put, List.setIfInBounds_toArray, List.set_cons_zero, List.set_cons_succ])); (refine takeOp (i := 4) (v := ?_) rfl (by kernel_rfl) (by kernel_rfl) (by kernel_rfl) (fun _ _ _ h => h) (by rfl) ?_ (by assumption) ?_; rotate_left; (focus (intro w hSw; (try dsimp only at hSw); go_simp; try with_reducible rfl)); (try simp only [Act.put, List.setIfInBounds_toArray, List.set_cons_zero, List.set_cons_succ])); (refine takeOp (i := 5) (v := ?_) rfl (by kernel_rfl) (by kernel_rfl) (by kernel_rfl) (fun _ _ _ h => h) (by rfl) ?_ (by assumption) ?_; rotate_left; (focus (intro w hSw; (try dsimp only at hSw); go_simp; try with_reducible rfl)); (try simp only [Act.put, List.setIfInBounds_toArray, List.set_cons_zero, List.set_cons_succ])); (refine takeOp (i := 6) (v := ?_) rfl (by kernel_rfl) (by kernel_rfl) (by kernel_rfl) (fun _ _ _ h => h) (by rfl) ?_ (by assumption) ?_; rotate_left; (focus (intro w hSw; (try dsimp only at hSw); go_simp; try with_reducible rfl)); (try simp only [Act.put, List.setIfInBounds_toArray, List.set_cons_zero, List.set_cons_succ]))
            have gd := g8.drew
            have hcd : N + (xs.length - ys.length) + ((ys.take (2 * pre.length)).length - pre.length) < 1099511627776 := by rw [List.length_take]; omega
            (refine onlyOp (i := 7) rfl (by kernel_rfl) (by rfl) fun K hK => ?_)
            go_simp
            refine (HLAY.out _ _ _ _ _ _ _ _ _ _ gd ka kb hcd).mono ?_
            rintro e w3 ⟨g, st3, rfl, k3, x3, E9⟩
            have k3' : Kept V.heap.size (some p) V w3 := g8.kdrew.then k3
            have q2' := (g5.then k3').1
            have q0' : w3.cell? ⟨b, off + i, none⟩ = some (.int .i64 ys[i]) := E9.cell (xs := ys) (by repeat with_reducible first | apply mem_hd | assumption | apply mem_tl) hin
            have q1' : w3.cell? ⟨b, off + i + 1, none⟩ = some (.int .i64 ys[i + 1]) := E9.cell (xs := ys) (by repeat with_reducible first | apply mem_hd | assumption | apply mem_tl) h2
            refine hK.out _ _ ⟨q2', q0', q1'⟩ (fun hHeld => ?_)
            clear hK K
            (try simp only [Act.put, List.setIfInBounds_toArray, List.set_cons_zero, List.set_cons_succ])
            have a3 : ∀ {A : Addr} {u : Value}, w3.cell? A = some u → (w3.alloc (.cells #[.int .i64 g] 3)).cell? A = some u := fun h => (World.cell?_alloc_some _ _ _ (by rw [h]; rfl)).trans h
            (refine onlyOp (i := 8) rfl (by kernel_rfl) (by rfl) fun K hK => ?_)
            go_simp
            refine hK.out _ _ ⟨a3 q2', a3 q0', a3 q1'⟩ (fun hHeld => ?_)
            clear hK K
            (try simp only [Act.put, List.setIfInBounds_toArray, List.set_cons_zero, List.set_cons_succ])
            (refine takeOp (i := 9) (v := ?_) rfl (by kernel_rfl) (by kernel_rfl) (by kernel_rfl) (fun _ _ _ h => h) (by rfl) ?_ (by assumption) ?_; rotate_left; (focus (intro w hSw; (try dsimp only at hSw); go_simp; try with_reducible rfl)); (try simp only [Act.put, List.setIfInBounds_toArray, List.set_cons_zero, List.set_cons_succ]))
            refine doneOp (by kernel_rfl) ?_
            clear hS hHeld a3 q0' q1' q2'
            have E10 := E9.alloc (.cells #[.int .i64 g] 3)
            have kq : Kept w3.heap.size (some p) w3 (w3.alloc (.cells #[.int .i64 g] 3)) := Kept.of_below_all ((Below.refl _ _).alloc (Nat.le_refl _) _) E9.rep.fin (Nat.le_refl _)
            have k10 := k3'.then kq
            have o10 : KeepsOthers V (w3.alloc (.cells #[.int .i64 g] 3)) := g8.others k10
            have f10 := (g7.kept k10 (x3)).lower (Nat.le_refl _)
            have b2 := g2.then k10
            have b3 := g3.then k10
            have b4 := g4.then k10
            have b5 := g5.then k10
            have q3 : (w3.alloc (.cells #[.int .i64 g] 3)).cell? ⟨w3.heap.size, 0, none⟩ = some (.int .i64 g) := by simp
            obtain ⟨W4, hW4⟩ : ∃ W4, w3.alloc (.cells #[.int .i64 g] 3) = W4 := ⟨_, rfl⟩
            have hs4 : Hid (W4.heap.size = w3.heap.size + 1) := Lib.hid (by rw [← hW4]; simp)
            rw [hW4] at E10 k10 o10 f10 b2 b3 b4 b5 q3 kq ⊢
            clear hW4
            gi_wp2
            have E11 := E10.drew
            have f11 := f10.drew E10
            have hB11 : W2.heap.size ≤ W4.drew.heap.size := by have h1 := g6.size; have h2 := k10.size; show W2.heap.size ≤ W4.heap.size; omega
            have b2 := b2.then E10.kdrew
            have b3 := b3.then E10.kdrew
            have b4 := b4.then E10.kdrew
            have b5 := b5.then E10.kdrew
            have kg := E11.at_ (c := g) (by repeat with_reducible first | apply mem_hd | assumption | apply mem_tl)
            have hcd2 : pre.length + 1 ≤ 1024 := by have := HI.out; omega
            have hblt : w3.heap.size < W4.drew.heap.size := by show w3.heap.size < W4.heap.size; have := hs4.out; omega
            have hne : ∀ g' : Nat, (Value.slice A'' r.length c'').ownBlock = some g' → g' ≠ w3.heap.size := fun g' h1 => by have := ((g7.kept k3' x3).own.base h1).2; omega
            have hbn : w3.heap.size ≠ W.heap.size := by have := k3'.size; have := g6.size; omega
            have hcnt : N + (xs.length - ys.length) + ((ys.take (2 * pre.length)).length - pre.length) + 1 ≤ N + (xs.length - ys.length) + ((ys.take (2 * (pre ++ [i]).length)).length - (pre ++ [i]).length) := by
              rw [List.length_append, List.length_singleton, List.length_take, List.length_take]; have := HI.out; omega
            have q3 : W4.drew.cell? ⟨w3.heap.size, 0, none⟩ = some (.int .i64 g) := q3
            have q4 := b2.1
            refine regionIn (fun V' => V'.cell? ⟨w3.heap.size, 0, none⟩ = some (.int .i64 g)) hmx (by kernel_rfl) (fun ⟨_, _, h, _⟩ => by cases h) q3 (fun hS => ?_)
            (refine takeOp (i := 1) (v := ?_) rfl (by kernel_rfl) (by kernel_rfl) (by kernel_rfl) (fun _ _ _ h => h) (by rfl) ?_ (by assumption) ?_; rotate_left; (focus (intro w hSw; (try dsimp only at hSw); go_simp; try with_reducible rfl)); (try simp only [Act.put, List.setIfInBounds_toArray, List.set_cons_zero, List.set_cons_succ])); (refine takeOp (i := 2) (v := ?_) rfl (by kernel_rfl) (by kernel_rfl) (by kernel_rfl) (fun _ _ _ h => h) (by rfl) ?_ (by assumption) ?_; rotate_left; (focus (intro w hSw; (try dsimp only at hSw); go_simp; try with_reducible rfl)); (try simp only [Act.put, List.setIfInBounds_toArray, List.set_cons_zero, List.set_cons_succ])); (refine takeOp (i := 3) (v := ?_) rfl (by kernel_rfl) (by kernel_rfl) (by kernel_rfl) (fun _ _ _ h => h) (by rfl) ?_ (by assumption) ?_; rotate_left; (focus (intro w hSw; (try dsimp only at hSw); go_simp; try with_reducible rfl)); (try simp only [Act.put, List.setIfInBounds_toArray, List.set_cons_zero, List.set_cons_succ]))
            have a4 : ∀ {A : Addr} {u : Value}, W4.drew.cell? A = some u → (W4.drew.alloc (.cells #[.int .i64 g] 3)).cell? A = some u := fun h => (World.cell?_alloc_some _ _ _ (by rw [h]; rfl)).trans h
            (refine twoOps (i := 0) (j := 4) rfl rfl (by kernel_rfl) (by rfl) (by rfl) (fun K hK => ?_) (fun K hK => ?_))
            · go_simp
              refine hK.out _ _ q3 (fun _ => ?_)
              clear hK K
              (try simp only [Act.put, List.setIfInBounds_toArray, List.set_cons_zero, List.set_cons_succ])
              (refine onlyOp (i := 4) rfl (by kernel_rfl) (by rfl) fun K hK => ?_)
              go_simp
              refine hK.out _ _ (a4 q3) (fun _ => ?_)
              clear hK K
              (try simp only [Act.put, List.setIfInBounds_toArray, List.set_cons_zero, List.set_cons_succ])
              (refine onlyOp (i := 5) rfl (by kernel_rfl) (by rfl) fun K hK => ?_)
              refine app2R (.tmp 46) (.tmp 50) rfl Try.underlying26 infoInt E11 f11 (by omega) hB11 rfl g rfl kg (by have := g1.out; omega) ?_
              intro v5 w5 k5 o5 gr5 f5 E5
              obtain ⟨A5, c5, hv5, -, -⟩ := f5.own.shape
              obtain ⟨m5, hm5⟩ : ∃ m, (r ++ [g]).length = m := ⟨_, rfl⟩
              rw [hm5] at hv5
              subst hv5
              clear hm5
              have q5 := (World.cell?_of_block (gr5.block _ hblt fun e => hne _ e.symm rfl)).trans q3
              have b2 := b2.kept k5 (by omega)
              refine hK.out _ _ q5 (fun _ => ?_)
              clear hK K
              (try simp only [Act.put, List.setIfInBounds_toArray, List.set_cons_zero, List.set_cons_succ])
              have q6 := b2.1
              have q7 := b2.2.1
              (refine onlyOp (i := 6) rfl (by kernel_rfl) (by rfl) fun K hK => ?_)
              go_simp
              have hst := b2.store E5 (Nat.le_refl _) (.slice A5 m5 c5)
              refine hK.out _ _ ((World.cell?_of_block (Below.heap_setCell w5 ⟨W.heap.size, 0, none⟩ (.slice A5 m5 c5) _ hbn)).trans q5) (fun _ => ?_)
              clear hK K
              (try simp only [Act.put, List.setIfInBounds_toArray, List.set_cons_zero, List.set_cons_succ])
              refine doneOp (by kernel_rfl) ?_
              obtain ⟨s1, s2, s3, s4, s5⟩ := hst
              gi_wp2
              refine ⟨((o10.trans (KeepsOthers.drew _)).trans o5).trans (KeepsOthers.setCell _ _ _), ?_⟩
              rw [HID.out]
              refine ⟨.slice A5 m5 c5, r ++ [g], _, Lib.hid (by rw [List.length_append, List.length_append, g1.out]; rfl), s1, s4 (b3.kept k5 (by omega)) (by omega), s4 (b4.kept k5 (by omega)) (by omega), s4 (b5.kept k5 (by omega)) (by omega), (((g6.trans o10).trans (KeepsOthers.drew _)).trans o5).trans (KeepsOthers.setCell _ _ _), s5 f5 (by omega), (s2.only (by repeat with_reducible first | refine sub_cons (by repeat with_reducible first | apply mem_hd | assumption | apply mem_tl) ?_ | exact sub_nil | apply sub_refl | apply sub_tail)).cntle hcnt |>.know fun V hV => ?_⟩
              rw [← HI.out] at hV
              rw [List.length_append, List.length_singleton, Nat.mul_add, ← HI.out]
              exact ⟨hV.1.1, by rw [fold_snoc, hV.2, hV.1.2, fold_two kind V h2]⟩
            · go_simp
              refine hK.out _ _ (a4 q3) (fun _ => ?_)
              clear hK K
              (try simp only [Act.put, List.setIfInBounds_toArray, List.set_cons_zero, List.set_cons_succ])
              have q4 : (W4.alloc (.cells #[.int .i64 g] 3)).drew.cell? ⟨W.heap.size, 0, none⟩ = some (.slice A'' r.length c'') := a4 q4
              (refine onlyOp (i := 0) rfl (by kernel_rfl) (by rfl) fun K hK => ?_)
              go_simp
              refine hK.out _ _ (a4 q3) (fun _ => ?_)
              clear hK K
              (try simp only [Act.put, List.setIfInBounds_toArray, List.set_cons_zero, List.set_cons_succ])
              (refine onlyOp (i := 5) rfl (by kernel_rfl) (by rfl) fun K hK => ?_)
              refine app2R (.tmp 46) (.tmp 50) rfl Try.underlying26 infoInt E11 f11 (by omega) hB11 rfl g rfl kg (by have := g1.out; omega) ?_
              intro v5 w5 k5 o5 gr5 f5 E5
              obtain ⟨A5, c5, hv5, -, -⟩ := f5.own.shape
              obtain ⟨m5, hm5⟩ : ∃ m, (r ++ [g]).length = m := ⟨_, rfl⟩
              rw [hm5] at hv5
              subst hv5
              clear hm5
              have q5 := (World.cell?_of_block (gr5.block _ hblt fun e => hne _ e.symm rfl)).trans q3
              have b2 := b2.kept k5 (by omega)
              refine hK.out _ _ q5 (fun _ => ?_)
              clear hK K
              (try simp only [Act.put, List.setIfInBounds_toArray, List.set_cons_zero, List.set_cons_succ])
              have q6 := b2.1
              have q7 := b2.2.1
              (refine onlyOp (i := 6) rfl (by kernel_rfl) (by rfl) fun K hK => ?_)
              go_simp
              have hst := b2.store E5 (Nat.le_refl _) (.slice A5 m5 c5)
              refine hK.out _ _ ((World.cell?_of_block (Below.heap_setCell w5 ⟨W.heap.size, 0, none⟩ (.slice A5 m5 c5) _ hbn)).trans q5) (fun _ => ?_)
              clear hK K
              (try simp only [Act.put, List.setIfInBounds_toArray, List.set_cons_zero, List.set_cons_succ])
              refine doneOp (by kernel_rfl) ?_
              obtain ⟨s1, s2, s3, s4, s5⟩ := hst
              gi_wp2
              refine ⟨((o10.trans (KeepsOthers.drew _)).trans o5).trans (KeepsOthers.setCell _ _ _), ?_⟩
              rw [HID.out]
              refine ⟨.slice A5 m5 c5, r ++ [g], _, Lib.hid (by rw [List.length_append, List.length_append, g1.out]; rfl), s1, s4 (b3.kept k5 (by omega)) (by omega), s4 (b4.kept k5 (by omega)) (by omega), s4 (b5.kept k5 (by omega)) (by omega), (((g6.trans o10).trans (KeepsOthers.drew _)).trans o5).trans (KeepsOthers.setCell _ _ _), s5 f5 (by omega), (s2.only (by repeat with_reducible first | refine sub_cons (by repeat with_reducible first | apply mem_hd | assumption | apply mem_tl) ?_ | exact sub_nil | apply sub_refl | apply sub_tail)).cntle hcnt |>.know fun V hV => ?_⟩
              rw [← HI.out] at hV
              rw [List.length_append, List.length_singleton, Nat.mul_add, ← HI.out]
              exact ⟨hV.1.1, by rw [fold_snoc, hV.2, hV.1.2, fold_two kind V h2]⟩
          · have hch : chunkOf b off ys.length 2 i = .slice (some ⟨b, off + i, none⟩) 1 1 := by unfold chunkOf; rw [show min 2 (ys.length - i) = 1 by omega]
            rw [hch]
            gi_wp2
            have E11 := g8.drew
            have f11 := g7.drew g8
            have o10 := KeepsOthers.refl V
            have hB11 : W2.heap.size ≤ V.drew.heap.size := g6.size
            have b2 := g2.then g8.kdrew
            have b3 := g3.then g8.kdrew
            have b4 := g4.then g8.kdrew
            have b5 := g5.then g8.kdrew
            have kg := ka
            have hcd2 : pre.length + 1 ≤ 1024 := by have := HI.out; omega
            obtain ⟨Ab, cb, cssb, hvb, -, -, -, -, hrb⟩ := g8.wd (xs := ys) (by repeat with_reducible first | apply mem_hd | assumption | apply mem_tl)
            obtain ⟨bb, ob, heb, hbb1, hbb2, -⟩ := hrb hn1
            have hbX : b < W.heap.size := by
              injection hvb with hvb
              rw [← hvb] at heb
              injection heb with heb
              injection heb with heb
              subst heb
              exact Nat.lt_of_not_le fun h => hbb2 (.inl h)
            clear hvb hrb heb hbb1 hbb2
            have hblt : b < V.drew.heap.size := by have := g6.size; show b < V.heap.size; omega
            have hne : ∀ g' : Nat, (Value.slice A'' r.length c'').ownBlock = some g' → g' ≠ b := fun g' h1 => by have := (g7.own.base h1).1; omega
            have hbn : b ≠ W.heap.size := by omega
            have hcnt : N + (xs.length - ys.length) + ((ys.take (2 * pre.length)).length - pre.length) ≤ N + (xs.length - ys.length) + ((ys.take (2 * (pre ++ [i]).length)).length - (pre ++ [i]).length) := by
              rw [List.length_append, List.length_singleton, List.length_take, List.length_take]; have := HI.out; omega
            have q3 : V.drew.cell? ⟨b, off + i, none⟩ = some (.int .i64 ys[i]) := q0
            have q4 := b2.1
            refine regionIn (fun V' => V'.cell? ⟨b, off + i, none⟩ = some (.int .i64 ys[i])) hmx (by kernel_rfl) (fun ⟨_, _, h, _⟩ => by cases h) q3 (fun hS => ?_)
            (refine takeOp (i := 1) (v := ?_) rfl (by kernel_rfl) (by kernel_rfl) (by kernel_rfl) (fun _ _ _ h => h) (by rfl) ?_ (by assumption) ?_; rotate_left; (focus (intro w hSw; (try dsimp only at hSw); go_simp; try with_reducible rfl)); (try simp only [Act.put, List.setIfInBounds_toArray, List.set_cons_zero, List.set_cons_succ])); (refine takeOp (i := 2) (v := ?_) rfl (by kernel_rfl) (by kernel_rfl) (by kernel_rfl) (fun _ _ _ h => h) (by rfl) ?_ (by assumption) ?_; rotate_left; (focus (intro w hSw; (try dsimp only at hSw); go_simp; try with_reducible rfl)); (try simp only [Act.put, List.setIfInBounds_toArray, List.set_cons_zero, List.set_cons_succ])); (refine takeOp (i := 3) (v := ?_) rfl (by kernel_rfl) (by kernel_rfl) (by kernel_rfl) (fun _ _ _ h => h) (by rfl) ?_ (by assumption) ?_; rotate_left; (focus (intro w hSw; (try dsimp only at hSw); go_simp; try with_reducible rfl)); (try simp only [Act.put, List.setIfInBounds_toArray, List.set_cons_zero, List.set_cons_succ]))
            have a4 : ∀ {A : Addr} {u : Value}, V.drew.cell? A = some u → (V.drew.alloc (.cells #[.int .i64 ys[i]] 3)).cell? A = some u := fun h => (World.cell?_alloc_some _ _ _ (by rw [h]; rfl)).trans h
            (refine twoOps (i := 0) (j := 4) rfl rfl (by kernel_rfl) (by rfl) (by rfl) (fun K hK => ?_) (fun K hK => ?_))
            · go_simp
              refine hK.out _ _ q3 (fun _ => ?_)
              clear hK K
              (try simp only [Act.put, List.setIfInBounds_toArray, List.set_cons_zero, List.set_cons_succ])
              (refine onlyOp (i := 4) rfl (by kernel_rfl) (by rfl) fun K hK => ?_)
              go_simp
              refine hK.out _ _ (a4 q3) (fun _ => ?_)
              clear hK K
              (try simp only [Act.put, List.setIfInBounds_toArray, List.set_cons_zero, List.set_cons_succ])
              (refine onlyOp (i := 5) rfl (by kernel_rfl) (by rfl) fun K hK => ?_)
              refine app2R (.tmp 46) (.tmp 50) rfl Try.underlying26 infoInt E11 f11 (by omega) hB11 rfl ys[i] rfl kg (by have := g1.out; omega) ?_
              intro v5 w5 k5 o5 gr5 f5 E5
              obtain ⟨A5, c5, hv5, -, -⟩ := f5.own.shape
              obtain ⟨m5, hm5⟩ : ∃ m, (r ++ [ys[i]]).length = m := ⟨_, rfl⟩
              rw [hm5] at hv5
              subst hv5
              clear hm5
              have q5 := (World.cell?_of_block (gr5.block _ hblt fun e => hne _ e.symm rfl)).trans q3
              have b2 := b2.kept k5 (by omega)
              refine hK.out _ _ q5 (fun _ => ?_)
              clear hK K
              (try simp only [Act.put, List.setIfInBounds_toArray, List.set_cons_zero, List.set_cons_succ])
              have q6 := b2.1
              have q7 := b2.2.1
              (refine onlyOp (i := 6) rfl (by kernel_rfl) (by rfl) fun K hK => ?_)
              go_simp
              have hst := b2.store E5 (Nat.le_refl _) (.slice A5 m5 c5)
              refine hK.out _ _ ((World.cell?_of_block (Below.heap_setCell w5 ⟨W.heap.size, 0, none⟩ (.slice A5 m5 c5) _ hbn)).trans q5) (fun _ => ?_)
              clear hK K
              (try simp only [Act.put, List.setIfInBounds_toArray, List.set_cons_zero, List.set_cons_succ])
              refine doneOp (by kernel_rfl) ?_
              obtain ⟨s1, s2, s3, s4, s5⟩ := hst
              gi_wp2
              refine ⟨((o10.trans (KeepsOthers.drew _)).trans o5).trans (KeepsOthers.setCell _ _ _), ?_⟩
              rw [HID.out]
              refine ⟨.slice A5 m5 c5, r ++ [ys[i]], _, Lib.hid (by rw [List.length_append, List.length_append, g1.out]; rfl), s1, s4 (b3.kept k5 (by omega)) (by omega), s4 (b4.kept k5 (by omega)) (by omega), s4 (b5.kept k5 (by omega)) (by omega), (((g6.trans o10).trans (KeepsOthers.drew _)).trans o5).trans (KeepsOthers.setCell _ _ _), s5 f5 (by omega), (s2.only (by repeat with_reducible first | refine sub_cons (by repeat with_reducible first | apply mem_hd | assumption | apply mem_tl) ?_ | exact sub_nil | apply sub_refl | apply sub_tail)).cntle hcnt |>.know fun V hV => ?_⟩
              rw [← HI.out] at hV
              rw [List.length_append, List.length_singleton, Nat.mul_add, ← HI.out]
              exact ⟨hV.1, by rw [fold_snoc, hV.2, fold_last kind V hin (by omega)]⟩
            · go_simp
              refine hK.out _ _ (a4 q3) (fun _ => ?_)
              clear hK K
              (try simp only [Act.put, List.setIfInBounds_toArray, List.set_cons_zero, List.set_cons_succ])
              have q4 : (V.alloc (.cells #[.int .i64 ys[i]] 3)).drew.cell? ⟨W.heap.size, 0, none⟩ = some (.slice A'' r.length c'') := a4 q4
              (refine onlyOp (i := 0) rfl (by kernel_rfl) (by rfl) fun K hK => ?_)
              go_simp
              refine hK.out _ _ (a4 q3) (fun _ => ?_)
              clear hK K
              (try simp only [Act.put, List.setIfInBounds_toArray, List.set_cons_zero, List.set_cons_succ])
              (refine onlyOp (i := 5) rfl (by kernel_rfl) (by rfl) fun K hK => ?_)
              refine app2R (.tmp 46) (.tmp 50) rfl Try.underlying26 infoInt E11 f11 (by omega) hB11 rfl ys[i] rfl kg (by have := g1.out; omega) ?_
              intro v5 w5 k5 o5 gr5 f5 E5
              obtain ⟨A5, c5, hv5, -, -⟩ := f5.own.shape
              obtain ⟨m5, hm5⟩ : ∃ m, (r ++ [ys[i]]).length = m := ⟨_, rfl⟩
              rw [hm5] at hv5
              subst hv5
              clear hm5
              have q5 := (World.cell?_of_block (gr5.block _ hblt fun e => hne _ e.symm rfl)).trans q3
              have b2 := b2.kept k5 (by omega)
              refine hK.out _ _ q5 (fun _ => ?_)
              clear hK K
              (try simp only [Act.put, List.setIfInBounds_toArray, List.set_cons_zero, List.set_cons_succ])
              have q6 := b2.1
              have q7 := b2.2.1
              (refine onlyOp (i := 6) rfl (by kernel_rfl) (by rfl) fun K hK => ?_)
              go_simp
              have hst := b2.store E5 (Nat.le_refl _) (.slice A5 m5 c5)
              refine hK.out _ _ ((World.cell?_of_block (Below.heap_setCell w5 ⟨W.heap.size, 0, none⟩ (.slice A5 m5 c5) _ hbn)).trans q5) (fun _ => ?_)
              clear hK K
              (try simp only [Act.put, List.setIfInBounds_toArray, List.set_cons_zero, List.set_cons_succ])
              refine doneOp (by kernel_rfl) ?_
              obtain ⟨s1, s2, s3, s4, s5⟩ := hst
              gi_wp2
              refine ⟨((o10.trans (KeepsOthers.drew _)).trans o5).trans (KeepsOthers.setCell _ _ _), ?_⟩
              rw [HID.out]
              refine ⟨.slice A5 m5 c5, r ++ [ys[i]], _, Lib.hid (by rw [List.length_append, List.length_append, g1.out]; rfl), s1, s4 (b3.kept k5 (by omega)) (by omega), s4 (b4.kept k5 (by omega)) (by omega), s4 (b5.kept k5 (by omega)) (by omega), (((g6.trans o10).trans (KeepsOthers.drew _)).trans o5).trans (KeepsOthers.setCell _ _ _), s5 f5 (by omega), (s2.only (by repeat with_reducible first | refine sub_cons (by repeat with_reducible first | apply mem_hd | assumption | apply mem_tl) ?_ | exact sub_nil | apply sub_refl | apply sub_tail)).cntle hcnt |>.know fun V hV => ?_⟩
              rw [← HI.out] at hV
              rw [List.length_append, List.length_singleton, Nat.mul_add, ← HI.out]
              exact ⟨hV.1, by rw [fold_snoc, hV.2, fold_last kind V hin (by omega)]⟩
        case done =>
          intro D pre V hD hS hI hd
          rw [HID.out] at hI
          obtain ⟨v, r, st'', g1, g2, g3, g4, g5, g6, g7, g8⟩ := hI
          obtain ⟨A'', c'', hv, -, -⟩ := g7.own.shape
          subst hv
          have q2 := g2.1
          have htk : ys.take (2 * pre.length) = ys := List.take_of_length_le hS.1
          rw [htk] at g8
          have E8 := ((g8.top.fine g7).only (L' := .word (.slice A'' r.length c'') r :: L) (by repeat with_reducible first | refine sub_cons (by repeat with_reducible first | apply mem_hd | assumption | apply mem_tl) ?_ | exact sub_nil | apply sub_refl | apply sub_tail)).know (K' := fun V => K V ∧ foldB kind (r.map V) = foldB kind (xs.map V)) fun V h => ⟨h.1.1, h.2.trans h.1.2⟩
          have E8 := E8.cntle (N' := N + (xs.length - r.length)) (by have := g1.out; omega)
          have hms := hm.cons (D := D) (w' := V) (by have := E3.c.2.size; omega) (fun i hi ⟨o, ho, hc⟩ => (g6.same i o ho hc).trans ho.symm) hD hd
          go_wp2
          have hr := g1.out
          refine ⟨⟨A'', c'', r, st'', _, Lib.hid (by omega), g5, hms, E8, tmps_pat rfl⟩, ?_⟩
          show r.length < ys.length
          omega
end
end Go.Proofs.Ytdljgifoboiaeaa
