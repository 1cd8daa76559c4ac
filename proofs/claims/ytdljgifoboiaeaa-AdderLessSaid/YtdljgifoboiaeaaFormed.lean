/- Are all nodes and ports as they must be? -/
import Derived.Test.YtdljgifoboiaeaaR06
namespace Go.Proofs.Ytdljgifoboiaeaa
open Go.RowKit

def portB (p : Port) (n : Nat) : Bool := decide (p.bits ≠ []) && p.bits.all (fun at_ => decide (0 ≤ at_ ∧ at_ < n))
def formedB (nodes : List Node) (ins outs : List Port) : Bool := nodes.all (fun x => rightB x nodes.length) && (ins ++ outs).all (fun p => portB p nodes.length)

theorem Row.node_at {w : World} {S : Nat → Prop} {A : Option Addr} {n c : Nat} {xs : List Node} (h : Row kNode w S (.slice A n c) xs) {i : Nat} (hi : i < xs.length) :
    ∃ b off, A = some ⟨b, off, none⟩ ∧ w.cell? ⟨b, off + i * 4, none⟩ = some (.int .i64 xs[i].kind) ∧ w.cell? ⟨b, off + i * 4 + 1, none⟩ = some (.int .i64 xs[i].a) ∧
      w.cell? ⟨b, off + i * 4 + 2, none⟩ = some (.int .i64 xs[i].b) ∧ w.cell? ⟨b, off + i * 4 + 3, none⟩ = some (.int .i64 xs[i].c) := by
  have hn : n = xs.length := h.len
  obtain ⟨b, off, rfl, x, cs, hx, hk, hc⟩ := h.at (i := i) (by omega)
  rw [List.getElem?_eq_getElem hi] at hx
  injection hx with hx
  subst hx
  have hcs : cs = (xs[i]).cells := hk
  subst hcs
  exact ⟨b, off, rfl, hc 0 _ rfl, hc 1 _ rfl, hc 2 _ rfl, hc 3 _ rfl⟩

/-- append(v, ys...), ys a slice that is read -/
theorem row_pairs {α : Type} {k : Kd α} {w W : World} {A : Option Addr} {n c : Nat} {ys : List α} (h : Row k w (may w none w.heap.size) (.slice A n c) ys) (hb : Below w.heap.size w W) (S' : Nat → Prop) (hS : ∀ i, S' i → w.heap.size ≤ i) :
    ∃ dss, n = ys.length ∧ Pairs k W S' ys dss ∧ (∀ ad, A = some ad → ∀ j u, dss.flatten[j]? = some u → W.cell? (ad.add j) = some u) ∧ (A = none → ys = []) := by
  obtain ⟨A', c', css, he, h1, h2, h0, h3, h4⟩ := h
  injection he with e1 e2 e3
  subst e1; subst e3
  refine ⟨css, e2, h3.keep ⟨hb.size, fun i hi _ => hb.block i hi⟩ (fun i hi hm => .inl (hS i hm)), fun ad had j u hu => ?_, fun hA => ?_⟩
  · have hn : 0 < ys.length := by
      rcases Nat.eq_zero_or_pos ys.length with h | h
      · have := h3.1; rw [h] at this; rw [List.eq_nil_of_length_eq_zero this] at hu; simp at hu
      · exact h
    obtain ⟨b, off, he, hb', _, hc⟩ := h4 hn
    rw [had] at he; injection he with he; subst he
    rw [Addr.add_lit]
    exact (hb.cell (p := ⟨b, off + j, none⟩) hb').trans (hc j u hu)
  · rcases Nat.eq_zero_or_pos ys.length with h | h
    · exact List.eq_nil_of_length_eq_zero h
    · obtain ⟨b, off, he, _⟩ := h4 h
      rw [hA] at he; cases he

/-- append(v, ys...) as one step: whatever ys is -/
theorem wp_app_row {P : Program} {o : Oper} {a : Act} {Q : Exit → Act → World → Prop} {α : Type} (k : Kd α) (e t : TypeId) (z : Value) (bytes : Nat) {w : World} {K : Act → World → Prop}
    (s x : Operand) (ho : o.op = .call { callee := .builtin .append, args := #[s, x], argTypes := #[t, t] })
    (ht : P.underlying t = some (.slice e)) (hinfo : (P.info? e).map (fun i => (i.zero, i.size, i.bytes)) = some (some z, k.size, bytes)) (hz : z.cells.size = k.size) (hk0 : 0 < k.size) (hb0 : 0 < bytes)
    (B : Nat) {v : Value} {xs : List α} (hO : Own k e w none B v xs) (hB : B ≤ w.heap.size) (hs : a.eval s = v)
    {w0 : World} (A : Option Addr) (m c : Nat) (ys : List α) (hR : Row k w0 (may w0 none w0.heap.size) (.slice A m c) ys) (hbel : Below w0.heap.size w0 w) (hB0 : w0.heap.size ≤ B) (hx : a.eval x = .slice A m c)
    (hl : (xs.length + m) * bytes ≤ 140737488355328)
    (hK : ∀ v' w', Own k e w' none B v' (xs ++ ys) → Below B w w' → K (a.put o.dst v') w') : o.wp P a w K Q := by
  obtain ⟨dss, hm, hP, hC, hN⟩ := row_pairs hR hbel (fun i => foot w none i ∨ v.ownBlock = some i) (fun i hi => hi.elim (fun h => (foot_none _ _ h).elim) (fun h => Nat.le_trans hB0 (hO.base h).1))
  subst hm
  rcases A with _ | ad
  · obtain rfl := hN rfl
    obtain ⟨i0, hi, hzz⟩ := Option.map_eq_some_iff.1 hinfo
    simp only [Prod.mk.injEq] at hzz
    obtain ⟨hz0, hz1, hz2⟩ := hzz
    obtain ⟨A', c', css, he, h1, h2, h0, h3, h4⟩ := hR
    injection he with e1 e2 e3
    subst e3
    obtain rfl := h0 e1.symm
    obtain ⟨css', q1, q2, q3⟩ := hO
    have hrun := run_append_owned_none (P := P) w B t o.type e i0 k.size ht hi v xs.length css'.flatten q1
    unfold Oper.wp execOp
    simp only [ho, resolve, invoke, builtin, Sem.run_bind, Sem.run_pure, Result.andThen_ok, List.map_toArray, List.map_cons, List.map_nil, hs, hx, List.length_nil, hrun]
    exact hK v w (by rw [List.append_nil]; exact ⟨css', q1, q2, q3⟩) (Below.refl _ _)
  · exact wp_app k e t z bytes s x ho ht hinfo hz hk0 hb0 none B hO (FootIn.none _) hB hs ad ys.length c ys dss hx rfl hP (hC ad rfl) hl fun v' w' r1 r2 _ _ _ _ => hK v' w' r1 r2.below

set_option maxHeartbeats 4000000 in
set_option maxRecDepth 100000 in
theorem formed_ref (w : World) (vn vi vo : Value) (nodes : List Node) (ins outs : List Port) (hn : Row kNode w (may w none w.heap.size) vn nodes) (hi : Row kPort w (may w none w.heap.size) vi ins) (ho : Row kPort w (may w none w.heap.size) vo outs)
    (hnl : nodes.length ≤ 1099511627776) (hil : ins.length ≤ 1073741824) (hol : outs.length ≤ 1073741824) :
    Calls Try.prog 93 #[.agg #[vn, vi, vo]] w fun e w' => e = .returned (.bool (formedB nodes ins outs)) ∧ Below w.heap.size w w' := by
  obtain ⟨An, cn, rfl, -, -⟩ := hn.shape
  obtain ⟨Ai, ci, rfl, -, -⟩ := hi.shape
  obtain ⟨Ao, co, rfl, -, -⟩ := ho.shape
  let ob : Obj := .cells #[.slice An nodes.length cn, .slice Ai ins.length ci, .slice Ao outs.length co] 33
  have hb0 : Below w.heap.size w (w.alloc ob) := (Below.refl _ _).alloc (Nat.le_refl _) ob
  have hbox : ∀ W : World, Below (w.alloc ob).heap.size (w.alloc ob) W → W.cell? ⟨w.heap.size, 0, none⟩ = some (.slice An nodes.length cn) ∧ W.cell? ⟨w.heap.size, 1, none⟩ = some (.slice Ai ins.length ci) ∧ W.cell? ⟨w.heap.size, 2, none⟩ = some (.slice Ao outs.length co) :=
    fun W hW => ⟨(hW.cell (p := ⟨w.heap.size, 0, none⟩) (by simp)).trans (World.cell?_alloc_new _ _ _ 0), (hW.cell (p := ⟨w.heap.size, 1, none⟩) (by simp)).trans (World.cell?_alloc_new _ _ _ 1), (hW.cell (p := ⟨w.heap.size, 2, none⟩) (by simp)).trans (World.cell?_alloc_new _ _ _ 2)⟩
  have HBOX := Lib.hid hbox
  have HN := Lib.hid hn
  have HI := Lib.hid hi
  have HO := Lib.hid ho
  have HB0 := Lib.hid hb0
  have hsz0 : (w.alloc ob).heap.size = w.heap.size + 1 := by simp
  have HSZ := Lib.hid hsz0
  clear hn hi ho hb0 hbox hsz0
  go_enter Try.func93, Try.ntmps93
  go_wp2_with fail
  go_loopw [3] (fun i wr => ∃ j : Nat, j ≤ nodes.length ∧ i = .int .i64 j ∧ (∀ q, q ∈ nodes.take j → rightB q nodes.length = true) ∧ Below (w.alloc ob).heap.size (w.alloc ob) wr) (fun i _ => nodes.length - (intOf i).toNat)
  case atStart => exact ⟨0, Nat.zero_le _, rfl, by simp, Below.refl _ _⟩
  case round =>
    obtain ⟨j, hj, rfl, hq, hb⟩ := hrel
    have HQ := Lib.hid hq
    have HB := Lib.hid hb
    obtain ⟨z0, z1, z2⟩ := HBOX.out _ hb
    clear hq hb
    by_cases hlt : j < nodes.length
    · have hbw : Below w.heap.size w wr := HB0.out.trans (HB.out.mono (by have := HSZ.out; omega))
      obtain ⟨b, off, rfl, y0, y1, y2, y3⟩ := (HN.out.later hbw).node_at hlt
      have HM := Lib.hid (List.getElem_mem hlt)
      have HT := Lib.hid (List.take_succ_eq_append_getElem hlt)
      generalize nodes[j] = x at y0 y1 y2 y3 HM HT
      clear hbw z1 z2
      go_wp2_with fail
      go_still_tail 8, (by kernel_rfl)
      have hbw : Below w.heap.size w wr.drew := (HB0.out.trans (HB.out.mono (by have := HSZ.out; omega))).drew
      cases hr : rightB x nodes.length with
      | true =>
        have HR := Lib.hid hr
        clear hr
        go_wp2_with (go_at_call 127; refine (right_ref _ x nodes.length hnl).mono ?_; rintro e w2 ⟨rfl, hb2⟩; rw [HR.out]; have HB2 := Lib.hid hb2; clear hb2)
        go_roundw
        case rel => exact ⟨j + 1, by omega, by go_num, by
          rw [HT.out]; intro q hq
          rcases List.mem_append.1 hq with h | h
          · exact HQ.out q h
          · simp at h; subst h; exact HR.out, HB.out.drew.trans (HB2.out.mono (by have := HB.out.size; simpa using this))⟩
        case measure => simp [intOf]; omega
      | false =>
        have HR := Lib.hid hr
        clear hr
        go_wp2_with (go_at_call 127; refine (right_ref _ x nodes.length hnl).mono ?_; rintro e w2 ⟨rfl, hb2⟩; rw [HR.out]; have HB2 := Lib.hid hb2; clear hb2)
        go_ret
        have : formedB nodes ins outs = false := by
          have : nodes.all (fun x => rightB x nodes.length) = false := by
            rw [List.all_eq_false]; exact ⟨x, HM.out, by rw [HR.out]; decide⟩
          simp [formedB, this]
        exact ⟨by rw [this]; rfl, hbw.trans (HB2.out.mono (by have := hbw.size; simpa using this))⟩
    · obtain rfl : j = nodes.length := by omega
      have hall : nodes.all (fun x => rightB x nodes.length) = true := by
        rw [List.all_eq_true]; intro q hq; exact HQ.out q (by rw [List.take_length]; exact hq)
      have HALL := Lib.hid hall
      clear hall
      obtain ⟨L, hL⟩ : ∃ L, L = ([] ++ ins ++ outs : List Port) := ⟨_, rfl⟩
      have HLD := Lib.hid hL
      have hlen2 : L.length ≤ 2147483648 := by rw [hL]; simp; omega
      have hfe : formedB nodes ins outs = L.all (fun p => portB p nodes.length) := by
        rw [hL]; simp [formedB, HALL.out]
      have HFE := Lib.hid hfe
      clear hL hfe
      have hszr : w.heap.size + 1 ≤ wr.heap.size := by have := HB.out.size; have := HSZ.out; omega
      have HO1 : Hid (Own kPort 119 (wr.alloc (.cells #[] 119)).drew none wr.heap.size (.slice (some ⟨wr.heap.size, 0, none⟩) 0 0) []) := (Own.lit0 kPort 119 wr).drew (FootIn.none _)
      have hba : Below (w.alloc ob).heap.size (w.alloc ob) (wr.alloc (.cells #[] 119)).drew := (HB.out.alloc (by rw [HSZ.out]; exact hszr) _).drew
      have HBA := Lib.hid hba
      have HBW : Hid (Below w.heap.size w (wr.alloc (.cells #[] 119)).drew) := HB0.out.trans (hba.mono (by rw [HSZ.out]; omega))
      have HZ0 := Lib.hid (HBOX.out _ hba)
      clear hba
      go_wp2_with fail
      go_region_held3 (fun W => W.cell? ⟨w.heap.size, 0, none⟩ = some (.slice An nodes.length cn) ∧ W.cell? ⟨w.heap.size, 1, none⟩ = some (.slice Ai ins.length ci) ∧ W.cell? ⟨w.heap.size, 2, none⟩ = some (.slice Ao outs.length co))
        (first | exact HZ0.out | exact HZ1.out | exact HZ2.out | go_keep)
        (first
          | (refine step_app rfl (wp_app_row kPort 119 31 (.agg #[.string ⟨#[]⟩, .slice none 0 0]) 40 (.tmp 24) (.tmp 26) rfl Try.underlying31 infoPort rfl (by decide) (by decide) wr.heap.size HO1.out (by simp) rfl Ai ins.length ci ins HI.out HBW.out (by omega) rfl (by simp; omega) ?_); intro v1 w1 q1 b1; obtain ⟨A1, d1, rfl, -, -⟩ := q1.shape; have HQ1 := Lib.hid q1; have HBA1 := Lib.hid (HBA.out.trans (b1.mono (by rw [HSZ.out]; exact hszr))); have HBW1 := Lib.hid (HBW.out.trans (b1.mono (by omega))); have HZ1 := Lib.hid (HBOX.out _ HBA1.out); have hs1 : wr.heap.size < w1.heap.size := Nat.lt_of_lt_of_le (by simp) b1.size; clear q1 b1)
          | (refine step_app rfl (wp_app_row kPort 119 31 (.agg #[.string ⟨#[]⟩, .slice none 0 0]) 40 (.tmp 27) (.tmp 29) rfl Try.underlying31 infoPort rfl (by decide) (by decide) wr.heap.size HQ1.out (by omega) rfl Ao outs.length co outs HO.out HBW1.out (by omega) rfl (by simp; omega) ?_); intro v2 w2 q2 b2; rw [← HLD.out] at q2; obtain ⟨A2, d2, rfl, -, -⟩ := q2.shape; have HQ2 := Lib.hid q2; have HBA2 := Lib.hid (HBA1.out.trans (b2.mono (by rw [HSZ.out]; exact hszr))); have HBW2 := Lib.hid (HBW1.out.trans (b2.mono (by omega))); have HZ2 := Lib.hid (HBOX.out _ HBA2.out); clear q2 b2))
      have HROW := Lib.hid (HQ2.out.row (by decide) (Nat.le_refl _))
      clear z0 z1 z2
      go_wp2_with fail
      obtain ⟨wx, rfl⟩ : ∃ wx : World, wx = wr := ⟨_, rfl⟩
      go_loopw [5] (fun i wp => ∃ j : Nat, j ≤ L.length ∧ i = .int .i64 j ∧ (∀ q, q ∈ L.take j → portB q nodes.length = true) ∧ Below w2.heap.size w2 wp) (fun i _ => L.length - (intOf i).toNat)
      case atStart => exact ⟨0, Nat.zero_le _, rfl, by simp, Below.refl _ _⟩
      case round =>
        obtain ⟨wp, rfl⟩ : ∃ wp : World, wp = wr := ⟨_, rfl⟩
        obtain ⟨j, hj, rfl, hq, hb⟩ := hrel
        have HQ := Lib.hid hq
        have HBP := Lib.hid hb
        clear hq
        by_cases hlt : j < L.length
        · obtain ⟨bb, off, A3, d3, rfl, y0, y1, hbits⟩ := (HROW.out.later hb).port_at hlt
          have HM := Lib.hid (List.getElem_mem hlt)
          have HT := Lib.hid (List.take_succ_eq_append_getElem hlt)
          generalize L[j] = y at y0 y1 hbits HM HT
          obtain ⟨name, bits⟩ := y
          dsimp only at y0 y1 hbits HM HT
          have HBITS := Lib.hid hbits
          clear hbits
          have hbad : portB ⟨name, bits⟩ nodes.length = false → formedB nodes ins outs = false := fun h => by
            rw [HFE.out, List.all_eq_false]; exact ⟨_, HM.out, by rw [h]; decide⟩
          have HBAD := Lib.hid hbad
          clear hbad
          have hend : Below w.heap.size w wp := HBW2.out.trans (hb.mono HBW2.out.size)
          have HEND := Lib.hid hend
          clear hend hb
          by_cases hbe : bits = []
          · subst hbe
            go_wp2
            go_ret
            exact ⟨by rw [HBAD.out rfl]; rfl, HEND.out⟩
          · have hbl : 0 < bits.length := List.length_pos_iff.2 hbe
            have hbl2 : bits.length ≤ 9223372036854775807 := by obtain ⟨_, _, he, h1, h2⟩ := HBITS.out.shape; unfold maxLen at h2; omega
            have hb0e : ((bits.length : Int) == 0) = false := by rw [beq_eq_false_iff_ne]; omega
            have HBE := Lib.hid hbe
            clear hbe
            go_wp2_with fail
            go_loopw [6] (fun i wq => ∃ q : Nat, q ≤ bits.length ∧ i = .int .i64 q ∧ (∀ z, z ∈ bits.take q → 0 ≤ z ∧ z < nodes.length) ∧ Below wp.heap.size wp wq) (fun i _ => bits.length - (intOf i).toNat)
            case atStart => exact ⟨0, Nat.zero_le _, rfl, by simp, Below.refl _ _⟩
            case round =>
              obtain ⟨wq, rfl⟩ : ∃ wq : World, wq = wr := ⟨_, rfl⟩
              obtain ⟨q, hq, rfl, hz, hb⟩ := hrel
              have HZ := Lib.hid hz
              have y1' := (hb.cell (p := ⟨bb, off + j * 2 + 1, none⟩) (World.block_lt_of_cell? _ _ y1)).trans y1
              have HB := Lib.hid hb
              clear hz
              by_cases hql : q < bits.length
              · obtain ⟨b4, off4, rfl, hcell⟩ := (HBITS.out.later hb).int_at hql
                have HM4 := Lib.hid (List.getElem_mem hql)
                have HT4 := Lib.hid (List.take_succ_eq_append_getElem hql)
                generalize bits[q] = z at hcell HM4 HT4
                obtain ⟨z0, z1, z2⟩ := HBOX.out _ ((HBA2.out.trans (HBP.out.mono HBA2.out.size)).trans (hb.mono (by have := HBA2.out.size; have := HBP.out.size; omega)))
                clear hb z1 z2
                by_cases hz0 : z < 0
                · go_wp2_with fail
                  go_quiet (fail)
                  go_wp2
                  go_ret
                  have : portB ⟨name, bits⟩ nodes.length = false := by
                    have : bits.all (fun at_ => decide (0 ≤ at_ ∧ at_ < nodes.length)) = false := by
                      rw [List.all_eq_false]; exact ⟨z, HM4.out, by simp; omega⟩
                    simp only [portB, this, Bool.and_false]
                  exact ⟨by rw [HBAD.out this]; rfl, (HEND.out.trans (HB.out.mono HEND.out.size)).trans ((pw_drewN _ _).mono (Nat.le_trans HEND.out.size HB.out.size))⟩
                · by_cases hzn : z < nodes.length
                  · go_wp2_with fail
                    go_quiet (fail)
                    go_wp2
                    go_roundw
                    case rel =>
                      have hz2 : ∀ y, y ∈ bits.take (q + 1) → 0 ≤ y ∧ y < nodes.length := by
                        rw [HT4.out]; intro y hy
                        rcases List.mem_append.1 hy with h | h
                        · exact HZ.out y h
                        · simp at h; subst h; omega
                      first
                        | exact ⟨q + 1, by omega, by go_num, hz2, HB.out.trans ((pw_drewN _ _).mono HB.out.size)⟩
                        | ((repeat apply Exists.intro); exact ⟨⟨q + 1, by omega, by go_num, hz2, HB.out.trans ((pw_drewN _ _).mono HB.out.size)⟩, rfl⟩)
                    case measure => simp [intOf]; omega
                  · go_wp2_with fail
                    go_quiet (fail)
                    go_wp2
                    go_ret
                    have : portB ⟨name, bits⟩ nodes.length = false := by
                      have : bits.all (fun at_ => decide (0 ≤ at_ ∧ at_ < nodes.length)) = false := by
                        rw [List.all_eq_false]; exact ⟨z, HM4.out, by simp; omega⟩
                      simp only [portB, this, Bool.and_false]
                    exact ⟨by rw [HBAD.out this]; rfl, (HEND.out.trans (HB.out.mono HEND.out.size)).trans ((pw_drewN _ _).mono (Nat.le_trans HEND.out.size HB.out.size))⟩
              · obtain rfl : q = bits.length := by omega
                go_wp2
                go_roundw
                case rel => exact ⟨j + 1, by omega, by go_num, by
                  rw [HT.out]; intro y hy
                  rcases List.mem_append.1 hy with h | h
                  · exact HQ.out y h
                  · simp at h; subst h
                    have : bits.all (fun at_ => decide (0 ≤ at_ ∧ at_ < nodes.length)) = true := by
                      rw [List.all_eq_true]; intro z hz; have := HZ.out z (by rw [List.take_length]; exact hz); simpa using this
                    simp only [portB, this, Bool.and_true]; exact decide_eq_true HBE.out, HBP.out.trans (hb.mono HBP.out.size)⟩
                case measure => simp [intOf]; omega
        · obtain rfl : j = L.length := by omega
          go_wp2
          go_ret
          have hA : L.all (fun p => portB p nodes.length) = true := by
            rw [List.all_eq_true]; intro q hq; exact HQ.out q (by rw [List.take_length]; exact hq)
          exact ⟨by rw [HFE.out, hA]; rfl, HBW2.out.trans (hb.mono (by have := HBW2.out.size; exact this))⟩
end Go.Proofs.Ytdljgifoboiaeaa
