/- What comes in, what goes out. -/
import Derived.Test.YtdljgifoboiaeaaPorts
import Derived.Test.YtdljgifoboiaeaaEach
namespace Go.Proofs.Ytdljgifoboiaeaa
open Go.RowKit

section
variable {P : Program} {o : Oper} {a : Act} {Q : Exit → Act → World → Prop}
theorem wp_app_raw (e t : TypeId) (z : Value) (size bytes : Nat) {w : World} {K : Act → World → Prop}
    (s x : Operand) (ho : o.op = .call { callee := .builtin .append, args := #[s, x], argTypes := #[t, t] })
    (ht : P.underlying t = some (.slice e)) (hinfo : (P.info? e).map (fun i => (i.zero, i.size, i.bytes)) = some (some z, size, bytes)) (hz : z.cells.size = size) (hk0 : 0 < size) (hb0 : 0 < bytes)
    (B : Nat) {v : Value} {n : Nat} {xs : List Value} (hO : w.ownsRow B e size v n xs) (hB : B ≤ w.heap.size) (hs : a.eval s = v)
    (ad : Addr) (m c : Nat) (news : List Value) (hx : a.eval x = .slice (some ad) m c) (hm : news.length = m * size) (hc : ∀ j u, news[j]? = some u → w.cell? (ad.add j) = some u) (h1 : ∀ u ∈ news, u.oneCell' = true)
    (hl : (n + m) * bytes ≤ 140737488355328)
    (hK : ∀ v' w', w'.ownsRow B e size v' (n + m) (xs ++ news) → w.grownBy w' v.ownBlock → (v'.ownBlock = v.ownBlock ∨ v'.ownBlock = some w.heap.size) → K (a.put o.dst v') w') : o.wp P a w K Q := by
  obtain ⟨i0, hi, hzz⟩ := Option.map_eq_some_iff.1 hinfo
  simp only [Prod.mk.injEq] at hzz
  obtain ⟨hz0, hz1, hz2⟩ := hzz
  obtain ⟨v', w', hr, q2, q3, _, q5⟩ := run_append_own_at (P := P) w B t o.type e i0 z size bytes ht hi hz0 hz1 hz2 hz hk0 v n xs hO ad m c news hm hc h1 (le_maxLen hb0 hl) hl hB
  unfold Oper.wp execOp
  simp only [ho, resolve, invoke, builtin, Sem.run_bind, Sem.run_pure, Result.andThen_ok, List.map_toArray, List.map_cons, List.map_nil, hs, hx, hr]
  exact hK v' w' q2 q3 q5
end

theorem port_news (W : World) (s : ByteArray) (u : Value) (t : TypeId) : ∀ j x, ([Value.string s, u] : List Value)[j]? = some x → (W.alloc (.cells #[.string s, u] t)).cell? ((⟨W.heap.size, 0, none⟩ : Addr).add j) = some x := by
  intro j x hx
  rw [Addr.add_lit, Nat.zero_add, World.cell?_alloc_new]
  simpa using hx
theorem port_one (s : ByteArray) (A : Option Addr) (n c : Nat) : ∀ x ∈ ([.string s, .slice A n c] : List Value), x.oneCell' = true := by
  intro x hx; simp at hx; rcases hx with rfl | rfl <;> rfl

theorem ownsRow_shape {w : World} {base size n : Nat} {e : TypeId} {v : Value} {xs : List Value} (h : w.ownsRow base e size v n xs) : ∃ A c, v = .slice A n c ∧ n ≤ c ∧ c ≤ maxLen := by
  rcases h.2 with ⟨rfl, rfl⟩ | ⟨g, cap, cur, rfl, _, _, hc, hm, _⟩
  · exact ⟨none, 0, rfl, Nat.le_refl _, by simp [maxLen]⟩
  · exact ⟨_, cap, rfl, hc, hm⟩
/-- all that the append to the ports' row, and the store, ask and leave -/
theorem out_ready {w w1 : World} {p : Nat} {st : BSt} {xs : List Int} {A1 : Option Addr} {cc1 : Nat} (hL : Laid w p st w1) (ho : Own kInt 3 w1 (some p) w.heap.size (.slice A1 xs.length cc1) xs) (name : ByteArray) :
    ∃ (vo : Value) (css : List (List Value)), (w1.alloc (.cells #[.string name, .slice A1 xs.length cc1] 119)).cell? ⟨p, 2, none⟩ = some vo ∧ vo.ownBlock ≠ some p ∧ (w1.alloc (.cells #[.string name, .slice A1 xs.length cc1] 119)).frozen? ⟨p, 2, none⟩ = false ∧
      (w1.alloc (.cells #[.string name, .slice A1 xs.length cc1] 119)).ownsRow 0 119 2 vo st.outs.length css.flatten ∧ p < (w1.alloc (.cells #[.string name, .slice A1 xs.length cc1] 119)).heap.size ∧
      ∀ (v' : Value) (w' : World), w'.ownsRow 0 119 2 v' (st.outs.length + 1) (css.flatten ++ [.string name, .slice A1 xs.length cc1]) → (w1.alloc (.cells #[.string name, .slice A1 xs.length cc1] 119)).grownBy w' vo.ownBlock →
        (v'.ownBlock = vo.ownBlock ∨ v'.ownBlock = some (w1.alloc (.cells #[.string name, .slice A1 xs.length cc1] 119)).heap.size) →
        BRep (w'.setCell ⟨p, 2, none⟩ v') p (bOut name xs st) ∧ Kept w.heap.size (some p) w (w'.setCell ⟨p, 2, none⟩ v') ∧ Row kInt (w'.setCell ⟨p, 2, none⟩ v') (fun _ => False) (.slice A1 xs.length cc1) xs := by
  generalize hW : w1.alloc (.cells #[.string name, .slice A1 xs.length cc1] 119) = W
  have hBW : BRep W p st := by rw [← hW]; exact hL.1.alloc _
  have hoW : Own kInt 3 W (some p) w.heap.size (.slice A1 xs.length cc1) xs := by rw [← hW]; exact ho.alloc hL.1.fin _
  have hsz : w1.heap.size ≤ W.heap.size := by rw [← hW]; simp
  have hkW : Kept w.heap.size (some p) w W := by rw [← hW]; exact hL.2.trans (Kept.of_below_all ((Below.refl _ _).alloc (Nat.le_refl _) _) hL.1.fin hL.2.size)
  obtain ⟨vo, css, e1, e2, e3, e4⟩ := hBW.pushOuts
  obtain ⟨_, _, _, _, _, _, hfz, _⟩ := hBW.cells
  refine ⟨vo, css, e1, e2, hfz 2, e3, hBW.lt, fun v' w' q1 q2 q3 => ?_⟩
  have := e4 (port := ⟨name, xs⟩) (B := w.heap.size) q1 q2 (q3.imp_right fun h => ⟨_, h, Nat.le_refl _⟩) (hoW.rowS _ fun g hg hf => hoW.off hg hf) (fun g hg => hoW.base hg) (Nat.le_trans hL.2.size hsz)
  exact ⟨this.1, hkW.trans this.2.1, (hoW.rowS _ fun g hg hf => hoW.off hg hf).keep this.2.2 fun _ _ hf => hf.elim⟩

/-- all that the append to the ports' row, and the store, ask and leave -/
theorem in_ready {w w1 : World} {p : Nat} {st : BSt} {xs : List Int} {A1 : Option Addr} {cc1 : Nat} (hL : Laid w p st w1) (ho : Own kInt 3 w1 (some p) w.heap.size (.slice A1 xs.length cc1) xs) (name : ByteArray) :
    ∃ (vo : Value) (css : List (List Value)), (w1.alloc (.cells #[.string name, .slice A1 xs.length cc1] 119)).cell? ⟨p, 1, none⟩ = some vo ∧ vo.ownBlock ≠ some p ∧ (w1.alloc (.cells #[.string name, .slice A1 xs.length cc1] 119)).frozen? ⟨p, 1, none⟩ = false ∧
      (w1.alloc (.cells #[.string name, .slice A1 xs.length cc1] 119)).ownsRow 0 119 2 vo st.ins.length css.flatten ∧ p < (w1.alloc (.cells #[.string name, .slice A1 xs.length cc1] 119)).heap.size ∧
      ∀ (v' : Value) (w' : World), w'.ownsRow 0 119 2 v' (st.ins.length + 1) (css.flatten ++ [.string name, .slice A1 xs.length cc1]) → (w1.alloc (.cells #[.string name, .slice A1 xs.length cc1] 119)).grownBy w' vo.ownBlock →
        (v'.ownBlock = vo.ownBlock ∨ v'.ownBlock = some (w1.alloc (.cells #[.string name, .slice A1 xs.length cc1] 119)).heap.size) →
        BRep (w'.setCell ⟨p, 1, none⟩ v') p { st with ins := st.ins ++ [⟨name, xs⟩] } ∧ Kept w.heap.size (some p) w (w'.setCell ⟨p, 1, none⟩ v') ∧ Row kInt (w'.setCell ⟨p, 1, none⟩ v') (fun _ => False) (.slice A1 xs.length cc1) xs := by
  generalize hW : w1.alloc (.cells #[.string name, .slice A1 xs.length cc1] 119) = W
  have hBW : BRep W p st := by rw [← hW]; exact hL.1.alloc _
  have hoW : Own kInt 3 W (some p) w.heap.size (.slice A1 xs.length cc1) xs := by rw [← hW]; exact ho.alloc hL.1.fin _
  have hsz : w1.heap.size ≤ W.heap.size := by rw [← hW]; simp
  have hkW : Kept w.heap.size (some p) w W := by rw [← hW]; exact hL.2.trans (Kept.of_below_all ((Below.refl _ _).alloc (Nat.le_refl _) _) hL.1.fin hL.2.size)
  obtain ⟨vo, css, e1, e2, e3, e4⟩ := hBW.pushIns
  obtain ⟨_, _, _, _, _, _, hfz, _⟩ := hBW.cells
  refine ⟨vo, css, e1, e2, hfz 1, e3, hBW.lt, fun v' w' q1 q2 q3 => ?_⟩
  have := e4 (port := ⟨name, xs⟩) (B := w.heap.size) q1 q2 (q3.imp_right fun h => ⟨_, h, Nat.le_refl _⟩) (hoW.rowS _ fun g hg hf => hoW.off hg hf) (fun g hg => hoW.base hg) (Nat.le_trans hL.2.size hsz)
  exact ⟨this.1, hkW.trans this.2.1, (hoW.rowS _ fun g hg hf => hoW.off hg hf).keep this.2.2 fun _ _ hf => hf.elim⟩

set_option maxHeartbeats 2000000 in
set_option maxRecDepth 100000 in
theorem out_calls (w : World) (p : Nat) (st : BSt) (S : Nat → Prop) (name : ByteArray) (v : Value) (xs : List Int) (hB : BRep w p st) (hx : Row kInt w S v xs)
    (hl : xs.length ≤ 1099511627776) (ho : st.outs.length < 1099511627776) :
    Calls Try.prog 17 #[.pointer (some ⟨p, 0, none⟩), .string name, v] w
      fun e w' => e = .returned (.tuple #[]) ∧ BRep w' p (bOut name xs st) ∧ Kept w.heap.size (some p) w w' := by
  obtain ⟨vn, vi, vo, c0, c1, c2, hfz, hO, hne⟩ := hB.cells
  have hpl := hB.lt
  have hxd : Row kInt w.drew S v xs := hx.keep ⟨Nat.le_refl _, fun _ _ _ => rfl⟩ (fun _ _ h => h)
  obtain ⟨A, c, rfl, -, -⟩ := hx.shape
  have HX := Lib.hid hxd
  have HB := Lib.hid hB
  have HO := Lib.hid ho
  clear hx hxd hO hB c0 c1 ho
  go_enter Try.func17, Try.ntmps17
  go_wp2_with fail
  go_region_law (first
    | (go_simp; go_at_call 90; refine (clone_calls _ _ xs S HX.out hl).mono ?_; rintro e w1 ⟨v1, rfl, ho, hb⟩; obtain ⟨A1, cc1, rfl, -, -⟩ := ho.shape; have hr := out_ready ((Laid.refl HB.out).quiet (w2 := w1) ((Below.refl _ _).drew.trans hb)) (ho.give HB.out.drew.fin hb) name; obtain ⟨vo', css, e1, e2, e3, e4, e5, e6⟩ := hr; have c2' : w1.cell? ⟨p, 2, none⟩ = some vo := (hb.cell (p := ⟨p, 2, none⟩) hpl).trans c2; have hpl1 : p < w1.heap.size := Nat.lt_of_lt_of_le hpl hb.size; have hvv : vo' = vo := Option.some.inj (e1.symm.trans ((World.cell?_alloc_lt _ _ _ hpl1).trans c2')); subst hvv; have HR := Lib.hid e6; have HE := Lib.hid (And.intro e1 (And.intro e2 (And.intro e3 (And.intro e4 e5)))); clear ho hb e1 e2 e3 e4 e5 e6)
    | (refine step_app rfl (wp_app_raw 119 31 (.agg #[.string ⟨#[]⟩, .slice none 0 0]) 2 40 (.tmp 10) (.tmp 15) rfl Try.underlying31 infoPort rfl (by decide) (by decide) 0 HE.out.2.2.2.1 (Nat.zero_le _) rfl ⟨w1.heap.size, 0, none⟩ 1 1 [.string name, .slice A1 xs.length cc1] rfl rfl (port_news _ _ _ _) (port_one _ _ _ _) (by have := HO.out; omega) ?_); intro v' w' q1 q2 q3; have z0 := (World.cell?_of_block (a := ⟨p, 2, none⟩) (q2.block p HE.out.2.2.2.2 (fun e => HE.out.2.1 e.symm))).trans HE.out.1; have z1 := (World.frozen?_of_block (a := ⟨p, 2, none⟩) (q2.block p HE.out.2.2.2.2 (fun e => HE.out.2.1 e.symm))).trans HE.out.2.2.1; have R := Lib.hid (HR.out v' w' q1 q2 q3); obtain ⟨A', cap', hv', -, -⟩ := ownsRow_shape q1; subst hv'; clear q1 q2 q3))
  all_goals
    go_end0
    exact ⟨rfl, R.out.1, R.out.2.1⟩

set_option maxHeartbeats 2000000 in
set_option maxRecDepth 100000 in
attribute [local go_sem] max2_int max_two in
theorem in_calls (w : World) (p : Nat) (st : BSt) (name : ByteArray) (n : Int) (hB : BRep w p st) (hn : n ≤ 1099511627776) (hi : st.ins.length < 1099511627776) (hf : (bIn name n.toNat st).2.nodes.length ≤ 1099511627776) :
    Calls Try.prog 16 #[.pointer (some ⟨p, 0, none⟩), .string name, .int .i64 n] w
      fun e w' => ∃ v, e = .returned v ∧ Own kInt 3 w' (some p) w.heap.size v (bIn name n.toNat st).1 ∧ BRep w' p (bIn name n.toNat st).2 ∧ Kept w.heap.size (some p) w w' := by
  obtain ⟨m, hm⟩ : ∃ m : Nat, (max n 0) = m := ⟨n.toNat, by omega⟩
  obtain rfl : n.toNat = m := by omega
  generalize hnm : n.toNat = m at *
  have hmm : m ≤ 1099511627776 := by omega
  have hnodes : ∀ k, (mapS bInput (List.range k) st).2.nodes.length = st.nodes.length + k ∧ (mapS bInput (List.range k) st).2.ins = st.ins := by
    intro k
    induction k with
    | zero => exact ⟨rfl, rfl⟩
    | succ k ih => rw [List.range_succ, mapS_snoc]; simp [bInput, lay, ih.1, ih.2]; omega
  have hfm : st.nodes.length + m ≤ 1099511627776 := by rw [← (hnodes m).1]; exact hf
  have hsucc : ∀ k, mapS bInput (List.range (k + 1)) st = ((mapS bInput (List.range k) st).1 ++ [(bInput k (mapS bInput (List.range k) st).2).1], (bInput k (mapS bInput (List.range k) st).2).2) := fun k => by rw [List.range_succ, mapS_snoc]
  have HN := Lib.hid hnodes
  have HS0 := Lib.hid hsucc
  clear hf hnm hnodes hsucc
  go_enter Try.func16, Try.ntmps16
  go_wp2_with fail
  go_loopw [7, 10] (fun v i wr => ∃ k : Nat, k ≤ m ∧ i = .int .i64 k ∧ Own kInt 3 wr (some p) w.heap.size v (mapS bInput (List.range k) st).1 ∧ Laid w p (mapS bInput (List.range k) st).2 wr)
    (fun _ i _ => m - (intOf i).toNat)
  case atStart => exact ⟨0, by omega, rfl, Own.nil _ _ _ _ _, Laid.refl hB⟩
  case round =>
    obtain ⟨k, hk, rfl, ho, hL⟩ := hrel
    obtain ⟨A', c', rfl, -, -⟩ := ho.shape
    have hnk := (HN.out k).1
    have hik := (HN.out k).2
    have hyl : (mapS bInput (List.range k) st).1.length = k := by rw [mapS_length]; simp
    by_cases hlt : k < m
    · have HS := Lib.hid (HS0.out k)
      have hlk : (mapS bInput (List.range k) st).2.nodes.length < lim := by show _ < 1099511627776; omega
      have hyl' : (mapS bInput (List.range k) st).1.length ≤ 1099511627776 := by omega
      clear hnk hyl hik
      generalize (mapS bInput (List.range k) st).1 = ys at ho HS hyl'
      generalize (mapS bInput (List.range k) st).2 = sk at hL HS hlk
      go_wp2_with (first
        | (go_at_call 89; refine (lay_calls _ p sk ⟨1, 0, 0, 0⟩ hL.1 hlk).mono ?_; rintro e w2 ⟨rfl, hL2⟩)
        | (at_builtin; refine app1B kInt 3 26 (.int .i64 0) 8 rfl (.tmp 12) (.tmp 16) rfl Try.underlying26 infoInt rfl (by decide) (by decide) p _ hL2.1 w.heap.size (ho.laid hL2) (by have := hL2.2.size; have := hL.2.size; omega) rfl _ _ rfl rfl (by omega) ?_; intro v' w3 ho3 hB3 hk3))
      go_roundw
      case rel => exact ⟨k + 1, by omega, by go_num, by rw [HS.out]; exact ho3, by rw [HS.out]; exact ⟨hB3, (hL.2.trans (hL2.2.mono hL.2.size)).trans hk3⟩⟩
      case measure => simp [intOf]; omega
    · obtain rfl : k = m := by omega
      have hin : bIn name k st = ((mapS bInput (List.range k) st).1, { (mapS bInput (List.range k) st).2 with ins := (mapS bInput (List.range k) st).2.ins ++ [⟨name, (mapS bInput (List.range k) st).1⟩] }) := rfl
      have HI := Lib.hid hin
      have hyk : (mapS bInput (List.range k) st).1.length ≤ 1099511627776 := by omega
      have hii : (mapS bInput (List.range k) st).2.ins.length < 1099511627776 := by rw [hik]; exact hi
      clear hin hnk hik hyl
      generalize (mapS bInput (List.range k) st).1 = ys at ho HI hyk ⊢
      generalize (mapS bInput (List.range k) st).2 = sk at hL HI hii
      obtain ⟨vo, css, e1, e2, e3, e4, e5, e6⟩ := in_ready hL ho name
      have hpl := hL.1.lt
      have c1 : wr.cell? ⟨p, 1, none⟩ = some vo := by rw [World.cell?_alloc_lt _ _ _ hpl] at e1; exact e1
      have HR := Lib.hid e6
      have HE := Lib.hid (And.intro e1 (And.intro e2 (And.intro e3 (And.intro e4 e5))))
      have HL := Lib.hid hL
      have HO := Lib.hid ho
      clear e1 e2 e3 e4 e5 e6 hL ho
      go_wp2_with (at_builtin; refine wpList_plain rfl fun K hK => wp_app_raw 119 31 (.agg #[.string ⟨#[]⟩, .slice none 0 0]) 2 40 (.tmp 23) (.tmp 27) rfl Try.underlying31 infoPort rfl (by decide) (by decide) 0 HE.out.2.2.2.1 (Nat.zero_le _) rfl ⟨wr.heap.size, 0, none⟩ 1 1 [.string name, .slice A' ys.length c'] rfl rfl (port_news _ _ _ _) (port_one _ _ _ _) (by omega) ?_; intro v' w' q1 q2 q3; have z0 := (World.cell?_of_block (a := ⟨p, 1, none⟩) (q2.block p HE.out.2.2.2.2 (fun e => HE.out.2.1 e.symm))).trans HE.out.1; have z1 := (World.frozen?_of_block (a := ⟨p, 1, none⟩) (q2.block p HE.out.2.2.2.2 (fun e => HE.out.2.1 e.symm))).trans HE.out.2.2.1; have R := Lib.hid (HR.out v' w' q1 q2 q3); have HQ := Lib.hid (And.intro q2 q3); obtain ⟨A2, cap2, hv', -, -⟩ := ownsRow_shape q1; subst hv'; clear q1 q2 q3; refine hK _ _ ?_; clear hK K)
      refine (clone_calls _ _ ys (fun _ => False) R.out.2.2 hyk).mono ?_
      rintro e w3 ⟨v3, rfl, ho3, hb3⟩
      have hsz := R.out.2.1.size
      have hfin := ho3.give R.out.1.fin hb3
      have HQ2 := Lib.hid (And.intro (hfin.lower hsz) (And.intro (R.out.1.below hb3) (R.out.2.1.trans (Kept.of_below_all hb3 R.out.1.fin hsz))))
      clear hfin ho3 hb3 hsz
      go_wp2
      go_ret
      rw [HI.out]
      exact ⟨v3, rfl, HQ2.out⟩

theorem len_calls (w : World) (p : Nat) (st : BSt) (hB : BRep w p st) : Calls Try.prog 88 #[.pointer (some ⟨p, 0, none⟩)] w
      fun e w' => e = .returned (.int .i64 st.nodes.length) ∧ w = w' := by
  obtain ⟨vn, vi, vo, c0, c1, c2, hfz, hO, hne⟩ := hB.cells
  obtain ⟨A, c, rfl, -, -⟩ := hO.shape
  clear hB hO
  go_enter Try.func88, Try.ntmps88
  go_wp2
  go_ret
  exact ⟨rfl, rfl⟩

theorem new_calls (w : World) : Calls Try.prog 15 #[] w
      fun e w' => e = .returned (.pointer (some ⟨w.heap.size, 0, none⟩)) ∧ BRep w' w.heap.size ⟨[], [], []⟩ ∧ Below w.heap.size w w' := by
  go_enter Try.func15, Try.ntmps15
  go_wp2
  go_ret
  have hh := heap_alloc_new w (.cells #[.slice none 0 0, .slice none 0 0, .slice none 0 0] 122)
  refine ⟨rfl, ⟨.slice none 0 0, .slice none 0 0, .slice none 0 0, hh, Own.nil _ _ _ _ _, ⟨[], World.ownsRow_nil _ _ _ _, Pairs.nil _ _ _⟩, ⟨[], World.ownsRow_nil _ _ _ _, Pairs.nil _ _ _⟩, .inl rfl, ?_⟩, (Below.refl _ _).alloc (Nat.le_refl _) _⟩
  rintro i ⟨b, hb, hi⟩
  injection hb with hb; subst hb
  have none_of : ∀ (j : Nat) (v : Value), (w.alloc (.cells #[.slice none 0 0, .slice none 0 0, .slice none 0 0] 122)).cell? ⟨w.heap.size, j, none⟩ = some v → v = .slice none 0 0 := by
    intro j v hc
    rw [cell_of_row _ _ j _ _ _ hh] at hc
    match j, hc with
    | 0, hc => simpa using hc.symm
    | 1, hc => simpa using hc.symm
    | 2, hc => simpa using hc.symm
  rcases hi with rfl | ⟨j, v, hc, hv⟩ | ⟨j, q, off, n, c, j', u, hc, hj, _, _⟩
  · simp
  · rw [none_of j v hc] at hv; cases hv
  · have := none_of j _ hc; cases this
end Go.Proofs.Ytdljgifoboiaeaa
