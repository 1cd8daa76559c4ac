/- A law's builder: ports, the net, one cycle; slipsticklaw14.In and Told. -/
import Derived.Test.YtdljgifoboiaeaaIns
import Derived.Test.YtdljgifoboiaeaaCirc
import Derived.Test.YtdljgifoboiaeaaJR01
namespace Go.Proofs.Ytdljgifoboiaeaa
open Go.RowKit

section
variable {C : World → Prop} {p X : Nat} {st0 st : BSt} {w : World} {N : Nat} {L : List Ent} {K : (Int → Bool) → Prop}

theorem ext_ports {a b : BSt} (h : Ext a b) : b.ins = a.ins ∧ b.outs = a.outs := by obtain ⟨l, rfl⟩ := h; exact ⟨rfl, rfl⟩

theorem PortsOk.bits {st : BSt} (h : PortsOk st) : HasBits st := fun q hq => hq.elim (fun hq => (h.inp q hq).1) fun hq => (h.outs q hq).1

theorem Env.in_ (E : Env C p X st0 w st N L K) (hP : PortsOk st0) (name : ByteArray) (n : Nat) (h0 : 0 < n) (hn : n ≤ 1024) (hm : st0.ins.length < 100) (hN : N + n < 1099511627776) :
    Calls Try.prog 16 #[.pointer (some ⟨p, 0, none⟩), .string name, .int .i64 n] w fun e w' => ∃ v xs st', e = .returned v ∧ Hid (xs.length = n) ∧ Hid (st'.ins = st0.ins ++ [⟨name, xs⟩] ∧ st'.outs = st0.outs) ∧ PortsOk st' ∧ Kept w.heap.size (some p) w w' ∧ st.nodes.length ≤ st'.nodes.length ∧ Fine w' p st' w.heap.size v xs ∧ Env C p w'.heap.size st' w' st' (N + n) (.word v xs :: L) K := by
  have hi := ext_ports E.ext
  have hP1 := hP.ext E.ext
  have hsh := in_shape name n st
  obtain ⟨g1, g2⟩ := in_went name n st E.ord
  refine (in_calls w p st name n E.rep (by omega) (by rw [hi.1]; omega) (by rw [Int.toNat_natCast, g2]; have := E.cnt; omega)).mono fun e w' ⟨v, he, hO, hB, hk⟩ => ?_
  rw [Int.toNat_natCast] at hO hB
  have hq := hP1.in_ name h0 hn (by rw [hi.1]; omega)
  have hlen : (bIn name n st).1.length = n := by rw [hsh]; simp
  have E1 := E.turn (n := n) (l := List.replicate n ⟨1, 0, 0, 0⟩) hk hB (by rw [hsh]) (by simp) g1 hq.1.bits
  refine ⟨v, (bIn name n st).1, (bIn name n st).2, he, Lib.hid hlen, Lib.hid ?_, hq.1, hk, by rw [g2]; omega, ⟨hO, hq.2, by omega⟩, E1.fine ⟨hO, hq.2, by omega⟩⟩
  rw [hsh]
  exact ⟨by rw [hi.1], hi.2⟩

theorem Env.out (E : Env C p X st0 w st N L K) (hP : PortsOk st0) (name : ByteArray) {v : Value} {xs : List Int} (hx : Ent.word v xs ∈ L) (h0 : 0 < xs.length) (hm : st0.outs.length < 100) :
    Calls Try.prog 17 #[.pointer (some ⟨p, 0, none⟩), .string name, v] w fun e w' => ∃ st', e = .returned (.tuple #[]) ∧ Hid (st'.ins = st0.ins ∧ st'.outs = st0.outs ++ [⟨name, xs⟩]) ∧ PortsOk st' ∧ Env C p w'.heap.size st' w' st' N L K := by
  have hi := ext_ports E.ext
  have hP1 := hP.ext E.ext
  refine (out_calls w p st _ name v xs E.rep (E.wd hx) (by have := E.len hx; omega) (by rw [hi.2]; omega)).mono fun e w' ⟨he, hB, hk⟩ => ?_
  have hq := hP1.out name (List.ne_nil_of_length_pos h0) (E.len hx) (E.okay hx) (by rw [hi.2]; omega)
  have E1 := (E.turn (n := 0) (l := []) hk hB (by simp [bOut]) (by simp) E.ord hq.bits).top
  exact ⟨bOut name xs st, he, Lib.hid ⟨hi.1, by rw [← hi.2]; rfl⟩, hq, E1⟩

theorem Env.net (E : Env C p X st0 w st N L K) (hP : PortsOk st0) (hN : N < 1099511627776) :
    Calls Try.prog 19 #[.pointer (some ⟨p, 0, none⟩)] w fun e w' => ∃ vn vi vo, e = .returned (.agg #[vn, vi, vo]) ∧ Below w.heap.size w w' ∧ Env C p w'.heap.size st0 w' st N (.row kNode vn st.nodes :: .row kPort vi st.ins :: .row kPort vo st.outs :: L) K := by
  have hP1 := hP.ext E.ext
  have h1 := E.cnt
  refine (net_calls w (foot w (some p)) E.rep.fin p st E.rep (by omega) (by have := hP1.many.1; omega) (by have := hP1.many.2; omega) (fun q hq => by have := (hP1.inp q hq).2.1; omega) (fun q hq => by have := (hP1.outs q hq).2.1; omega)).mono fun e w' ⟨vn, vi, vo, he, r1, r2, r3, hb⟩ => ?_
  have hfo : ∀ i, foot w' (some p) i ↔ foot w (some p) i := foot_of_heap fun i hi => hb.block i (E.rep.fin i hi)
  have up : ∀ {α : Type} {k : Kd α} {v : Value} {xs : List α}, Row k w' (foot w (some p)) v xs → Row k w' (may w' (some p) w'.heap.size) v xs := fun hr => hr.mono fun i hi hm => hm.elim (fun h => by omega) fun h => (hfo i).1 h
  exact ⟨vn, vi, vo, he, hb, ((((E.quiet hb).top.add (.row kPort vo st.outs) (up r3)).add (.row kPort vi st.ins) (up r2)).add (.row kNode vn st.nodes) (up r1))⟩

theorem Env.eval (E : Env C p X st0 w st N L K) (hP : PortsOk st0) (hN : N < 1099511627776) {vn vi vo u : Value} {nums : List (List Int)} (h1 : Ent.row kNode vn st.nodes ∈ L) (h2 : Ent.row kPort vi st.ins ∈ L) (h3 : Ent.row kPort vo st.outs ∈ L) (h4 : Ent.row (kRow (kNum .u32)) u nums ∈ L)
    (hlen : nums.length = st.ins.length) (hok : ∀ xs ∈ nums, okParts xs ∧ xs.length ≤ 4294967296) (hfit : ∀ i q, st.ins[i]? = some q → partsVal (nums.getD i []) < 2 ^ q.bits.length) :
    Calls Try.prog 61 #[.agg #[vn, vi, vo], u] w fun e w' => ∃ v' V, e = .returned (.tuple #[v', .bool true]) ∧ Below w.heap.size w w' ∧ Sat V st.nodes ∧ Hid (∀ i q, st.ins[i]? = some q → numV V q.bits = partsVal (nums.getD i [])) ∧
      Env C p w'.heap.size st0 w' st N (.row (kRow (kNum .u32)) v' (st.outs.map fun q => parts32 (numV V q.bits)) :: L) K := by
  have hP1 := hP.ext E.ext
  have hc := E.cnt
  obtain ⟨V, hV, hin, hev⟩ := eval_sem E.ord hP1 nums hlen hfit
  have hno : ∀ {α : Type} {k : Kd α} {v : Value} {xs : List α}, Ent.row k v xs ∈ L → Row k w (fun _ => False) v xs := fun h => (E.rw_ h).mono fun _ _ h => h.elim
  refine (eval_ref w (foot w (some p)) _ E.there (.agg #[vn, vi, vo]) u st.nodes st.ins st.outs nums ⟨vn, vi, vo, rfl, hno h1, hno h2, hno h3⟩ (E.rw_ h4) (by omega) E.ord
    ⟨by have := hP1.many.1; omega, fun q hq => ⟨by have := (hP1.inp q hq).2.1; omega, fun b hb => ((hP1.inp q hq).2.2 b hb).1⟩⟩
    ⟨by have := hP1.many.2; omega, fun q hq => ⟨by have := (hP1.outs q hq).2.1; omega, fun b hb => (hP1.outs q hq).2.2 b hb⟩⟩ (formed_of E.ord hP1)
    ⟨hlen, fun i h h' => ⟨(hok _ (List.getElem_mem h')).1, (hok _ (List.getElem_mem h')).2, by
      have := hfit i _ (List.getElem?_eq_getElem h)
      rw [List.getD_eq_getElem?_getD, List.getElem?_eq_getElem h'] at this
      exact nbits_le this⟩⟩).mono fun e w' ⟨v', he, hr, hb⟩ => ?_
  exact ⟨v', V, he, hb, hV, Lib.hid hin, E.rowB hb (hev ▸ hr)⟩
end

section
variable {C : World → Prop} {p X : Nat} {st0 st : BSt} {w : World} {N : Nat} {L : List Ent} {K : (Int → Bool) → Prop}

theorem Env.rshape (E : Env C p X st0 w st N L K) {α : Type} {k : Kd α} {v : Value} {xs : List α} (h : Ent.row k v xs ∈ L) : ∃ A c, v = .slice A xs.length c := by
  obtain ⟨A, c, rfl, _⟩ := (E.rw_ h).shape
  exact ⟨A, c, rfl⟩
/-- a row of rows that is written out -/
theorem Env.lits (E : Env C p X st0 w st N L K) {α : Type} (k : Kd α) (e : TypeId) (xss : List (List α)) (vs : List Value) (n : Nat) (hn : xss.length = n) (hl : vs.length = xss.length) (hl2 : xss.length ≤ 1024) (h : ∀ (i : Nat) x v, xss[i]? = some x → vs[i]? = some v → Ent.row k v x ∈ L) :
    Env C p (w.alloc (.cells vs.toArray e)).heap.size st0 (w.alloc (.cells vs.toArray e)) st N (.row (kRow k) (.slice (some ⟨w.heap.size, 0, none⟩) n n) xss :: L) K := by
  subst hn
  exact E.rowB ((Below.refl _ _).alloc (Nat.le_refl _) _) (lit_row e w xss vs hl (by omega) (fun i x v hx hv => E.rwF (h i x v hx hv)) E.there)

theorem nbits_low (a n : Nat) : nbits (a % 2 ^ n) ≤ n := nbits_le (Nat.mod_lt _ (Nat.two_pow_pos n))
theorem out_len (V : Int → Bool) {xs : List Int} (h : xs.length ≤ 4096) : (parts32 (numV V xs)).length ≤ 1099511627776 := by
  have := nbits_le (numV_lt V xs)
  rw [parts32_length]; omega
theorem parts_fit (m n : Nat) (h : m < 2 ^ n) (hn : n ≤ 4294967296) : okParts (parts32 m) ∧ (parts32 m).length ≤ 4294967296 := by
  have := nbits_le h
  exact ⟨parts32_ok m, by rw [parts32_length]; omega⟩

set_option maxHeartbeats 2000000 in
/-- slipsticklaw14.Told -/
theorem Env.told (E : Env C p X st0 w st N L K) (hP : PortsOk st0) {n1 n2 n3 n4 : ByteArray} {xs ys zs : List Int} {c : Int} (hi : Hid (st0.ins = [⟨n1, xs⟩, ⟨n2, ys⟩, ⟨n3, [c]⟩] ∧ st0.outs = [⟨n4, zs⟩])) {v u : Value} {a b : Nat} (cb : Bool) (ha : Ent.row kBool v (natBits a) ∈ L) (hb : Ent.row kBool u (natBits b) ∈ L) (hna : nbits a ≤ 4294967296) (hnb : nbits b ≤ 4294967296)
    (n m : Nat) (hn : Hid (xs.length = n)) (hm : Hid (ys.length = m)) (hn2 : n ≤ 1024) (hm2 : m ≤ 1024) (hN : N < 1099511627776) :
    Calls Try.prog 45 #[.pointer (some ⟨p, 0, none⟩), .int .i64 n, .int .i64 m, v, u, .bool cb] w fun e w' => ∃ v' V, e = .returned (.tuple #[v', .bool true]) ∧ Below w.heap.size w w' ∧ Sat V st.nodes ∧ Hid (numV V xs = a % 2 ^ n ∧ numV V ys = b % 2 ^ m ∧ V c = cb) ∧
      Env C p w'.heap.size st0 w' st N (.row (kNum .u32) v' (parts32 (numV V zs)) :: L) K := by
  have hie : Hid (st.ins = [⟨n1, xs⟩, ⟨n2, ys⟩, ⟨n3, [c]⟩] ∧ st.outs = [⟨n4, zs⟩]) := Lib.hid ⟨(ext_ports E.ext).1.trans hi.out.1, (ext_ports E.ext).2.trans hi.out.2⟩
  go_enter Try.func45, Try.ntmps45
  go_wp2_with fail
  refine (E.net hP hN).mono ?_
  rintro e w1 ⟨vn, vi, vo, rfl, hb1, E1⟩
  go_wp2_with fail
  refine (E1.ref (low_ref _ _ E1.there _ a n (E1.rwF (by repeat with_reducible first | apply mem_hd | assumption | apply mem_tl)) (by omega) (by omega))).mono ?_
  rintro e w2 ⟨v2, rfl, hb2, E1⟩
  go_wp2_with fail
  refine (E1.ref (parts_ref _ _ E1.there _ (a % 2 ^ n) (E1.rwF (by repeat with_reducible first | apply mem_hd | assumption | apply mem_tl)) (by have := nbits_low a n; omega))).mono ?_
  rintro e w3 ⟨v3, rfl, hb3, E1⟩
  go_wp2_with fail
  refine (E1.ref (low_ref _ _ E1.there _ b m (E1.rwF (by repeat with_reducible first | apply mem_hd | assumption | apply mem_tl)) (by omega) (by omega))).mono ?_
  rintro e w4 ⟨v4, rfl, hb4, E1⟩
  go_wp2_with fail
  refine (E1.ref (parts_ref _ _ E1.there _ (b % 2 ^ m) (E1.rwF (by repeat with_reducible first | apply mem_hd | assumption | apply mem_tl)) (by have := nbits_low b m; omega))).mono ?_
  rintro e w5 ⟨v5, rfl, hb5, E1⟩
  go_wp2_with fail
  refine (E1.ref (one_ref _ _ E1.there cb)).mono ?_
  rintro e w6 ⟨v6, rfl, hb6, E1⟩
  go_wp2_with fail
  refine (E1.ref (parts_ref _ _ E1.there _ cb.toNat (E1.rwF (by repeat with_reducible first | apply mem_hd | assumption | apply mem_tl)) (by cases cb <;> decide))).mono ?_
  rintro e w7 ⟨v7, rfl, hb7, E1⟩
  have hbb : Below w.heap.size w w7 := by
    have h2 := hb1.trans (hb2.mono hb1.size)
    have h3 := h2.trans (hb3.mono h2.size)
    have h4 := h3.trans (hb4.mono h3.size)
    have h5 := h4.trans (hb5.mono h4.size)
    have h6 := h5.trans (hb6.mono h5.size)
    exact h6.trans (hb7.mono h6.size)
  obtain ⟨A3, c3, hv3⟩ := E1.rshape (v := v3) (xs := parts32 (a % 2 ^ n)) (by repeat with_reducible first | apply mem_hd | assumption | apply mem_tl)
  obtain ⟨A5, c5, hv5⟩ := E1.rshape (v := v5) (xs := parts32 (b % 2 ^ m)) (by repeat with_reducible first | apply mem_hd | assumption | apply mem_tl)
  obtain ⟨A7, c7, hv7⟩ := E1.rshape (v := v7) (xs := parts32 cb.toNat) (by repeat with_reducible first | apply mem_hd | assumption | apply mem_tl)
  subst hv3; subst hv5; subst hv7
  have E2 := E1.lits (kNum .u32) 38 [parts32 (a % 2 ^ n), parts32 (b % 2 ^ m), parts32 cb.toNat] [.slice A3 (parts32 (a % 2 ^ n)).length c3, .slice A5 (parts32 (b % 2 ^ m)).length c5, .slice A7 (parts32 cb.toNat).length c7] 3 rfl rfl (by simp) (fun i x v hx hv => by
    match i, hx, hv with
    | 0, hx, hv => simp at hx hv; subst hx; subst hv; exact (by repeat with_reducible first | apply mem_hd | assumption | apply mem_tl)
    | 1, hx, hv => simp at hx hv; subst hx; subst hv; exact (by repeat with_reducible first | apply mem_hd | assumption | apply mem_tl)
    | 2, hx, hv => simp at hx hv; subst hx; subst hv; exact (by repeat with_reducible first | apply mem_hd | assumption | apply mem_tl))
  have hbl := hbb.alloc hbb.size (.cells [.slice A3 (parts32 (a % 2 ^ n)).length c3, .slice A5 (parts32 (b % 2 ^ m)).length c5, .slice A7 (parts32 cb.toNat).length c7].toArray 38)
  have HB := Lib.hid hbl
  clear hb1 hb2 hb3 hb4 hb5 hb6 hb7 hbb hbl
  go_wp2_with fail
  refine (E2.eval hP hN (vn := vn) (vi := vi) (vo := vo) (by repeat with_reducible first | apply mem_hd | assumption | apply mem_tl) (by repeat with_reducible first | apply mem_hd | assumption | apply mem_tl) (by repeat with_reducible first | apply mem_hd | assumption | apply mem_tl) (by repeat with_reducible first | apply mem_hd | assumption | apply mem_tl) (by rw [hie.out.1]; rfl) (fun q hq => ?_) (fun i q hq => ?_)).mono ?_
  · simp only [List.mem_cons, List.not_mem_nil, or_false] at hq
    rcases hq with rfl | rfl | rfl
    · exact parts_fit _ n (Nat.mod_lt _ (Nat.two_pow_pos n)) (by omega)
    · exact parts_fit _ m (Nat.mod_lt _ (Nat.two_pow_pos m)) (by omega)
    · exact parts_fit _ 1 (by cases cb <;> decide) (by omega)
  · rw [hie.out.1] at hq
    match i, hq with
    | 0, hq => simp at hq; subst hq; simp only [List.getD_cons_zero, partsVal_parts32]; rw [hn.out]; exact Nat.mod_lt _ (Nat.two_pow_pos n)
    | 1, hq => simp at hq; subst hq; simp only [List.getD_cons_succ, List.getD_cons_zero, partsVal_parts32]; rw [hm.out]; exact Nat.mod_lt _ (Nat.two_pow_pos m)
    | 2, hq => simp at hq; subst hq; simp only [List.getD_cons_succ, List.getD_cons_zero, partsVal_parts32]; show cb.toNat < 2 ^ 1; cases cb <;> decide
  rintro e w8 ⟨v8, V, rfl, hb8, hV, hin, E3⟩
  rw [hie.out.2] at E3
  have HB8 := Lib.hid (HB.out.trans (hb8.mono HB.out.size))
  have hvals : Hid (numV V xs = a % 2 ^ n ∧ numV V ys = b % 2 ^ m ∧ V c = cb) := Lib.hid (by
    have h0 := hin.out 0 _ (by rw [hie.out.1]; rfl)
    have h1 := hin.out 1 _ (by rw [hie.out.1]; rfl)
    have h2 := hin.out 2 _ (by rw [hie.out.1]; rfl)
    simp only [List.getD_cons_succ, List.getD_cons_zero, partsVal_parts32] at h0 h1 h2
    rw [numV_one] at h2
    refine ⟨h0, h1, ?_⟩
    revert h2
    cases V c <;> cases cb <;> simp)
  obtain ⟨A8, c8, hv8⟩ := E3.rshape (v := v8) (by repeat with_reducible first | apply mem_hd | assumption | apply mem_tl)
  simp only [List.map_cons, List.map_nil, List.length_cons, List.length_nil, Nat.zero_add] at hv8 E3
  subst hv8
  obtain ⟨b9, o9, A9, c9, rfl, x0, hr9⟩ := (E3.rwF (k := kRow (kNum .u32)) (xs := [parts32 (numV V zs)]) (by repeat with_reducible first | apply mem_hd | assumption | apply mem_tl)).row_at (i := 0) (by simp)
  simp only [List.getElem_cons_zero, Nat.add_zero] at x0 hr9
  have E4 := (E3.addRow (hr9.mono fun i hi hm => hm.elim (fun h => by omega) fun h => h)).only (L' := .row (kNum .u32) (.slice A9 (parts32 (numV V zs)).length c9) (parts32 (numV V zs)) :: L) (by repeat with_reducible first | refine sub_cons (by repeat with_reducible first | apply mem_hd | assumption | apply mem_tl) ?_ | exact sub_nil | apply sub_refl | apply sub_tail)
  clear E1 E2 E3 hr9 hb8 hin
  go_wp2
  go_ret2
  exact ⟨_, V, rfl, HB8.out, hV, hvals, E4⟩
end

/-- slipsticklaw14.In -/
theorem in14 (w : World) (n m : Nat) (hn : 0 < n ∧ n ≤ 1024) (hm : 0 < m ∧ m ≤ 1024) :
    Calls Try.prog 36 #[.int .i64 n, .int .i64 m] w fun e w' => ∃ p X vx vy xs ys c st, e = .returned (.tuple #[.pointer (some ⟨p, 0, none⟩), vx, vy, .int .i64 c, .bool true]) ∧ Hid (xs.length = n) ∧ Hid (ys.length = m) ∧
      Hid (st.ins = [⟨⟨#[120]⟩, xs⟩, ⟨⟨#[121]⟩, ys⟩, ⟨⟨#[99]⟩, [c]⟩] ∧ st.outs = []) ∧ PortsOk st ∧
      Env (fun a => Fresh w.heap.size a p ∧ Below w.heap.size w a) p X st w' st 3000 (.pl c :: .word vy ys :: .word vx xs :: []) (fun _ => True) := by
  go_enter Try.func36, Try.ntmps36
  go_wp2_with fail
  refine (new_mine w).mono ?_
  rintro e w1 ⟨rfl, hM⟩
  obtain ⟨p, hp⟩ : ∃ p : Nat, w.heap.size = p := ⟨_, rfl⟩
  have E := (Env.ofMine hM HasBits.none Ordered.nil).cntle (N' := 0) (by simp)
  have hP0 := PortsOk.none
  rw [hp] at E
  have hs0 : (⟨[], [], []⟩ : BSt).ins = [] ∧ (⟨[], [], []⟩ : BSt).outs = [] := ⟨rfl, rfl⟩
  generalize (⟨[], [], []⟩ : BSt) = s0 at E hP0 hs0
  have HS := Lib.hid hs0
  have HPW := Lib.hid hp
  clear hM hs0
  rw [hp]
  clear hp
  go_wp2_with fail
  refine (E.in_ hP0 ⟨#[120]⟩ n hn.1 hn.2 (by rw [HS.out.1]; decide) (by omega)).mono ?_
  rintro e w2 ⟨vx, xs, s1, rfl, hx, hi1, hP1, -, -, -, E⟩
  rw [HS.out.1, HS.out.2] at hi1
  go_wp2_with fail
  refine (E.in_ hP1 ⟨#[121]⟩ m hm.1 hm.2 (by rw [hi1.out.1]; simp) (by omega)).mono ?_
  rintro e w3 ⟨vy, ys, s2, rfl, hy, hi2, hP2, -, -, -, E⟩
  rw [hi1.out.1, hi1.out.2] at hi2
  go_wp2_with fail
  refine (E.in_ hP2 ⟨#[99]⟩ 1 (by decide) (by decide) (by rw [hi2.out.1]; simp) (by omega)).mono ?_
  rintro e w4 ⟨vc, cs, s3, rfl, hc, hi3, hP3, -, -, -, E⟩
  rw [hi2.out.1, hi2.out.2] at hi3
  obtain ⟨c, rfl⟩ : ∃ c, cs = [c] := List.length_eq_one_iff.1 hc.out
  obtain ⟨A1, c1, rfl, -, -⟩ := E.shape (xs := xs) (by repeat with_reducible first | apply mem_hd | assumption | apply mem_tl)
  obtain ⟨A2, c2, rfl, -, -⟩ := E.shape (xs := ys) (by repeat with_reducible first | apply mem_hd | assumption | apply mem_tl)
  obtain ⟨A3, c3, hv, -, -⟩ := E.shape (xs := [c]) (by repeat with_reducible first | apply mem_hd | assumption | apply mem_tl)
  rw [List.length_singleton] at hv
  subst hv
  obtain ⟨b3, o3, rfl⟩ := E.start_ (xs := [c]) (by repeat with_reducible first | apply mem_hd | assumption | apply mem_tl) (Nat.zero_lt_one)
  have ka : At s3 c := (E.okay (xs := [c]) (by repeat with_reducible first | apply mem_hd | assumption | apply mem_tl)).at (i := 0) Nat.zero_lt_one
  have E1 := ((E.addPl ka).drew.cntle (N' := 3000) (by omega)).only (L' := .pl c :: .word _ ys :: .word _ xs :: []) (by repeat with_reducible first | refine sub_cons (by repeat with_reducible first | apply mem_hd | assumption | apply mem_tl) ?_ | exact sub_nil | apply sub_refl | apply sub_tail)
  have q0 := E.cell (xs := [c]) (by repeat with_reducible first | apply mem_hd | assumption | apply mem_tl) (i := 0) Nat.zero_lt_one
  have q1 := E.drew.cell (xs := [c]) (by repeat with_reducible first | apply mem_hd | assumption | apply mem_tl) (i := 0) Nat.zero_lt_one
  rw [hx.out, hy.out] at E1
  rw [hx.out, hy.out]
  simp only [List.getElem_cons_zero, Nat.add_zero] at q0 q1
  clear E
  go_wp2_with fail
  go_region_held3 (fun w' => w'.cell? ⟨b3, o3, none⟩ = some (.int .i64 c)) (first | with_reducible exact q0 | with_reducible exact q1) (fail)
  go_wp2
  refine bodyPost_ret (v := .tuple #[.pointer (some ⟨p, 0, none⟩), .slice A1 n c1, .slice A2 m c2, .int .i64 c, .bool true]) (by simp [results, Try.results36, go_sem]) rfl ⟨p, w4.drew.heap.size, _, _, xs, ys, c, s3, rfl, hx, hy, Lib.hid ⟨by rw [hi3.out.1]; rfl, hi3.out.2⟩, hP3, ?_⟩
  rw [HPW.out]
  exact E1.top
end Go.Proofs.Ytdljgifoboiaeaa
