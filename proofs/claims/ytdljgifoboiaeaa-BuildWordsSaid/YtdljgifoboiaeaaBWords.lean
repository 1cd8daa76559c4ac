/- slipsticklaw08.BuildWords, walked. -/
import Derived.Test.YtdljgifoboiaeaaWords
import Derived.Test.YtdljgifoboiaeaaR08
namespace Go.Proofs.Ytdljgifoboiaeaa
open Go.RowKit

theorem eachN_of {kind : Int} {V : Int → Bool} {r : List Int} {a b n : Nat} (hl : r.length = n) (h : ∀ i, i < n → (numV V r).testBit i = gateK kind (a.testBit i) (b.testBit i)) : numV V r = eachN kind a b n := by
  refine numV_ext (by rw [hl]; exact eachN_lt kind a b n) fun i hi => ?_
  rw [← numV_at (V := V) hi, h i (by omega), eachN_testBit kind a b n i (by omega)]
theorem eachN_ones {u n : Nat} (hu : u < 2 ^ n) : eachN 5 u (2 ^ n - 1) n = 2 ^ n - (u + 1) := by
  refine Nat.eq_of_testBit_eq fun i => ?_
  rcases Nat.lt_or_ge i n with h | h
  · rw [eachN_testBit _ _ _ _ _ h, Nat.testBit_two_pow_sub_succ hu, Nat.testBit_two_pow_sub_one]
    simp [gateK, h]
  · rw [Nat.testBit_lt_two_pow (Nat.lt_of_lt_of_le (eachN_lt 5 u (2 ^ n - 1) n) (Nat.pow_le_pow_right (by decide) h)), Nat.testBit_lt_two_pow (Nat.lt_of_lt_of_le (by have := Nat.two_pow_pos n; omega : 2 ^ n - (u + 1) < 2 ^ n) (Nat.pow_le_pow_right (by decide) h))]
theorem nbits_ones' (d : Nat) : nbits (2 ^ d - 1) = d := by
  have hp := Nat.two_pow_pos d
  have h1 : nbits (2 ^ d - 1) ≤ d := nbits_le (by omega)
  rcases Nat.lt_or_ge (nbits (2 ^ d - 1)) d with h | h
  · have h2 := lt_nbits (2 ^ d - 1)
    have h3 : 2 ^ (nbits (2 ^ d - 1) + 1) ≤ 2 ^ d := Nat.pow_le_pow_right (by decide) h
    rw [Nat.pow_succ] at h3
    have h4 := Nat.two_pow_pos (nbits (2 ^ d - 1))
    omega
  · omega
theorem natBits_ones (n : Nat) : natBits (2 ^ n - 1) = List.replicate n true := by
  refine List.ext_getElem (by rw [natBits_length, nbits_ones', List.length_replicate]) fun i h1 h2 => ?_
  rw [List.length_replicate] at h2
  simp [natBits, lowBits, Nat.testBit_two_pow_sub_one, h2]

theorem cells5 {w w' : World} {b o : Nat} {v0 v1 v2 v3 v4 : Value} (hb : Below w.heap.size w w') (h : w.cell? ⟨b, o, none⟩ = some v0 ∧ w.cell? ⟨b, o + 1, none⟩ = some v1 ∧ w.cell? ⟨b, o + 2, none⟩ = some v2 ∧ w.cell? ⟨b, o + 3, none⟩ = some v3 ∧ w.cell? ⟨b, o + 4, none⟩ = some v4) :
    w'.cell? ⟨b, o, none⟩ = some v0 ∧ w'.cell? ⟨b, o + 1, none⟩ = some v1 ∧ w'.cell? ⟨b, o + 2, none⟩ = some v2 ∧ w'.cell? ⟨b, o + 3, none⟩ = some v3 ∧ w'.cell? ⟨b, o + 4, none⟩ = some v4 :=
  ⟨cell_below hb h.1, cell_below hb h.2.1, cell_below hb h.2.2.1, cell_below hb h.2.2.2.1, cell_below hb h.2.2.2.2⟩
/-- as Env, but that ports may have no bits -/
structure Bare (C : World → Prop) (p X : Nat) (st : BSt) (w : World) (L : List Ent) : Prop where
  c : C w
  cl : ∀ a b, C a → Kept X (some p) a b → X ≤ a.heap.size → C b
  rep : BRep w p st
  size : X ≤ w.heap.size
  ents : ∀ e ∈ L, e.ok w (may w (some p) X) st
theorem Env.bare {C : World → Prop} {p X : Nat} {st0 st : BSt} {w : World} {N : Nat} {L : List Ent} {K : (Int → Bool) → Prop} (E : Env C p X st0 w st N L K) : Bare C p X st w L := ⟨E.c, E.cl, E.rep, E.size, E.ents⟩
theorem Bare.out {C : World → Prop} {p X : Nat} {st : BSt} {w : World} {L : List Ent} (B : Bare C p X st w L) (name : ByteArray) {v : Value} {xs : List Int} (hx : Ent.word v xs ∈ L) (hm : st.outs.length < 100) :
    Calls Try.prog 17 #[.pointer (some ⟨p, 0, none⟩), .string name, v] w fun e w' => ∃ st', e = .returned (.tuple #[]) ∧ Hid (st'.nodes = st.nodes ∧ st'.ins = st.ins ∧ st'.outs = st.outs ++ [⟨name, xs⟩]) ∧ Bare C p X st' w' L :=
  (out_calls w p st _ name v xs B.rep (B.ents _ hx).1 (by have := (B.ents _ hx).2.2; omega) (by omega)).mono fun e w' ⟨he, hB, hk⟩ =>
    have hkX := hk.mono B.size
    ⟨bOut name xs st, he, Lib.hid ⟨rfl, rfl, rfl⟩, ⟨B.cl _ _ B.c hkX B.size, B.cl, hB, Nat.le_trans B.size hk.size, fun e he => (B.ents e he).keep hkX.same hkX.mayOf (Nat.le_refl _)⟩⟩
theorem formedB_bare {nodes : List Node} {ins outs : List Port} {q : Port} (hq : q ∈ outs) (hb : q.bits = []) : formedB nodes ins outs = false := by
  unfold formedB
  rw [Bool.and_eq_false_iff]
  right
  rw [List.all_eq_false]
  exact ⟨q, List.mem_append_right _ hq, by simp [portB, hb]⟩
set_option maxHeartbeats 8000000 in
set_option maxRecDepth 100000 in
attribute [local go_sem] max2_int min2_int max_two min_two in
theorem buildWords_walk (w : World) (a b kd d : Nat) (ha : a < 256) (hb : b < 256) (hkd : kd < 256) (hd : d < 256) (vx vy : Value) (xs ys : List Int) (hx : Row (kNum .u32) w (fun _ => False) vx xs) (hy : Row (kNum .u32) w (fun _ => False) vy ys) (hxo : okParts xs) (hyo : okParts ys) (cb : Bool) :
    Calls Try.prog 4 #[.int .u8 a, .int .u8 b, .int .u8 kd, .int .u8 d, vx, vy, .bool cb] w fun e w' => e = .returned (.bool true) ∧ Below w.heap.size w w' := by
  obtain ⟨n, hn⟩ : ∃ n : Nat, (a : Int) % 40 = n := ⟨a % 40, by omega⟩
  obtain ⟨m, hm⟩ : ∃ m : Nat, (b : Int) % 40 = m := ⟨b % 40, by omega⟩
  obtain ⟨wd, hwd⟩ : ∃ wd : Nat, (d : Int) % 50 = wd := ⟨d % 50, by omega⟩
  obtain ⟨kind, hkind⟩ : ∃ kind : Nat, (kd : Int) % 8 = kind := ⟨kd % 8, by omega⟩
  have hn1 : n ≤ 40 := by omega
  have hm1 : m ≤ 40 := by omega
  have hw1 : wd ≤ 50 := by omega
  have hk1 : kind < 8 := by omega
  obtain ⟨A1, c1, rfl, -, hc1⟩ := hx.shape
  obtain ⟨A2, c2, rfl, -, hc2⟩ := hy.shape
  unfold maxLen at hc1 hc2
  have HX := Lib.hid hx
  have HY := Lib.hid hy
  have HXO := Lib.hid hxo
  have HYO := Lib.hid hyo
  clear hx hy hxo hyo
  obtain ⟨lg, hlg⟩ : ∃ lg : Nat, max (n : Int) (m : Int) = lg := ⟨max n m, by omega⟩
  have hlg2 : Hid (max n m = lg) := Lib.hid (by omega)
  have hlg3 : lg ≤ 40 := by omega
  go_enter Try.func4, Try.ntmps4
  go_wp2_with fail
  refine (awake08 w).mono ?_
  rintro e w1 ⟨rfl, hb1⟩
  have HX1 := Lib.hid (HX.out.later hb1)
  have HY1 := Lib.hid (HY.out.later hb1)
  have HB1 := Lib.hid hb1
  clear hb1
  by_cases hsx : xs.length ≤ 20
  · by_cases hsy : ys.length ≤ 20
    · have hk1 : (decide (20 < (xs.length : Int)) || decide (20 < (ys.length : Int))) = false := by simp; omega
      have hk2 : ¬ (20 < (xs.length : Int)) := by omega
      have hk3 : ¬ (20 < (ys.length : Int)) := by omega
      go_wp2_with fail
      refine (words8 w1 n m (by omega) (by omega)).mono ?_
      rintro e w2 ⟨p, X, vp, vq, ps, qs, kk, st1, xs', ys', rfl, hp, hq, hi, hl, hP, E⟩
      have E := (E.old' HX1.out).old' HY1.out
      go_wp2_with fail
      refine (E.each kind (xs := ps) (ys := qs) (by repeat with_reducible first | apply mem_hd | assumption | apply mem_tl) (by repeat with_reducible first | apply mem_hd | assumption | apply mem_tl) (by omega)).mono ?_
      rintro e w3 ⟨ve, es, st3, he, rfl, -, -, -, E⟩
      rw [hp.out, hq.out, hlg2.out] at he
      go_wp2_with fail
      refine (E.nots (xs := ps) (by repeat with_reducible first | apply mem_hd | assumption | apply mem_tl) (by omega)).mono ?_
      rintro e w4 ⟨vt, ts, st4, ht, rfl, -, -, -, E⟩
      rw [hp.out] at ht
      go_wp2_with fail
      refine (E.pick (xs := ps) (ys := qs) (c := kk) (by repeat with_reducible first | apply mem_hd | assumption | apply mem_tl) (by repeat with_reducible first | apply mem_hd | assumption | apply mem_tl) (by repeat with_reducible first | apply mem_hd | assumption | apply mem_tl) (by omega)).mono ?_
      rintro e w5 ⟨vk, ks, st5, hk, rfl, -, -, -, E⟩
      rw [hp.out, hq.out, hlg2.out] at hk
      go_wp2_with fail
      refine (E.pad (xs := ps) (by repeat with_reducible first | apply mem_hd | assumption | apply mem_tl) (wd : Int) (by omega) (by omega)).mono ?_
      rintro e w6 ⟨vf, fs, st6, hf, rfl, -, -, -, E⟩
      rw [Int.toNat_natCast] at hf E
      go_wp2_with fail
      refine (E.wordOf (xs := xs) (by repeat with_reducible first | apply mem_hd | assumption | apply mem_tl) HXO.out wd (by omega) (by omega)).mono ?_
      rintro e w7 ⟨vl, ls, st7, hlw, rfl, -, -, -, E⟩
      obtain ⟨Ae, ce, hve, -, -⟩ := E.shape (xs := es) (by repeat with_reducible first | apply mem_hd | assumption | apply mem_tl)
      obtain ⟨At, ct, hvt, -, -⟩ := E.shape (xs := ts) (by repeat with_reducible first | apply mem_hd | assumption | apply mem_tl)
      obtain ⟨Ak, ck, hvk, -, -⟩ := E.shape (xs := ks) (by repeat with_reducible first | apply mem_hd | assumption | apply mem_tl)
      obtain ⟨Af, cf, hvf, -, -⟩ := E.shape (xs := fs) (by repeat with_reducible first | apply mem_hd | assumption | apply mem_tl)
      obtain ⟨Al, cl, hvl, -, -⟩ := E.shape (xs := ls) (by repeat with_reducible first | apply mem_hd | assumption | apply mem_tl)
      rw [he.out] at hve
      rw [ht.out] at hvt
      rw [hk.out] at hvk
      rw [hf.out] at hvf
      rw [hlw.out] at hvl
      subst hve; subst hvt; subst hvk; subst hvf; subst hvl
      have E := ((E.know (K' := fun V => (∀ i, i < lg → (numV V es).testBit i = gateK kind ((numV V ps).testBit i) ((numV V qs).testBit i)) ∧ numV V ts + numV V ps + 1 = 2 ^ n ∧ (numV V ks = if V kk then numV V qs else numV V ps) ∧ numV V fs = numV V ps % 2 ^ wd ∧ numV V ls = partsVal xs % 2 ^ wd) fun V ⟨⟨⟨⟨⟨_, f1⟩, f2⟩, f3⟩, f4⟩, f5⟩ => ⟨fun i hi => f1 i (by rw [hp.out, hq.out, hlg2.out]; exact hi), by rw [← hp.out]; exact f2, f3, f4, f5⟩).cntle (N' := 40000) (by omega)).only (L' := .word (.slice Ae lg ce) es :: .word (.slice At n ct) ts :: .word (.slice Ak lg ck) ks :: .word (.slice Af wd cf) fs :: .word (.slice Al wd cl) ls :: .row (kNum .u32) (.slice A2 ys.length c2) ys :: .row (kNum .u32) (.slice A1 xs.length c1) xs :: []) (by repeat with_reducible first | refine sub_cons (by repeat with_reducible first | apply mem_hd | assumption | apply mem_tl) ?_ | exact sub_nil | apply sub_refl | apply sub_tail)
      have x0 : ∀ w : World, (Instr.index 57 (.agg #[.slice Ae lg ce, .slice At n ct, .slice Ak lg ck, .slice Af wd cf, .slice Al wd cl]) (.int .i64 0)).run Try.prog w = .ok (.slice Ae lg ce) w := fun _ => by kernel_rfl
      have x1 : ∀ w : World, (Instr.index 57 (.agg #[.slice Ae lg ce, .slice At n ct, .slice Ak lg ck, .slice Af wd cf, .slice Al wd cl]) (.int .i64 1)).run Try.prog w = .ok (.slice At n ct) w := fun _ => by kernel_rfl
      have x2 : ∀ w : World, (Instr.index 57 (.agg #[.slice Ae lg ce, .slice At n ct, .slice Ak lg ck, .slice Af wd cf, .slice Al wd cl]) (.int .i64 2)).run Try.prog w = .ok (.slice Ak lg ck) w := fun _ => by kernel_rfl
      have x3 : ∀ w : World, (Instr.index 57 (.agg #[.slice Ae lg ce, .slice At n ct, .slice Ak lg ck, .slice Af wd cf, .slice Al wd cl]) (.int .i64 3)).run Try.prog w = .ok (.slice Af wd cf) w := fun _ => by kernel_rfl
      have x4 : ∀ w : World, (Instr.index 57 (.agg #[.slice Ae lg ce, .slice At n ct, .slice Ak lg ck, .slice Af wd cf, .slice Al wd cl]) (.int .i64 4)).run Try.prog w = .ok (.slice Al wd cl) w := fun _ => by kernel_rfl
      by_cases hgood : 0 < n ∧ 0 < wd
      · have hn0 := hgood.1
        have hw0 := hgood.2
        have hpe : 0 < es.length := by rw [he.out]; omega
        have hpt : 0 < ts.length := by rw [ht.out]; omega
        have hpk : 0 < ks.length := by rw [hk.out]; omega
        have hpf : 0 < fs.length := by rw [hf.out]; omega
        have hpl : 0 < ls.length := by rw [hlw.out]; omega
        go_wp2_with fail
        go_loopw [128] (fun iv wr => ∃ (j : Nat) (stj : BSt), j ≤ 5 ∧ iv = .int .i64 (j : Nat) ∧ Hid (stj.ins = st1.ins ∧ stj.outs = ([⟨⟨#[122]⟩, es⟩, ⟨⟨#[122]⟩, ts⟩, ⟨⟨#[122]⟩, ks⟩, ⟨⟨#[122]⟩, fs⟩, ⟨⟨#[122]⟩, ls⟩] : List Port).take j) ∧ PortsOk stj ∧
            Env (fun a => Fresh w1.heap.size a p ∧ Below w1.heap.size w1 a) p wr.heap.size stj wr stj 40000 (.word (.slice Ae lg ce) es :: .word (.slice At n ct) ts :: .word (.slice Ak lg ck) ks :: .word (.slice Af wd cf) fs :: .word (.slice Al wd cl) ls :: .row (kNum .u32) (.slice A2 ys.length c2) ys :: .row (kNum .u32) (.slice A1 xs.length c1) xs :: []) (fun V => (∀ i, i < lg → (numV V es).testBit i = gateK kind ((numV V ps).testBit i) ((numV V qs).testBit i)) ∧ numV V ts + numV V ps + 1 = 2 ^ n ∧ (numV V ks = if V kk then numV V qs else numV V ps) ∧ numV V fs = numV V ps % 2 ^ wd ∧ numV V ls = partsVal xs % 2 ^ wd))
          (fun iv _ => 5 - (intOf iv).toNat)
        case atStart =>
          have he0 := ext_ports E.ext
          exact ⟨0, st7, by omega, rfl, Lib.hid ⟨he0.1, by rw [he0.2, hi.out.2]; rfl⟩, hP.ext E.ext, { E.top with ext := Ext.refl _, bits := (hP.ext E.ext).bits }⟩
        case round =>
          obtain ⟨j, stj, hj, rfl, hpj, hPj, E1⟩ := hrel
          have hj2 : j = 0 ∨ j = 1 ∨ j = 2 ∨ j = 3 ∨ j = 4 ∨ j = 5 := by omega
          rcases hj2 with rfl | rfl | rfl | rfl | rfl | rfl
          · skip
            go_wp2_with fail
            refine (E1.out hPj ⟨#[122]⟩ (xs := es) (by repeat with_reducible first | apply mem_hd | assumption | apply mem_tl) hpe (by rw [hpj.out.2]; simp)).mono ?_
            rintro e wq ⟨stq, rfl, hiq, hPq, E2⟩
            go_wp2
            go_roundw
            case rel => exact ⟨1, stq, by omega, by go_num, Lib.hid ⟨hiq.out.1.trans hpj.out.1, by rw [hiq.out.2, hpj.out.2]; rfl⟩, hPq, E2.top⟩
            case measure => simp [intOf]
          · skip
            go_wp2_with fail
            refine (E1.out hPj ⟨#[122]⟩ (xs := ts) (by repeat with_reducible first | apply mem_hd | assumption | apply mem_tl) hpt (by rw [hpj.out.2]; simp)).mono ?_
            rintro e wq ⟨stq, rfl, hiq, hPq, E2⟩
            go_wp2
            go_roundw
            case rel => exact ⟨2, stq, by omega, by go_num, Lib.hid ⟨hiq.out.1.trans hpj.out.1, by rw [hiq.out.2, hpj.out.2]; rfl⟩, hPq, E2.top⟩
            case measure => simp [intOf]
          · skip
            go_wp2_with fail
            refine (E1.out hPj ⟨#[122]⟩ (xs := ks) (by repeat with_reducible first | apply mem_hd | assumption | apply mem_tl) hpk (by rw [hpj.out.2]; simp)).mono ?_
            rintro e wq ⟨stq, rfl, hiq, hPq, E2⟩
            go_wp2
            go_roundw
            case rel => exact ⟨3, stq, by omega, by go_num, Lib.hid ⟨hiq.out.1.trans hpj.out.1, by rw [hiq.out.2, hpj.out.2]; rfl⟩, hPq, E2.top⟩
            case measure => simp [intOf]
          · skip
            go_wp2_with fail
            refine (E1.out hPj ⟨#[122]⟩ (xs := fs) (by repeat with_reducible first | apply mem_hd | assumption | apply mem_tl) hpf (by rw [hpj.out.2]; simp)).mono ?_
            rintro e wq ⟨stq, rfl, hiq, hPq, E2⟩
            go_wp2
            go_roundw
            case rel => exact ⟨4, stq, by omega, by go_num, Lib.hid ⟨hiq.out.1.trans hpj.out.1, by rw [hiq.out.2, hpj.out.2]; rfl⟩, hPq, E2.top⟩
            case measure => simp [intOf]
          · skip
            go_wp2_with fail
            refine (E1.out hPj ⟨#[122]⟩ (xs := ls) (by repeat with_reducible first | apply mem_hd | assumption | apply mem_tl) hpl (by rw [hpj.out.2]; simp)).mono ?_
            rintro e wq ⟨stq, rfl, hiq, hPq, E2⟩
            go_wp2
            go_roundw
            case rel => exact ⟨5, stq, by omega, by go_num, Lib.hid ⟨hiq.out.1.trans hpj.out.1, by rw [hiq.out.2, hpj.out.2]; rfl⟩, hPq, E2.top⟩
            case measure => simp [intOf]
          · go_wp2_with fail
            refine (E1.eval08 hPj (by omega) (Lib.hid (hpj.out.1.trans hi.out.1)) (xs := xs) (ys := ys) (by repeat with_reducible first | apply mem_hd | assumption | apply mem_tl) (by repeat with_reducible first | apply mem_hd | assumption | apply mem_tl) HXO.out HYO.out hsx hsy n m (Lib.hid hl.out.1.1) (Lib.hid hl.out.1.2) (by omega) (by omega) cb).mono ?_
            rintro e w9 ⟨v9, V, rfl, hb9, hV, hvals, E⟩
            have hK := E.sem V hV
            have g1 : numV V ps = partsVal xs % 2 ^ n := by rw [hl.out.2.1, numV_take, hvals.out.1, Nat.mod_mod]
            have g2 : numV V qs = partsVal ys % 2 ^ m := by rw [hl.out.2.2, numV_take, hvals.out.2.1, Nat.mod_mod]
            have g3 := hvals.out.2.2
            have hul := Nat.mod_lt (partsVal xs) (Nat.two_pow_pos n)
            have htl := Nat.mod_lt (partsVal ys) (Nat.two_pow_pos m)
            have hbx : nbits (partsVal xs) ≤ 640 := by have := nbits_parts HXO.out; omega
            have hby : nbits (partsVal ys) ≤ 640 := by have := nbits_parts HYO.out; omega
            obtain ⟨u, hu⟩ : ∃ u, partsVal xs % 2 ^ n = u := ⟨_, rfl⟩
            obtain ⟨t, ht'⟩ : ∃ t, partsVal ys % 2 ^ m = t := ⟨_, rfl⟩
            rw [hu] at g1 hul
            rw [ht'] at g2 htl
            have f1 : numV V es = eachN kind u t lg := eachN_of he.out fun i hi => by rw [hK.1 i hi, g1, g2]
            have f2 : numV V ts = eachN 5 u (2 ^ n - 1) n := by rw [eachN_ones hul]; have h := hK.2.1; rw [g1] at h; omega
            have f3 : numV V ks = if cb then t else u := by rw [hK.2.2.1, g1, g2, g3]
            have f4 : numV V fs = u % 2 ^ wd := by rw [hK.2.2.2.1, g1]
            have f5 := hK.2.2.2.2
            have e9 : stj.outs.map (fun q => parts32 (numV V q.bits)) = [parts32 (eachN kind u t lg), parts32 (eachN 5 u (2 ^ n - 1) n), parts32 (if cb then t else u), parts32 (u % 2 ^ wd), parts32 (partsVal xs % 2 ^ wd)] := by
              rw [hpj.out.2, ← f1, ← f2, ← f3, ← f4, ← f5]; rfl
            obtain ⟨ch, hch⟩ : ∃ ch, (if cb then t else u) = ch := ⟨_, rfl⟩
            rw [hch] at e9
            rw [e9] at E
            have hb1 : nbits (eachN kind u t lg) ≤ 4294967296 := Nat.le_trans (nbits_le (eachN_lt _ _ _ _)) (by omega)
            have hb2 : nbits (eachN 5 u (2 ^ n - 1) n) ≤ 4294967296 := Nat.le_trans (nbits_le (eachN_lt _ _ _ _)) (by omega)
            have hb3 : nbits u ≤ 4294967296 := Nat.le_trans (nbits_le hul) (by omega)
            have hb4 : nbits t ≤ 4294967296 := Nat.le_trans (nbits_le htl) (by omega)
            have hb5 : nbits (u % 2 ^ wd) ≤ 4294967296 := Nat.le_trans (nbits_low _ _) (by omega)
            have hb6 : nbits (partsVal xs % 2 ^ wd) ≤ 4294967296 := Nat.le_trans (nbits_low _ _) (by omega)
            have HU := Lib.hid hu
            have HT := Lib.hid ht'
            obtain ⟨A9, c9, hv9⟩ := E.rshape (v := v9) (by repeat with_reducible first | apply mem_hd | assumption | apply mem_tl)
            simp only [List.length_cons, List.length_nil, Nat.zero_add, Nat.reduceAdd] at hv9
            subst hv9
            have E := E.only (L' := .row (kRow (kNum .u32)) (.slice A9 5 c9) [parts32 (eachN kind u t lg), parts32 (eachN 5 u (2 ^ n - 1) n), parts32 ch, parts32 (u % 2 ^ wd), parts32 (partsVal xs % 2 ^ wd)] :: .row (kNum .u32) (.slice A2 ys.length c2) ys :: .row (kNum .u32) (.slice A1 xs.length c1) xs :: []) (by repeat with_reducible first | refine sub_cons (by repeat with_reducible first | apply mem_hd | assumption | apply mem_tl) ?_ | exact sub_nil | apply sub_refl | apply sub_tail)
            clear hK hV hvals g1 g2 g3 f1 f2 f3 f4 f5 e9 hu ht' E1 hb9
            cases cb
            · obtain rfl : u = ch := by simpa using hch
              go_wp2_with fail
              refine (E.ref (of_ref _ _ E.there _ xs (E.rwF (by repeat with_reducible first | apply mem_hd | assumption | apply mem_tl)) HXO.out (by omega))).mono ?_
              rintro e w10 ⟨v10, rfl, hb10, E⟩
              go_wp2_with fail
              refine (E.ref (low_ref _ _ E.there _ (partsVal xs) n (E.rwF (by repeat with_reducible first | apply mem_hd | assumption | apply mem_tl)) (by omega) (by omega))).mono ?_
              rintro e w11 ⟨v11, rfl, hb11, E⟩
              rw [HU.out] at E
              go_wp2_with fail
              refine (E.ref (of_ref _ _ E.there _ ys (E.rwF (by repeat with_reducible first | apply mem_hd | assumption | apply mem_tl)) HYO.out (by omega))).mono ?_
              rintro e w12 ⟨v12, rfl, hb12, E⟩
              go_wp2_with fail
              refine (E.ref (low_ref _ _ E.there _ (partsVal ys) m (E.rwF (by repeat with_reducible first | apply mem_hd | assumption | apply mem_tl)) (by omega) (by omega))).mono ?_
              rintro e w13 ⟨v13, rfl, hb13, E⟩
              rw [HT.out] at E
              have E := E.only (L' := .row kBool v13 (natBits t) :: .row kBool v11 (natBits u) :: .row (kRow (kNum .u32)) (.slice A9 5 c9) [parts32 (eachN kind u t lg), parts32 (eachN 5 u (2 ^ n - 1) n), parts32 u, parts32 (u % 2 ^ wd), parts32 (partsVal xs % 2 ^ wd)] :: .row (kNum .u32) (.slice A1 xs.length c1) xs :: []) (by repeat with_reducible first | refine sub_cons (by repeat with_reducible first | apply mem_hd | assumption | apply mem_tl) ?_ | exact sub_nil | apply sub_refl | apply sub_tail)
              clear hb10 hb11 hb12 hb13
              go_wp2_with fail
              go_loopw [36, 37] (fun v i wr => ∃ j : Nat, j ≤ n ∧ i = .int .i64 j ∧ Own kBool 4 wr none w13.heap.size v (List.replicate j true) ∧ Below w13.heap.size w13 wr) (fun _ i _ => n - (intOf i).toNat)
              case atStart => exact ⟨0, Nat.zero_le _, rfl, Own.lit0 kBool _ w13, (Below.refl _ _).alloc (Nat.le_refl _) _⟩
              case round =>
                obtain ⟨j, hj, rfl, ho, hbl⟩ := hrel
                obtain ⟨A14, c14, rfl, -, -⟩ := ho.shape
                have hlen : (List.replicate j true).length ≤ 1099511627776 := by rw [List.length_replicate]; omega
                have HS := Lib.hid (List.replicate_succ' (n := j) (a := true))
                by_cases hlt : j < n
                · generalize List.replicate j true = rs at ho HS hlen
                  go_wp2_with (at_builtin; refine app1 kBool 4 42 (.bool false) 1 rfl (.tmp 179) (.tmp 180) rfl Try.underlying42 infoBool rfl (by decide) (by decide) none w13.heap.size ho (FootIn.none _) (by have := hbl.size; omega) rfl _ _ rfl rfl (by omega) ?_; intro v' w3 q1 q2 _ _ _ _)
                  go_roundw
                  case rel => exact ⟨j + 1, by omega, by go_num, by rw [HS.out]; exact q1, hbl.trans q2.below⟩
                  case measure => simp [intOf]; omega
                · obtain rfl : j = n := by omega
                  have ho := ho.bools E.there
                  rw [List.length_replicate] at ho ⊢
                  rw [← natBits_ones] at ho
                  have E := E.rowB hbl ho
                  obtain ⟨bo, oo, B0, d0, he0, q0, E⟩ := E.rowAt (A := A9) (n := 5) (c := c9) (xss := [parts32 (eachN kind u t lg), parts32 (eachN 5 u (2 ^ j - 1) j), parts32 u, parts32 (u % 2 ^ wd), parts32 (partsVal xs % 2 ^ wd)]) (by repeat with_reducible first | apply mem_hd | assumption | apply mem_tl) 0 (by simp)
                  obtain ⟨bo1, oo1, B1, d1, he1, q1, E⟩ := E.rowAt (A := A9) (n := 5) (c := c9) (xss := [parts32 (eachN kind u t lg), parts32 (eachN 5 u (2 ^ j - 1) j), parts32 u, parts32 (u % 2 ^ wd), parts32 (partsVal xs % 2 ^ wd)]) (by repeat with_reducible first | apply mem_hd | assumption | apply mem_tl) 1 (by simp)
                  obtain ⟨bo2, oo2, B2, d2, he2, q2, E⟩ := E.rowAt (A := A9) (n := 5) (c := c9) (xss := [parts32 (eachN kind u t lg), parts32 (eachN 5 u (2 ^ j - 1) j), parts32 u, parts32 (u % 2 ^ wd), parts32 (partsVal xs % 2 ^ wd)]) (by repeat with_reducible first | apply mem_hd | assumption | apply mem_tl) 2 (by simp)
                  obtain ⟨bo3, oo3, B3, d3, he3, q3, E⟩ := E.rowAt (A := A9) (n := 5) (c := c9) (xss := [parts32 (eachN kind u t lg), parts32 (eachN 5 u (2 ^ j - 1) j), parts32 u, parts32 (u % 2 ^ wd), parts32 (partsVal xs % 2 ^ wd)]) (by repeat with_reducible first | apply mem_hd | assumption | apply mem_tl) 3 (by simp)
                  obtain ⟨bo4, oo4, B4, d4, he4, q4, E⟩ := E.rowAt (A := A9) (n := 5) (c := c9) (xss := [parts32 (eachN kind u t lg), parts32 (eachN 5 u (2 ^ j - 1) j), parts32 u, parts32 (u % 2 ^ wd), parts32 (partsVal xs % 2 ^ wd)]) (by repeat with_reducible first | apply mem_hd | assumption | apply mem_tl) 4 (by simp)
                  subst he0
                  injection he1 with he1; injection he1 with he1 he1'; subst he1; subst he1'
                  injection he2 with he2; injection he2 with he2 he2'; subst he2; subst he2'
                  injection he3 with he3; injection he3 with he3 he3'; subst he3; subst he3'
                  injection he4 with he4; injection he4 with he4 he4'; subst he4; subst he4'
                  simp only [List.getElem_cons_zero, List.getElem_cons_succ, Nat.add_zero] at q0 q1 q2 q3 q4 E
                  have Q := Lib.hid (And.intro q0 (And.intro q1 (And.intro q2 (And.intro q3 q4))))
                  clear q0 q1 q2 q3 q4
                  have E := E.drew
                  have QD := Lib.hid (show (wr.drew.cell? ⟨bo, oo, none⟩ = _ ∧ wr.drew.cell? ⟨bo, oo + 1, none⟩ = _ ∧ wr.drew.cell? ⟨bo, oo + 2, none⟩ = _ ∧ wr.drew.cell? ⟨bo, oo + 3, none⟩ = _ ∧ wr.drew.cell? ⟨bo, oo + 4, none⟩ = _) from Q.out)
                  have hkw : IntKind.i64.wrap ((kd : Int).tmod 8) = (kind : Int) := by rw [Int.tmod_eq_emod_of_nonneg (by omega), hkind]; exact IntWalk.i64_in _ (by omega)
                  have hEa := E.ref (each8_ref _ _ E.there kind v11 v13 u t lg (E.rwF (by repeat with_reducible first | apply mem_hd | assumption | apply mem_tl)) (E.rwF (by repeat with_reducible first | apply mem_hd | assumption | apply mem_tl)) (by omega) (by omega) (by omega))
                  go_wp2_with fail
                  go_region_held3 (fun w' => w'.cell? ⟨bo, oo, none⟩ = some (.slice B0 (parts32 (eachN kind u t lg)).length d0) ∧ w'.cell? ⟨bo, oo + 1, none⟩ = some (.slice B1 (parts32 (eachN 5 u (2 ^ j - 1) j)).length d1) ∧ w'.cell? ⟨bo, oo + 2, none⟩ = some (.slice B2 (parts32 u).length d2) ∧ w'.cell? ⟨bo, oo + 3, none⟩ = some (.slice B3 (parts32 (u % 2 ^ wd)).length d3) ∧ w'.cell? ⟨bo, oo + 4, none⟩ = some (.slice B4 (parts32 (partsVal xs % 2 ^ wd)).length d4))
                    (first | with_reducible exact QD.out | with_reducible exact QA.out | with_reducible exact QB.out | with_reducible exact QC.out | with_reducible exact QE.out | with_reducible exact QF.out | with_reducible exact QG.out | with_reducible exact QH.out | with_reducible exact QI.out | with_reducible exact QJ.out | with_reducible exact QK.out)
                    (first
                      | (go_at_call 34; refine hEa.mono ?_; clear hEa; rintro e wA ⟨vA, rfl, hbA, E⟩; have QA := Lib.hid (cells5 hbA QD.out); have hIa := E.isTrue (v := .slice B0 (parts32 (eachN kind u t lg)).length d0) (u := vA) (xs := parts32 (eachN kind u t lg)) (n := eachN kind u t lg) (by repeat with_reducible first | apply mem_hd | assumption | apply mem_tl) (by repeat with_reducible first | apply mem_hd | assumption | apply mem_tl) rfl hb1)
                      | (go_at_call 33; refine hIa.mono ?_; clear hIa; rintro e wB ⟨rfl, hbB⟩; have E := E.quiet hbB; have QB := Lib.hid (cells5 hbB QA.out); have hEb := E.ref (each8_ref _ _ E.there 5 v11 (.slice A14 j c14) u (2 ^ j - 1) j (E.rwF (by repeat with_reducible first | apply mem_hd | assumption | apply mem_tl)) (E.rwF (by repeat with_reducible first | apply mem_hd | assumption | apply mem_tl)) (by omega) (by rw [nbits_ones']; omega) (by omega)))
                      | (go_at_call 34; refine hEb.mono ?_; clear hEb; rintro e wC ⟨vC, rfl, hbC, E⟩; have QC := Lib.hid (cells5 hbC QB.out); have hIb := E.isTrue (v := .slice B1 (parts32 (eachN 5 u (2 ^ j - 1) j)).length d1) (u := vC) (xs := parts32 (eachN 5 u (2 ^ j - 1) j)) (n := eachN 5 u (2 ^ j - 1) j) (by repeat with_reducible first | apply mem_hd | assumption | apply mem_tl) (by repeat with_reducible first | apply mem_hd | assumption | apply mem_tl) rfl hb2)
                      | (go_at_call 33; refine hIb.mono ?_; clear hIb; rintro e wE ⟨rfl, hbE⟩; have E := E.quiet hbE; have QE := Lib.hid (cells5 hbE QC.out); have hIc := E.isTrue (v := .slice B2 (parts32 u).length d2) (u := v11) (xs := parts32 u) (n := u) (by repeat with_reducible first | apply mem_hd | assumption | apply mem_tl) (by repeat with_reducible first | apply mem_hd | assumption | apply mem_tl) rfl hb3)
                      | (go_at_call 33; refine hIc.mono ?_; clear hIc; rintro e wF ⟨rfl, hbF⟩; have E := E.quiet hbF; have QF := Lib.hid (cells5 hbF QE.out); have hLa := E.ref (low_ref _ _ E.there v11 u wd (E.rwF (by repeat with_reducible first | apply mem_hd | assumption | apply mem_tl)) (by omega) (by omega)))
                      | (go_at_call 22; refine hLa.mono ?_; clear hLa; rintro e wG ⟨vG, rfl, hbG, E⟩; have QG := Lib.hid (cells5 hbG QF.out); have hId := E.isTrue (v := .slice B3 (parts32 (u % 2 ^ wd)).length d3) (u := vG) (xs := parts32 (u % 2 ^ wd)) (n := u % 2 ^ wd) (by repeat with_reducible first | apply mem_hd | assumption | apply mem_tl) (by repeat with_reducible first | apply mem_hd | assumption | apply mem_tl) rfl hb5)
                      | (go_at_call 33; refine hId.mono ?_; clear hId; rintro e wH ⟨rfl, hbH⟩; have E := E.quiet hbH; have QH := Lib.hid (cells5 hbH QG.out); have hOf := E.ref (of_ref _ _ E.there (.slice A1 xs.length c1) xs (E.rwF (by repeat with_reducible first | apply mem_hd | assumption | apply mem_tl)) HXO.out (by omega)))
                      | (go_at_call 23; refine hOf.mono ?_; clear hOf; rintro e wI ⟨vI, rfl, hbI, E⟩; have QI := Lib.hid (cells5 hbI QH.out); have hLb := E.ref (low_ref _ _ E.there vI (partsVal xs) wd (E.rwF (by repeat with_reducible first | apply mem_hd | assumption | apply mem_tl)) (by omega) (by omega)))
                      | (go_at_call 22; refine hLb.mono ?_; clear hLb; rintro e wJ ⟨vJ, rfl, hbJ, E⟩; have QJ := Lib.hid (cells5 hbJ QI.out); have hIe := E.isTrue (v := .slice B4 (parts32 (partsVal xs % 2 ^ wd)).length d4) (u := vJ) (xs := parts32 (partsVal xs % 2 ^ wd)) (n := partsVal xs % 2 ^ wd) (by repeat with_reducible first | apply mem_hd | assumption | apply mem_tl) (by repeat with_reducible first | apply mem_hd | assumption | apply mem_tl) rfl hb6)
                      | (go_at_call 33; refine hIe.mono ?_; clear hIe; rintro e wK ⟨rfl, hbK⟩; have E := E.quiet hbK; have QK := Lib.hid (cells5 hbK QJ.out)))
                  have HE := Lib.hid E.c.2
                  clear E
                  go_wp2
                  go_ret
                  exact ⟨rfl, HB1.out.trans (HE.out.mono HB1.out.size)⟩
            · obtain rfl : t = ch := by simpa using hch
              go_wp2_with fail
              refine (E.ref (of_ref _ _ E.there _ xs (E.rwF (by repeat with_reducible first | apply mem_hd | assumption | apply mem_tl)) HXO.out (by omega))).mono ?_
              rintro e w10 ⟨v10, rfl, hb10, E⟩
              go_wp2_with fail
              refine (E.ref (low_ref _ _ E.there _ (partsVal xs) n (E.rwF (by repeat with_reducible first | apply mem_hd | assumption | apply mem_tl)) (by omega) (by omega))).mono ?_
              rintro e w11 ⟨v11, rfl, hb11, E⟩
              rw [HU.out] at E
              go_wp2_with fail
              refine (E.ref (of_ref _ _ E.there _ ys (E.rwF (by repeat with_reducible first | apply mem_hd | assumption | apply mem_tl)) HYO.out (by omega))).mono ?_
              rintro e w12 ⟨v12, rfl, hb12, E⟩
              go_wp2_with fail
              refine (E.ref (low_ref _ _ E.there _ (partsVal ys) m (E.rwF (by repeat with_reducible first | apply mem_hd | assumption | apply mem_tl)) (by omega) (by omega))).mono ?_
              rintro e w13 ⟨v13, rfl, hb13, E⟩
              rw [HT.out] at E
              have E := E.only (L' := .row kBool v13 (natBits t) :: .row kBool v11 (natBits u) :: .row (kRow (kNum .u32)) (.slice A9 5 c9) [parts32 (eachN kind u t lg), parts32 (eachN 5 u (2 ^ n - 1) n), parts32 t, parts32 (u % 2 ^ wd), parts32 (partsVal xs % 2 ^ wd)] :: .row (kNum .u32) (.slice A1 xs.length c1) xs :: []) (by repeat with_reducible first | refine sub_cons (by repeat with_reducible first | apply mem_hd | assumption | apply mem_tl) ?_ | exact sub_nil | apply sub_refl | apply sub_tail)
              clear hb10 hb11 hb12 hb13
              go_wp2_with fail
              go_loopw [36, 37] (fun v i wr => ∃ j : Nat, j ≤ n ∧ i = .int .i64 j ∧ Own kBool 4 wr none w13.heap.size v (List.replicate j true) ∧ Below w13.heap.size w13 wr) (fun _ i _ => n - (intOf i).toNat)
              case atStart => exact ⟨0, Nat.zero_le _, rfl, Own.lit0 kBool _ w13, (Below.refl _ _).alloc (Nat.le_refl _) _⟩
              case round =>
                obtain ⟨j, hj, rfl, ho, hbl⟩ := hrel
                obtain ⟨A14, c14, rfl, -, -⟩ := ho.shape
                have hlen : (List.replicate j true).length ≤ 1099511627776 := by rw [List.length_replicate]; omega
                have HS := Lib.hid (List.replicate_succ' (n := j) (a := true))
                by_cases hlt : j < n
                · generalize List.replicate j true = rs at ho HS hlen
                  go_wp2_with (at_builtin; refine app1 kBool 4 42 (.bool false) 1 rfl (.tmp 179) (.tmp 180) rfl Try.underlying42 infoBool rfl (by decide) (by decide) none w13.heap.size ho (FootIn.none _) (by have := hbl.size; omega) rfl _ _ rfl rfl (by omega) ?_; intro v' w3 q1 q2 _ _ _ _)
                  go_roundw
                  case rel => exact ⟨j + 1, by omega, by go_num, by rw [HS.out]; exact q1, hbl.trans q2.below⟩
                  case measure => simp [intOf]; omega
                · obtain rfl : j = n := by omega
                  have ho := ho.bools E.there
                  rw [List.length_replicate] at ho ⊢
                  rw [← natBits_ones] at ho
                  have E := E.rowB hbl ho
                  obtain ⟨bo, oo, B0, d0, he0, q0, E⟩ := E.rowAt (A := A9) (n := 5) (c := c9) (xss := [parts32 (eachN kind u t lg), parts32 (eachN 5 u (2 ^ j - 1) j), parts32 t, parts32 (u % 2 ^ wd), parts32 (partsVal xs % 2 ^ wd)]) (by repeat with_reducible first | apply mem_hd | assumption | apply mem_tl) 0 (by simp)
                  obtain ⟨bo1, oo1, B1, d1, he1, q1, E⟩ := E.rowAt (A := A9) (n := 5) (c := c9) (xss := [parts32 (eachN kind u t lg), parts32 (eachN 5 u (2 ^ j - 1) j), parts32 t, parts32 (u % 2 ^ wd), parts32 (partsVal xs % 2 ^ wd)]) (by repeat with_reducible first | apply mem_hd | assumption | apply mem_tl) 1 (by simp)
                  obtain ⟨bo2, oo2, B2, d2, he2, q2, E⟩ := E.rowAt (A := A9) (n := 5) (c := c9) (xss := [parts32 (eachN kind u t lg), parts32 (eachN 5 u (2 ^ j - 1) j), parts32 t, parts32 (u % 2 ^ wd), parts32 (partsVal xs % 2 ^ wd)]) (by repeat with_reducible first | apply mem_hd | assumption | apply mem_tl) 2 (by simp)
                  obtain ⟨bo3, oo3, B3, d3, he3, q3, E⟩ := E.rowAt (A := A9) (n := 5) (c := c9) (xss := [parts32 (eachN kind u t lg), parts32 (eachN 5 u (2 ^ j - 1) j), parts32 t, parts32 (u % 2 ^ wd), parts32 (partsVal xs % 2 ^ wd)]) (by repeat with_reducible first | apply mem_hd | assumption | apply mem_tl) 3 (by simp)
                  obtain ⟨bo4, oo4, B4, d4, he4, q4, E⟩ := E.rowAt (A := A9) (n := 5) (c := c9) (xss := [parts32 (eachN kind u t lg), parts32 (eachN 5 u (2 ^ j - 1) j), parts32 t, parts32 (u % 2 ^ wd), parts32 (partsVal xs % 2 ^ wd)]) (by repeat with_reducible first | apply mem_hd | assumption | apply mem_tl) 4 (by simp)
                  subst he0
                  injection he1 with he1; injection he1 with he1 he1'; subst he1; subst he1'
                  injection he2 with he2; injection he2 with he2 he2'; subst he2; subst he2'
                  injection he3 with he3; injection he3 with he3 he3'; subst he3; subst he3'
                  injection he4 with he4; injection he4 with he4 he4'; subst he4; subst he4'
                  simp only [List.getElem_cons_zero, List.getElem_cons_succ, Nat.add_zero] at q0 q1 q2 q3 q4 E
                  have Q := Lib.hid (And.intro q0 (And.intro q1 (And.intro q2 (And.intro q3 q4))))
                  clear q0 q1 q2 q3 q4
                  have E := E.drew
                  have QD := Lib.hid (show (wr.drew.cell? ⟨bo, oo, none⟩ = _ ∧ wr.drew.cell? ⟨bo, oo + 1, none⟩ = _ ∧ wr.drew.cell? ⟨bo, oo + 2, none⟩ = _ ∧ wr.drew.cell? ⟨bo, oo + 3, none⟩ = _ ∧ wr.drew.cell? ⟨bo, oo + 4, none⟩ = _) from Q.out)
                  have hkw : IntKind.i64.wrap ((kd : Int).tmod 8) = (kind : Int) := by rw [Int.tmod_eq_emod_of_nonneg (by omega), hkind]; exact IntWalk.i64_in _ (by omega)
                  have hEa := E.ref (each8_ref _ _ E.there kind v11 v13 u t lg (E.rwF (by repeat with_reducible first | apply mem_hd | assumption | apply mem_tl)) (E.rwF (by repeat with_reducible first | apply mem_hd | assumption | apply mem_tl)) (by omega) (by omega) (by omega))
                  go_wp2_with fail
                  go_region_held3 (fun w' => w'.cell? ⟨bo, oo, none⟩ = some (.slice B0 (parts32 (eachN kind u t lg)).length d0) ∧ w'.cell? ⟨bo, oo + 1, none⟩ = some (.slice B1 (parts32 (eachN 5 u (2 ^ j - 1) j)).length d1) ∧ w'.cell? ⟨bo, oo + 2, none⟩ = some (.slice B2 (parts32 t).length d2) ∧ w'.cell? ⟨bo, oo + 3, none⟩ = some (.slice B3 (parts32 (u % 2 ^ wd)).length d3) ∧ w'.cell? ⟨bo, oo + 4, none⟩ = some (.slice B4 (parts32 (partsVal xs % 2 ^ wd)).length d4))
                    (first | with_reducible exact QD.out | with_reducible exact QA.out | with_reducible exact QB.out | with_reducible exact QC.out | with_reducible exact QE.out | with_reducible exact QF.out | with_reducible exact QG.out | with_reducible exact QH.out | with_reducible exact QI.out | with_reducible exact QJ.out | with_reducible exact QK.out)
                    (first
                      | (go_at_call 34; refine hEa.mono ?_; clear hEa; rintro e wA ⟨vA, rfl, hbA, E⟩; have QA := Lib.hid (cells5 hbA QD.out); have hIa := E.isTrue (v := .slice B0 (parts32 (eachN kind u t lg)).length d0) (u := vA) (xs := parts32 (eachN kind u t lg)) (n := eachN kind u t lg) (by repeat with_reducible first | apply mem_hd | assumption | apply mem_tl) (by repeat with_reducible first | apply mem_hd | assumption | apply mem_tl) rfl hb1)
                      | (go_at_call 33; refine hIa.mono ?_; clear hIa; rintro e wB ⟨rfl, hbB⟩; have E := E.quiet hbB; have QB := Lib.hid (cells5 hbB QA.out); have hEb := E.ref (each8_ref _ _ E.there 5 v11 (.slice A14 j c14) u (2 ^ j - 1) j (E.rwF (by repeat with_reducible first | apply mem_hd | assumption | apply mem_tl)) (E.rwF (by repeat with_reducible first | apply mem_hd | assumption | apply mem_tl)) (by omega) (by rw [nbits_ones']; omega) (by omega)))
                      | (go_at_call 34; refine hEb.mono ?_; clear hEb; rintro e wC ⟨vC, rfl, hbC, E⟩; have QC := Lib.hid (cells5 hbC QB.out); have hIb := E.isTrue (v := .slice B1 (parts32 (eachN 5 u (2 ^ j - 1) j)).length d1) (u := vC) (xs := parts32 (eachN 5 u (2 ^ j - 1) j)) (n := eachN 5 u (2 ^ j - 1) j) (by repeat with_reducible first | apply mem_hd | assumption | apply mem_tl) (by repeat with_reducible first | apply mem_hd | assumption | apply mem_tl) rfl hb2)
                      | (go_at_call 33; refine hIb.mono ?_; clear hIb; rintro e wE ⟨rfl, hbE⟩; have E := E.quiet hbE; have QE := Lib.hid (cells5 hbE QC.out); have hIc := E.isTrue (v := .slice B2 (parts32 t).length d2) (u := v13) (xs := parts32 t) (n := t) (by repeat with_reducible first | apply mem_hd | assumption | apply mem_tl) (by repeat with_reducible first | apply mem_hd | assumption | apply mem_tl) rfl hb4)
                      | (go_at_call 33; refine hIc.mono ?_; clear hIc; rintro e wF ⟨rfl, hbF⟩; have E := E.quiet hbF; have QF := Lib.hid (cells5 hbF QE.out); have hLa := E.ref (low_ref _ _ E.there v11 u wd (E.rwF (by repeat with_reducible first | apply mem_hd | assumption | apply mem_tl)) (by omega) (by omega)))
                      | (go_at_call 22; refine hLa.mono ?_; clear hLa; rintro e wG ⟨vG, rfl, hbG, E⟩; have QG := Lib.hid (cells5 hbG QF.out); have hId := E.isTrue (v := .slice B3 (parts32 (u % 2 ^ wd)).length d3) (u := vG) (xs := parts32 (u % 2 ^ wd)) (n := u % 2 ^ wd) (by repeat with_reducible first | apply mem_hd | assumption | apply mem_tl) (by repeat with_reducible first | apply mem_hd | assumption | apply mem_tl) rfl hb5)
                      | (go_at_call 33; refine hId.mono ?_; clear hId; rintro e wH ⟨rfl, hbH⟩; have E := E.quiet hbH; have QH := Lib.hid (cells5 hbH QG.out); have hOf := E.ref (of_ref _ _ E.there (.slice A1 xs.length c1) xs (E.rwF (by repeat with_reducible first | apply mem_hd | assumption | apply mem_tl)) HXO.out (by omega)))
                      | (go_at_call 23; refine hOf.mono ?_; clear hOf; rintro e wI ⟨vI, rfl, hbI, E⟩; have QI := Lib.hid (cells5 hbI QH.out); have hLb := E.ref (low_ref _ _ E.there vI (partsVal xs) wd (E.rwF (by repeat with_reducible first | apply mem_hd | assumption | apply mem_tl)) (by omega) (by omega)))
                      | (go_at_call 22; refine hLb.mono ?_; clear hLb; rintro e wJ ⟨vJ, rfl, hbJ, E⟩; have QJ := Lib.hid (cells5 hbJ QI.out); have hIe := E.isTrue (v := .slice B4 (parts32 (partsVal xs % 2 ^ wd)).length d4) (u := vJ) (xs := parts32 (partsVal xs % 2 ^ wd)) (n := partsVal xs % 2 ^ wd) (by repeat with_reducible first | apply mem_hd | assumption | apply mem_tl) (by repeat with_reducible first | apply mem_hd | assumption | apply mem_tl) rfl hb6)
                      | (go_at_call 33; refine hIe.mono ?_; clear hIe; rintro e wK ⟨rfl, hbK⟩; have E := E.quiet hbK; have QK := Lib.hid (cells5 hbK QJ.out)))
                  have HE := Lib.hid E.c.2
                  clear E
                  go_wp2
                  go_ret
                  exact ⟨rfl, HB1.out.trans (HE.out.mono HB1.out.size)⟩
      · have hcn := E.cnt
        have B7 := E.bare
        have hin7 : st7.ins = st1.ins := (ext_ports E.ext).1
        have hou7 : st7.outs = [] := (ext_ports E.ext).2.trans hi.out.2
        go_wp2_with fail
        go_loopw [128] (fun iv wr => ∃ (j : Nat) (stj : BSt), j ≤ 5 ∧ iv = .int .i64 (j : Nat) ∧ Hid (stj.nodes = st7.nodes ∧ stj.ins = st1.ins ∧ stj.outs = ([⟨⟨#[122]⟩, es⟩, ⟨⟨#[122]⟩, ts⟩, ⟨⟨#[122]⟩, ks⟩, ⟨⟨#[122]⟩, fs⟩, ⟨⟨#[122]⟩, ls⟩] : List Port).take j) ∧
            Bare (fun a => Fresh w1.heap.size a p ∧ Below w1.heap.size w1 a) p w7.heap.size stj wr (.word (.slice Ae lg ce) es :: .word (.slice At n ct) ts :: .word (.slice Ak lg ck) ks :: .word (.slice Af wd cf) fs :: .word (.slice Al wd cl) ls :: .row (kNum .u32) (.slice A2 ys.length c2) ys :: .row (kNum .u32) (.slice A1 xs.length c1) xs :: []))
          (fun iv _ => 5 - (intOf iv).toNat)
        case atStart => exact ⟨0, st7, by omega, rfl, Lib.hid ⟨rfl, hin7, hou7⟩, B7⟩
        case round =>
          obtain ⟨j, stj, hj, rfl, hpj, Bj⟩ := hrel
          have hj2 : j = 0 ∨ j = 1 ∨ j = 2 ∨ j = 3 ∨ j = 4 ∨ j = 5 := by omega
          rcases hj2 with rfl | rfl | rfl | rfl | rfl | rfl
          · skip
            go_wp2_with fail
            refine (Bj.out ⟨#[122]⟩ (xs := es) (by repeat with_reducible first | apply mem_hd | assumption | apply mem_tl) (by rw [hpj.out.2.2]; simp)).mono ?_
            rintro e wq ⟨stq, rfl, hiq, Bq⟩
            go_wp2
            go_roundw
            case rel => exact ⟨1, stq, by omega, by go_num, Lib.hid ⟨hiq.out.1.trans hpj.out.1, hiq.out.2.1.trans hpj.out.2.1, by rw [hiq.out.2.2, hpj.out.2.2]; rfl⟩, Bq⟩
            case measure => simp [intOf]
          · skip
            go_wp2_with fail
            refine (Bj.out ⟨#[122]⟩ (xs := ts) (by repeat with_reducible first | apply mem_hd | assumption | apply mem_tl) (by rw [hpj.out.2.2]; simp)).mono ?_
            rintro e wq ⟨stq, rfl, hiq, Bq⟩
            go_wp2
            go_roundw
            case rel => exact ⟨2, stq, by omega, by go_num, Lib.hid ⟨hiq.out.1.trans hpj.out.1, hiq.out.2.1.trans hpj.out.2.1, by rw [hiq.out.2.2, hpj.out.2.2]; rfl⟩, Bq⟩
            case measure => simp [intOf]
          · skip
            go_wp2_with fail
            refine (Bj.out ⟨#[122]⟩ (xs := ks) (by repeat with_reducible first | apply mem_hd | assumption | apply mem_tl) (by rw [hpj.out.2.2]; simp)).mono ?_
            rintro e wq ⟨stq, rfl, hiq, Bq⟩
            go_wp2
            go_roundw
            case rel => exact ⟨3, stq, by omega, by go_num, Lib.hid ⟨hiq.out.1.trans hpj.out.1, hiq.out.2.1.trans hpj.out.2.1, by rw [hiq.out.2.2, hpj.out.2.2]; rfl⟩, Bq⟩
            case measure => simp [intOf]
          · skip
            go_wp2_with fail
            refine (Bj.out ⟨#[122]⟩ (xs := fs) (by repeat with_reducible first | apply mem_hd | assumption | apply mem_tl) (by rw [hpj.out.2.2]; simp)).mono ?_
            rintro e wq ⟨stq, rfl, hiq, Bq⟩
            go_wp2
            go_roundw
            case rel => exact ⟨4, stq, by omega, by go_num, Lib.hid ⟨hiq.out.1.trans hpj.out.1, hiq.out.2.1.trans hpj.out.2.1, by rw [hiq.out.2.2, hpj.out.2.2]; rfl⟩, Bq⟩
            case measure => simp [intOf]
          · skip
            go_wp2_with fail
            refine (Bj.out ⟨#[122]⟩ (xs := ls) (by repeat with_reducible first | apply mem_hd | assumption | apply mem_tl) (by rw [hpj.out.2.2]; simp)).mono ?_
            rintro e wq ⟨stq, rfl, hiq, Bq⟩
            go_wp2
            go_roundw
            case rel => exact ⟨5, stq, by omega, by go_num, Lib.hid ⟨hiq.out.1.trans hpj.out.1, hiq.out.2.1.trans hpj.out.2.1, by rw [hiq.out.2.2, hpj.out.2.2]; rfl⟩, Bq⟩
            case measure => simp [intOf]
          · have hout : stj.outs = [⟨⟨#[122]⟩, es⟩, ⟨⟨#[122]⟩, ts⟩, ⟨⟨#[122]⟩, ks⟩, ⟨⟨#[122]⟩, fs⟩, ⟨⟨#[122]⟩, ls⟩] := hpj.out.2.2
            have hinj : stj.ins = _ := hpj.out.2.1.trans hi.out.1
            have hfb : formedB stj.nodes stj.ins stj.outs = false := by
              rw [hout]
              rcases Nat.eq_zero_or_pos n with h0 | h0
              · exact formedB_bare (q := ⟨⟨#[122]⟩, ts⟩) (by simp) (List.eq_nil_of_length_eq_zero (ht.out.trans h0))
              · have h1 : wd = 0 := by omega
                exact formedB_bare (q := ⟨⟨#[122]⟩, fs⟩) (by simp) (List.eq_nil_of_length_eq_zero (hf.out.trans h1))
            have hlo : Hid (es.length = lg ∧ ts.length = n ∧ ks.length = lg ∧ fs.length = wd ∧ ls.length = wd) := Lib.hid ⟨he.out, ht.out, hk.out, hf.out, hlw.out⟩
            go_wp2_with fail
            refine (eval08_bad wr p stj Bj.rep (by rw [hpj.out.1]; omega) (by rw [hinj]; simp) (by rw [hout]; simp) (fun q hq => ?_) (fun q hq => ?_) hfb _ _ xs ys (HX1.out.later Bj.c.2) (HY1.out.later Bj.c.2) HXO.out HYO.out hsx hsy n m (by omega) (by omega) cb).mono ?_
            · rw [hinj] at hq
              have h1 := hl.out.1.1
              have h2 := hl.out.1.2
              simp only [List.mem_cons, List.not_mem_nil, or_false] at hq
              rcases hq with rfl | rfl | rfl <;> simp <;> omega
            · rw [hout] at hq
              have h1 := hlo.out
              simp only [List.mem_cons, List.not_mem_nil, or_false] at hq
              rcases hq with rfl | rfl | rfl | rfl | rfl <;> simp <;> omega
            rintro e w9 ⟨rfl, hb9⟩
            have HBE := Lib.hid (HB1.out.trans ((Bj.c.2.trans (hb9.mono Bj.c.2.size)).mono HB1.out.size))
            clear hb9 Bj B7 E hout hinj hfb hlo
            clear he ht hk hf hlw
            by_cases z1 : lg = 0
            · subst z1
              go_wp2
              go_ret
              exact ⟨rfl, HBE.out⟩
            · have z1' : ((lg : Int) == 0) = false := by simpa using z1
              by_cases z2 : n = 0
              · subst z2
                go_wp2
                go_ret
                exact ⟨rfl, HBE.out⟩
              · have z2' : ((n : Int) == 0) = false := by simpa using z2
                obtain rfl : wd = 0 := by omega
                go_wp2
                go_ret
                exact ⟨rfl, HBE.out⟩
    · have hk3 : 20 < (ys.length : Int) := by omega
      have hk2 : ¬ (20 < (xs.length : Int)) := by omega
      go_wp2
      go_ret
      exact ⟨rfl, HB1.out⟩
  · have hk2 : 20 < (xs.length : Int) := by omega
    go_wp2
    go_ret
    exact ⟨rfl, HB1.out⟩
end Go.Proofs.Ytdljgifoboiaeaa
