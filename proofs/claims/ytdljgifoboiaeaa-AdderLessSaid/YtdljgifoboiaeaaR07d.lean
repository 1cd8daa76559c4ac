/- What goes out: slipstickref07. -/
import Derived.Test.YtdljgifoboiaeaaR07c
namespace Go.Proofs.Ytdljgifoboiaeaa
open Go.RowKit

def ofBits : List Bool → Nat
  | [] => 0
  | b :: bs => (if b then 1 else 0) + 2 * ofBits bs
theorem testBit_ofBits (bs : List Bool) (i : Nat) : (ofBits bs).testBit i = bs.getD i false := by
  induction bs generalizing i with
  | nil => simp [ofBits]
  | cons b bs ih =>
    cases i with
    | zero =>
      rw [Nat.testBit_zero, ofBits]
      have : ((if b then 1 else 0) + 2 * ofBits bs) % 2 = if b then 1 else 0 := by cases b <;> simp <;> omega
      rw [this]; cases b <;> simp
    | succ i =>
      rw [Nat.testBit_succ, ofBits]
      have : ((if b then 1 else 0) + 2 * ofBits bs) / 2 = ofBits bs := by cases b <;> simp <;> omega
      rw [this, ih]; simp
theorem lowBits_ofBits (bs : List Bool) : lowBits (ofBits bs) bs.length = bs := by
  apply List.ext_getElem?
  intro i
  rcases Nat.lt_or_ge i bs.length with h | h
  · rw [lowBits_get? _ _ _ h, testBit_ofBits]; simp [h]
  · rw [List.getElem?_eq_none (by rw [lowBits_length]; exact h), List.getElem?_eq_none h]
theorem ofBits_lt (bs : List Bool) : ofBits bs < 2 ^ bs.length := by
  induction bs with
  | nil => simp [ofBits]
  | cons b bs ih => rw [ofBits, List.length_cons, Nat.pow_succ]; cases b <;> simp <;> omega
theorem ofBits_lowBits (n k : Nat) (h : n < 2 ^ k) : ofBits (lowBits n k) = n := by
  apply Nat.eq_of_testBit_eq
  intro i
  rw [testBit_ofBits]
  rcases Nat.lt_or_ge i k with hi | hi
  · simp [lowBits, hi]
  · rw [List.getD_eq_getElem?_getD, List.getElem?_eq_none (by rw [lowBits_length]; exact hi), Nat.testBit_lt_two_pow (Nat.lt_of_lt_of_le h (Nat.pow_le_pow_right (by omega) hi))]; rfl

def numB (bits : List Int) (vs : List Bool) : Nat := ofBits (bits.map (at_ vs))
theorem numB_testBit (bits : List Int) (vs : List Bool) (k : Nat) (hk : k < bits.length) : (numB bits vs).testBit k = at_ vs bits[k] := by simp [numB, testBit_ofBits, hk]
theorem numB_lt (bits : List Int) (vs : List Bool) : numB bits vs < 2 ^ bits.length := by have := ofBits_lt (bits.map (at_ vs)); simpa [numB] using this
def outsR (outs : List Port) (vs : List Bool) : List (List Int) := outs.map fun p => parts32 (numB p.bits vs)

/-! rows of bools that are written -/
theorem Pairs.bools {w : World} {S : Nat → Prop} {xs : List Bool} {css : List (List Value)} (h : Pairs kBool w S xs css) : css = xs.map fun x => [Value.bool x] := by
  apply List.ext_getElem?
  intro i
  have hl := h.1
  rcases Nat.lt_or_ge i xs.length with hi | hi
  · have e : css[i]'(by omega) = [.bool xs[i]] := h.2 i xs[i] _ (by simp [hi]) (by simp [show i < css.length by omega])
    simp [hi, show i < css.length by omega, e]
  · simp [hi, show css.length ≤ i by omega]
theorem Own.boolsRow {e : TypeId} {w : World} {p : Option Nat} {B : Nat} {v : Value} {xs : List Bool} (h : Own kBool e w p B v xs) : w.ownsRow B e 1 v xs.length (xs.map fun x => Value.bool x) := by
  obtain ⟨css, h1, h2, _⟩ := h
  rw [h2.bools, flat_bools] at h1
  exact h1
theorem Own.of_bools {e : TypeId} {w : World} {p : Option Nat} {B : Nat} {v : Value} {xs : List Bool} (h : w.ownsRow B e 1 v xs.length (xs.map fun x => Value.bool x)) (hf : ∀ g, v.ownBlock = some g → ¬ foot w p g) : Own kBool e w p B v xs :=
  ⟨_, by rw [flat_bools]; exact h, bools_pairs _ _ _, hf⟩
theorem Own.boolAt? {e : TypeId} {w : World} {p : Option Nat} {B g n c : Nat} {xs : List Bool} (h : Own kBool e w p B (.slice (some ⟨g, 0, none⟩) n c) xs) {i : Nat} {r : Bool} (hi : xs[i]? = some r) : w.cell? ⟨g, i, none⟩ = some (.bool r) ∧ w.frozen? ⟨g, i, none⟩ = false := by
  obtain ⟨hl, rfl⟩ := List.getElem?_eq_some_iff.1 hi
  have h1 := h.boolsRow
  have hn : n = xs.length := by obtain ⟨_, _, he, _⟩ := h.shape; injection he
  subst hn
  exact ⟨by rw [h1.cellAt i (by omega)]; simp [hl], h1.frozenAt i⟩
theorem Own.storeBool {e : TypeId} {w : World} {B g n c : Nat} {xs : List Bool} (h : Own kBool e w none B (.slice (some ⟨g, 0, none⟩) n c) xs) (i : Nat) (r : Bool) :
    Own kBool e (w.setCell ⟨g, i, none⟩ (.bool r)) none B (.slice (some ⟨g, 0, none⟩) n c) (xs.set i r) := by
  have hn : n = xs.length := by obtain ⟨_, _, he, _⟩ := h.shape; injection he
  subst hn
  have hs := h.boolsRow.stored i (.bool r)
  refine Own.of_bools ?_ (fun _ _ => foot_none _ _)
  rw [List.length_set, List.map_set]
  exact hs.1
theorem make_bools (n : Nat) (hn : n ≤ 1099511627776) (W : World) : (Instr.makeSlice 42 (.int .i64 (n : Int)) (.int .i64 (n : Int))).run Try.prog W = .ok (.slice (some ⟨W.heap.size, 0, none⟩) n n) (W.alloc (.cells (madeCells #[.bool false] n) 4)) := by
  obtain ⟨i0, hi, hz0, hz1, hz2⟩ := info_parts infoBool
  have hr := run_make (P := Try.prog) W 42 4 i0 (.bool false) Try.underlying42 hi hz0 .i64 .i64 n n (by omega) (Int.le_refl _) (by rw [hz2]; omega) (by omega)
  rw [hz1] at hr
  simp only [Int.toNat_natCast, Nat.mul_one] at hr
  exact hr
theorem made_bools (n : Nat) (hn : n ≤ 1099511627776) (W : World) : Own kBool 4 (W.alloc (.cells (madeCells #[.bool false] n) 4)) none W.heap.size (.slice (some ⟨W.heap.size, 0, none⟩) n n) (List.replicate n false) := by
  have h := World.ownsRow_lit (base := W.heap.size) (e := 4) (size := 1) W (madeCells #[.bool false] n) n (Nat.le_refl _) (by simp only [maxLen]; omega) (by simp [size_madeCells])
  refine Own.of_bools ?_ (fun _ _ => foot_none _ _)
  have e : (List.replicate n false).map (fun x => Value.bool x) = (madeCells #[.bool false] n).toList := by rw [toList_madeCells_one]; simp
  rw [e, List.length_replicate]
  exact h

def paddedB (n : Nat) (vs : List Bool) : List Bool := vs ++ List.replicate (n - vs.length) false
theorem paddedB_at (n : Nat) (vs : List Bool) (h : vs.length < n) : (paddedB n vs)[vs.length]? = some false := by
  rw [paddedB, List.getElem?_append_right (Nat.le_refl _), Nat.sub_self, List.getElem?_replicate, if_pos (by omega)]
theorem paddedB_set (n : Nat) (vs : List Bool) (b : Bool) (h : vs.length < n) : (paddedB n vs).set vs.length b = paddedB n (vs ++ [b]) := by
  obtain ⟨m, hm⟩ : ∃ m, n - vs.length = m + 1 := ⟨n - vs.length - 1, by omega⟩
  simp only [paddedB, List.length_append, List.length_cons, List.length_nil, hm, show n - (vs.length + (0 + 1)) = m by omega, List.replicate_succ]
  rw [List.set_append_right _ _ (by simp)]
  simp
theorem paddedB_all (n : Nat) (vs : List Bool) (h : vs.length = n) : paddedB n vs = vs := by simp [paddedB, h]

theorem infoU32s : (Try.prog.info? 38).map (fun i => (i.zero, i.size, i.bytes)) = some (some (.slice none 0 0), 1, 24) := by kernel_rfl

/-- a slice within a row, none of it in S0 -/
def kOff {α : Type} (S0 : Nat → Prop) (k : Kd α) : Kd (List α) where
  size := 1
  K := fun w S x cs => ∃ v, cs = [v] ∧ Row k w (fun i => S i ∨ S0 i) v x
  len := by rintro w S x cs ⟨v, rfl, _⟩; rfl
  one := by
    rintro w S x cs ⟨v, rfl, h⟩ u hu
    simp at hu; subst hu
    obtain ⟨A, c, rfl, _⟩ := h.shape
    rfl
  keep := fun ⟨v, e, h⟩ hs hS => ⟨v, e, h.keep ⟨hs.1, fun i hi hn => hs.2 i hi fun h => hn (.inl h)⟩ fun i hi hm => hm.elim (fun h => .inl (hS i hi h)) .inr⟩
theorem Own.rowOff {α : Type} {k : Kd α} {S : Nat → Prop} {e : TypeId} {w : World} {B : Nat} {v : Value} {xs : List (List α)} (h : Own (kOff S k) e w none B v xs) (hS : ∀ g, v.ownBlock = some g → ¬ S g) : Row (kRow k) w S v xs := by
  obtain ⟨A, c, css, rfl, r1, r2, r0, r3, r4⟩ := h.row Nat.zero_lt_one (Nat.le_refl _)
  refine ⟨A, c, css, rfl, r1, r2, r0, ⟨r3.1, fun i x cs hx hc => ?_⟩, fun hn => ?_⟩
  · obtain ⟨v, rfl, hr⟩ := r3.2 i x cs hx hc
    exact ⟨v, rfl, hr.mono fun i _ h => .inr h⟩
  · obtain ⟨b, off, rfl, q1, _, q3⟩ := r4 hn
    exact ⟨b, off, rfl, q1, hS b rfl, q3⟩

set_option maxHeartbeats 4000000 in
set_option maxRecDepth 100000 in
theorem outs_ref (w : World) (S S1 : Nat → Prop) (hS : There S w) (v u : Value) (nodes : List Node) (ins outs : List Port) (vs : List Bool) (hN : NetV w v nodes ins outs) (hx : Row kInt w S1 u (vs.map b2i)) (hvl : vs.length ≤ 1099511627776) (hol : outs.length ≤ 1073741824)
    (hk : ∀ q ∈ outs, q.bits.length ≤ 549755813888 ∧ ∀ b ∈ q.bits, 0 ≤ b ∧ b < vs.length) :
    Calls Try.prog 99 #[v, u] w fun e w' => ∃ v', e = .returned v' ∧ Row (kRow (kNum .u32)) w' S v' (outsR outs vs) ∧ Below w.heap.size w w' := by
  obtain ⟨An, cn, Ai, ci, Ao, co, rfl, hbox⟩ := hN.box
  let ob := netBox (.slice An nodes.length cn) (.slice Ai ins.length ci) (.slice Ao outs.length co)
  have hsz : (w.alloc ob).heap.size = w.heap.size + 1 := by simp
  have hb1 : Below (w.heap.size + 1) (w.alloc ob) ((w.alloc ob).alloc (.cells #[] 38)) := (Below.refl _ _).alloc (by rw [hsz]; exact Nat.le_refl _) _
  have hO := Own.lit0 (kOff S (kNum .u32)) 38 (w.alloc ob)
  rw [hsz] at hO
  obtain ⟨Ax, cx, rfl, -, -⟩ := hx.shape
  have hml : (vs.map b2i).length = vs.length := by simp
  rw [hml] at hx ⊢
  have HO := Lib.hid hO
  have HBOX := Lib.hid hbox
  have HK := Lib.hid hk
  have HX := Lib.hid hx
  have HB1 := Lib.hid hb1
  clear hO hbox hk hsz hb1 hN hx hml
  go_enter Try.func99, Try.ntmps99
  go_wp2_with fail
  go_loopw [5, 6] (fun vo i wr => ∃ j : Nat, j ≤ outs.length ∧ i = .int .i64 j ∧ Own (kOff S (kNum .u32)) 38 wr none (w.heap.size + 1) vo (outsR (outs.take j) vs) ∧ Below (w.heap.size + 1) (w.alloc ob) wr) (fun _ i _ => outs.length - (intOf i).toNat)
  case atStart => exact ⟨0, Nat.zero_le _, rfl, HO.out, HB1.out⟩
  case round =>
    obtain ⟨wo, rfl⟩ : ∃ wo : World, wo = wr := ⟨_, rfl⟩
    obtain ⟨j, hj, rfl, ho, hb⟩ := hrel
    obtain ⟨A9, c9, rfl, -, -⟩ := ho.shape
    obtain ⟨-, -, z2, -, -, hro, hbw⟩ := HBOX.out _ hb
    have HBW := Lib.hid hbw
    have HB := Lib.hid hb
    have hszr : w.heap.size + 1 ≤ wo.heap.size := by have := hb.size; simp at this; omega
    have hol2 : (outsR (outs.take j) vs).length ≤ 1073741824 := by simp [outsR]; omega
    by_cases hlt : j < outs.length
    · obtain ⟨b, off, A2, c2, rfl, -, y1, hbits⟩ := hro.port_at hlt
      have HT := Lib.hid (show outsR (outs.take (j + 1)) vs = outsR (outs.take j) vs ++ [parts32 (numB outs[j].bits vs)] by rw [outsR, List.take_succ_eq_append_getElem hlt, List.map_append]; rfl)
      obtain ⟨hbl, hbd⟩ := HK.out _ (List.getElem_mem hlt)
      have HOW := Lib.hid ho
      have HBITS := Lib.hid hbits
      have HBD := Lib.hid hbd
      clear hbits hbd ho hro hb
      generalize outsR (outs.take j) vs = done at *
      generalize outs[j] = q at *
      obtain ⟨name, bits⟩ := q
      dsimp only at *
      have hmk := make_bools bits.length (by omega)
      have hmade := made_bools bits.length (by omega) wo
      have HMADE := Lib.hid hmade
      clear hmade
      have hb9 : Below wo.heap.size wo (wo.alloc (.cells (madeCells #[.bool false] bits.length) 4)) := (Below.refl _ _).alloc (Nat.le_refl _) _
      have HB9 := Lib.hid hb9
      clear hb9 hbw
      go_wp2_with fail
      go_loopw [8, 9] (fun la i wr => ∃ k m : Nat, k ≤ bits.length ∧ i = .int .i64 k ∧ la = .int .i64 m ∧ m ≤ k ∧ (∀ q, m ≤ q → q < k → (numB bits vs).testBit q = false) ∧ (0 < m → (numB bits vs).testBit (m - 1) = true) ∧
        Own kBool 4 wr none wo.heap.size (.slice (some ⟨wo.heap.size, 0, none⟩) bits.length bits.length) (paddedB bits.length ((bits.take k).map (at_ vs))) ∧ Below wo.heap.size wo wr) (fun _ i _ => bits.length - (intOf i).toNat)
      case atStart => exact ⟨0, 0, Nat.zero_le _, rfl, rfl, Nat.le_refl _, fun q _ h => by omega, fun h => by omega, by simp only [paddedB, List.take_zero, List.map_nil, List.length_nil, List.nil_append, Nat.sub_zero]; exact HMADE.out, HB9.out⟩
      case round =>
        obtain ⟨k, m, hk, rfl, rfl, hmk', h0, h1, hoB, hbk⟩ := hrel
        have H0 := Lib.hid h0
        have H1 := Lib.hid h1
        clear h0 h1
        have HBK := Lib.hid hbk
        have HOB := Lib.hid hoB
        by_cases hkl : k < bits.length
        · have z2' := (hbk.cell (p := ⟨w.heap.size, 2, none⟩) (World.block_lt_of_cell? _ _ z2)).trans z2
          have y1' := (hbk.cell (p := ⟨b, off + j * 2 + 1, none⟩) (World.block_lt_of_cell? _ _ y1)).trans y1
          obtain ⟨b3, o3, rfl, x3⟩ := (HBITS.out.later hbk).int_at hkl
          have hbb := HBD.out _ (List.getElem_mem hkl)
          have hnb := numB_testBit bits vs k hkl
          have hl9 : ((bits.take k).map (at_ vs)).length = k := by simp; omega
          have HSET := Lib.hid (show (paddedB bits.length ((bits.take k).map (at_ vs))).set k (at_ vs bits[k]) = paddedB bits.length ((bits.take (k + 1)).map (at_ vs)) by
            have h := paddedB_set bits.length ((bits.take k).map (at_ vs)) (at_ vs bits[k]) (by omega)
            rw [hl9] at h
            rw [h, List.take_succ_eq_append_getElem hkl, List.map_append]; rfl)
          have hat := hoB.boolAt? (show (paddedB bits.length ((bits.take k).map (at_ vs)))[k]? = some false by have h := paddedB_at bits.length ((bits.take k).map (at_ vs)) (by omega); rw [hl9] at h; exact h)
          obtain ⟨u0, u1⟩ := hat
          have HNB := Lib.hid hnb
          clear hnb hl9
          generalize bits[k] = z at *
          obtain ⟨zz, rfl⟩ := Int.eq_ofNat_of_zero_le hbb.1
          have hzl : zz < vs.length := by omega
          obtain ⟨b4, o4, rfl, x4⟩ := (HX.out.later (HBW.out.trans (hbk.mono HBW.out.size))).b2i_at (i := zz) hzl
          have HEQ := Lib.hid (b2i_eq (at_ vs zz))
          clear z2 y1 hbb hoB hbk
          have hst := HOB.out.storeBool k (at_ vs zz)
          rw [HSET.out] at hst
          have HST := Lib.hid hst
          have HB8 := Lib.hid (HBK.out.setCell (p := ⟨wo.heap.size, k, none⟩) (Nat.le_refl _) (.bool (at_ vs zz)))
          clear hst
          cases hbit : at_ vs zz with
          | false =>
            rw [hbit] at x4 HNB HST HB8
            simp only [b2i, Bool.false_eq_true, if_false] at x4
            clear hbit HEQ
            go_wp2
            go_roundw
            case rel => exact ⟨k + 1, m, by omega, by go_num, rfl, by omega, fun q h h' => by
                rcases Nat.lt_or_ge q k with h2 | h2
                · exact H0.out q h h2
                · rw [show q = k by omega]; exact HNB.out, H1.out, HST.out, HB8.out⟩
            case measure => simp [intOf]; omega
          | true =>
            rw [hbit] at x4 HNB HST HB8
            simp only [b2i, if_true] at x4
            clear hbit HEQ
            go_wp2
            go_roundw
            case rel => exact ⟨k + 1, k + 1, by omega, by go_num, by go_num, by omega, fun q h h' => by omega, fun _ => by simpa using HNB.out, HST.out, HB8.out⟩
            case measure => simp [intOf]; omega
        · obtain rfl : k = bits.length := by omega
          have hrow := hoB.bools (S := fun i => Value.ownBlock (.slice A9 done.length c9) = some i ∨ S i) (fun i hi => hi.elim (fun hi => (HOW.out.base hi).2) (fun hi => by have := hS i hi; omega))
          have hfull : paddedB bits.length ((bits.take bits.length).map (at_ vs)) = lowBits (numB bits vs) bits.length := by
            rw [List.take_length, paddedB_all _ _ (by simp)]
            have h := lowBits_ofBits (bits.map (at_ vs))
            rw [List.length_map] at h
            exact h.symm
          rw [hfull] at hrow
          have hlb := lowBits_length (numB bits vs) bits.length
          have hrow2 : Row kBool wr (fun i => Value.ownBlock (.slice A9 done.length c9) = some i ∨ S i) (.slice (some ⟨wo.heap.size, 0, none⟩) m bits.length) (natBits (numB bits vs)) := by
            have h := Row.take (A := some ⟨wo.heap.size, 0, none⟩) (c := bits.length) (by rw [hlb]; exact hrow) m (by omega)
            rw [lowBits_take _ _ _ hmk'] at h
            rw [cut_lowBits (numB bits vs) bits.length m hmk' H0.out H1.out, Nat.mod_eq_of_lt (numB_lt bits vs)] at h
            exact h
          have hnb : nbits (numB bits vs) ≤ 549755813888 := Nat.le_trans (nbits_le (numB_lt bits vs)) hbl
          have HROW := Lib.hid hrow2
          have HOW2 := Lib.hid (HOW.out.kept (Kept.of_below_all hbk (FootIn.none _) (Nat.le_refl _)))
          have HB7 := Lib.hid (HB.out.trans (hbk.mono hszr))
          have hszk := hbk.size
          clear hrow hfull hlb hrow2 hoB hbk z2 y1
          go_wp2_with fail
          refine (parts_ref _ (fun i => Value.ownBlock (.slice A9 done.length c9) = some i ∨ S i) (fun i hi => hi.elim (fun hi => (HOW2.out.base hi).2) (fun hi => by have := hS i hi; omega)) _ (numB bits vs) HROW.out hnb).mono ?_
          rintro e w3 ⟨v3, rfl, hr3, hb3⟩
          obtain ⟨A3, c3, rfl, -, -⟩ := hr3.shape
          have HOW3 := Lib.hid (HOW2.out.kept (Kept.of_below_all hb3 (FootIn.none _) (Nat.le_refl _)))
          have HR3 := Lib.hid hr3
          have HB3 := Lib.hid (HB7.out.trans (hb3.mono (Nat.le_trans hszr hszk)))
          have hsz3 := hb3.size
          generalize (parts32 (numB bits vs)) = pp at *
          clear hr3 hb3
          go_wp2_with (at_builtin; refine app1 (kOff S (kNum .u32)) 38 45 (.slice none 0 0) 24 rfl (.tmp 54) (.tmp 59) rfl Try.underlying45 infoU32s rfl Nat.zero_lt_one (by decide) none (w.heap.size + 1) HOW3.out (FootIn.none _) (by omega) rfl pp [.slice A3 pp.length c3] rfl ⟨_, rfl, HR3.out.mono (fun i _ h => h.elim (fun h => h.elim (fun h => (foot_none _ _ h).elim) .inl) .inr)⟩ (by omega) ?_; intro v' w4 q1 q2 _ _ _ _)
          go_roundw
          case rel => exact ⟨j + 1, by omega, by go_num, by rw [HT.out]; exact q1, HB3.out.trans q2.below⟩
          case measure => simp [intOf]; omega
    · obtain rfl : j = outs.length := by omega
      have htl : outs.take outs.length = outs := List.take_length
      rw [htl] at ho ⊢
      clear hol2 htl
      have hrow := ho.rowOff (fun g hg hs => by have h1 := (ho.base hg).1; have := hS g hs; omega)
      have HROW := Lib.hid hrow
      clear hbw hb hro hrow ho
      go_wp2
      go_ret
      exact ⟨_, rfl, HROW.out, HBW.out⟩
end Go.Proofs.Ytdljgifoboiaeaa
