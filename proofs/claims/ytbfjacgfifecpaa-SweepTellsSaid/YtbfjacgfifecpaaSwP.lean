/- slipstickref09.Ports. -/
import Derived.Test.YtbfjacgfifecpaaSwI
import Derived.Deep.AppendLies
namespace Go.Proofs.Ytbfjacgfifecpaa
open Go.RowKit

abbrev rwPb (g : Nat) (s : ByteArray) (bv : Value) : Rw := ⟨53, 2, .slice (some ⟨g, 0, none⟩) 1 1, 1, [.string s, bv]⟩
theorem Keep.front2 {w : World} {B : Nat} {a b : Rw} {T : List Rw} (h : Keep w B ((T ++ [a]) ++ [b])) : Keep w B (a :: b :: T) := by
  refine h.pick (fun i => if i = 0 then T.length else if i = 1 then T.length + 1 else i - 2) (fun i j hi hj e => ?_) fun i r hr => ?_
  · simp only [List.length_cons] at hi hj
    split at e <;> split at e <;> (try split at e) <;> (try split at e) <;> omega
  · match i, hr with
    | 0, hr =>
      show ((T ++ [a]) ++ [b])[T.length]? = _
      rw [List.getElem?_append_left (by simp), List.getElem?_append_right (by omega)]
      simpa using hr
    | 1, hr =>
      show ((T ++ [a]) ++ [b])[T.length + 1]? = _
      rw [List.getElem?_append_right (by simp)]
      simpa using hr
    | i + 2, hr =>
      have hl : i < T.length := (List.getElem?_eq_some_iff.1 (show T[i]? = some r from hr)).1
      show ((T ++ [a]) ++ [b])[i]? = _
      rw [List.getElem?_append_left (by simp; omega), List.getElem?_append_left hl]
      exact hr
theorem Keep.back {w : World} {B : Nat} {a b h : Rw} {R : List Rw} (k : Keep w B (a :: b :: h :: R)) : Keep w B (h :: (R ++ [b])) := by
  refine k.pick (fun i => if i = R.length + 1 then 1 else i + 2) (fun i j hi hj e => ?_) fun i r hr => ?_
  · simp only [List.length_cons, List.length_append, List.length_nil] at hi hj
    split at e <;> split at e <;> omega
  · match i, hr with
    | 0, hr => simpa using hr
    | i + 1, hr =>
      have hr : (R ++ [b])[i]? = some r := hr
      rcases Nat.lt_or_ge i R.length with h1 | h1
      · rw [List.getElem?_append_left h1] at hr
        rw [if_neg (by omega)]
        exact hr
      · rw [List.getElem?_append_right h1] at hr
        have h2 : i - R.length = 0 := by
          have := (List.getElem?_eq_some_iff.1 hr).1
          simp only [List.length_singleton] at this
          omega
        rw [h2] at hr
        rw [if_pos (by omega)]
        exact hr
/-- what has been made of some ports -/
def PoE (w : World) (B : Nat) (ov : Value) (ps : List Port) : Prop := ∃ vs : List Value, vs.length = ps.length ∧ Keep w B (ptT ov ps vs)
/-- and a port that is being made -/
def PoI (w : World) (B : Nat) (ov : Value) (ps : List Port) (X : Nat) (s : ByteArray) (bv : Value) (bs : List Int) : Prop := ∃ vs : List Value, vs.length = ps.length ∧ Keep w B (rwPb X s bv :: rwInts 3 bv bs :: ptT ov ps vs)
theorem PoE.enter {w : World} {B : Nat} {ov : Value} {ps : List Port} (h : PoE w B ov ps) (s : ByteArray) : PoI (w.alloc (.cells #[.string s, .slice none 0 0] 53)) B ov ps w.heap.size s (.slice none 0 0) [] := by
  obtain ⟨vs, h1, h2⟩ := h
  have k1 := h2.push (w' := w.alloc (.cells #[.string s, .slice none 0 0] 53)) (r := rwPb w.heap.size s (.slice none 0 0)) ((Below.refl _ _).alloc (Nat.le_refl _) _) (World.ownsRow_lit w #[.string s, .slice none 0 0] 1 (Nat.le_refl _) (by simp [maxLen]) rfl)
  have k2 := k1.push (r := rwInts 3 (.slice none 0 0) []) (Below.refl _ _) (rwInts_at.2 (Own.nil _ _ _ _ _))
  exact ⟨vs, h1, k2.front2⟩
section
variable {w w' : World} {B : Nat} {ov : Value} {ps : List Port} {X : Nat} {s : ByteArray} {bv : Value} {bs : List Int}
theorem PoI.below (h : PoI w B ov ps X s bv bs) (hb : Below w.heap.size w w') : PoI w' B ov ps X s bv bs := by obtain ⟨vs, h1, h2⟩ := h; exact ⟨vs, h1, h2.below hb⟩
theorem PoI.own (h : PoI w B ov ps X s bv bs) : Own kInt 3 w none B bv bs := by obtain ⟨vs, h1, h2⟩ := h; exact h2.ints (i := 1) rfl
theorem PoI.box (h : PoI w B ov ps X s bv bs) : (w.cell? ⟨X, 0, none⟩ = some (.string s) ∧ w.cell? ⟨X, 1, none⟩ = some bv) ∧ w.frozen? ⟨X, 1, none⟩ = false ∧ B ≤ X ∧ X < w.heap.size := by
  obtain ⟨vs, h1, h2⟩ := h
  have k0 := h2.cell (i := 0) (r := rwPb X s bv) rfl rfl (j := 0) rfl
  have k1 := h2.cell (i := 0) (r := rwPb X s bv) rfl rfl (j := 1) rfl
  exact ⟨⟨k0.1, k1.1⟩, k1.2, h2.lt (i := 0) (r := rwPb X s bv) rfl (b := X) rfl⟩
theorem PoI.grow (h : PoI w B ov ps X s bv bs) {bv' : Value} {y : Int} (ho : Own kInt 3 w' none B bv' (bs ++ [y])) (hg : w.grownBy w' bv.ownBlock) (hloc : bv'.ownBlock = bv.ownBlock ∨ ∃ b, bv'.ownBlock = some b ∧ w.heap.size ≤ b) :
    ((w'.cell? ⟨X, 0, none⟩ = some (.string s) ∧ w'.cell? ⟨X, 1, none⟩ = some bv) ∧ w'.frozen? ⟨X, 1, none⟩ = false) ∧ PoI (w'.setCell ⟨X, 1, none⟩ bv') B ov ps X s bv' (bs ++ [y]) := by
  obtain ⟨vs, h1, h2⟩ := h
  have k1 : Keep w' B ((rwPb X s bv :: rwInts 3 bv bs :: ptT ov ps vs).set 1 (rwInts 3 bv' (bs ++ [y]))) := h2.setRow (i := 1) rfl ho hg hloc
  have c0 := k1.cell (i := 0) (r := rwPb X s bv) rfl rfl (j := 0) rfl
  have c1 := k1.cell (i := 0) (r := rwPb X s bv) rfl rfl (j := 1) rfl
  exact ⟨⟨⟨c0.1, c1.1⟩, c1.2⟩, vs, h1, k1.store (i := 0) (r := rwPb X s bv) rfl rfl 1 bv'⟩
theorem PoI.hdr (h : PoI w B ov ps X s bv bs) : ∃ hs, Own kHdr 53 w none B ov hs ∧ hs.length = ps.length ∧ ∀ {w' : World} {ov' : Value}, Own kHdr 53 w' none B ov' (hs ++ [(s, bv)]) → w.grownBy w' ov.ownBlock → (ov'.ownBlock = ov.ownBlock ∨ ∃ b, ov'.ownBlock = some b ∧ w.heap.size ≤ b) → PoE w' B ov' (ps ++ [⟨s, bs⟩]) := by
  obtain ⟨vs, h1, h2⟩ := h
  refine ⟨hdrs ps vs, ptT_hdr h2.tail.tail, hdrs_length h1, fun {w' ov'} ho hg hloc => ⟨vs ++ [bv], by simp [h1], ?_⟩⟩
  have k1 : Keep w' B ((rwPb X s bv :: rwInts 3 bv bs :: ptT ov ps vs).set 2 (rwHdr ov' (hdrs ps vs ++ [(s, bv)]))) := h2.set (i := 2) (r := rwHdr ov (hdrs ps vs)) rfl (rwHdr_own.1 ho).1 hg hloc
  have k2 := Keep.back (R := (ps.zip vs).map rwBits) k1
  rw [ptT, hdrs, List.zip_append h1.symm, List.map_append, List.map_append]
  exact k2
end
theorem ptT_rowS {w : World} {B : Nat} {v : Value} {ps : List Port} {vs : List Value} (h : Keep w B (ptT v ps vs)) (hl : vs.length = ps.length) : Row kPort w (under B) v ps := by
  have ho := ptT_hdr h
  obtain ⟨A, c, css, rfl, r1, r2, r0, r3, r4⟩ := ho.row (show 0 < 2 by decide) (Nat.le_refl _)
  have hn := hdrs_length hl
  rw [hn] at r1 r4
  refine ⟨A, c, css, by rw [hn], r1, r2, r0, ⟨by rw [r3.1, hn], fun i p cs hp hc => ?_⟩, fun h0 => ?_⟩
  · have hi := (List.getElem?_eq_some_iff.1 hp).1
    obtain ⟨u, hu⟩ : ∃ u, vs[i]? = some u := ⟨_, List.getElem?_eq_getElem (by omega)⟩
    have hh : (hdrs ps vs)[i]? = some (p.name, u) := by
      unfold hdrs
      rw [List.getElem?_map, (List.getElem?_zip_eq_some (z := (p, u))).2 ⟨hp, hu⟩]
      rfl
    obtain ⟨rfl, -⟩ := r3.2 i _ cs hh hc
    have hk := ptT_bits h hp hu
    exact ⟨u, rfl, (h.ints hk).rowS _ (fun g hg hm => by have := (h.lt hk hg).1; have : g < B := hm; omega)⟩
  · obtain ⟨b, off, rfl, q1, _, q3⟩ := r4 h0
    exact ⟨b, off, rfl, q1, fun hm => by have := (h.lt (i := 0) rfl (b := b) rfl).1; have : b < B := hm; omega, q3⟩
theorem PoE.row {w : World} {B : Nat} {ov : Value} {ps : List Port} (h : PoE w B ov ps) : Row kPort w (under B) ov ps := by obtain ⟨vs, h1, h2⟩ := h; exact ptT_rowS h2 h1

/-- append of one number that lies in a block -/
theorem wp_appG {W : World} {o : Oper} {a : Act} {K : Act → World → Prop} {Q : Exit → Act → World → Prop}
    (s x : Operand) (ho : o.op = .call { callee := .builtin .append, args := #[s, x], argTypes := #[28, 28] }) {B : Nat} {v : Value} {xs : List Int} (hO : Own kInt 3 W none B v xs) (hB : B ≤ W.heap.size) (hs : a.eval s = v)
    (y : Int) (g : Nat) (hc : W.cell? ⟨g, 0, none⟩ = some (.int .i64 y)) (hx : a.eval x = .slice (some ⟨g, 0, none⟩) 1 1) (hl : (xs.length + 1) * 8 ≤ 140737488355328)
    (hK : ∀ v' w', Own kInt 3 w' none B v' (xs ++ [y]) → W.grownBy w' v.ownBlock → (v'.ownBlock = v.ownBlock ∨ ∃ b, v'.ownBlock = some b ∧ W.heap.size ≤ b) → K (a.put o.dst v') w') : o.wp Try.prog a W K Q :=
  wp_app kInt 3 28 (.int .i64 0) 8 s x ho Try.underlying28 infoIntK rfl (by decide) (by decide) none B hO (FootIn.none _) hB hs ⟨g, 0, none⟩ 1 1 [y] [[.int .i64 y]] hx rfl ((Pairs.nil _ _ _).snoc rfl)
    (fun j u hu => by
      match j, hu with
      | 0, hu => simp at hu; subst hu; exact hc
      | j + 1, hu => simp at hu) hl fun v' w' q1 _ _ _ q5 q6 => hK v' w' q1 q5 (q6.imp id fun h => ⟨_, h, Nat.le_refl _⟩)
set_option maxHeartbeats 2000000 in
set_option maxRecDepth 4096 in
theorem portsR_ref (w : World) (v u : Value) (ps : List Port) (pl : List Int) (f : Nat → Nat) (hx : Row kPort w (fun _ => False) v ps) (hu : Row kInt w (fun _ => False) u pl) (hl : ps.length ≤ 1073741824) (hb : ∀ q ∈ ps, q.bits.length ≤ 1099511627776)
    (hpl : ∀ q ∈ ps, ∀ b ∈ q.bits, ∃ a : Nat, b = (a : Int) ∧ pl[a]? = some (f a : Int)) :
    Calls Try.prog 76 #[v, u] w fun e w' => ∃ v', e = .returned v' ∧ Row kPort w' (under w.heap.size) v' (ps.map (rpP f)) ∧ Below w.heap.size w w' := by
  obtain ⟨A, c, rfl, -, -⟩ := hx.shape
  obtain ⟨Au, cu, rfl, -, -⟩ := hu.shape
  have hb0 : Below w.heap.size w (w.alloc (.cells #[] 53)) := (Below.refl _ _).alloc (Nat.le_refl _) _
  have h0 : PoE (w.alloc (.cells #[] 53)) w.heap.size (.slice (some ⟨w.heap.size, 0, none⟩) 0 0) ((ps.take 0).map (rpP f)) := ⟨[], rfl, (Keep.nil (w := w) (Nat.le_refl _)).push hb0 (r := rwHdr (.slice (some ⟨w.heap.size, 0, none⟩) 0 0) []) (World.ownsRow_lit w #[] 0 (Nat.le_refl _) (by simp [maxLen]) rfl)⟩
  have HX := Lib.hid hx
  have HU := Lib.hid hu
  have HBL := Lib.hid hb
  have HPL := Lib.hid hpl
  have H0 := Lib.hid h0
  have HB0 := Lib.hid hb0
  clear hx hu hb hpl h0 hb0
  go_enter Try.func76, Try.ntmps76
  go_wp2_with fail
  go_loopw [5, 6] (fun ov iv wr => ∃ i : Nat, iv = .int .i64 i ∧ i ≤ ps.length ∧ Hid (PoE wr w.heap.size ov ((ps.take i).map (rpP f))) ∧ Hid (Below w.heap.size w wr)) (fun ov iv _ => ps.length - (intOf iv).toNat)
  case atStart => exact ⟨0, rfl, Nat.zero_le _, H0, HB0⟩
  case round =>
    clear H0 HB0
    obtain ⟨i, rfl, hi, HE, HB⟩ := hrel
    by_cases hlt : i < ps.length
    · obtain ⟨b, off, A3, d3, rfl, x0, x1, hxb⟩ := HX.out.port_at hlt
      have hm := List.getElem_mem hlt
      have hbl := HBL.out _ hm
      have hpb := HPL.out _ hm
      have HT := Lib.hid (show (ps.take (i + 1)).map (rpP f) = (ps.take i).map (rpP f) ++ [rpP f ps[i]] by rw [List.take_succ_eq_append_getElem hlt, List.map_append]; rfl)
      obtain ⟨x, hxx⟩ : ∃ x, ps[i] = x := ⟨_, rfl⟩
      rw [hxx] at x0 x1 hxb hbl hpb HT
      clear hxx hm
      obtain ⟨s, bs⟩ := x
      dsimp only at x0 x1 hxb hbl hpb
      have HPB := Lib.hid hpb
      have HI := Lib.hid (HE.out.enter s)
      have HBX := Lib.hid (HB.out.alloc HB.out.size (.cells #[.string s, .slice none 0 0] 53))
      have HXB := Lib.hid hxb
      have HC1 := Lib.hid (fun W (hW : Below w.heap.size w W) => cellBelow hW x1)
      replace x0 := cellBelow HB.out x0
      obtain ⟨X, hX⟩ : ∃ X, wr.heap.size = X := ⟨_, rfl⟩
      rw [hX] at HI
      clear hxb hpb HE HB x1
      go_wp2_with fail
      clear hX x0
      obtain ⟨wo, hwo⟩ : ∃ wo, wo = wr := ⟨_, rfl⟩
      subst hwo
      go_loopw [8] (fun kv wp => ∃ k : Nat, kv = .int .i64 k ∧ k ≤ bs.length ∧ Hid (∃ bv, PoI wp w.heap.size u5 ((ps.take i).map (rpP f)) X s bv ((bs.take k).map (rpB f))) ∧ Hid (Below w.heap.size w wp)) (fun kv _ => bs.length - (intOf kv).toNat)
      case atStart => exact ⟨0, rfl, Nat.zero_le _, Lib.hid ⟨_, HI.out⟩, HBX⟩
      case round =>
        clear HI HBX
        obtain ⟨k, rfl, hk, HE, HBW⟩ := hrel
        obtain ⟨bv, hp⟩ := HE.out
        have HP := Lib.hid hp
        have x1 := HC1.out _ HBW.out
        obtain ⟨⟨y0, y1⟩, y2, y3, y4⟩ := hp.box
        clear hp HE
        by_cases hkt : k < bs.length
        · obtain ⟨b2, off2, rfl, x2⟩ := HXB.out.int_at hkt
          have HT2 := Lib.hid (show (bs.take (k + 1)).map (rpB f) = (bs.take k).map (rpB f) ++ [rpB f bs[k]] by rw [List.take_succ_eq_append_getElem hkt, List.map_append]; rfl)
          obtain ⟨a, ha, hpa⟩ := HPB.out _ (List.getElem_mem hkt)
          rw [ha] at x2 HT2
          have hal := (List.getElem?_eq_some_iff.1 hpa).1
          have hpa2 := (List.getElem?_eq_some_iff.1 hpa).2
          obtain ⟨b3, off3, rfl, x3⟩ := HU.out.int_at hal
          rw [hpa2] at x3
          obtain ⟨A8, c8, he8, -, -⟩ := HP.out.own.shape
          have hl8 : ((bs.take k).map (rpB f)).length = k := by simp; omega
          rw [hl8] at he8
          subst he8
          have hall : ∀ W, Below w.heap.size w W → W.cell? ⟨X, 1, none⟩ = some (.slice A8 k c8) → (fun W => W.cell? ⟨b, off + i * 2 + 1, none⟩ = some (.slice (some ⟨b2, off2, none⟩) bs.length d3) ∧ W.cell? ⟨b2, off2 + k, none⟩ = some (.int .i64 (a : Int)) ∧ W.cell? ⟨b3, off3 + a, none⟩ = some (.int .i64 (f a : Int)) ∧ W.cell? ⟨X, 1, none⟩ = some (.slice A8 k c8)) W := fun W hW hx => ⟨HC1.out W hW, cellBelow hW x2, cellBelow hW x3, hx⟩
          have hba : Below wr.heap.size wr (wr.alloc (.cells #[.int .i64 (f a : Int)] 3)).drew := ((Below.refl _ _).alloc (Nat.le_refl _) _).drew
          obtain ⟨wa, hwa⟩ : ∃ wa, wa = (wr.alloc (.cells #[.int .i64 (f a : Int)] 3)).drew := ⟨_, rfl⟩
          have HCA := Lib.hid (show wa.cell? ⟨wr.heap.size, 0, none⟩ = some (.int .i64 (f a : Int)) by rw [hwa]; exact World.cell?_alloc_new _ _ _ 0)
          rw [← hwa] at hba
          have HWA := Lib.hid hwa
          have HBA := Lib.hid (HBW.out.trans (hba.mono HBW.out.size))
          have HPA := Lib.hid (HP.out.below hba)
          have HOA := Lib.hid HPA.out.own
          have HLEN := Lib.hid (show ((((bs.take k).map (rpB f)).length) + 1) * 8 ≤ 140737488355328 by rw [hl8]; omega)
          have HWB := Lib.hid (show w.heap.size ≤ wa.heap.size from HBA.out.size)
          have HL8 := Lib.hid (fun y : Int => (show ((bs.take k).map (rpB f) ++ [y]).length = k + 1 by rw [List.length_append, hl8]; rfl))
          have HALL := Lib.hid hall
          have HX0 := Lib.hid (hall wr HBW.out y1)
          have HXD := Lib.hid (show (fun W => W.cell? ⟨b, off + i * 2 + 1, none⟩ = some (.slice (some ⟨b2, off2, none⟩) bs.length d3) ∧ W.cell? ⟨b2, off2 + k, none⟩ = some (.int .i64 (a : Int)) ∧ W.cell? ⟨b3, off3 + a, none⟩ = some (.int .i64 (f a : Int)) ∧ W.cell? ⟨X, 1, none⟩ = some (.slice A8 k c8)) wr.drew from hall wr HBW.out y1)
          have HXA := Lib.hid (show (fun W => W.cell? ⟨b, off + i * 2 + 1, none⟩ = some (.slice (some ⟨b2, off2, none⟩) bs.length d3) ∧ W.cell? ⟨b2, off2 + k, none⟩ = some (.int .i64 (a : Int)) ∧ W.cell? ⟨b3, off3 + a, none⟩ = some (.int .i64 (f a : Int)) ∧ W.cell? ⟨X, 1, none⟩ = some (.slice A8 k c8)) (wr.alloc (.cells #[.int .i64 (f a : Int)] 3)).drew by rw [← hwa]; exact hall wa HBA.out HPA.out.box.1.2)
          have HXA2 := Lib.hid (show (fun W => W.cell? ⟨b, off + i * 2 + 1, none⟩ = some (.slice (some ⟨b2, off2, none⟩) bs.length d3) ∧ W.cell? ⟨b2, off2 + k, none⟩ = some (.int .i64 (a : Int)) ∧ W.cell? ⟨b3, off3 + a, none⟩ = some (.int .i64 (f a : Int)) ∧ W.cell? ⟨X, 1, none⟩ = some (.slice A8 k c8)) (wr.alloc (.cells #[.int .i64 (f a : Int)] 3)) from HXA.out)
          have hal2 : (a : Int) < (pl.length : Int) := by omega
          have hkt2 : (k : Int) < (bs.length : Int) := by omega
          replace x2 := cellBelow HBW.out x2
          replace x3 := cellBelow HBW.out x3
          have x1d : wr.drew.cell? _ = _ := x1
          have x2d : wr.drew.cell? _ = _ := x2
          have x3d : wr.drew.cell? _ = _ := x3
          have y1d : wr.drew.cell? _ = _ := y1
          clear hba hwa hall hpa hpa2 ha y0 y2
          go_wp2_with fail
          go_region_law (
              (rw [← HWA.out]; refine step_app rfl (wp_appG (.tmp 33) (.tmp 45) rfl HOA.out HWB.out rfl (f a : Int) wr.heap.size HCA.out rfl HLEN.out ?_); intro v5 w5 q1 q5 q6; obtain ⟨⟨⟨p0, p1⟩, p2⟩, hp5⟩ := HPA.out.grow q1 q5 q6; have HP5 := Lib.hid hp5; obtain ⟨A6, c6, he6, -, -⟩ := q1.shape; rw [HL8.out] at he6; have HB5 := Lib.hid (HBA.out.grown q5 HWB.out (fun g hg => (HOA.out.base hg).1)); obtain ⟨l1, l2, l3, -⟩ := HALL.out w5 HB5.out p1; subst he6; clear q1 q5 q6 hp5))
          all_goals
            go_wp2_with fail
            refine ⟨⟨k + 1, by go_num, by omega, Lib.hid ⟨_, by rw [HT2.out]; exact HP5.out⟩, Lib.hid (HB5.out.setCell (p := ⟨X, 1, none⟩) y3 _)⟩, ?_⟩
            simp [intOf]; omega
        · obtain rfl : k = bs.length := by omega
          obtain ⟨A8, c8, he8, -, -⟩ := HP.out.own.shape
          rw [List.length_map, List.length_take, Nat.min_self] at he8
          subst he8
          obtain ⟨hs, ho, hhl, hnext⟩ := HP.out.hdr
          have HO := Lib.hid ho
          have HNX := Lib.hid (fun w' ov' => hnext (w' := w') (ov' := ov'))
          have HHL := Lib.hid (show (hs.length + 1) * 40 ≤ 140737488355328 by rw [hhl, List.length_map, List.length_take]; omega)
          have hbs := HBW.out.size
          clear ho hhl hnext
          go_wp2_with (at_builtin; go_loud (refine app1 kHdr 53 23 (.agg #[.string ⟨#[]⟩, .slice none 0 0]) 40 rfl (.tmp 48) (.tmp 50) rfl Try.underlying23 infoPort rfl Nat.two_pos (by decide) none w.heap.size HO.out (FootIn.none _) hbs rfl (s, .slice A8 bs.length c8) [.string s, .slice A8 bs.length c8] rfl ⟨rfl, rfl⟩ HHL.out ?_; intro v5 w5 q1 q2 q3 q4 q5 q6; have HQ := Lib.hid (HNX.out w5 v5 q1 q5 (q6.imp id fun ⟨b, h1, h2⟩ => ⟨b, h1, by omega⟩)); have HB5 := Lib.hid (HBW.out.grown q5 hbs (fun g hg => (HO.out.base hg).1)); clear q1 q2 q3 q4 q5 q6))
          have HQ2 : Hid (PoE w5 w.heap.size v5 ((ps.take (i + 1)).map (rpP f))) := by
            have h := HQ.out
            rw [List.take_length] at h
            rw [HT.out]
            exact Lib.hid h
          refine ⟨⟨i + 1, by go_num, by omega, HQ2, HB5⟩, ?_⟩
          simp [intOf]; omega
    · obtain rfl : i = ps.length := by omega
      have h := HE.out
      rw [List.take_length] at h
      have HR := Lib.hid h.row
      clear h
      go_wp2
      go_ret
      exact ⟨_, rfl, HR.out, HB.out⟩
end Go.Proofs.Ytbfjacgfifecpaa
