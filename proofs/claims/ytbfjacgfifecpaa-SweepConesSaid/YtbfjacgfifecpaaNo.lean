/- net.Order. -/
import Derived.Test.YtbfjacgfifecpaaNn
namespace Go.Proofs.Ytbfjacgfifecpaa
open Go.RowKit

structure OrdS (w : World) (n B : Nat) (vals : List Value) (us : List (List Nat)) : Prop where
  mem : LevM w B B n (vals.zip (us.map nats)) vals
  lvals : vals.length = n
  lus : us.length = n
section
variable {w w' : World} {n B : Nat} {vals : List Value} {us : List (List Nat)}
theorem OrdS.alloc (h : OrdS w n B vals us) (o : Obj) : OrdS (w.alloc o) n B vals us := ⟨h.mem.alloc o, h.lvals, h.lus⟩
theorem OrdS.zip (_h : OrdS w n B vals us) {a : Nat} {v : Value} {u : List Nat} (hv : vals[a]? = some v) (hu : us[a]? = some u) : (vals.zip (us.map nats))[a]? = some (v, nats u) := by
  rw [List.getElem?_zip_eq_some]
  exact ⟨hv, by rw [List.getElem?_map, hu]; rfl⟩
theorem OrdS.lt (h : OrdS w n B vals us) : B < w.heap.size := h.mem.tabLt.2
theorem OrdS.useOwn (h : OrdS w n B vals us) {a : Nat} {v : Value} {u : List Nat} (hv : vals[a]? = some v) (hu : us[a]? = some u) : Own kInt 3 w none B v (nats u) := h.mem.own a (v, nats u) (h.zip hv hu)
theorem OrdS.useCell (h : OrdS w n B vals us) {a : Nat} {v : Value} (hv : vals[a]? = some v) : w.cell? ⟨B, a, none⟩ = some v ∧ w.frozen? ⟨B, a, none⟩ = false := by
  have ha := (List.getElem?_eq_some_iff.1 hv).1
  have hl := h.lvals
  exact ⟨by rw [h.mem.tab.cellAt a (by omega), hv], h.mem.tab.frozenAt a⟩
theorem OrdS.setUse (h : OrdS w n B vals us) {a : Nat} {v v' : Value} {u : List Nat} {y : Nat} (hv : vals[a]? = some v) (hu : us[a]? = some u) (ho : Own kInt 3 w' none B v' (nats u ++ [(y : Int)])) (hg : w.grownBy w' v.ownBlock)
    (hloc : v'.ownBlock = v.ownBlock ∨ ∃ b, v'.ownBlock = some b ∧ w.heap.size ≤ b) : OrdS (w'.setCell ⟨B, a, none⟩ v') n B (vals.set a v') (us.set a (u ++ [y])) := by
  have e : nats (u ++ [y]) = nats u ++ [(y : Int)] := by simp
  have hm := (h.mem.set (i := a) (v := v) (xs := nats u) (h.zip hv hu) ho hg hloc).tabSet a v'
  refine ⟨?_, by rw [List.length_set, h.lvals], by rw [List.length_set, h.lus]⟩
  rw [List.map_set, e, ← zip_set]
  exact hm
theorem OrdS.tabKept (h : OrdS w n B vals us) {a : Nat} {v : Value} {u : List Nat} (hv : vals[a]? = some v) (hu : us[a]? = some u) (hg : w.grownBy w' v.ownBlock) : w'.cell? ⟨B, a, none⟩ = some v ∧ w'.frozen? ⟨B, a, none⟩ = false := by
  have h1 := h.useCell hv
  have hne : some B ≠ v.ownBlock := fun e => h.mem.off a (v, nats u) (h.zip hv hu) e.symm
  have hb := hg.block B h.lt hne
  exact ⟨(World.cell?_of_block hb).trans h1.1, (World.frozen?_of_block hb).trans h1.2⟩
theorem OrdS.row (h : OrdS w n B vals us) (hn : n ≤ 1099511627776) : Row (kRow kInt) w (fun _ => False) (.slice (some ⟨B, 0, none⟩) n n) (us.map nats) := by
  have hflat : (vals.map fun v => [v]).flatten = vals := by
    clear h
    induction vals with
    | nil => rfl
    | cons v vs ih => simp [ih]
  have hl : (us.map nats).length = n := by rw [List.length_map, h.lus]
  refine ⟨some ⟨B, 0, none⟩, n, vals.map fun v => [v], by rw [hl], by omega, by simp only [maxLen]; omega, (fun h => nomatch h), ⟨by simp [h.lvals, h.lus], fun i x cs hx hc => ?_⟩, fun hn => ⟨_, _, rfl, h.lt, fun h => h, fun j u hu => ?_⟩⟩
  · rw [List.getElem?_map] at hc hx
    obtain ⟨v, hv, rfl⟩ := Option.map_eq_some_iff.1 hc
    obtain ⟨u, hu, rfl⟩ := Option.map_eq_some_iff.1 hx
    exact ⟨v, rfl, (h.useOwn hv hu).rowS _ fun _ _ h => h⟩
  · rw [hflat] at hu
    rw [Nat.zero_add]
    exact (h.useCell hu).1
end
theorem OrdS.init (w : World) (n : Nat) (hn : n ≤ 1099511627776) : OrdS (w.alloc (.cells (madeCells #[nilS] n) 28)) n w.heap.size (List.replicate n nilS) (List.replicate n []) := by
  have ht := World.ownsRow_lit (base := w.heap.size) (e := 28) (size := 1) w (madeCells #[nilS] n) n (Nat.le_refl _) (by simp only [maxLen]; omega) (by simp [size_madeCells])
  have e : (madeCells #[nilS] n).toList = List.replicate n nilS := by rw [toList_madeCells_one]
  rw [e] at ht
  have hcase : ∀ (i : Nat) (p : Value × List Int), ((List.replicate n nilS).zip ((List.replicate n ([] : List Nat)).map nats))[i]? = some p → p = (nilS, []) := fun i p hp => by
    rw [List.getElem?_zip_eq_some, List.getElem?_map, List.getElem?_replicate, List.getElem?_replicate] at hp
    obtain ⟨q1, q2⟩ := hp
    split at q1
    · injection q1 with q1
      simp at q2
      exact Prod.ext q1.symm q2.2
    · cases q1
  refine ⟨⟨fun i p hp => ?_, fun i j p q hp hq hij b hb => ?_, ht, fun i p hp => ?_⟩, by simp, by simp⟩
  · rw [hcase i p hp]; exact Own.nil _ _ _ _ _
  · rw [hcase i p hp] at hb; simp [Value.ownBlock] at hb
  · rw [hcase i p hp]; simp [Value.ownBlock]

/-! ### by levels -/
def binL (l : List Int) (i v : Nat) : List Nat := (List.range i).filter fun k => decide (l.getD k 0 = (v : Int))
def bins (l : List Int) (n i : Nat) : List (List Nat) := (List.range n).map (binL l i)
def ordL (l : List Int) : List Nat := (bins l (maxF l + 1).toNat l.length).flatten
theorem ordL_nil : ordL [] = [] := rfl
theorem binL_succ (l : List Int) (i v : Nat) : binL l (i + 1) v = binL l i v ++ if l.getD i 0 = (v : Int) then [i] else [] := by
  rw [binL, List.range_succ, List.filter_append]
  by_cases h : l.getD i 0 = (v : Int)
  · rw [if_pos h, List.filter_cons, if_pos (decide_eq_true h)]; rfl
  · rw [if_neg h, List.filter_cons, if_neg (by rw [decide_eq_false h]; simp)]; rfl
theorem bins_length (l : List Int) (n i : Nat) : (bins l n i).length = n := by simp [bins]
theorem bins_at {l : List Int} {n i v : Nat} (h : v < n) : (bins l n i)[v]? = some (binL l i v) := by simp [bins, h]
theorem bins_zero (l : List Int) (n : Nat) : bins l n 0 = List.replicate n [] := by
  rw [bins, List.eq_replicate_iff]
  refine ⟨by simp, fun b hb => ?_⟩
  obtain ⟨v, -, rfl⟩ := List.mem_map.1 hb
  rfl
theorem bins_succ {l : List Int} {n i a : Nat} (ha : l.getD i 0 = (a : Int)) : bins l n (i + 1) = (bins l n i).set a (binL l i a ++ [i]) := by
  apply List.ext_getElem?
  intro v
  rw [List.getElem?_set]
  by_cases hv : v < n
  · rw [bins_at hv, binL_succ]
    by_cases e : a = v
    · subst e; rw [if_pos rfl, if_pos ha, if_pos (by rw [bins_length]; exact hv)]
    · rw [if_neg e, bins_at hv, if_neg (by omega), List.append_nil]
  · rw [List.getElem?_eq_none (by rw [bins_length]; omega)]
    split
    · rw [if_neg (by rw [bins_length]; omega)]
    · rw [List.getElem?_eq_none (by rw [bins_length]; omega)]
theorem flatten_set_len : ∀ (us : List (List Nat)) (a : Nat) (u : List Nat) (y : Nat), us[a]? = some u → (us.set a (u ++ [y])).flatten.length = us.flatten.length + 1 := by
  intro us
  induction us with
  | nil => intro a u y h; simp at h
  | cons x us ih =>
    intro a u y h
    cases a with
    | zero =>
      simp only [List.getElem?_cons_zero, Option.some.injEq] at h
      subst h
      simp only [List.set_cons_zero, List.flatten_cons, List.length_append, List.length_cons, List.length_nil]
      omega
    | succ a =>
      rw [List.getElem?_cons_succ] at h
      rw [List.set_cons_succ, List.flatten_cons, List.flatten_cons, List.length_append, List.length_append, ih a u y h]
      omega
theorem bins_flat_len {l : List Int} {n : Nat} (hl : ∀ x ∈ l, 0 ≤ x ∧ x < (n : Int)) : ∀ i, i ≤ l.length → (bins l n i).flatten.length = i := by
  intro i
  induction i with
  | zero => intro _; rw [bins_zero]; simp
  | succ i ih =>
    intro hi
    have hg : l.getD i 0 = l[i] := by rw [List.getD_eq_getElem?_getD, List.getElem?_eq_getElem (by omega)]; rfl
    have hx := hl _ (List.getElem_mem (show i < l.length by omega))
    obtain ⟨a, ha⟩ := Int.eq_ofNat_of_zero_le hx.1
    rw [bins_succ (hg.trans ha), flatten_set_len _ _ _ _ (bins_at (by omega)), ih (by omega)]
theorem flat_nats (us : List (List Nat)) : (us.map nats).flatten = nats us.flatten := by
  rw [nats, List.map_flatten]
theorem IsLev.reach {nodes : List Node} {l : List Int} (hN : InN nodes) (h : IsLev nodes l) :
    ∀ (v : Nat) (i : Nat), i < nodes.length → l.getD i 0 = (v : Int) → ∃ k : List Nat, k.Nodup ∧ (∀ x ∈ k, x < nodes.length ∧ l.getD x 0 ≤ (v : Int)) ∧ k.length = v + 1 := by
  intro v
  induction v with
  | zero => exact fun i hi he => ⟨[i], by simp, fun x hx => by simp at hx; subst hx; exact ⟨hi, by rw [he]; exact Int.le_refl _⟩, rfl⟩
  | succ v ih =>
    intro i hi he
    have hx := h.2 i nodes[i] (List.getElem?_eq_getElem hi)
    rcases lvl_is (usesN nodes[i]) l with h0 | ⟨a, ha, hl⟩
    · rw [he] at hx; omega
    · obtain ⟨k, l1, l2, l3⟩ := ih a (hN _ (List.getElem_mem hi) a ha) (by rw [he] at hx; omega)
      refine ⟨i :: k, List.nodup_cons.2 ⟨fun hm => ?_, l1⟩, fun x hx => ?_, by rw [List.length_cons, l3]⟩
      · have := (l2 i hm).2; rw [he] at this; omega
      · rcases List.mem_cons.1 hx with rfl | hx
        · exact ⟨hi, by rw [he]; exact Int.le_refl _⟩
        · exact ⟨(l2 x hx).1, by have := (l2 x hx).2; omega⟩
theorem IsLev.bound {nodes : List Node} {l : List Int} (hN : InN nodes) (h : IsLev nodes l) : ∀ x ∈ l, x < nodes.length := by
  intro x hx
  obtain ⟨i, hi, rfl⟩ := List.mem_iff_getElem.1 hx
  have hg : l.getD i 0 = l[i] := by rw [List.getD_eq_getElem?_getD, List.getElem?_eq_getElem hi]; rfl
  have hnn := h.nonneg i
  obtain ⟨v, hv⟩ := Int.eq_ofNat_of_zero_le hnn
  obtain ⟨k, l1, l2, l3⟩ := h.reach hN v i (by rw [← h.1]; exact hi) hv
  have := nodup_le nodes.length k l1 (fun x hx => (l2 x hx).1)
  rw [← hg, hv]
  omega
def OrdE (w : World) (n B : Nat) (us : List (List Nat)) : Prop := ∃ vals, OrdS w n B vals us
def OrdOut (nodes : List Node) (ins outs : List Port) (e : Int) (o : List Int) : Prop := ∃ l, LevOut nodes ins outs e l ∧ o = nats (ordL l)

set_option maxHeartbeats 1000000 in
set_option maxRecDepth 100000 in
theorem order_net (w : World) (v : Value) (nodes : List Node) (ins outs : List Port) (hN : NetV w v nodes ins outs) (hF : Fits nodes ins outs) :
    Calls Try.prog 18 #[v] w fun e w' => ∃ v' o x, e = .returned (.tuple #[v', .int .i64 x]) ∧ Row kInt w' (fun _ => False) v' o ∧ OrdOut nodes ins outs x o ∧ Below w.heap.size w w' := by
  obtain ⟨An, cn, Ai, ci, Ao, co, rfl, hbox⟩ := hN.box
  let ob := netBox (.slice An nodes.length cn) (.slice Ai ins.length ci) (.slice Ao outs.length co)
  have hb0 : Below w.heap.size w (w.alloc ob) := (Below.refl _ _).alloc (Nat.le_refl _) _
  obtain ⟨z0, z1, z2, -, -, -, -⟩ := hbox (w.alloc ob) (Below.refl _ _)
  have HC := Lib.hid (lev_net (w.alloc ob) _ nodes ins outs (hN.later hb0) hF)
  have HB0 := Lib.hid hb0
  have HF := Lib.hid hF
  clear hbox hN hF hb0
  go_enter Try.func18, Try.ntmps18
  go_wp2_with fail
  refine HC.out.mono ?_
  rintro e w1 ⟨v1, l, x, rfl, hr, hl, hb1⟩
  obtain ⟨A, c, rfl, -, -⟩ := hr.shape
  have HR := Lib.hid hr
  have HB1 := Lib.hid (HB0.out.trans (hb1.mono (by simp)))
  have hlen : l.length ≤ 1099511627776 := Nat.le_trans hl.length HF.out.nl
  have hnn := hl.nonneg
  have HL := Lib.hid hl
  obtain ⟨bb, h1, h2, h3, h4, h5⟩ := hl
  have hle : (x ≠ 0 ∨ l.length = 0) → l = [] := fun h => h.elim h5 List.length_eq_zero_iff.1
  have hbd : x = 0 → ∀ y ∈ l, 0 ≤ y ∧ y < 262144 := fun h0 y hy => by
    have hz := errP_zero (h1.symm.trans h0)
    have := (h4 h0).bound (formed_inN hz.2.1) y hy
    have := hnn y hy
    omega
  have HLE := Lib.hid hle
  have HBD := Lib.hid hbd
  clear hb1 HC z0 z1 z2 h1 h2 h3 h4 h5 hr hle hbd
  by_cases hx0 : x = 0
  · subst hx0
    by_cases hl0 : l.length = 0
    · have he := HLE.out (.inr hl0)
      subst he
      clear hnn
      go_wp2
      go_ret2
      exact ⟨_, [], 0, rfl, nilRowInt _ _, ⟨[], HL.out, by rw [ordL_nil]; rfl⟩, HB1.out⟩
    · have HM := Lib.hid (max_ints w1 _ l HR.out (by omega) hlen hnn)
      have hl0' : ¬ (l.length : Int) = 0 := by omega
      have hmle : maxF l < 262144 := by
        have := maxF_le (l := l) (m := 262143) (by omega) fun x hx => by have := (HBD.out rfl x hx).2; omega
        omega
      obtain ⟨d, hd⟩ := Int.eq_ofNat_of_zero_le (maxF_nonneg l)
      have HD := Lib.hid hd
      rw [hd] at HM hmle
      obtain ⟨n, hn⟩ : ∃ n, n = d + 1 := ⟨_, rfl⟩
      have hmk := make_slices n (by omega)
      rw [show (n : Int) = (d : Int) + 1 by omega] at hmk
      have hn2 : n ≤ 262144 := by omega
      have HN := Lib.hid hn
      have HLD := Lib.hid (show ∀ y ∈ l, 0 ≤ y ∧ y < (n : Int) from fun y hy => by
        have := le_maxF hy
        have := hnn y hy
        omega)
      have HMLE := Lib.hid hmle
      have HMK := Lib.hid hmk
      clear hnn hd hmle hmk hl0 hn
      have hq : ((l.length : Int) == 0) = false := by simpa using hl0'
      clear hl0'
      go_wp2_with fail
      clear hq
      have hmle := HMLE.out
      have hmk := HMK.out
      refine HM.out.mono ?_
      rintro e w2 ⟨rfl, hb2⟩
      have HB12 := Lib.hid (hb2)
      have HB2 := Lib.hid (HB1.out.trans (hb2.mono HB1.out.size))
      have HS := Lib.hid (OrdS.init w2 n (by omega))
      have HBS := Lib.hid ((Below.refl w2.heap.size w2).alloc (Nat.le_refl _) (.cells (madeCells #[nilS] n) 28))
      clear hb2 HM
      go_wp2_with fail
      go_loopw [28] (fun iv wr => ∃ i : Nat, iv = .int .i64 i ∧ i ≤ l.length ∧ Hid (OrdE wr n w2.heap.size (bins l n i)) ∧ Hid (Below w2.heap.size w2 wr)) (fun iv _ => l.length - (intOf iv).toNat)
      case atStart => exact ⟨0, rfl, Nat.zero_le _, by rw [bins_zero]; exact Lib.hid ⟨_, HS.out⟩, HBS⟩
      case round =>
        clear HS HBS hmk
        obtain ⟨i, rfl, hi, HE, HB⟩ := hrel
        obtain ⟨vals, hs⟩ := HE.out
        have HS := Lib.hid hs
        clear hs
        by_cases hlt : i < l.length
        · obtain ⟨b, off, rfl, x0⟩ := HR.out.int_at hlt
          replace x0 := cellBelow (HB12.out.trans (HB.out.mono HB12.out.size)) x0
          have hx := HLD.out _ (List.getElem_mem hlt)
          have hg : l.getD i 0 = l[i] := by rw [List.getD_eq_getElem?_getD, List.getElem?_eq_getElem hlt]; rfl
          obtain ⟨a, ha⟩ := Int.eq_ofNat_of_zero_le hx.1
          rw [ha] at hx x0 hg
          have hus := bins_at (l := l) (n := n) (i := i) (v := a) (by omega)
          have hlv := HS.out.lvals
          obtain ⟨v, hv⟩ : ∃ v, vals[a]? = some v := ⟨_, List.getElem?_eq_getElem (by omega)⟩
          have hO := HS.out.useOwn hv hus
          have hcv := (HS.out.useCell hv).1
          have HBN := Lib.hid (bins_succ (n := n) hg)
          have hul : (binL l i a).length ≤ i := by have := List.length_filter_le (fun k => decide (l.getD k 0 = (a : Int))) (List.range i); rw [List.length_range] at this; exact this
          have hun : ((nats (binL l i a)).length + 1) * 8 ≤ 140737488355328 := by rw [List.length_map]; have := hlen; omega
          have hb1 := Nat.le_of_lt HS.out.lt
          have HL6L := Lib.hid (show (nats (binL l i a) ++ [(i : Int)]).length = (binL l i a).length + 1 by simp)
          have HO := Lib.hid hO
          have HV := Lib.hid hv
          have HU := Lib.hid hus
          have han : a < n := by omega
          clear hO hv hus hg ha hul hlv hx
          have hdd : decide ((i : Int) < (l.length : Int)) = true := decide_eq_true (by omega)
          clear hmle
          go_wp2_with (at_builtin; go_loud (refine appI rfl (.tmp 38) (.tmp 40) rfl HO.out hb1 rfl (i : Int) _ rfl rfl hun ?_; intro v' w5 q1 q5 q6; obtain ⟨A6, c6, he6, -, -⟩ := q1.shape; rw [HL6L.out] at he6; subst he6; obtain ⟨t0, t1⟩ := HS.out.tabKept HV.out HU.out q5; have HS6 := Lib.hid (HS.out.setUse HV.out HU.out q1 q5 q6); have HQ5 := Lib.hid q5; clear q1 q5 q6))
          have hB5 := (HB.out.grown HQ5.out (Nat.le_of_lt HS.out.lt) (fun g hg => (HO.out.base hg).1)).setCell (p := ⟨w2.heap.size, a, none⟩) (by simp) (.slice A6 ((binL l i a).length + 1) c6)
          refine ⟨⟨i + 1, by go_num, by omega, by rw [HBN.out]; exact Lib.hid ⟨_, HS6.out⟩, Lib.hid hB5⟩, ?_⟩
          simp [intOf]; omega
        · obtain rfl : i = l.length := by omega
          have hrow := HS.out.row (by omega)
          have hfl : ((bins l n l.length).map nats).flatten.length ≤ 1099511627776 := by
            rw [flat_nats, List.length_map, bins_flat_len HLD.out _ (Nat.le_refl _)]
            exact hlen
          have HCC := Lib.hid (concat_ints wr _ _ hrow (by rw [List.length_map, bins_length]; omega) hfl)
          have HBF := Lib.hid (HB2.out.trans (HB.out.mono HB2.out.size))
          have hdd : decide ((l.length : Int) < (l.length : Int)) = false := decide_eq_false (by omega)
          clear hrow hfl hmle
          go_wp2_with fail
          refine HCC.out.mono ?_
          rintro e w5 ⟨v5, rfl, hr5, hb5⟩
          have HR5 := Lib.hid hr5
          have HB5 := Lib.hid (HBF.out.trans (hb5.mono HBF.out.size))
          clear hr5 hb5 HCC
          go_wp2
          go_ret2
          refine ⟨_, _, 0, rfl, HR5.out, ⟨l, HL.out, ?_⟩, HB5.out⟩
          rw [flat_nats, ordL, HD.out, HN.out]
          rfl
  · have he := HLE.out (.inl hx0)
    subst he
    clear hnn
    go_wp2
    go_ret2
    exact ⟨_, [], x, rfl, nilRowInt _ _, ⟨[], HL.out, by rw [ordL_nil]; rfl⟩, HB1.out⟩
end Go.Proofs.Ytbfjacgfifecpaa
