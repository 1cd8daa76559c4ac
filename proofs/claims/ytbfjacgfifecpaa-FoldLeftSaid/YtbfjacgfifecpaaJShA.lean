/- Joined texts: ShA, ShB. -/
import Derived.Test.YtbfjacgfifecpaaJSwP
import Derived.Test.YtbfjacgfifecpaaMSet
import Derived.DeepKeys4

/-! ## share: keys. -/
namespace Go.Proofs.Ytbfjacgfifecpaa
open Go.RowKit

def keyN (x : Node) : Node := if (3 ≤ x.kind ∧ x.kind ≤ 5) ∧ x.b < x.a then ⟨x.kind, x.b, x.a, x.c⟩ else x
theorem keyN_key (x : Node) : keyN (keyN x) = keyN x := by
  unfold keyN
  by_cases h : (3 ≤ x.kind ∧ x.kind ≤ 5) ∧ x.b < x.a
  · rw [if_pos h, if_neg (by simp only; omega)]
  · rw [if_neg h, if_neg h]
set_option maxHeartbeats 2000000 in
theorem key_net (w : World) (x : Node) : Calls Try.prog 69 #[nodeV x] w fun e w' => e = .returned (nodeV (keyN x)) ∧ Below w.heap.size w w' := by
  obtain ⟨k, a, b, c⟩ := x
  have hb : ∀ o o', Below w.heap.size w ((w.alloc o).alloc o') := fun o o' => ((Below.refl _ _).alloc (Nat.le_refl _) _).alloc (by simp) _
  have HB := Lib.hid hb
  by_cases hk : 3 ≤ k ∧ k ≤ 5
  · have d1 : decide (3 ≤ k) = true := decide_eq_true hk.1
    have d2 : decide (k ≤ 5) = true := decide_eq_true hk.2
    by_cases hab : b < a
    · have d3 : decide (b < a) = true := decide_eq_true hab
      have HK := Lib.hid (show keyN ⟨k, a, b, c⟩ = ⟨k, b, a, c⟩ by unfold keyN; rw [if_pos ⟨hk, hab⟩])
      clear hk hab hb
      go_enter Try.func69, Try.ntmps69
      go_wp2
      refine bodyPost_ret (v := nodeV ⟨k, b, a, c⟩) (by simp [results, Try.results69, go_sem]) rfl ⟨by rw [HK.out], HB.out _ _⟩
    · have d3 : decide (b < a) = false := decide_eq_false hab
      have HK := Lib.hid (show keyN ⟨k, a, b, c⟩ = ⟨k, a, b, c⟩ by unfold keyN; rw [if_neg (fun h => hab h.2)])
      clear hk hab hb
      go_enter Try.func69, Try.ntmps69
      go_wp2
      refine bodyPost_ret (v := nodeV ⟨k, a, b, c⟩) (by simp [results, Try.results69, go_sem]) rfl ⟨by rw [HK.out], HB.out _ _⟩
  · have HK := Lib.hid (show keyN ⟨k, a, b, c⟩ = ⟨k, a, b, c⟩ by unfold keyN; rw [if_neg (fun h => hk h.1)])
    rcases (show k < 3 ∨ (3 ≤ k ∧ 5 < k) by omega) with h | ⟨h, h'⟩
    · have d1 : decide (3 ≤ k) = false := decide_eq_false (by omega)
      clear hk hb h
      go_enter Try.func69, Try.ntmps69
      go_wp2
      refine bodyPost_ret (v := nodeV ⟨k, a, b, c⟩) (by simp [results, Try.results69, go_sem]) rfl ⟨by rw [HK.out], HB.out _ _⟩
    · have d1 : decide (3 ≤ k) = true := decide_eq_true (by omega)
      have d2 : decide (k ≤ 5) = false := decide_eq_false (by omega)
      clear hk hb h h'
      go_enter Try.func69, Try.ntmps69
      go_wp2
      refine bodyPost_ret (v := nodeV ⟨k, a, b, c⟩) (by simp [results, Try.results69, go_sem]) rfl ⟨by rw [HK.out], HB.out _ _⟩
set_option maxHeartbeats 2000000 in
theorem key_ref (w : World) (x : Node) : Calls Try.prog 33 #[nodeV x] w fun e w' => e = .returned (nodeV (keyN x)) ∧ Below w.heap.size w w' := by
  obtain ⟨k, a, b, c⟩ := x
  have hb : ∀ o o', Below w.heap.size w ((w.alloc o).alloc o') := fun o o' => ((Below.refl _ _).alloc (Nat.le_refl _) _).alloc (by simp) _
  have HB := Lib.hid hb
  by_cases hk : k = 3 ∨ k = 4 ∨ k = 5
  · by_cases hab : b < a
    · have d3 : decide (b < a) = true := decide_eq_true hab
      have HK := Lib.hid (show keyN ⟨k, a, b, c⟩ = ⟨k, b, a, c⟩ by unfold keyN; rw [if_pos ⟨⟨by show 3 ≤ k; omega, by show k ≤ 5; omega⟩, hab⟩])
      clear hab hb
      rcases hk with rfl | rfl | rfl
      · go_enter Try.func33, Try.ntmps33
        go_wp2
        refine bodyPost_ret (v := nodeV ⟨3, b, a, c⟩) (by simp [results, Try.results33, go_sem]) rfl ⟨by rw [HK.out], HB.out _ _⟩
      · go_enter Try.func33, Try.ntmps33
        go_wp2
        refine bodyPost_ret (v := nodeV ⟨4, b, a, c⟩) (by simp [results, Try.results33, go_sem]) rfl ⟨by rw [HK.out], HB.out _ _⟩
      · go_enter Try.func33, Try.ntmps33
        go_wp2
        refine bodyPost_ret (v := nodeV ⟨5, b, a, c⟩) (by simp [results, Try.results33, go_sem]) rfl ⟨by rw [HK.out], HB.out _ _⟩
    · have d3 : decide (b < a) = false := decide_eq_false hab
      have HK := Lib.hid (show keyN ⟨k, a, b, c⟩ = ⟨k, a, b, c⟩ by unfold keyN; rw [if_neg (fun h => hab h.2)])
      clear hab hb
      rcases hk with rfl | rfl | rfl
      · go_enter Try.func33, Try.ntmps33
        go_wp2
        refine bodyPost_ret (v := nodeV ⟨3, a, b, c⟩) (by simp [results, Try.results33, go_sem]) rfl ⟨by rw [HK.out], HB.out _ _⟩
      · go_enter Try.func33, Try.ntmps33
        go_wp2
        refine bodyPost_ret (v := nodeV ⟨4, a, b, c⟩) (by simp [results, Try.results33, go_sem]) rfl ⟨by rw [HK.out], HB.out _ _⟩
      · go_enter Try.func33, Try.ntmps33
        go_wp2
        refine bodyPost_ret (v := nodeV ⟨5, a, b, c⟩) (by simp [results, Try.results33, go_sem]) rfl ⟨by rw [HK.out], HB.out _ _⟩
  · have HK := Lib.hid (show keyN ⟨k, a, b, c⟩ = ⟨k, a, b, c⟩ by unfold keyN; rw [if_neg (fun h => by have h1 : 3 ≤ k ∧ k ≤ 5 := h.1; omega)])
    have e3 : (k == 3) = false := by simp; omega
    have e4 : (k == 4) = false := by simp; omega
    have e5 : (k == 5) = false := by simp; omega
    clear hk hb
    go_enter Try.func33, Try.ntmps33
    go_wp2
    refine bodyPost_ret (v := nodeV ⟨k, a, b, c⟩) (by simp [results, Try.results33, go_sem]) rfl ⟨by rw [HK.out], HB.out _ _⟩
theorem set4_cells {w : World} {g : Nat} {x0 x1 x2 x3 u0 u1 u2 u3 : Value} (h0 : w.cell? ⟨g, 0, none⟩ = some u0) (h1 : w.cell? ⟨g, 1, none⟩ = some u1) (h2 : w.cell? ⟨g, 2, none⟩ = some u2) (h3 : w.cell? ⟨g, 3, none⟩ = some u3) :
    (w.setCell ⟨g, 0, none⟩ x0).cell? ⟨g, 0, none⟩ = some x0 ∧ ((w.setCell ⟨g, 0, none⟩ x0).setCell ⟨g, 1, none⟩ x1).cell? ⟨g, 1, none⟩ = some x1 ∧ (((w.setCell ⟨g, 0, none⟩ x0).setCell ⟨g, 1, none⟩ x1).setCell ⟨g, 2, none⟩ x2).cell? ⟨g, 2, none⟩ = some x2 ∧
      ((((w.setCell ⟨g, 0, none⟩ x0).setCell ⟨g, 1, none⟩ x1).setCell ⟨g, 2, none⟩ x2).setCell ⟨g, 3, none⟩ x3).cell? ⟨g, 3, none⟩ = some x3 := by
  have ne : ∀ i j : Nat, i ≠ j → (⟨g, i, none⟩ : Addr) ≠ ⟨g, j, none⟩ := fun i j hij h => by injection h with _ h; exact hij h
  refine ⟨World.cell?_setCell_same _ _ _ h0, World.cell?_setCell_same _ _ _ (by rw [World.cell?_setCell_other (h := ne 0 1 (by omega))]; exact h1), World.cell?_setCell_same _ _ _ (by rw [World.cell?_setCell_other (h := ne 1 2 (by omega)), World.cell?_setCell_other (h := ne 0 2 (by omega))]; exact h2), World.cell?_setCell_same _ _ _ (by rw [World.cell?_setCell_other (h := ne 2 3 (by omega)), World.cell?_setCell_other (h := ne 1 3 (by omega)), World.cell?_setCell_other (h := ne 0 3 (by omega))]; exact h3)⟩
theorem zeroNode_cells (w : World) (o : Obj) (hw : World) (hb : Below (w.heap.size + 2) ((w.alloc o).alloc (.cells #[.int .i64 0, .int .i64 0, .int .i64 0, .int .i64 0] 38)) hw) :
    (hw.cell? ⟨w.heap.size + 1, 0, none⟩ = some (.int .i64 0) ∧ hw.cell? ⟨w.heap.size + 1, 1, none⟩ = some (.int .i64 0) ∧ hw.cell? ⟨w.heap.size + 1, 2, none⟩ = some (.int .i64 0) ∧ hw.cell? ⟨w.heap.size + 1, 3, none⟩ = some (.int .i64 0)) ∧ ∀ j, hw.frozen? ⟨w.heap.size + 1, j, none⟩ = false := by
  have h := hb.block (w.heap.size + 1) (by omega)
  have hsz : (w.alloc o).heap.size = w.heap.size + 1 := by simp
  have hc : ∀ i, hw.cell? ⟨w.heap.size + 1, i, none⟩ = (#[Value.int .i64 0, .int .i64 0, .int .i64 0, .int .i64 0] : Array Value)[i]? := fun i => by
    rw [World.cell?_of_block h, ← hsz]
    exact World.cell?_alloc_new _ _ _ i
  exact ⟨⟨hc 0, hc 1, hc 2, hc 3⟩, fun j => by rw [World.frozen?_of_block h, ← hsz]; exact World.frozen?_alloc_new _ _ _ _⟩
/-- share.by -/
def byN (f : Nat → Nat) (x : Node) : Node := keyN (renN f x)
set_option maxHeartbeats 2000000 in
theorem by_net (w : World) (x : Node) (u : Value) (st : List Int) (f : Nat → Nat) (hu : Row kInt w (fun _ => False) u st) (hst : ∀ y ∈ usesR x, ∃ a : Nat, y = (a : Int) ∧ st[a]? = some (f a : Int)) :
    Calls Try.prog 70 #[nodeV x, u] w fun e w' => e = .returned (nodeV (byN f x)) ∧ Below w.heap.size w w' := by
  obtain ⟨A, c0, rfl, -, -⟩ := hu.shape
  obtain ⟨k, a, b, c⟩ := x
  have hb : ∀ o o', Below w.heap.size w ((w.alloc o).alloc o') := fun o o' => ((Below.refl _ _).alloc (Nat.le_refl _) _).alloc (by simp) _
  have HB := Lib.hid hb
  have HU := Lib.hid hu
  have hbits := many_bd k
  have hk : k = 6 ∨ k = 3 ∨ k = 4 ∨ k = 5 ∨ k = 2 ∨ k = 7 ∨ (k ≠ 6 ∧ k ≠ 3 ∧ k ≠ 4 ∧ k ≠ 5 ∧ k ≠ 2 ∧ k ≠ 7) := by omega
  rcases hk with rfl | rfl | rfl | rfl | rfl | rfl | ⟨h6, h3, h4, h5, h2, h7⟩
  · -- kind 6
    obtain ⟨na, rfl, hsa⟩ := hst a (by simp [usesR, many])
    have hla := (List.getElem?_eq_some_iff.1 hsa).1
    have hea := (List.getElem?_eq_some_iff.1 hsa).2
    obtain ⟨g, off, rfl, pa⟩ := hu.int_at hla
    rw [hea] at pa
    have qa : (na : Int) < (st.length : Int) := by omega
    have hma := fun o o' => (hb o o').cell (p := ⟨g, off + na, none⟩) (World.block_lt_of_cell? _ _ pa)
    obtain ⟨nb, rfl, hsb⟩ := hst b (by simp [usesR, many])
    have hlb := (List.getElem?_eq_some_iff.1 hsb).1
    have heb := (List.getElem?_eq_some_iff.1 hsb).2
    obtain ⟨g', off', hg', pb⟩ := hu.int_at hlb
    simp only [Option.some.injEq, Addr.mk.injEq, and_true] at hg'
    obtain ⟨rfl, rfl⟩ := hg'
    rw [heb] at pb
    have qb : (nb : Int) < (st.length : Int) := by omega
    have hmb := fun o o' => (hb o o').cell (p := ⟨g, off + nb, none⟩) (World.block_lt_of_cell? _ _ pb)
    obtain ⟨nc, rfl, hsc⟩ := hst c (by simp [usesR, many])
    have hlc := (List.getElem?_eq_some_iff.1 hsc).1
    have hec := (List.getElem?_eq_some_iff.1 hsc).2
    obtain ⟨g', off', hg', pc⟩ := hu.int_at hlc
    simp only [Option.some.injEq, Addr.mk.injEq, and_true] at hg'
    obtain ⟨rfl, rfl⟩ := hg'
    rw [hec] at pc
    have qc : (nc : Int) < (st.length : Int) := by omega
    have hmc := fun o o' => (hb o o').cell (p := ⟨g, off + nc, none⟩) (World.block_lt_of_cell? _ _ pc)
    have HR := Lib.hid (show byN f ⟨6, (na : Nat), (nb : Nat), (nc : Nat)⟩ = keyN ⟨6, (f na : Nat), (f nb : Nat), (f nc : Nat)⟩ by unfold byN; rw [renN_3 (by simp [usesR, many])]; simp)
    clear hst hu hb
    go_enter Try.func70, Try.ntmps70
    go_wp2_with fail
    refine (key_net _ ⟨6, (f na : Nat), (f nb : Nat), (f nc : Nat)⟩).mono ?_
    rintro e w3 ⟨rfl, hb3⟩
    have HB3 := Lib.hid ((HB.out _ _).trans (hb3.mono (by simp; omega)))
    obtain ⟨⟨t0, t1, t2, t3⟩, hf⟩ := zeroNode_cells w _ w3 (hb3.mono (by simp))
    have f0 := hf 0
    have f1 := hf 1
    have f2 := hf 2
    have f3 := hf 3
    obtain ⟨⟨kk, ka, kb, kc⟩, hkn⟩ : ∃ q, keyN ⟨6, (f na : Nat), (f nb : Nat), (f nc : Nat)⟩ = q := ⟨_, rfl⟩
    rw [hkn] at HR
    rw [hkn]
    obtain ⟨s0, s1, s2, s3⟩ := set4_cells (x0 := .int .i64 kk) (x1 := .int .i64 ka) (x2 := .int .i64 kb) (x3 := .int .i64 kc) t0 t1 t2 t3
    clear hb3 hf hkn
    go_wp2_with fail
    refine bodyPost_ret (v := nodeV ⟨kk, ka, kb, kc⟩) (by simp [results, Try.results70, go_sem, s0, s1, s2, s3]) rfl ⟨by rw [HR.out], (((HB3.out.setCell (p := ⟨w.heap.size + 1, 0, none⟩) (by simp) _).setCell (p := ⟨w.heap.size + 1, 1, none⟩) (by simp) _).setCell (p := ⟨w.heap.size + 1, 2, none⟩) (by simp) _).setCell (p := ⟨w.heap.size + 1, 3, none⟩) (by simp) _⟩
  · -- kind 3
    obtain ⟨na, rfl, hsa⟩ := hst a (by simp [usesR, many])
    have hla := (List.getElem?_eq_some_iff.1 hsa).1
    have hea := (List.getElem?_eq_some_iff.1 hsa).2
    obtain ⟨g, off, rfl, pa⟩ := hu.int_at hla
    rw [hea] at pa
    have qa : (na : Int) < (st.length : Int) := by omega
    have hma := fun o o' => (hb o o').cell (p := ⟨g, off + na, none⟩) (World.block_lt_of_cell? _ _ pa)
    obtain ⟨nb, rfl, hsb⟩ := hst b (by simp [usesR, many])
    have hlb := (List.getElem?_eq_some_iff.1 hsb).1
    have heb := (List.getElem?_eq_some_iff.1 hsb).2
    obtain ⟨g', off', hg', pb⟩ := hu.int_at hlb
    simp only [Option.some.injEq, Addr.mk.injEq, and_true] at hg'
    obtain ⟨rfl, rfl⟩ := hg'
    rw [heb] at pb
    have qb : (nb : Int) < (st.length : Int) := by omega
    have hmb := fun o o' => (hb o o').cell (p := ⟨g, off + nb, none⟩) (World.block_lt_of_cell? _ _ pb)
    have HR := Lib.hid (show byN f ⟨3, (na : Nat), (nb : Nat), c⟩ = keyN ⟨3, (f na : Nat), (f nb : Nat), c⟩ by unfold byN; rw [renN_2 (by simp [usesR, many])]; simp)
    clear hst hu hb
    go_enter Try.func70, Try.ntmps70
    go_wp2_with fail
    refine (key_net _ ⟨3, (f na : Nat), (f nb : Nat), c⟩).mono ?_
    rintro e w3 ⟨rfl, hb3⟩
    have HB3 := Lib.hid ((HB.out _ _).trans (hb3.mono (by simp; omega)))
    obtain ⟨⟨t0, t1, t2, t3⟩, hf⟩ := zeroNode_cells w _ w3 (hb3.mono (by simp))
    have f0 := hf 0
    have f1 := hf 1
    have f2 := hf 2
    have f3 := hf 3
    obtain ⟨⟨kk, ka, kb, kc⟩, hkn⟩ : ∃ q, keyN ⟨3, (f na : Nat), (f nb : Nat), c⟩ = q := ⟨_, rfl⟩
    rw [hkn] at HR
    rw [hkn]
    obtain ⟨s0, s1, s2, s3⟩ := set4_cells (x0 := .int .i64 kk) (x1 := .int .i64 ka) (x2 := .int .i64 kb) (x3 := .int .i64 kc) t0 t1 t2 t3
    clear hb3 hf hkn
    go_wp2_with fail
    refine bodyPost_ret (v := nodeV ⟨kk, ka, kb, kc⟩) (by simp [results, Try.results70, go_sem, s0, s1, s2, s3]) rfl ⟨by rw [HR.out], (((HB3.out.setCell (p := ⟨w.heap.size + 1, 0, none⟩) (by simp) _).setCell (p := ⟨w.heap.size + 1, 1, none⟩) (by simp) _).setCell (p := ⟨w.heap.size + 1, 2, none⟩) (by simp) _).setCell (p := ⟨w.heap.size + 1, 3, none⟩) (by simp) _⟩
  · -- kind 4
    obtain ⟨na, rfl, hsa⟩ := hst a (by simp [usesR, many])
    have hla := (List.getElem?_eq_some_iff.1 hsa).1
    have hea := (List.getElem?_eq_some_iff.1 hsa).2
    obtain ⟨g, off, rfl, pa⟩ := hu.int_at hla
    rw [hea] at pa
    have qa : (na : Int) < (st.length : Int) := by omega
    have hma := fun o o' => (hb o o').cell (p := ⟨g, off + na, none⟩) (World.block_lt_of_cell? _ _ pa)
    obtain ⟨nb, rfl, hsb⟩ := hst b (by simp [usesR, many])
    have hlb := (List.getElem?_eq_some_iff.1 hsb).1
    have heb := (List.getElem?_eq_some_iff.1 hsb).2
    obtain ⟨g', off', hg', pb⟩ := hu.int_at hlb
    simp only [Option.some.injEq, Addr.mk.injEq, and_true] at hg'
    obtain ⟨rfl, rfl⟩ := hg'
    rw [heb] at pb
    have qb : (nb : Int) < (st.length : Int) := by omega
    have hmb := fun o o' => (hb o o').cell (p := ⟨g, off + nb, none⟩) (World.block_lt_of_cell? _ _ pb)
    have HR := Lib.hid (show byN f ⟨4, (na : Nat), (nb : Nat), c⟩ = keyN ⟨4, (f na : Nat), (f nb : Nat), c⟩ by unfold byN; rw [renN_2 (by simp [usesR, many])]; simp)
    clear hst hu hb
    go_enter Try.func70, Try.ntmps70
    go_wp2_with fail
    refine (key_net _ ⟨4, (f na : Nat), (f nb : Nat), c⟩).mono ?_
    rintro e w3 ⟨rfl, hb3⟩
    have HB3 := Lib.hid ((HB.out _ _).trans (hb3.mono (by simp; omega)))
    obtain ⟨⟨t0, t1, t2, t3⟩, hf⟩ := zeroNode_cells w _ w3 (hb3.mono (by simp))
    have f0 := hf 0
    have f1 := hf 1
    have f2 := hf 2
    have f3 := hf 3
    obtain ⟨⟨kk, ka, kb, kc⟩, hkn⟩ : ∃ q, keyN ⟨4, (f na : Nat), (f nb : Nat), c⟩ = q := ⟨_, rfl⟩
    rw [hkn] at HR
    rw [hkn]
    obtain ⟨s0, s1, s2, s3⟩ := set4_cells (x0 := .int .i64 kk) (x1 := .int .i64 ka) (x2 := .int .i64 kb) (x3 := .int .i64 kc) t0 t1 t2 t3
    clear hb3 hf hkn
    go_wp2_with fail
    refine bodyPost_ret (v := nodeV ⟨kk, ka, kb, kc⟩) (by simp [results, Try.results70, go_sem, s0, s1, s2, s3]) rfl ⟨by rw [HR.out], (((HB3.out.setCell (p := ⟨w.heap.size + 1, 0, none⟩) (by simp) _).setCell (p := ⟨w.heap.size + 1, 1, none⟩) (by simp) _).setCell (p := ⟨w.heap.size + 1, 2, none⟩) (by simp) _).setCell (p := ⟨w.heap.size + 1, 3, none⟩) (by simp) _⟩
  · -- kind 5
    obtain ⟨na, rfl, hsa⟩ := hst a (by simp [usesR, many])
    have hla := (List.getElem?_eq_some_iff.1 hsa).1
    have hea := (List.getElem?_eq_some_iff.1 hsa).2
    obtain ⟨g, off, rfl, pa⟩ := hu.int_at hla
    rw [hea] at pa
    have qa : (na : Int) < (st.length : Int) := by omega
    have hma := fun o o' => (hb o o').cell (p := ⟨g, off + na, none⟩) (World.block_lt_of_cell? _ _ pa)
    obtain ⟨nb, rfl, hsb⟩ := hst b (by simp [usesR, many])
    have hlb := (List.getElem?_eq_some_iff.1 hsb).1
    have heb := (List.getElem?_eq_some_iff.1 hsb).2
    obtain ⟨g', off', hg', pb⟩ := hu.int_at hlb
    simp only [Option.some.injEq, Addr.mk.injEq, and_true] at hg'
    obtain ⟨rfl, rfl⟩ := hg'
    rw [heb] at pb
    have qb : (nb : Int) < (st.length : Int) := by omega
    have hmb := fun o o' => (hb o o').cell (p := ⟨g, off + nb, none⟩) (World.block_lt_of_cell? _ _ pb)
    have HR := Lib.hid (show byN f ⟨5, (na : Nat), (nb : Nat), c⟩ = keyN ⟨5, (f na : Nat), (f nb : Nat), c⟩ by unfold byN; rw [renN_2 (by simp [usesR, many])]; simp)
    clear hst hu hb
    go_enter Try.func70, Try.ntmps70
    go_wp2_with fail
    refine (key_net _ ⟨5, (f na : Nat), (f nb : Nat), c⟩).mono ?_
    rintro e w3 ⟨rfl, hb3⟩
    have HB3 := Lib.hid ((HB.out _ _).trans (hb3.mono (by simp; omega)))
    obtain ⟨⟨t0, t1, t2, t3⟩, hf⟩ := zeroNode_cells w _ w3 (hb3.mono (by simp))
    have f0 := hf 0
    have f1 := hf 1
    have f2 := hf 2
    have f3 := hf 3
    obtain ⟨⟨kk, ka, kb, kc⟩, hkn⟩ : ∃ q, keyN ⟨5, (f na : Nat), (f nb : Nat), c⟩ = q := ⟨_, rfl⟩
    rw [hkn] at HR
    rw [hkn]
    obtain ⟨s0, s1, s2, s3⟩ := set4_cells (x0 := .int .i64 kk) (x1 := .int .i64 ka) (x2 := .int .i64 kb) (x3 := .int .i64 kc) t0 t1 t2 t3
    clear hb3 hf hkn
    go_wp2_with fail
    refine bodyPost_ret (v := nodeV ⟨kk, ka, kb, kc⟩) (by simp [results, Try.results70, go_sem, s0, s1, s2, s3]) rfl ⟨by rw [HR.out], (((HB3.out.setCell (p := ⟨w.heap.size + 1, 0, none⟩) (by simp) _).setCell (p := ⟨w.heap.size + 1, 1, none⟩) (by simp) _).setCell (p := ⟨w.heap.size + 1, 2, none⟩) (by simp) _).setCell (p := ⟨w.heap.size + 1, 3, none⟩) (by simp) _⟩
  · -- kind 2
    obtain ⟨na, rfl, hsa⟩ := hst a (by simp [usesR, many])
    have hla := (List.getElem?_eq_some_iff.1 hsa).1
    have hea := (List.getElem?_eq_some_iff.1 hsa).2
    obtain ⟨g, off, rfl, pa⟩ := hu.int_at hla
    rw [hea] at pa
    have qa : (na : Int) < (st.length : Int) := by omega
    have hma := fun o o' => (hb o o').cell (p := ⟨g, off + na, none⟩) (World.block_lt_of_cell? _ _ pa)
    have HR := Lib.hid (show byN f ⟨2, (na : Nat), b, c⟩ = keyN ⟨2, (f na : Nat), b, c⟩ by unfold byN; rw [renN_1 (by simp [usesR, many])]; simp)
    clear hst hu hb
    go_enter Try.func70, Try.ntmps70
    go_wp2_with fail
    refine (key_net _ ⟨2, (f na : Nat), b, c⟩).mono ?_
    rintro e w3 ⟨rfl, hb3⟩
    have HB3 := Lib.hid ((HB.out _ _).trans (hb3.mono (by simp; omega)))
    obtain ⟨⟨t0, t1, t2, t3⟩, hf⟩ := zeroNode_cells w _ w3 (hb3.mono (by simp))
    have f0 := hf 0
    have f1 := hf 1
    have f2 := hf 2
    have f3 := hf 3
    obtain ⟨⟨kk, ka, kb, kc⟩, hkn⟩ : ∃ q, keyN ⟨2, (f na : Nat), b, c⟩ = q := ⟨_, rfl⟩
    rw [hkn] at HR
    rw [hkn]
    obtain ⟨s0, s1, s2, s3⟩ := set4_cells (x0 := .int .i64 kk) (x1 := .int .i64 ka) (x2 := .int .i64 kb) (x3 := .int .i64 kc) t0 t1 t2 t3
    clear hb3 hf hkn
    go_wp2_with fail
    refine bodyPost_ret (v := nodeV ⟨kk, ka, kb, kc⟩) (by simp [results, Try.results70, go_sem, s0, s1, s2, s3]) rfl ⟨by rw [HR.out], (((HB3.out.setCell (p := ⟨w.heap.size + 1, 0, none⟩) (by simp) _).setCell (p := ⟨w.heap.size + 1, 1, none⟩) (by simp) _).setCell (p := ⟨w.heap.size + 1, 2, none⟩) (by simp) _).setCell (p := ⟨w.heap.size + 1, 3, none⟩) (by simp) _⟩
  · -- kind 7
    obtain ⟨na, rfl, hsa⟩ := hst a (by simp [usesR, many])
    have hla := (List.getElem?_eq_some_iff.1 hsa).1
    have hea := (List.getElem?_eq_some_iff.1 hsa).2
    obtain ⟨g, off, rfl, pa⟩ := hu.int_at hla
    rw [hea] at pa
    have qa : (na : Int) < (st.length : Int) := by omega
    have hma := fun o o' => (hb o o').cell (p := ⟨g, off + na, none⟩) (World.block_lt_of_cell? _ _ pa)
    have HR := Lib.hid (show byN f ⟨7, (na : Nat), b, c⟩ = keyN ⟨7, (f na : Nat), b, c⟩ by unfold byN; rw [renN_1 (by simp [usesR, many])]; simp)
    clear hst hu hb
    go_enter Try.func70, Try.ntmps70
    go_wp2_with fail
    refine (key_net _ ⟨7, (f na : Nat), b, c⟩).mono ?_
    rintro e w3 ⟨rfl, hb3⟩
    have HB3 := Lib.hid ((HB.out _ _).trans (hb3.mono (by simp; omega)))
    obtain ⟨⟨t0, t1, t2, t3⟩, hf⟩ := zeroNode_cells w _ w3 (hb3.mono (by simp))
    have f0 := hf 0
    have f1 := hf 1
    have f2 := hf 2
    have f3 := hf 3
    obtain ⟨⟨kk, ka, kb, kc⟩, hkn⟩ : ∃ q, keyN ⟨7, (f na : Nat), b, c⟩ = q := ⟨_, rfl⟩
    rw [hkn] at HR
    rw [hkn]
    obtain ⟨s0, s1, s2, s3⟩ := set4_cells (x0 := .int .i64 kk) (x1 := .int .i64 ka) (x2 := .int .i64 kb) (x3 := .int .i64 kc) t0 t1 t2 t3
    clear hb3 hf hkn
    go_wp2_with fail
    refine bodyPost_ret (v := nodeV ⟨kk, ka, kb, kc⟩) (by simp [results, Try.results70, go_sem, s0, s1, s2, s3]) rfl ⟨by rw [HR.out], (((HB3.out.setCell (p := ⟨w.heap.size + 1, 0, none⟩) (by simp) _).setCell (p := ⟨w.heap.size + 1, 1, none⟩) (by simp) _).setCell (p := ⟨w.heap.size + 1, 2, none⟩) (by simp) _).setCell (p := ⟨w.heap.size + 1, 3, none⟩) (by simp) _⟩
  · have HR := Lib.hid (show byN f ⟨k, a, b, c⟩ = keyN ⟨k, a, b, c⟩ by
      unfold byN
      rw [renN_0 (by
        rw [usesR_len]
        unfold many
        by_cases h01 : k = 0 ∨ k = 1
        · simp [h01]
        · simp [h01, h2, h7, h3, h4, h5, h6])])
    have e2 : (k == 2) = false := by simpa using h2
    have e3 : (k == 3) = false := by simpa using h3
    have e4 : (k == 4) = false := by simpa using h4
    have e5 : (k == 5) = false := by simpa using h5
    have e6 : (k == 6) = false := by simpa using h6
    have e7 : (k == 7) = false := by simpa using h7
    clear hst hu hb h2 h3 h4 h5 h6 h7
    go_enter Try.func70, Try.ntmps70
    go_wp2_with fail
    refine (key_net _ ⟨k, a, b, c⟩).mono ?_
    rintro e w3 ⟨rfl, hb3⟩
    have HB3 := Lib.hid ((HB.out _ _).trans (hb3.mono (by simp; omega)))
    obtain ⟨⟨t0, t1, t2, t3⟩, hf⟩ := zeroNode_cells w _ w3 (hb3.mono (by simp))
    have f0 := hf 0
    have f1 := hf 1
    have f2 := hf 2
    have f3 := hf 3
    obtain ⟨⟨kk, ka, kb, kc⟩, hkn⟩ : ∃ q, keyN ⟨k, a, b, c⟩ = q := ⟨_, rfl⟩
    rw [hkn] at HR
    rw [hkn]
    obtain ⟨s0, s1, s2, s3⟩ := set4_cells (x0 := .int .i64 kk) (x1 := .int .i64 ka) (x2 := .int .i64 kb) (x3 := .int .i64 kc) t0 t1 t2 t3
    clear hb3 hf hkn
    go_wp2_with fail
    refine bodyPost_ret (v := nodeV ⟨kk, ka, kb, kc⟩) (by simp [results, Try.results70, go_sem, s0, s1, s2, s3]) rfl ⟨by rw [HR.out], (((HB3.out.setCell (p := ⟨w.heap.size + 1, 0, none⟩) (by simp) _).setCell (p := ⟨w.heap.size + 1, 1, none⟩) (by simp) _).setCell (p := ⟨w.heap.size + 1, 2, none⟩) (by simp) _).setCell (p := ⟨w.heap.size + 1, 3, none⟩) (by simp) _⟩
end Go.Proofs.Ytbfjacgfifecpaa

/-! ## share.Share: what it tells; the map of nodes. -/
namespace Go.Proofs.Ytbfjacgfifecpaa
open Go.RowKit Go.Maps

/-! ### keys -/
theorem laid_out : laidOutB Try.prog = true := by kernel_rfl
theorem row_node : (38 : TypeId) < Try.prog.types.size := of_decide_eq_true (by kernel_rfl)
theorem wide_node : (match Try.prog.underlying 38 with | some (.array _ _) | some (.struct _) => true | _ => false) = true := by kernel_rfl
theorem keyt_node : Try.prog.keyTypeAt 2 38 = true := by kernel_rfl
theorem cells_nodeK : Try.prog.cellsOf 38 = 4 := by kernel_rfl
set_option maxRecDepth 100000 in
theorem law_node : Keyed Try.prog 38 := Keyed.of_law (deep_law_laid laid_out (m := 2) (by omega) row_node keyt_node wide_node)
/-- the fields are numbers that there are -/
def NOk (x : Node) : Prop := (0 ≤ x.kind ∧ x.kind ≤ 1099511627776) ∧ (0 ≤ x.a ∧ x.a ≤ 1099511627776) ∧ (0 ≤ x.b ∧ x.b ≤ 1099511627776) ∧ (0 ≤ x.c ∧ x.c ≤ 1099511627776)
def nodeKL (x : Node) : Lit := .string (keyBytes [.int .i64 x.kind, .int .i64 x.a, .int .i64 x.b, .int .i64 x.c])
theorem wf_of {n : Int} (h : 0 ≤ n ∧ n ≤ 1099511627776) : (Lit.int .i64 n).wf = true := WalkArith.wf_i64 (by omega)
set_option maxRecDepth 100000 in
theorem key_node {x : Node} (h : NOk x) : keyOf Try.prog 38 (nodeV x) = some (nodeKL x) := by
  have h0 := wf_of h.1
  have h1 := wf_of h.2.1
  have h2 := wf_of h.2.2.1
  have h3 := wf_of h.2.2.2
  have e1 : Try.prog.keyType 38 = true := by kernel_rfl
  have e2 : (nodeV x).formed Try.prog 38 = true := by simp [Value.formed, Try.underlying38, cells_nodeK]
  unfold keyOf
  rw [Try.underlying38]
  simp only [e1, e2, Bool.and_self, if_true]
  obtain ⟨m, hm⟩ : ∃ m, Try.prog.types.size = m + 1 := Nat.exists_eq_succ_of_ne_zero (fun e => by
    have h := row_node
    rw [e] at h
    exact absurd h (Nat.not_lt_zero _))
  rw [hm]
  have c1 : Try.prog.cellsOf 3 = 1 := by kernel_rfl
  simp [Program.keyLits, Try.underlying38, Try.underlying3, cells_nodeK, c1, h0, h1, h2, h3, Value.cells, nodeKL]
theorem nodeKL_inj {x y : Node} (hx : NOk x) (hy : NOk y) (h : nodeKL x = nodeKL y) : x = y := by
  have h1 := key_node hx
  have h2 := key_node hy
  rw [← h] at h2
  have := law_node.inj h1 h2
  obtain ⟨k, a, b, c⟩ := x
  obtain ⟨k', a', b', c'⟩ := y
  simp at this
  simp [this]
theorem right_ok {x : Node} {n : Nat} (h : rightB x n = true) (hn : n ≤ 1073741824) : NOk x := by
  have hk := rightB_kind h
  have hu := rightB_uses h
  obtain ⟨k, a, b, c⟩ := x
  dsimp only at hk
  have hmem := usesR_mem (x := ⟨k, a, b, c⟩) (usesR_len _)
  dsimp only at hmem
  have hmb := many_bd k
  have U : ∀ y : Int, y ∈ usesR ⟨k, a, b, c⟩ → 0 ≤ y ∧ y ≤ 1099511627776 := fun y hy => by have := hu y hy; omega
  simp only [rightB, Bool.and_eq_true, decide_eq_true_eq] at h
  obtain ⟨⟨h0, -⟩, h2⟩ := h
  by_cases k0 : k = 0
  · rw [if_pos k0] at h2
    simp only [bitB, Bool.and_eq_true, decide_eq_true_eq] at h2
    obtain ⟨⟨q1, q2⟩, q3⟩ := h2
    exact ⟨⟨hk.1, by have := hk.2; show k ≤ _; omega⟩, ⟨by show 0 ≤ a; omega, by show a ≤ _; omega⟩, ⟨by show 0 ≤ b; omega, by show b ≤ _; omega⟩, ⟨by show 0 ≤ c; omega, by show c ≤ _; omega⟩⟩
  rw [if_neg k0] at h2
  by_cases k7 : k = 7
  · rw [if_pos k7] at h2
    simp only [bitB, Bool.and_eq_true, decide_eq_true_eq] at h2
    obtain ⟨q1, q2⟩ := h2
    exact ⟨⟨hk.1, by have := hk.2; show k ≤ _; omega⟩, U a (hmem.1 (by rw [k7]; decide)), ⟨by show 0 ≤ b; omega, by show b ≤ _; omega⟩, ⟨by show 0 ≤ c; omega, by show c ≤ _; omega⟩⟩
  rw [if_neg k7] at h2
  simp only [Bool.and_eq_true, Bool.or_eq_true, decide_eq_true_eq] at h2
  obtain ⟨⟨q1, q2⟩, q3⟩ := h2
  refine ⟨⟨hk.1, by have := hk.2; show k ≤ _; omega⟩, ?_, ?_, ?_⟩
  · rcases q1 with q | q
    · exact U a (hmem.1 (by omega))
    · show 0 ≤ a ∧ a ≤ _; omega
  · rcases q2 with q | q
    · exact U b (hmem.2.1 (by omega))
    · show 0 ≤ b ∧ b ≤ _; omega
  · rcases q3 with q | q
    · exact U c (hmem.2.2 (by omega))
    · show 0 ≤ c ∧ c ≤ _; omega
theorem byN_ok {x : Node} {f : Nat → Nat} (h : NOk x) (hf : ∀ u, f u ≤ 1099511627776) : NOk (byN f x) := by
  have h1 : NOk (renN f x) := by
    obtain ⟨k, a, b, c⟩ := x
    unfold renN NOk at *
    dsimp only at *
    refine ⟨h.1, ?_, ?_, ?_⟩
    · split
      · exact ⟨by omega, by have := hf a.toNat; omega⟩
      · exact h.2.1
    · split
      · exact ⟨by omega, by have := hf b.toNat; omega⟩
      · exact h.2.2.1
    · split
      · exact ⟨by omega, by have := hf c.toNat; omega⟩
      · exact h.2.2.2
  unfold byN keyN
  split
  · exact ⟨h1.1, h1.2.2.1, h1.2.1, h1.2.2.2⟩
  · exact h1
/-! ### the map from nodes to places -/
def MNode (w : World) (b n : Nat) (fm : List (Node × Nat)) : Prop :=
  ∃ D : DataW Unit, w.ownsMap Try.prog 38 (plainElem Try.prog 3) b n D ∧ ∀ y : Node, NOk y → Maps.has D (nodeKL y) = (fm.lookup y).isSome ∧ D.atKey (nodeKL y) (.lit (.int .i64 0)) = .lit (.int .i64 ((fm.lookup y).getD 0 : Nat))
theorem MNode.made (w : World) : MNode (w.alloc (.map #[] 0)) w.heap.size 0 [] := ⟨_, World.ownsMap_made _ _ _ _, fun _ _ => ⟨rfl, rfl⟩⟩
theorem MNode.below {w w' : World} {b n : Nat} {fm : List (Node × Nat)} (h : MNode w b n fm) (hb : Below w.heap.size w w') : MNode w' b n fm := by
  obtain ⟨D, h1, h2⟩ := h
  exact ⟨D, h1.kept (row := none) ⟨hb.os, hb.tape, hb.output, hb.size, fun k hk _ => hb.block k hk⟩ (by simp), h2⟩
theorem MNode.other {w w' : World} {b n : Nat} {fm : List (Node × Nat)} (h : MNode w b n fm) {row : Option Nat} (hg : w.grownBy w' row) (hr : some b ≠ row) : MNode w' b n fm := by
  obtain ⟨D, h1, h2⟩ := h
  exact ⟨D, h1.kept hg hr, h2⟩
theorem MNode.put {w' : World} {b n : Nat} {fm : List (Node × Nat)} {D : DataW Unit} (hT : Maps.Tidy D) (h2 : ∀ y : Node, NOk y → Maps.has D (nodeKL y) = (fm.lookup y).isSome ∧ D.atKey (nodeKL y) (.lit (.int .i64 0)) = .lit (.int .i64 ((fm.lookup y).getD 0 : Nat))) {x : Node} (hx : NOk x) {a : Nat}
    (h : w'.ownsMap Try.prog 38 (plainElem Try.prog 3) b n (D.put (nodeKL x) (.lit (.int .i64 (a : Int))))) : MNode w' b n ((x, a) :: fm) := by
  refine ⟨_, h, fun y hy => ?_⟩
  by_cases e : y = x
  · subst e
    rw [Maps.has_put_same (k := nodeKL y) hT.isMap (by exact trivial), Maps.atKey_put_same (k := nodeKL y) hT.isMap (by exact trivial)]
    simp [List.lookup]
  · have hne : nodeKL y ≠ nodeKL x := fun h => e (nodeKL_inj hy hx h)
    rw [Maps.has_put_other hne, Maps.atKey_put_other hne]
    have : ((x, a) :: fm).lookup y = fm.lookup y := by
      have hb : (y == x) = false := by simpa using e
      simp [List.lookup, hb]
    rw [this]
    exact h2 y hy
theorem lookN {W : World} {ops : Array Oper} {rest : List Oper} {o : Oper} {a : Act} {Q : Exit → Act → World → Prop} (hgd : o.guard = none)
    (m x : Operand) (hop : o.op = Op.lookup 88 m x true) {b n : Nat} {fm : List (Node × Nat)} (hM : MNode W b n fm) (hm : a.eval m = .map (some b)) (y : Node) (hy : NOk y) (hx : a.eval x = nodeV y)
    (hK : wpList Try.prog ops Q rest (a.put o.dst (.tuple #[.int .i64 ((fm.lookup y).getD 0 : Nat), .bool (fm.lookup y).isSome])) W) : wpList Try.prog ops Q (o :: rest) a W := by
  obtain ⟨D, h1, h2⟩ := hM
  obtain ⟨h3, h4⟩ := h2 y hy
  refine wpList_lookup_own_ok W hgd m x 88 hop 38 3 law_node Try.underlying88 _ (zero_int W) (.lit (.int .i64 0)) [] (plainElem_int Try.underlying3 (by decide)) b n D hm h1 _ _ hx (key_node hy) ?_
  intro v ps hv
  rw [h4] at hv
  obtain ⟨c, rfl, hc, -⟩ := plainElem_int_inv Try.underlying3 hv
  injection hc with hc
  injection hc with hc
  injection hc with _ hc
  subst hc
  rw [h3]
  exact hK
theorem putN {W : World} {ops : Array Oper} {rest : List Oper} {o : Oper} {a : Act} {Q : Exit → Act → World → Prop} (hgd : o.guard = none)
    (m x v : Operand) (hop : o.op = Op.mapUpdate 88 m x v) {b n : Nat} {fm : List (Node × Nat)} (hM : MNode W b n fm) (hm : a.eval m = .map (some b)) (hn : n < maxLen) (y : Node) (hy : NOk y) (hx : a.eval x = nodeV y) (k : Nat) (hk : k ≤ 1099511627776) (hv : a.eval v = .int .i64 (k : Int))
    (hK : ∀ w', MNode w' b (n + 1) ((y, k) :: fm) → W.grownBy w' (some b) → wpList Try.prog ops Q rest (a.put o.dst undef) w') : wpList Try.prog ops Q (o :: rest) a W := by
  obtain ⟨D, h1, h2⟩ := hM
  exact wpList_mapUpdate_own W hgd m x v 88 hop 38 3 law_node Try.underlying88 _ b n D hm h1 hn _ _ _ hx hv (key_node hy) (.lit (.int .i64 (k : Int))) [] (plainElem_int Try.underlying3 (wf_small hk))
    fun w' hw hg => hK w' (MNode.put (h1.tidy law_node) h2 hy hw) hg

/-! ### what share.Share does -/
structure ShS where
  m : List Node
  st : List Nat
  fm : List (Node × Nat)
  many : Nat
def stF (st : List Nat) (u : Nat) : Nat := st.getD u 0
def shStep (nodes : List Node) (s : ShS) (a : Nat) : ShS :=
  match nodes[a]? with
  | none => s
  | some x => if x.kind = 1 ∨ x.kind = 7 then s else
    match s.fm.lookup (byN (stF s.st) x) with
    | some was => ⟨s.m.set a (byN (stF s.st) x), s.st.set a was, s.fm, s.many + 1⟩
    | none => ⟨s.m.set a (byN (stF s.st) x), s.st, (byN (stF s.st) x, a) :: s.fm, s.many⟩
def shRun (nodes : List Node) (o : List Nat) : ShS := o.foldl (shStep nodes) ⟨nodes, List.range nodes.length, [], 0⟩
theorem shRun_snoc (nodes : List Node) (o : List Nat) (a : Nat) : shRun nodes (o ++ [a]) = shStep nodes (shRun nodes o) a := by simp [shRun]
def dfStep (nodes : List Node) (st : List Nat) (m : List Node) (i : Nat) : List Node := match nodes[i]? with | some x => if x.kind = 7 then m.set i (byN (stF st) x) else m | none => m
def dfRun (nodes : List Node) (st : List Nat) (m : List Node) (i : Nat) : List Node := (List.range i).foldl (dfStep nodes st) m
theorem dfRun_succ (nodes : List Node) (st : List Nat) (m : List Node) (i : Nat) : dfRun nodes st m (i + 1) = dfStep nodes st (dfRun nodes st m i) i := by simp [dfRun, List.range_succ]
structure ShI (nodes : List Node) (s : ShS) (j : Nat) : Prop where
  lm : s.m.length = nodes.length
  ls : s.st.length = nodes.length
  bs : ∀ u ∈ s.st, u < nodes.length
  bf : ∀ p ∈ s.fm, p.2 < nodes.length
  mn : s.many ≤ j
theorem ShI.init (nodes : List Node) : ShI nodes ⟨nodes, List.range nodes.length, [], 0⟩ 0 := ⟨rfl, by simp, fun u hu => by simpa using hu, fun p hp => by simp at hp, Nat.le_refl _⟩
theorem lookup_mem {fm : List (Node × Nat)} {y : Node} {a : Nat} (h : fm.lookup y = some a) : (y, a) ∈ fm := by
  induction fm with
  | nil => simp at h
  | cons p fm ih =>
    obtain ⟨z, b⟩ := p
    rw [List.lookup_cons] at h
    split at h
    · rename_i e
      obtain rfl : y = z := by simpa using e
      injection h with h; subst h; simp
    · exact List.mem_cons_of_mem _ (ih h)
theorem ShI.step {nodes : List Node} {s : ShS} {j : Nat} (h : ShI nodes s j) {a : Nat} (ha : a < nodes.length) : ShI nodes (shStep nodes s a) (j + 1) := by
  unfold shStep
  rw [List.getElem?_eq_getElem ha]
  dsimp only
  split
  · exact ⟨h.lm, h.ls, h.bs, h.bf, by have := h.mn; omega⟩
  · split
    · rename_i was hw
      refine ⟨by rw [List.length_set]; exact h.lm, by rw [List.length_set]; exact h.ls, fun u hu => ?_, h.bf, by have := h.mn; show s.many + 1 ≤ j + 1; omega⟩
      rcases List.mem_or_eq_of_mem_set hu with hu | rfl
      · exact h.bs u hu
      · exact h.bf _ (lookup_mem hw)
    · refine ⟨by rw [List.length_set]; exact h.lm, h.ls, h.bs, fun p hp => ?_, by have := h.mn; show s.many ≤ j + 1; omega⟩
      rcases List.mem_cons.1 hp with rfl | hp
      · exact ha
      · exact h.bf p hp
theorem stF_le {nodes : List Node} {st : List Nat} (hb : ∀ u ∈ st, u < nodes.length) (u : Nat) : stF st u ≤ nodes.length := by
  unfold stF
  rw [List.getD_eq_getElem?_getD]
  rcases Nat.lt_or_ge u st.length with h | h
  · rw [List.getElem?_eq_getElem h]; exact Nat.le_of_lt (hb _ (List.getElem_mem h))
  · rw [List.getElem?_eq_none h]; exact Nat.zero_le _
theorem stF_at {st : List Nat} {u : Nat} (h : u < st.length) : (nats st)[u]? = some (stF st u : Int) := by
  rw [List.getElem?_map, List.getElem?_eq_getElem h, stF, List.getD_eq_getElem?_getD, List.getElem?_eq_getElem h]
  rfl
/-- what share.Share tells -/
def ShrOut (nodes : List Node) (ins outs : List Port) (e m : Int) (n' : List Node) (i' o' : List Port) : Prop :=
  (e ≠ 0 → (∃ k, LevOut nodes ins outs e k) ∧ m = 0 ∧ n' = [] ∧ i' = [] ∧ o' = []) ∧
  (e = 0 → ∃ l, LevOut nodes ins outs 0 l ∧ m = ((shRun nodes (ordL l)).many : Int) ∧ n' = dfRun nodes (shRun nodes (ordL l)).st (shRun nodes (ordL l)).m nodes.length ∧ i' = ins ∧ o' = outs.map (rpP (stF (shRun nodes (ordL l)).st)))
end Go.Proofs.Ytbfjacgfifecpaa
