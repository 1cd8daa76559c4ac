/- slipsticklaw08: awake. -/
import Derived.Test.YtdljgifoboiaeaaJFresh
namespace Go.Proofs.Ytdljgifoboiaeaa
open Go.RowKit

def a8 : ByteArray := ⟨#[97]⟩
def z8 : ByteArray := ⟨#[122]⟩
def nodes8 : List Node := [⟨1, 0, 0, 0⟩, ⟨1, 0, 0, 0⟩, ⟨3, 0, 1, 0⟩, ⟨6, 0, 2, 1⟩, ⟨7, 3, 1, 0⟩]

set_option maxHeartbeats 4000000 in
set_option maxRecDepth 100000 in
theorem awake08 (w : World) : Calls Try.prog 14 #[] w fun e w' => e = .returned (.bool true) ∧ Below w.heap.size w w' := by
  go_enter Try.func14, Try.ntmps14
  go_wp2_with fail
  refine (new_mine w).mono ?_
  rintro e w1 ⟨rfl, hM⟩
  obtain ⟨p, hp⟩ : ∃ p : Nat, w.heap.size = p := ⟨_, rfl⟩
  rw [hp] at hM ⊢
  have HP := Lib.hid hp
  clear hp
  have M1 := Lib.hid hM
  clear hM
  go_wp2_with fail
  refine (in_calls _ p ⟨[], [], []⟩ ⟨#[97]⟩ 2 M1.out.1 (by omega) (by simp) (by decide)).mono ?_
  rintro e w2 ⟨v2, rfl, ho, hb2, hk2⟩
  have M2 := Lib.hid (M1.out.laid ⟨hb2, hk2⟩)
  have hx : (bIn ⟨#[97]⟩ (2 : Int).toNat ⟨[], [], []⟩).1 = [0, 1] := by rfl
  rw [hx] at ho
  obtain ⟨g, c, rfl, -, -⟩ := ho.form (by simp)
  have HO := Lib.hid ho
  have hc := ho.drew M2.out.1.fin
  obtain ⟨x0, -⟩ := hc.cellAt? (i := 0) (r := 0) rfl
  obtain ⟨x1, -⟩ := hc.cellAt? (i := 1) (r := 1) rfl
  clear ho hb2 hk2 hx hc
  go_wp2_with fail
  go_still_tail 7, (by kernel_rfl)
  go_wp2_with fail
  have MD := Lib.hid (M2.out.quiet (Below.refl _ _).drew)
  refine (and_calls _ p _ _ _ MD.out.1 (by decide)).mono ?_
  rintro e w3 ⟨rfl, hL3⟩
  have M3 := Lib.hid (MD.out.laid hL3)
  have HO3 := Lib.hid (((HO.out.drew M2.out.1.fin).laid hL3).drew M3.out.1.fin)
  obtain ⟨x0, -⟩ := HO3.out.cellAt? (i := 0) (r := 0) rfl
  obtain ⟨x1, -⟩ := HO3.out.cellAt? (i := 1) (r := 1) rfl
  rw [show (bAnd 0 1 (bIn ⟨#[97]⟩ (2 : Int).toNat ⟨[], [], []⟩).2).1 = 2 from rfl]
  clear hL3
  go_wp2_with fail
  go_still_tail 8, (by kernel_rfl)
  go_wp2_with fail
  have MD3 := Lib.hid (M3.out.quiet (Below.refl _ _).drew)
  refine (mux_calls _ p _ _ _ _ MD3.out.1 (by decide)).mono ?_
  rintro e w4 ⟨rfl, hL4⟩
  have M4 := Lib.hid (MD3.out.laid hL4)
  rw [show (bMux 0 2 1 (bAnd 0 1 (bIn ⟨#[97]⟩ (2 : Int).toNat ⟨[], [], []⟩).2).2).1 = 3 from rfl]
  clear hL4 x0 x1
  go_wp2_with fail
  refine (reg_calls _ p _ _ _ M4.out.1 (by decide)).mono ?_
  rintro e w5 ⟨rfl, hL5⟩
  have M5 := Lib.hid (M4.out.laid hL5)
  rw [show (bReg 3 5 (bMux 0 2 1 (bAnd 0 1 (bIn ⟨#[97]⟩ (2 : Int).toNat ⟨[], [], []⟩).2).2).2).1 = 4 from rfl]
  clear hL5
  have HL := Lib.hid (lit_any kInt 3 w5 (fun _ => False) (fun _ h => h.elim) [4, 2] [[.int .i64 4], [.int .i64 2]] #[.int .i64 4, .int .i64 2] rfl (ints_pairs _ _ [4, 2]) (by decide))
  have MA := Lib.hid (M5.out.quiet ((Below.refl _ _).alloc (Nat.le_refl _) (.cells #[.int .i64 4, .int .i64 2] 3)))
  go_wp2_with fail
  refine (out_calls _ p _ _ ⟨#[122]⟩ _ [4, 2] MA.out.1 HL.out (by decide) (by decide)).mono ?_
  rintro e w6 ⟨rfl, hb6, hk6⟩
  have M6 := Lib.hid (MA.out.laid ⟨hb6, hk6⟩)
  have hst : (bOut ⟨#[122]⟩ [4, 2] (bReg 3 5 (bMux 0 2 1 (bAnd 0 1 (bIn ⟨#[97]⟩ (2 : Int).toNat ⟨[], [], []⟩).2).2).2).2) = ⟨nodes8, [⟨a8, [0, 1]⟩], [⟨z8, [4, 2]⟩]⟩ := by rfl
  rw [hst] at M6
  clear hb6 hk6 hst
  go_wp2_with fail
  refine (net_calls _ (foot w6 (some p)) M6.out.1.fin p _ M6.out.1 (by decide) (by decide) (by decide) (by decide) (by decide)).mono ?_
  rintro e w7 ⟨vn, vi, vo, rfl, hn1, hn2, hn3, hb7⟩
  have hfo7 : ∀ i, foot w7 (some p) i ↔ foot w6 (some p) i := foot_of_heap fun i hi => hb7.block i (M6.out.1.fin i hi)
  have M7 := Lib.hid (M6.out.quiet hb7)
  obtain ⟨An, cn, rfl, -, -⟩ := hn1.shape
  obtain ⟨Ai, ci, rfl, -, -⟩ := hn2.shape
  obtain ⟨Ao, co, rfl, -, -⟩ := hn3.shape
  have HN1 := Lib.hid (hn1.mono (S' := foot w7 (some p)) fun i _ h => (hfo7 i).1 h)
  have HN2 := Lib.hid (hn2.mono (S' := foot w7 (some p)) fun i _ h => (hfo7 i).1 h)
  have HN3 := Lib.hid (hn3.mono (S' := foot w7 (some p)) fun i _ h => (hfo7 i).1 h)
  clear hn1 hn2 hn3 hb7 hfo7
  obtain ⟨ob, hob⟩ : ∃ ob, ob = Obj.cells #[.slice An nodes8.length cn, .slice Ai 1 ci, .slice Ao 1 co] 33 := ⟨_, rfl⟩
  have hbx : Below w7.heap.size w7 (w7.alloc ob) := (Below.refl _ _).alloc (Nat.le_refl _) ob
  have M7b := Lib.hid (M7.out.quiet hbx)
  have HBX := Lib.hid hbx
  have HOB := Lib.hid hob
  clear hbx
  go_wp2_with fail
  rw [← HOB.out]
  refine (of5 _ (foot (w7.alloc ob) (some p)) M7b.out.1.fin).mono ?_
  rintro e w8 ⟨v8, rfl, hr8, hb8⟩
  have hfo8 : ∀ i, foot w8 (some p) i ↔ foot (w7.alloc ob) (some p) i := foot_of_heap fun i hi => hb8.block i (M7b.out.1.fin i hi)
  have hfo7b : ∀ i, foot (w7.alloc ob) (some p) i ↔ foot w7 (some p) i := foot_of_heap fun i hi => HBX.out.block i (M7.out.1.fin i hi)
  have M8 := Lib.hid (M7b.out.quiet hb8)
  have HR8 := Lib.hid (hr8.mono (S' := may w8 (some p) w8.heap.size) fun i hi h => h.elim (fun h => by omega) (fun h => (hfo8 i).1 h))
  have HK8 := Lib.hid (show Below w7.heap.size w7 w8 from HBX.out.trans (hb8.mono HBX.out.size))
  have HF8 := Lib.hid (show ∀ i, foot w8 (some p) i → foot w7 (some p) i from fun i h => (hfo7b i).1 ((hfo8 i).1 h))
  have hob8 : ∀ j, w8.cell? ⟨w7.heap.size, j, none⟩ = (w7.alloc ob).cell? ⟨w7.heap.size, j, none⟩ := fun j => hb8.cell (p := ⟨w7.heap.size, j, none⟩) (by simp)
  have HOB8 := Lib.hid hob8
  have hsz8 : w7.heap.size < w8.heap.size := Nat.lt_of_lt_of_le (by simp) hb8.size
  clear hr8 hb8 hfo8 hfo7b hob8 hob
  obtain ⟨A8, c8, rfl, -, -⟩ := HR8.out.shape
  go_wp2_with fail
  refine (word_calls _ p _ _ [5] 4 M8.out.1 HR8.out (by intro x hx; simp at hx; subst hx; decide) (by omega) (by decide)).mono ?_
  rintro e w9 ⟨v9, rfl, ho9, hL9⟩
  have M9 := Lib.hid (M8.out.laid hL9)
  obtain ⟨A9, c9, hv9, -, -⟩ := ho9.shape
  rw [word_length] at hv9
  subst hv9
  have keep : ∀ {α : Type} {k : Kd α} {v : Value} {xs : List α}, Row k w7 (foot w7 (some p)) v xs → Row k w9 (fun _ => False) v xs := fun h =>
    (((h.later HK8.out).mono (S' := foot w8 (some p)) fun i _ h => HF8.out i h).keep (S' := fun _ => False) ⟨hL9.2.size, fun i hi hn => hL9.2.block i hi hn⟩ fun _ _ h => h.elim)
  have NV9 := Lib.hid (show NetV w9 (.agg #[.slice An nodes8.length cn, .slice Ai 1 ci, .slice Ao 1 co]) nodes8 [⟨a8, [0, 1]⟩] [⟨z8, [4, 2]⟩] from ⟨_, _, _, rfl, keep HN1.out, keep HN2.out, keep HN3.out⟩)
  have hbx9 : ∀ j, w9.cell? ⟨w7.heap.size, j, none⟩ = (w7.alloc ob).cell? ⟨w7.heap.size, j, none⟩ := fun j =>
    (World.cell?_of_block (hL9.2.block w7.heap.size hsz8 fun h => by have := M7.out.1.fin _ (HF8.out _ h); omega)).trans (HOB8.out j)
  have z0 := hbx9 0
  have z1 := hbx9 1
  have z2 := hbx9 2
  rw [HOB.out, World.cell?_alloc_new] at z0 z1 z2
  simp only [List.getElem?_toArray, List.getElem?_cons_zero, List.getElem?_cons_succ] at z0 z1 z2
  have hlen9 : (bWord (partsVal [5]) 4 ⟨nodes8, [⟨a8, [0, 1]⟩], [⟨z8, [4, 2]⟩]⟩).2.nodes.length = 9 := by rfl
  have HLEN9 := Lib.hid hlen9
  clear hbx9 hL9 ho9 keep hlen9
  obtain ⟨W1, hW1⟩ : ∃ W1, W1 = w9.alloc (.cells #[.int .i64 1, .int .i64 0, .int .i64 0, .int .i64 0, .int .i64 1, .int .i64 0, .int .i64 0, .int .i64 0, .int .i64 3, .int .i64 0, .int .i64 1, .int .i64 0, .int .i64 6, .int .i64 0, .int .i64 2, .int .i64 1, .int .i64 7, .int .i64 3, .int .i64 1, .int .i64 0] 117) := ⟨_, rfl⟩
  have hs1 : W1.heap.size = w9.heap.size + 1 := by rw [hW1]; simp
  have hn1 : Row kNode W1 (fun _ => False) (.slice (some ⟨w9.heap.size, 0, none⟩) 5 5) nodes8 := by rw [hW1]; exact lit_any kNode 117 w9 _ (fun _ h => h.elim) nodes8 (nodes8.map Node.cells) _ rfl (pairs_nodes _ _ _) (by decide)
  have hb1 : Below w9.heap.size w9 W1 := by rw [hW1]; exact (Below.refl _ _).alloc (Nat.le_refl _) _
  obtain ⟨W2, hW2⟩ : ∃ W2, W2 = W1.alloc (.cells #[.int .i64 0, .int .i64 1] 3) := ⟨_, rfl⟩
  have hs2 : W2.heap.size = w9.heap.size + 1 + 1 := by rw [hW2, World.size_alloc, hs1]
  have hn2 : Row kInt W2 (fun _ => False) (.slice (some ⟨W1.heap.size, 0, none⟩) 2 2) [0, 1] := by rw [hW2]; exact lit_any kInt 3 W1 _ (fun _ h => h.elim) [0, 1] [[.int .i64 0], [.int .i64 1]] _ rfl (ints_pairs _ _ [0, 1]) (by decide)
  have hb2 : Below W1.heap.size W1 W2 := by rw [hW2]; exact (Below.refl _ _).alloc (Nat.le_refl _) _
  obtain ⟨W3, hW3⟩ : ∃ W3, W3 = W2.alloc (.cells #[.string ⟨#[97]⟩, .slice (some ⟨W1.heap.size, 0, none⟩) 2 2] 119) := ⟨_, rfl⟩
  have hs3 : W3.heap.size = w9.heap.size + 1 + 1 + 1 := by rw [hW3, World.size_alloc, hs2]
  have hn3 : Row kPort W3 (fun _ => False) (.slice (some ⟨W2.heap.size, 0, none⟩) 1 1) [⟨a8, [0, 1]⟩] := by rw [hW3]; exact lit_any kPort 119 W2 _ (fun _ h => h.elim) [⟨a8, [0, 1]⟩] [[.string ⟨#[97]⟩, .slice (some ⟨W1.heap.size, 0, none⟩) 2 2]] _ rfl (pairs_port _ _ _ hn2) (by decide)
  have hb3 : Below W2.heap.size W2 W3 := by rw [hW3]; exact (Below.refl _ _).alloc (Nat.le_refl _) _
  obtain ⟨W4, hW4⟩ : ∃ W4, W4 = W3.alloc (.cells #[.int .i64 4, .int .i64 2] 3) := ⟨_, rfl⟩
  have hs4 : W4.heap.size = w9.heap.size + 1 + 1 + 1 + 1 := by rw [hW4, World.size_alloc, hs3]
  have hn4 : Row kInt W4 (fun _ => False) (.slice (some ⟨W3.heap.size, 0, none⟩) 2 2) [4, 2] := by rw [hW4]; exact lit_any kInt 3 W3 _ (fun _ h => h.elim) [4, 2] [[.int .i64 4], [.int .i64 2]] _ rfl (ints_pairs _ _ [4, 2]) (by decide)
  have hb4 : Below W3.heap.size W3 W4 := by rw [hW4]; exact (Below.refl _ _).alloc (Nat.le_refl _) _
  obtain ⟨W5, hW5⟩ : ∃ W5, W5 = W4.alloc (.cells #[.string ⟨#[122]⟩, .slice (some ⟨W3.heap.size, 0, none⟩) 2 2] 119) := ⟨_, rfl⟩
  have hn5 : Row kPort W5 (fun _ => False) (.slice (some ⟨W4.heap.size, 0, none⟩) 1 1) [⟨z8, [4, 2]⟩] := by rw [hW5]; exact lit_any kPort 119 W4 _ (fun _ h => h.elim) [⟨z8, [4, 2]⟩] [[.string ⟨#[122]⟩, .slice (some ⟨W3.heap.size, 0, none⟩) 2 2]] _ rfl (pairs_port _ _ _ hn4) (by decide)
  have hb5 : Below W4.heap.size W4 W5 := by rw [hW5]; exact (Below.refl _ _).alloc (Nat.le_refl _) _
  have hbb : Below w9.heap.size w9 W5 := (((hb1.trans (hb2.mono (by omega))).trans (hb3.mono (by omega))).trans (hb4.mono (by omega))).trans (hb5.mono (by omega))
  have NU := Lib.hid (show NetV W5 (.agg #[.slice (some ⟨w9.heap.size, 0, none⟩) 5 5, .slice (some ⟨W2.heap.size, 0, none⟩) 1 1, .slice (some ⟨W4.heap.size, 0, none⟩) 1 1]) nodes8 [⟨a8, [0, 1]⟩] [⟨z8, [4, 2]⟩] from
    ⟨_, _, _, rfl, (((hn1.later hb2).later hb3).later hb4).later hb5, (hn3.later hb4).later hb5, hn5⟩)
  have NV5 := Lib.hid (NV9.out.later hbb)
  have M10 := Lib.hid (M9.out.quiet hbb)
  rw [hs2, hs4] at NU
  rw [hs3] at hW5
  rw [hs1] at hW3
  rw [hW4, hW3, hW2, hW1] at hW5
  have HW5 := Lib.hid hW5
  clear hs1 hs2 hs3 hs4 hn1 hn2 hn3 hn4 hn5 hb1 hb2 hb3 hb4 hb5 hbb hW1 hW2 hW3 hW4 hW5 W1 W2 W3 W4
  go_wp2_with fail
  rw [← HW5.out]
  refine (same_net _ _ _ nodes8 [⟨a8, [0, 1]⟩] [⟨z8, [4, 2]⟩] NV5.out NU.out (by decide) (by decide) (by decide) (by decide) (by decide)).mono ?_
  rintro e w11 ⟨rfl, hb11⟩
  have M11 := Lib.hid (M10.out.quiet hb11)
  clear hb11
  go_wp2_with fail
  refine (len_calls _ p _ M11.out.1).mono ?_
  rintro e w12 ⟨rfl, rfl⟩
  rw [HLEN9.out]
  go_wp2
  go_ret
  exact ⟨rfl, by rw [HP.out]; exact M11.out.2.2.1⟩
end Go.Proofs.Ytdljgifoboiaeaa
