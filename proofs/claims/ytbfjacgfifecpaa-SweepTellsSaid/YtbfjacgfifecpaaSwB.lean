/- sweep.reached: on what some places hang. -/
import Derived.Test.YtbfjacgfifecpaaSwA
namespace Go.Proofs.Ytbfjacgfifecpaa
open Go.RowKit

theorem nats_toNat {xs : List Int} (h : ∀ u ∈ xs, 0 ≤ u) : nats (xs.map Int.toNat) = xs := by
  induction xs with
  | nil => rfl
  | cons x xs ih =>
    have h0 := h x (by simp)
    have h1 := ih fun u hu => h u (List.mem_cons_of_mem _ hu)
    simp only [List.map_cons, h1, List.cons.injEq, and_true]
    omega
theorem inU_of {nodes : List Node} (hin : ∀ x ∈ nodes, ∀ u ∈ usesR x, 0 ≤ u ∧ u < nodes.length) : InU nodes := fun i u hu => by
  unfold useI at hu
  cases hx : nodes[i]? with
  | none => rw [hx] at hu; simp at hu
  | some x =>
    rw [hx] at hu
    obtain ⟨z, hz, rfl⟩ := List.mem_map.1 hu
    have := hin x (List.mem_of_getElem? hx) z hz
    omega
theorem Own.popLast {e : TypeId} {w : World} {B g n c : Nat} {xs : List Int} {a : Int} (h : Own kInt e w none B (.slice (some ⟨g, 0, none⟩) (n + 1) c) (xs ++ [a])) : Own kInt e w none B (.slice (some ⟨g, 0, none⟩) n c) xs := by
  have hn : n = xs.length := by obtain ⟨_, _, he, _⟩ := h.shape; injection he with _ e2 _; simp at e2; omega
  subst hn
  have h1 := h.ints
  refine Own.of_ints ?_ (fun _ _ => foot_none _ _)
  rcases h1.2 with ⟨h', _⟩ | ⟨g', cap, cur, h', hb, hg, hnc, hcm, hcs, ht⟩
  · simp at h'
  · simp only [Value.slice.injEq, Option.some.injEq, Addr.mk.injEq, and_true, true_and] at h'
    obtain ⟨rfl, -, rfl⟩ := h'
    refine ⟨by simp, .inr ⟨g, c, cur, rfl, hb, hg, by simp at hnc; omega, hcm, hcs, ?_⟩⟩
    have h2 := congrArg (List.take xs.length) ht
    rw [List.take_take, List.map_append, List.take_left' (by simp)] at h2
    rw [← h2]
    congr 1
    simp

def boolAt (w : World) (b i : Nat) : Bool := match w.cell? ⟨b, i, none⟩ with | some (.bool true) => false | _ => true
def tvAt (w : World) (b : Nat) : Nat := match w.cell? ⟨b, 0, none⟩ with | some v => lenOf v | none => 0
/-- how much there is to do yet -/
def swM (w : World) (B n : Nat) : Nat := tvAt w (B + 1 + 1) + (List.range n).countP (boolAt w B)
theorem unseen_range (l : List Bool) : (List.range l.length).countP (fun i => !l.getD i false) = unseen l := by
  have e : (List.range l.length).map (fun i => l.getD i false) = l := by
    apply List.ext_getElem (by simp)
    intro i h1 h2
    simp [List.getD_eq_getElem?_getD, List.getElem?_eq_getElem h2]
  conv => rhs; rw [unseen, ← e, List.countP_map]
  rfl
theorem SwE.measure {w : World} {B n : Nat} {s : List Bool × List Nat} {tv : Value} (h : SwE w B n s tv) : swM w B n = s.2.length + unseen s.1 := by
  have h1 : tvAt w (B + 1 + 1) = s.2.length := by
    rw [tvAt, h.boxes.2.1]
    obtain ⟨A, c, e, -, -⟩ := h.todo.shape
    rw [e]
    simp [lenOf]
  rw [swM, h1, ← unseen_range, h.len]
  congr 1
  apply List.countP_congr
  intro i hi
  have hi : i < s.1.length := by rw [h.len]; simpa using hi
  rw [boolAt, (h.at hi).1]
  cases s.1.getD i false <;> simp

theorem make_bools2 (n : Nat) (hn : n ≤ 1099511627776) (W : World) : (Instr.makeSlice 61 (.int .i64 (n : Int)) (.int .i64 (n : Int))).run Try.prog W = .ok (.slice (some ⟨W.heap.size, 0, none⟩) n n) (W.alloc (.cells (madeCells #[.bool false] n) 4)) := by
  obtain ⟨i0, hi, hz0, hz1, hz2⟩ := info_parts infoBool
  have hr := run_make (P := Try.prog) W 61 4 i0 (.bool false) Try.underlying61 hi hz0 .i64 .i64 n n (by omega) (Int.le_refl _) (by rw [hz2]; omega) (by omega)
  rw [hz1] at hr
  simp only [Int.toNat_natCast, Nat.mul_one] at hr
  exact hr
theorem SwE.init (w : World) (n : Nat) (hn : n ≤ 1099511627776) : SwE (((w.alloc (.cells (madeCells #[.bool false] n) 4)).alloc (.cells #[.slice (some ⟨w.heap.size, 0, none⟩) n n] 61)).alloc (.cells #[nilS] 28)) w.heap.size n (List.replicate n false, []) nilS := by
  have k0 := Keep.nil (w := w) (Nat.le_refl w.heap.size)
  have k1 := k0.push (r := rwBools 4 (.slice (some ⟨w.heap.size, 0, none⟩) n n) (List.replicate n false)) ((Below.refl _ _).alloc (Nat.le_refl _) (.cells (madeCells #[.bool false] n) 4)) (rwBools_at.2 (made_bools n hn w))
  obtain ⟨w1, hw1⟩ : ∃ w1, w1 = w.alloc (.cells (madeCells #[.bool false] n) 4) := ⟨_, rfl⟩
  have hs1 : w1.heap.size = w.heap.size + 1 := by rw [hw1]; simp
  rw [← hw1] at k1 ⊢
  have k2 := k1.push ((Below.refl _ _).alloc (Nat.le_refl _) (.cells #[.slice (some ⟨w.heap.size, 0, none⟩) n n] 61)) (rwBox_alloc w1 61 (.slice (some ⟨w.heap.size, 0, none⟩) n n))
  obtain ⟨w2, hw2⟩ : ∃ w2, w2 = w1.alloc (.cells #[.slice (some ⟨w.heap.size, 0, none⟩) n n] 61) := ⟨_, rfl⟩
  have hs2 : w2.heap.size = w.heap.size + 1 + 1 := by rw [hw2]; simp [hs1]
  rw [← hw2] at k2 ⊢
  have k3 := k2.push (r := rwInts 3 nilS []) (Below.refl _ _) (rwInts_at.2 (Own.nil _ _ _ _ _))
  have k4 := k3.push ((Below.refl _ _).alloc (Nat.le_refl _) (.cells #[nilS] 28)) (rwBox_alloc w2 28 nilS)
  rw [hs1, hs2] at k4
  exact k4
theorem SwE.pop {w : World} {B n g m c : Nat} {seen : List Bool} {todo : List Nat} {a : Nat} (h : SwE w B n (seen, todo ++ [a]) (.slice (some ⟨g, 0, none⟩) (m + 1) c)) : SwE (w.setCell ⟨B + 1 + 1, 0, none⟩ (.slice (some ⟨g, 0, none⟩) m c)) B n (seen, todo) (.slice (some ⟨g, 0, none⟩) m c) := by
  have ho := h.todo
  have e : nats (todo ++ [a]) = nats todo ++ [(a : Int)] := by simp
  dsimp only at ho
  rw [e] at ho
  have h1 : Keep w B ((SwT B n seen (.slice (some ⟨g, 0, none⟩) (m + 1) c) (todo ++ [a])).set 2 (rwInts 3 (.slice (some ⟨g, 0, none⟩) m c) (nats todo))) := Keep.setRow h (i := 2) rfl ho.popLast (World.grownBy.refl _ _) (.inl rfl)
  exact Keep.setBox h1 (i := 3) rfl _
theorem Own.boolsFree {e : TypeId} {w : World} {p : Option Nat} {B : Nat} {v : Value} {xs : List Bool} (h : Own kBool e w p B v xs) : Row kBool w (fun _ => False) v xs := (h.row (by decide) (Nat.le_refl _)).mono fun _ _ h => h.elim

set_option maxHeartbeats 2000000 in
set_option maxRecDepth 4096 in
theorem reached_net (w : World) (v : Value) (nodes : List Node) (ins outs : List Port) (hN : NetV w v nodes ins outs) (u : Value) (fr : List Nat) (hu : Row kInt w (fun _ => False) u (nats fr)) (hin : ∀ x ∈ nodes, ∀ u ∈ usesR x, 0 ≤ u ∧ u < nodes.length)
    (hf : ∀ a ∈ fr, a < nodes.length) (hnl : nodes.length ≤ 1073741824) (hfl : fr.length ≤ 1099511627776) :
    Calls Try.prog 77 #[v, u] w fun e w' => ∃ v' l, e = .returned v' ∧ Row kBool w' (fun _ => False) v' l ∧ IsRch nodes fr l ∧ Below w.heap.size w w' := by
  obtain ⟨An, cn, Ai, ci, Ao, co, rfl, hbox⟩ := hN.box
  let ob := netBox (.slice An nodes.length cn) (.slice Ai ins.length ci) (.slice Ao outs.length co)
  obtain ⟨w1, hw1⟩ : ∃ w1, w1 = w.alloc ob := ⟨_, rfl⟩
  have hs1 : w1.heap.size = w.heap.size + 1 := by rw [hw1]; simp
  rw [← hw1, ← hs1] at hbox
  have hmk := make_bools2 nodes.length (by omega)
  have hk := SwE.init w1 nodes.length (by omega)
  have hb3 : Below w1.heap.size w1 (((w1.alloc (.cells (madeCells #[.bool false] nodes.length) 4)).alloc (.cells #[.slice (some ⟨w1.heap.size, 0, none⟩) nodes.length nodes.length] 61)).alloc (.cells #[nilS] 28)) :=
    (((Below.refl _ _).alloc (Nat.le_refl _) _).alloc (by simp) _).alloc (by simp; omega) _
  obtain ⟨z0, -, -, -, -, -, -⟩ := hbox w1 (Below.refl _ _)
  have hb01 : Below w.heap.size w w1 := by rw [hw1]; exact (Below.refl _ _).alloc (Nat.le_refl _) _
  have hu1 := hu.later hb01
  have hx : Row kInt (((w1.alloc (.cells (madeCells #[.bool false] nodes.length) 4)).alloc (.cells #[.slice (some ⟨w1.heap.size, 0, none⟩) nodes.length nodes.length] 61)).alloc (.cells #[nilS] 28)) (swS w1.heap.size nilS) u (nats fr) :=
    hu1.keep ⟨hb3.size, fun i hi _ => hb3.block i hi⟩ fun i hi h => by
      rcases h with (h | h | h) | h
      · omega
      · omega
      · omega
      · simp [Value.ownBlock] at h
  have hun : unseen (List.replicate nodes.length false) ≤ 1099511627776 := by
    have := List.countP_le_length (p := fun b => !b) (l := List.replicate nodes.length false)
    rw [List.length_replicate] at this
    unfold unseen
    omega
  have hc := lay_net _ _ _ _ _ _ _ hk hx hf hfl (by simpa using hun)
  have hsi := SInv.init hf
  rw [hs1] at hc hk hb3 hbox
  obtain ⟨w2, hw2⟩ : ∃ w2, w2 = (((w1.alloc (.cells (madeCells #[.bool false] nodes.length) 4)).alloc (.cells #[.slice (some ⟨w.heap.size + 1, 0, none⟩) nodes.length nodes.length] 61)).alloc (.cells #[nilS] 28)) := ⟨_, rfl⟩
  rw [← hw2] at hc hk hb3
  have HSI := Lib.hid hsi
  have HC := Lib.hid hc
  have HB3 := Lib.hid hb3
  have HBOX := Lib.hid hbox
  have HINU := Lib.hid (inU_of hin)
  have HINN := Lib.hid hin
  have HW1 := Lib.hid hw1
  have HW2 := Lib.hid hw2
  have HB01 := Lib.hid hb01
  have HS1 := Lib.hid hs1
  clear hN hbox hk hb3 hb01 hu hu1 hin hw1 hf hs1 hx hun hc hsi hw2
  go_enter Try.func77, Try.ntmps77
  go_wp2_with fail
  rw [← HW1.out, ← HW2.out]
  refine HC.out.mono ?_
  rintro e w3 ⟨tv, rfl, hK3, hb3⟩
  have HK3 := Lib.hid hK3
  have HB13 := Lib.hid (HB3.out.trans (hb3.mono (Nat.le_refl _)))
  clear hK3 hb3 HC HW2 HB3 HW1
  clear z0
  go_wp2_with fail
  go_loopw [8] (fun av wr => Hid (∃ seen todo tr, SwE wr (w.heap.size + 1) nodes.length (seen, todo) tr ∧ SInv nodes fr seen todo) ∧ Hid (Below (w.heap.size + 1) w1 wr)) (fun _ wr => swM wr (w.heap.size + 1) nodes.length)
  case atStart => exact ⟨Lib.hid ⟨_, _, _, HK3.out, HSI.out⟩, HB13⟩
  case round =>
    clear HK3 HSI HB13
    obtain ⟨HE, HB⟩ := hrel
    obtain ⟨seen, todo, tr, hE, hsi⟩ := HE.out
    obtain ⟨z0, -, -, hrn, -, -, hbw⟩ := HBOX.out _ HB.out
    have HE2 := Lib.hid hE
    have HSI := Lib.hid hsi
    have HBW := Lib.hid hbw
    obtain ⟨⟨b0, b1⟩, b2, b3⟩ := hE.boxes
    have hm0 := hE.measure
    have ho := hE.todo
    have hln := hE.len
    clear hE hsi HE hbw
    rcases List.eq_nil_or_concat todo with rfl | ⟨todo, a, rfl⟩
    · obtain ⟨A4, c4, e4, -, -⟩ := ho.shape
      subst e4
      have HR := Lib.hid (Keep.bools HE2.out (i := 0) rfl).boolsFree
      clear ho hm0 hrn hln
      go_wp2
      go_ret
      exact ⟨_, rfl, _, HR.out, HSI.out.done, HBW.out⟩
    · rw [List.concat_eq_append] at *
      have hal : a < nodes.length := by
        have h1 := HSI.out.todoSeen a (by simp)
        rcases Nat.lt_or_ge a nodes.length with h | h
        · exact h
        · have h2 : seen.length ≤ a := by rw [HSI.out.len]; exact h
          rw [List.getD_eq_getElem?_getD, List.getElem?_eq_none h2] at h1; simp at h1
      obtain ⟨g, c, he, hcap, hcm⟩ := ho.form (by simp)
      have e1 : (nats (todo ++ [a])).length = todo.length + 1 := by simp
      dsimp only at he
      rw [e1] at he hcap
      subst he
      have ho' : Own kInt 3 wr none (w.heap.size + 1) (.slice (some ⟨g, 0, none⟩) (todo.length + 1) c) (nats (todo ++ [a])) := ho
      obtain ⟨x0, -⟩ := ho'.cellAt? (i := todo.length) (r := (a : Int)) (by simp)
      have HBS := Lib.hid (HB.out.setCell (p := ⟨w.heap.size + 1 + 1 + 1, 0, none⟩) (by simp) (.slice (some ⟨g, 0, none⟩) todo.length c))
      obtain ⟨z0', -, -, hrn', -, -, -⟩ := HBOX.out _ HBS.out
      obtain ⟨b, off, rfl, y0, y1, y2, y3⟩ := hrn'.node_at hal
      have hua : useI nodes a = (usesR nodes[a]).map Int.toNat := useI_at (List.getElem?_eq_getElem hal)
      have hiu := HINN.out _ (List.getElem_mem hal)
      have hul : (usesR nodes[a]).length ≤ 3 := by simp [usesR]; omega
      obtain ⟨x, hxx⟩ : ∃ x, nodes[a] = x := ⟨_, rfl⟩
      rw [hxx] at y0 y1 y2 y3 hua hiu hul
      clear hxx
      have HE3 := Lib.hid (HE2.out.pop)
      have HU := Lib.hid (uses_net _ _ HE3.out.there x)
      obtain ⟨xk, xa, xb, xc⟩ := x
      dsimp only at y0 y1 y2 y3
      have HUA := Lib.hid hua
      have HIU := Lib.hid hiu
      have HUL := Lib.hid hul
      have HM0 := Lib.hid hm0
      have hBl := HE2.out.lt
      have hml : todo.length + 1 ≤ 1099511627776 := by have := HSI.out.cnt; simp at this; omega
      obtain ⟨tl, htl⟩ : ∃ tl, todo.length = tl := ⟨_, rfl⟩
      have HTL := Lib.hid htl
      rw [htl] at x0 b2 HBS HE3 HU hml hcap y0 y1 y2 y3 z0'
      clear hua hiu hul hm0 ho ho' htl hrn hln e1 hrn'
      go_wp2_with fail
      refine HU.out.mono ?_
      rintro e w4 ⟨v4, rfl, hr4, hb4⟩
      have hcnt := HSI.out.cnt
      rw [List.length_append, List.length_singleton] at hcnt
      have HC := Lib.hid (lay_net w4 _ _ (seen, todo) _ v4 (useI nodes a) (HE3.out.below hb4) (by rw [HUA.out, nats_toNat (fun u hu => (HIU.out u hu).1)]; exact hr4) (HINU.out a) (by rw [HUA.out, List.length_map]; have := HUL.out; omega) (by dsimp only; omega))
      have hbss := HBS.out.size
      rw [HS1.out] at hbss
      have HB4 := Lib.hid (HBS.out.trans (hb4.mono hbss))
      have HNX := Lib.hid (SInv.next HINU.out HSI.out)
      have HS4 := Lib.hid (show w.heap.size + 1 ≤ w4.heap.size by have := hb4.size; omega)
      clear hbss hr4 hb4 HU b0 b1 b2 b3 x0 y0 y1 y2 y3 z0 z0' hcnt
      go_wp2_with fail
      refine HC.out.mono ?_
      rintro e w5 ⟨tv5, rfl, hK5, hb5⟩
      have HK5 := Lib.hid hK5
      have HB5 := Lib.hid (HB4.out.trans hb5)
      clear hK5 hb5 HC
      go_wp2
      refine ⟨⟨Lib.hid ⟨_, _, _, HK5.out, HNX.out.1⟩, HB5⟩, ?_⟩
      have h1 := HK5.out.measure
      have h2 := HNX.out.2
      have h3 := HM0.out
      omega
end Go.Proofs.Ytbfjacgfifecpaa
