/- fold, plain: what stands for a node has its value; the folded net may be. -/
import Derived.Test.YtbfjacgfifecpaaFoF
import Derived.Test.YtbfjacgfifecpaaSiI
namespace Go.Proofs.Ytbfjacgfifecpaa

/-! ### levels by a rank -/
def lvlF (us : List Nat) (g : Nat → Int) : Int := us.foldl (fun m v => max m (g v + 1)) 0
theorem lvlF_congr {us : List Nat} {g g' : Nat → Int} (h : ∀ v ∈ us, g v = g' v) : lvlF us g = lvlF us g' := by
  unfold lvlF
  have : ∀ m : Int, us.foldl (fun m v => max m (g v + 1)) m = us.foldl (fun m v => max m (g' v + 1)) m := by
    induction us with
    | nil => intro m; rfl
    | cons a us ih => intro m; rw [List.foldl_cons, List.foldl_cons, h a List.mem_cons_self, ih fun v hv => h v (List.mem_cons_of_mem _ hv)]
  exact this 0
theorem lev_of_rank {nodes : List Node} (hf : Frm nodes) (r : Nat → Nat) (h : ∀ (u : Nat) (x : Node), nodes[u]? = some x → ∀ v ∈ usesN x, r v < r u) : ∃ k, IsLev nodes k := by
  have hg : ∀ k : Nat, ∃ g : Nat → Int, ∀ (u : Nat) (x : Node), nodes[u]? = some x → r u < k → g u = lvlF (usesN x) g := by
    intro k
    induction k with
    | zero => exact ⟨fun _ => 0, fun u x _ hk => by omega⟩
    | succ k ih =>
      obtain ⟨g, hg⟩ := ih
      refine ⟨fun u => if r u < k then g u else lvlF (useAt nodes u) g, fun u x hx hk => ?_⟩
      have hc : lvlF (usesN x) g = lvlF (usesN x) (fun u => if r u < k then g u else lvlF (useAt nodes u) g) := lvlF_congr fun v hv => by
        have := h u x hx v hv
        show g v = if r v < k then g v else lvlF (useAt nodes v) g
        rw [if_pos (by omega)]
      show (if r u < k then g u else lvlF (useAt nodes u) g) = _
      by_cases hu : r u < k
      · rw [if_pos hu, hg u x hx hu]; exact hc
      · rw [if_neg hu, useAt_at hx]; exact hc
  have hK : ∀ n : Nat, ∃ K, ∀ u, u < n → r u < K := by
    intro n
    induction n with
    | zero => exact ⟨0, fun u hu => by omega⟩
    | succ n ih =>
      obtain ⟨K, hK⟩ := ih
      exact ⟨max K (r n + 1), fun u hu => by
        rcases Nat.lt_or_ge u n with h' | h'
        · have := hK u h'; omega
        · obtain rfl : u = n := by omega
          omega⟩
  obtain ⟨K, hK⟩ := hK nodes.length
  obtain ⟨g, hg⟩ := hg K
  have hat : ∀ u, u < nodes.length → ((List.range nodes.length).map g).getD u 0 = g u := fun u hu => by
    rw [List.getD_eq_getElem?_getD, List.getElem?_map, List.getElem?_range hu]; rfl
  refine ⟨(List.range nodes.length).map g, by simp, fun u x hx => ?_⟩
  have hu := (List.getElem?_eq_some_iff.1 hx).1
  rw [hat u hu, hg u x hx (hK u hu)]
  unfold lvlF lvl
  have hl : ∀ v ∈ usesN x, g v = ((List.range nodes.length).map g).getD v 0 := fun v hv => (hat v (hf.uses (u := u) (by rw [useAt_at hx]; exact hv))).symm
  exact lvlF_congr (g' := fun v => ((List.range nodes.length).map g).getD v 0) hl

/-! ### values -/
def ev (x : Node) (V : List Bool) : Bool := valB x V [] [] 0
theorem ev_index {x : Node} {n : Nat} (h : okX n x) (V st inn : List Bool) (u : Nat) : valB x V st inn u = ev x V := by
  have hk := h.1
  unfold ev valB
  rw [if_neg (show ¬ x.kind = 1 by omega), if_neg (show ¬ x.kind = 7 by omega), if_neg (show ¬ x.kind = 1 by omega), if_neg (show ¬ x.kind = 7 by omega)]
def gV (V : List Bool) (z : Int) : Bool := V.getD z.toNat false
theorem ev0 (v b c : Int) (V : List Bool) : ev ⟨0, v, b, c⟩ V = decide (v = 1) := rfl
theorem ev2 (a b c : Int) (V : List Bool) : ev ⟨2, a, b, c⟩ V = !gV V a := rfl
theorem ev3 (a b c : Int) (V : List Bool) : ev ⟨3, a, b, c⟩ V = (gV V a && gV V b) := rfl
theorem ev4 (a b c : Int) (V : List Bool) : ev ⟨4, a, b, c⟩ V = (gV V a || gV V b) := rfl
theorem ev5 (a b c : Int) (V : List Bool) : ev ⟨5, a, b, c⟩ V = (gV V a != gV V b) := rfl
theorem ev6 (a b c : Int) (V : List Bool) : ev ⟨6, a, b, c⟩ V = if gV V c = true then gV V b else gV V a := rfl
/-- the values go with the nodes as they are -/
def Vals (m : List Node) (n : Nat) (V : List Bool) : Prop := ∀ z : Int, 0 ≤ z → z < n → ((nd m z).kind = 0 → gV V z = decide ((nd m z).a = 1)) ∧ ((nd m z).kind = 2 → gV V z = !gV V (nd m z).a)
theorem isN_val {m : List Node} {n : Nat} {V : List Bool} (h : Vals m n V) {z v : Int} (hz : 0 ≤ z ∧ z < n) (hi : isN m z v = true) : gV V z = decide (v = 1) := by
  unfold isN at hi
  rw [Bool.and_eq_true, decide_eq_true_eq, decide_eq_true_eq] at hi
  rw [(h z hz.1 hz.2).1 hi.1, hi.2]
theorem otherN_val {m : List Node} {n : Nat} {V : List Bool} (h : Vals m n V) {a b : Int} (ha : 0 ≤ a ∧ a < n) (hb : 0 ≤ b ∧ b < n) (hi : otherN m a b = true) : gV V a = !gV V b := by
  unfold otherN at hi
  rw [Bool.or_eq_true, Bool.and_eq_true, Bool.and_eq_true, decide_eq_true_eq, decide_eq_true_eq, decide_eq_true_eq, decide_eq_true_eq] at hi
  rcases hi with ⟨h1, h2⟩ | ⟨h1, h2⟩
  · rw [(h a ha.1 ha.2).2 h1, h2]
  · have := (h b hb.1 hb.2).2 h1
    rw [h2] at this
    rw [this]
    simp
def FV1 (V : List Bool) (x : Node) (r : Node × Int) : Prop := ev r.1 V = ev x V ∧ (r.2 = -1 ∨ gV V r.2 = ev x V)
theorem fold1_val {m : List Node} {n : Nat} {V : List Bool} (hm : ∀ x ∈ m, okNd n x) (h : Vals m n V) {x : Node} (hx : okX n x) : FV1 V x (fold1 m x) := by
  obtain ⟨k, a, b, c⟩ := x
  rcases kind6 hx.1 with hk | hk | hk | hk | hk | hk <;> dsimp only at hk <;> subst hk
  · exact ⟨rfl, .inl rfl⟩
  · have ha := uses_a hx
    have hv := h a ha.1 ha.2
    have ho := nd_ok hm a
    show FV1 V _ (flipN m ⟨2, a, b, c⟩)
    unfold flipN
    dsimp only
    split
    · rename_i h0
      refine ⟨?_, .inl rfl⟩
      show ev ⟨0, 1 - (nd m a).a, 0, 0⟩ V = _
      rw [ev0, ev2, hv.1 h0]
      rcases ho.1 h0 with e | e <;> rw [e] <;> rfl
    · split
      · rename_i h2
        refine ⟨rfl, .inr ?_⟩
        show gV V (nd m a).a = _
        rw [ev2, hv.2 h2]
        simp
      · exact ⟨rfl, .inl rfl⟩
  · obtain ⟨ha, hb⟩ := uses_ab hx (.inl rfl)
    have a0 : isN m a 0 = true → gV V a = false := fun e => isN_val h ha e
    have a1 : isN m a 1 = true → gV V a = true := fun e => isN_val h ha e
    have b0 : isN m b 0 = true → gV V b = false := fun e => isN_val h hb e
    have b1 : isN m b 1 = true → gV V b = true := fun e => isN_val h hb e
    have ho := otherN_val h ha hb
    show FV1 V _ (bothN m ⟨3, a, b, c⟩ 0)
    unfold bothN FV1
    dsimp only
    rw [show (1 : Int) - 0 = 1 from rfl]
    split
    · rename_i e
      rw [Bool.or_eq_true] at e
      rw [ev0, ev3]
      rcases e with e | e
      · rw [a0 e]; exact ⟨rfl, .inl rfl⟩
      · rw [b0 e, Bool.and_false]; exact ⟨rfl, .inl rfl⟩
    · split
      · rename_i e; rw [ev3, a1 e]; exact ⟨rfl, .inr rfl⟩
      · split
        · rename_i e; rw [ev3, b1 e, Bool.and_true]; exact ⟨rfl, .inr rfl⟩
        · split
          · rename_i e; rw [ev3, ← e, Bool.and_self]; exact ⟨rfl, .inr rfl⟩
          · split
            · rename_i e; rw [ev0, ev3, ho e]; exact ⟨by cases gV V b <;> rfl, .inl rfl⟩
            · exact ⟨rfl, .inl rfl⟩
  · obtain ⟨ha, hb⟩ := uses_ab hx (.inr (.inl rfl))
    have a0 : isN m a 0 = true → gV V a = false := fun e => isN_val h ha e
    have a1 : isN m a 1 = true → gV V a = true := fun e => isN_val h ha e
    have b0 : isN m b 0 = true → gV V b = false := fun e => isN_val h hb e
    have b1 : isN m b 1 = true → gV V b = true := fun e => isN_val h hb e
    have ho := otherN_val h ha hb
    show FV1 V _ (bothN m ⟨4, a, b, c⟩ 1)
    unfold bothN FV1
    dsimp only
    rw [show (1 : Int) - 1 = 0 from rfl]
    split
    · rename_i e
      rw [Bool.or_eq_true] at e
      rw [ev0, ev4]
      rcases e with e | e
      · rw [a1 e]; exact ⟨rfl, .inl rfl⟩
      · rw [b1 e, Bool.or_true]; exact ⟨rfl, .inl rfl⟩
    · split
      · rename_i e; rw [ev4, a0 e]; exact ⟨rfl, .inr rfl⟩
      · split
        · rename_i e; rw [ev4, b0 e, Bool.or_false]; exact ⟨rfl, .inr rfl⟩
        · split
          · rename_i e; rw [ev4, ← e, Bool.or_self]; exact ⟨rfl, .inr rfl⟩
          · split
            · rename_i e; rw [ev0, ev4, ho e]; exact ⟨by cases gV V b <;> rfl, .inl rfl⟩
            · exact ⟨rfl, .inl rfl⟩
  · obtain ⟨ha, hb⟩ := uses_ab hx (.inr (.inr rfl))
    have a0 : isN m a 0 = true → gV V a = false := fun e => isN_val h ha e
    have a1 : isN m a 1 = true → gV V a = true := fun e => isN_val h ha e
    have b0 : isN m b 0 = true → gV V b = false := fun e => isN_val h hb e
    have b1 : isN m b 1 = true → gV V b = true := fun e => isN_val h hb e
    have ho := otherN_val h ha hb
    show FV1 V _ (oddN m ⟨5, a, b, c⟩)
    unfold oddN FV1
    dsimp only
    split
    · rename_i e; rw [ev0, ev5, ← e]; exact ⟨by cases gV V a <;> rfl, .inl rfl⟩
    · split
      · rename_i e; rw [ev5, a0 e]; exact ⟨rfl, .inr (by cases gV V b <;> rfl)⟩
      · split
        · rename_i e; rw [ev5, b0 e]; exact ⟨rfl, .inr (by cases gV V a <;> rfl)⟩
        · split
          · rename_i e; rw [ev2, ev5, a1 e]; exact ⟨by cases gV V b <;> rfl, .inl rfl⟩
          · split
            · rename_i e; rw [ev2, ev5, b1 e]; exact ⟨by cases gV V a <;> rfl, .inl rfl⟩
            · split
              · rename_i e; rw [ev0, ev5, ho e]; exact ⟨by cases gV V b <;> rfl, .inl rfl⟩
              · exact ⟨rfl, .inl rfl⟩
  · obtain ⟨ha, hb, hc⟩ := uses_abc hx
    have a0 : isN m a 0 = true → gV V a = false := fun e => isN_val h ha e
    have a1 : isN m a 1 = true → gV V a = true := fun e => isN_val h ha e
    have b0 : isN m b 0 = true → gV V b = false := fun e => isN_val h hb e
    have b1 : isN m b 1 = true → gV V b = true := fun e => isN_val h hb e
    have c0 : isN m c 0 = true → gV V c = false := fun e => isN_val h hc e
    have c1 : isN m c 1 = true → gV V c = true := fun e => isN_val h hc e
    show FV1 V _ (choiceN m ⟨6, a, b, c⟩)
    unfold choiceN FV1
    dsimp only
    split
    · rename_i e; rw [ev6, c0 e]; exact ⟨rfl, .inr rfl⟩
    · split
      · rename_i e; rw [ev6, ← e.1]; exact ⟨rfl, .inr (by cases gV V c <;> rfl)⟩
      · split
        · rename_i e; rw [ev6, c1 e]; exact ⟨rfl, .inr rfl⟩
        · split
          · rename_i e
            rw [Bool.and_eq_true] at e
            rw [ev6, a0 e.1, b1 e.2]
            exact ⟨rfl, .inr (by cases gV V c <;> rfl)⟩
          · split
            · rename_i e
              rw [Bool.and_eq_true] at e
              rw [ev2, ev6, a1 e.1, b0 e.2]
              exact ⟨by cases gV V c <;> rfl, .inl rfl⟩
            · split
              · rename_i e; rw [ev3, ev6, a0 e]; exact ⟨by cases gV V c <;> cases gV V b <;> rfl, .inl rfl⟩
              · split
                · rename_i e; rw [ev4, ev6, b1 e]; exact ⟨by cases gV V c <;> cases gV V a <;> rfl, .inl rfl⟩
                · exact ⟨rfl, .inl rfl⟩
theorem look_val {m : List Node} {n : Nat} {V : List Bool} (hm : ∀ x ∈ m, okNd n x) (h : Vals m n V) {x : Node} (hx : okX n x) : FV1 V x (look m x) :=
  look_ind hm (FV1 V) (fun x hx _ => fold1_val hm h hx) (fun x r hx _ hr => by
    have hv := (fold1_val hm h hx).1
    exact ⟨hr.1.trans hv, hr.2.imp id fun e => e.trans hv⟩) 7 x hx (by have := hx.1; omega)
/-- what is used, and what stands -/
def FP2 (P : Int → Prop) (r : Node × Int) : Prop := (∀ z ∈ usesR r.1, P z) ∧ (r.2 = -1 ∨ P r.2)
def FP1 (P : Int → Prop) (x : Node) (r : Node × Int) : Prop := (∀ z ∈ usesR x, P z) → FP2 P r
theorem fold1_P {m : List Node} {n : Nat} {P : Int → Prop} (hP : ∀ z, P z → (nd m z).kind = 2 → P (nd m z).a) {x : Node} (hx : okX n x) : FP1 P x (fold1 m x) := by
  obtain ⟨k, a, b, c⟩ := x
  intro hu
  rcases kind6 hx.1 with hk | hk | hk | hk | hk | hk <;> dsimp only at hk <;> subst hk
  · exact ⟨hu, .inl rfl⟩
  · have ha : P a := hu a (by simp [usesR, many])
    show FP2 P (flipN m ⟨2, a, b, c⟩)
    unfold FP2 flipN
    dsimp only
    split
    · exact ⟨fun z hz => by simp [usesR, many] at hz, .inl rfl⟩
    · split
      · rename_i h2; exact ⟨hu, .inr (hP a ha h2)⟩
      · exact ⟨hu, .inl rfl⟩
  · have ha : P a := hu a (by simp [usesR, many])
    have hb : P b := hu b (by simp [usesR, many])
    show FP2 P (bothN m ⟨3, a, b, c⟩ 0)
    unfold FP2 bothN
    dsimp only
    repeat' split
    all_goals first
      | exact ⟨hu, .inl rfl⟩
      | exact ⟨hu, .inr hb⟩
      | exact ⟨hu, .inr ha⟩
      | (refine ⟨fun z hz => ?_, .inl rfl⟩ <;> (simp [usesR, many] at hz) <;> (first | (subst hz; assumption) | (rcases hz with rfl | rfl <;> assumption)))
  · have ha : P a := hu a (by simp [usesR, many])
    have hb : P b := hu b (by simp [usesR, many])
    show FP2 P (bothN m ⟨4, a, b, c⟩ 1)
    unfold FP2 bothN
    dsimp only
    repeat' split
    all_goals first
      | exact ⟨hu, .inl rfl⟩
      | exact ⟨hu, .inr hb⟩
      | exact ⟨hu, .inr ha⟩
      | (refine ⟨fun z hz => ?_, .inl rfl⟩ <;> (simp [usesR, many] at hz) <;> (first | (subst hz; assumption) | (rcases hz with rfl | rfl <;> assumption)))
  · have ha : P a := hu a (by simp [usesR, many])
    have hb : P b := hu b (by simp [usesR, many])
    show FP2 P (oddN m ⟨5, a, b, c⟩)
    unfold FP2 oddN
    dsimp only
    repeat' split
    all_goals first
      | exact ⟨hu, .inl rfl⟩
      | exact ⟨hu, .inr hb⟩
      | exact ⟨hu, .inr ha⟩
      | (refine ⟨fun z hz => ?_, .inl rfl⟩ <;> (simp [usesR, many] at hz) <;> (first | (subst hz; assumption) | (rcases hz with rfl | rfl <;> assumption)))
  · have ha : P a := hu a (by simp [usesR, many])
    have hb : P b := hu b (by simp [usesR, many])
    have hc : P c := hu c (by simp [usesR, many])
    show FP2 P (choiceN m ⟨6, a, b, c⟩)
    unfold FP2 choiceN
    dsimp only
    repeat' split
    all_goals first
      | exact ⟨hu, .inl rfl⟩
      | exact ⟨hu, .inr ha⟩
      | exact ⟨hu, .inr hb⟩
      | exact ⟨hu, .inr hc⟩
      | (refine ⟨fun z hz => ?_, .inl rfl⟩ <;> (simp [usesR, many] at hz) <;> (first | (subst hz; assumption) | (rcases hz with rfl | rfl <;> assumption)))
theorem look_P {m : List Node} {n : Nat} {P : Int → Prop} (hm : ∀ x ∈ m, okNd n x) (hP : ∀ z, P z → (nd m z).kind = 2 → P (nd m z).a) {x : Node} (hx : okX n x) (hu : ∀ z ∈ usesR x, P z) : (∀ z ∈ usesR (look m x).1, P z) ∧ ((look m x).2 = -1 ∨ P (look m x).2) :=
  look_ind hm (FP1 P) (fun x hx _ => fold1_P hP hx) (fun x r hx _ hr hu => hr ((fold1_P hP hx hu).1)) 7 x hx (by have := hx.1; omega) hu
theorem fold1_right {m : List Node} {n : Nat} (hm : ∀ x ∈ m, okNd n x) {x : Node} (hx : okX n x) (hr : rightB x n = true) : rightB (fold1 m x).1 n = true := by
  obtain ⟨k, a, b, c⟩ := x
  have hn := nd_ok hm
  rcases kind6 hx.1 with hk | hk | hk | hk | hk | hk <;> dsimp only at hk <;> subst hk
  · exact hr
  · show rightB (flipN m ⟨2, a, b, c⟩).1 n = true
    unfold flipN
    dsimp only
    split
    · rename_i h0
      have := (hn a).1 h0
      simp [rightB, usesR, many, bitB]
      omega
    · split <;> exact hr
  · show rightB (bothN m ⟨3, a, b, c⟩ 0).1 n = true
    unfold bothN
    dsimp only
    repeat' split
    all_goals first
      | exact hr
      | (simp [rightB, usesR, many, bitB]; done)
  · show rightB (bothN m ⟨4, a, b, c⟩ 1).1 n = true
    unfold bothN
    dsimp only
    repeat' split
    all_goals first
      | exact hr
      | (simp [rightB, usesR, many, bitB]; done)
  · obtain ⟨ha, hb⟩ := uses_ab hx (.inr (.inr rfl))
    show rightB (oddN m ⟨5, a, b, c⟩).1 n = true
    unfold oddN
    dsimp only
    repeat' split
    all_goals first
      | exact hr
      | (simp [rightB, usesR, many, bitB]; done)
      | (simp [rightB, usesR, many, bitB]; omega)
  · obtain ⟨ha, hb, hc⟩ := uses_abc hx
    show rightB (choiceN m ⟨6, a, b, c⟩).1 n = true
    unfold choiceN
    dsimp only
    repeat' split
    all_goals first
      | exact hr
      | (simp [rightB, usesR, many, bitB]; omega)
theorem look_right {m : List Node} {n : Nat} (hm : ∀ x ∈ m, okNd n x) {x : Node} (hx : okX n x) (hr : rightB x n = true) : rightB (look m x).1 n = true :=
  look_ind hm (fun x r => rightB x n = true → rightB r.1 n = true) (fun x hx _ hr => fold1_right hm hx hr) (fun x r hx _ ih hr => ih (fold1_right hm hx hr)) 7 x hx (by have := hx.1; omega) hr
end Go.Proofs.Ytbfjacgfifecpaa
