/- share.Share, plain: what stands for a node has its value; the shared net may be. -/
import Derived.Test.YtbfjacgfifecpaaJShM
import Derived.Test.YtbfjacgfifecpaaSiI
namespace Go.Proofs.Ytbfjacgfifecpaa

theorem kind_cases {k : Int} (h : 0 ≤ k ∧ k ≤ 7) : k = 0 ∨ k = 1 ∨ k = 2 ∨ k = 3 ∨ k = 4 ∨ k = 5 ∨ k = 6 ∨ k = 7 := by omega
theorem ren0 (f : Nat → Nat) (a b c : Int) : renN f ⟨0, a, b, c⟩ = ⟨0, a, b, c⟩ := rfl
theorem ren1 (f : Nat → Nat) (a b c : Int) : renN f ⟨1, a, b, c⟩ = ⟨1, a, b, c⟩ := rfl
theorem ren2 (f : Nat → Nat) (a b c : Int) : renN f ⟨2, a, b, c⟩ = ⟨2, (f a.toNat : Int), b, c⟩ := rfl
theorem ren3 (f : Nat → Nat) (a b c : Int) : renN f ⟨3, a, b, c⟩ = ⟨3, (f a.toNat : Int), (f b.toNat : Int), c⟩ := rfl
theorem ren4 (f : Nat → Nat) (a b c : Int) : renN f ⟨4, a, b, c⟩ = ⟨4, (f a.toNat : Int), (f b.toNat : Int), c⟩ := rfl
theorem ren5 (f : Nat → Nat) (a b c : Int) : renN f ⟨5, a, b, c⟩ = ⟨5, (f a.toNat : Int), (f b.toNat : Int), c⟩ := rfl
theorem ren6 (f : Nat → Nat) (a b c : Int) : renN f ⟨6, a, b, c⟩ = ⟨6, (f a.toNat : Int), (f b.toNat : Int), (f c.toNat : Int)⟩ := rfl
theorem ren7 (f : Nat → Nat) (a b c : Int) : renN f ⟨7, a, b, c⟩ = ⟨7, (f a.toNat : Int), b, c⟩ := rfl
theorem valB_keyN (x : Node) (V st inn : List Bool) (u : Nat) : valB (keyN x) V st inn u = valB x V st inn u := by
  unfold keyN
  split
  · rename_i h
    obtain ⟨k, a, b, c⟩ := x
    dsimp only at h
    rcases (show k = 3 ∨ k = 4 ∨ k = 5 by omega) with rfl | rfl | rfl
    · exact Bool.and_comm _ _
    · exact Bool.or_comm _ _
    · show (at_ V b != at_ V a) = (at_ V a != at_ V b)
      cases at_ V a <;> cases at_ V b <;> rfl
  · rfl
theorem valB_renN {f : Nat → Nat} {x : Node} {n : Nat} {V st inn : List Bool} {u : Nat} (hr : rightB x n = true) (h : ∀ v ∈ usesN x, V.getD (f v) false = V.getD v false) : valB (renN f x) V st inn u = valB x V st inn u := by
  have hk := rightB_kind hr
  obtain ⟨k, a, b, c⟩ := x
  rcases kind_cases hk with h0 | h0 | h0 | h0 | h0 | h0 | h0 | h0 <;> dsimp only at h0 <;> subst h0
  · rfl
  · rfl
  · have h1 := h a.toNat (by simp [usesN, usesR, many])
    show (!V.getD (f a.toNat) false) = (!V.getD a.toNat false)
    rw [h1]
  · have h1 := h a.toNat (by simp [usesN, usesR, many])
    have h2 := h b.toNat (by simp [usesN, usesR, many])
    show (V.getD (f a.toNat) false && V.getD (f b.toNat) false) = (V.getD a.toNat false && V.getD b.toNat false)
    rw [h1, h2]
  · have h1 := h a.toNat (by simp [usesN, usesR, many])
    have h2 := h b.toNat (by simp [usesN, usesR, many])
    show (V.getD (f a.toNat) false || V.getD (f b.toNat) false) = (V.getD a.toNat false || V.getD b.toNat false)
    rw [h1, h2]
  · have h1 := h a.toNat (by simp [usesN, usesR, many])
    have h2 := h b.toNat (by simp [usesN, usesR, many])
    show (V.getD (f a.toNat) false != V.getD (f b.toNat) false) = (V.getD a.toNat false != V.getD b.toNat false)
    rw [h1, h2]
  · have h1 := h a.toNat (by simp [usesN, usesR, many])
    have h2 := h b.toNat (by simp [usesN, usesR, many])
    have h3 := h c.toNat (by simp [usesN, usesR, many])
    show (if V.getD (f c.toNat) false = true then V.getD (f b.toNat) false else V.getD (f a.toNat) false) = (if V.getD c.toNat false = true then V.getD b.toNat false else V.getD a.toNat false)
    rw [h1, h2, h3]
  · rfl
theorem valB_byN {f : Nat → Nat} {x : Node} {n : Nat} {V st inn : List Bool} {u : Nat} (hr : rightB x n = true) (h : ∀ v ∈ usesN x, V.getD (f v) false = V.getD v false) : valB (byN f x) V st inn u = valB x V st inn u := by
  unfold byN
  rw [valB_keyN, valB_renN hr h]
theorem byN_congr {f g : Nat → Nat} {x : Node} (h : ∀ v ∈ (usesR x).map Int.toNat, f v = g v) : byN f x = byN g x := by
  have hb := many_bd x.kind
  obtain ⟨k, a, b, c⟩ := x
  dsimp only at hb
  unfold byN
  congr 1
  rcases (show many k = -1 ∨ many k = 0 ∨ many k = 1 ∨ many k = 2 ∨ many k = 3 by omega) with e | e | e | e | e <;> simp [usesR, e] at h <;> simp [renN, e]
  · rw [h]
  · rw [h.1, h.2]; exact ⟨rfl, rfl⟩
  · rw [h.1, h.2.1, h.2.2]; exact ⟨rfl, rfl, rfl⟩
theorem usesN_kN {x : Node} (h : ¬ x.kind = 7) : usesN x = (usesR x).map Int.toNat := by rw [usesN, if_neg h]
theorem lvl_two (a b : Nat) (l : List Int) : lvl [b, a] l = lvl [a, b] l := by
  simp only [lvl, List.foldl_cons, List.foldl_nil]
  omega
theorem lvl_keyN (x : Node) (l : List Int) : lvl (usesN (keyN x)) l = lvl (usesN x) l := by
  unfold keyN
  split
  · rename_i h
    obtain ⟨k, a, b, c⟩ := x
    dsimp only at h
    rcases (show k = 3 ∨ k = 4 ∨ k = 5 by omega) with rfl | rfl | rfl <;> exact lvl_two _ _ _
  · rfl
theorem lvl_map {f : Nat → Nat} {l : List Int} {us : List Nat} (h : ∀ v ∈ us, l.getD (f v) 0 = l.getD v 0) : lvl (us.map f) l = lvl us l := by
  unfold lvl
  rw [List.foldl_map]
  have : ∀ m : Int, us.foldl (fun m u => max m (l.getD (f u) 0 + 1)) m = us.foldl (fun m u => max m (l.getD u 0 + 1)) m := by
    induction us with
    | nil => intro m; rfl
    | cons a us ih => intro m; rw [List.foldl_cons, List.foldl_cons, h a List.mem_cons_self, ih fun v hv => h v (List.mem_cons_of_mem _ hv)]
  exact this 0
theorem usesN_renN {f : Nat → Nat} {x : Node} {n : Nat} (hr : rightB x n = true) : usesN (renN f x) = (usesN x).map f := by
  have hk := rightB_kind hr
  obtain ⟨k, a, b, c⟩ := x
  rcases kind_cases hk with h0 | h0 | h0 | h0 | h0 | h0 | h0 | h0 <;> dsimp only at h0 <;> subst h0 <;> rfl
theorem lvl_byN {f : Nat → Nat} {x : Node} {n : Nat} {l : List Int} (hr : rightB x n = true) (h : ∀ v ∈ usesN x, l.getD (f v) 0 = l.getD v 0) : lvl (usesN (byN f x)) l = lvl (usesN x) l := by
  unfold byN
  rw [lvl_keyN, usesN_renN hr, lvl_map h]
theorem rightB_keyN {x : Node} {n : Nat} (hr : rightB x n = true) : rightB (keyN x) n = true := by
  unfold keyN
  split
  · rename_i h
    have hu := rightB_uses hr
    obtain ⟨k, a, b, c⟩ := x
    dsimp only at h
    rcases (show k = 3 ∨ k = 4 ∨ k = 5 by omega) with rfl | rfl | rfl <;> simp [usesR, many] at hu <;> simp [rightB, usesR, many] at hr ⊢ <;> omega
  · exact hr
theorem rightB_renN {f : Nat → Nat} {x : Node} {n : Nat} (hr : rightB x n = true) (hf : ∀ v, v < n → f v < n) : rightB (renN f x) n = true := by
  have hk := rightB_kind hr
  have hu := rightB_uses hr
  obtain ⟨k, a, b, c⟩ := x
  have hfi : ∀ z : Int, 0 ≤ z ∧ z < n → (f z.toNat : Int) < n := fun z hz => by have := hf z.toNat (by omega); omega
  rcases kind_cases hk with h0 | h0 | h0 | h0 | h0 | h0 | h0 | h0 <;> dsimp only at h0 <;> subst h0
  · exact hr
  · exact hr
  · rw [ren2]; simp [usesR, many] at hu; simp [rightB, usesR, many] at hr ⊢; exact ⟨hf _ (by omega), hr.2⟩
  · rw [ren3]; simp [usesR, many] at hu; simp [rightB, usesR, many] at hr ⊢; exact ⟨⟨hf _ (by omega), hf _ (by omega)⟩, hr.2⟩
  · rw [ren4]; simp [usesR, many] at hu; simp [rightB, usesR, many] at hr ⊢; exact ⟨⟨hf _ (by omega), hf _ (by omega)⟩, hr.2⟩
  · rw [ren5]; simp [usesR, many] at hu; simp [rightB, usesR, many] at hr ⊢; exact ⟨⟨hf _ (by omega), hf _ (by omega)⟩, hr.2⟩
  · rw [ren6]; simp [usesR, many] at hu; simp [rightB, usesR, many] at hr ⊢; exact ⟨hf _ (by omega), hf _ (by omega), hf _ (by omega)⟩
  · rw [ren7]; simp [usesR, many] at hu; simp [rightB, usesR, many] at hr ⊢; exact ⟨hf _ (by omega), hr.2⟩
theorem rightB_byN {f : Nat → Nat} {x : Node} {n : Nat} (hr : rightB x n = true) (hf : ∀ v, v < n → f v < n) : rightB (byN f x) n = true := rightB_keyN (rightB_renN hr hf)
theorem byN_sp {f : Nat → Nat} {x : Node} (h : x.kind = 1) : byN f x = x := by
  obtain ⟨k, a, b, c⟩ := x
  dsimp only at h
  subst h
  rfl
theorem valB_index {x : Node} {V st inn : List Bool} {u v : Nat} (h1 : x.kind ≠ 1) (h7 : x.kind ≠ 7) : valB x V st inn u = valB x V st inn v := by
  unfold valB
  simp only [h1, h7, if_false]

structure SV (nodes : List Node) (l : List Int) (o : List Nat) (s : ShS) : Prop where
  use : ∀ u ∈ o, ¬ spN nodes u → ∀ v ∈ useI nodes u, v ∈ o
  bym : ∀ u ∈ o, ∀ x, nodes[u]? = some x → ¬ spN nodes u → s.m[u]? = some (byN (stF s.st) x)
  fm : ∀ y a, s.fm.lookup y = some a → s.m[a]? = some y ∧ ¬ spN nodes a ∧ a ∈ o
  val : ∀ st inn V, IsVal nodes st inn V → ∀ u ∈ o, V.getD (stF s.st u) false = V.getD u false
  lev : ∀ u ∈ o, l.getD (stF s.st u) 0 = l.getD u 0
theorem SV.init (nodes : List Node) (l : List Int) : SV nodes l [] ⟨nodes, List.range nodes.length, [], 0⟩ :=
  ⟨fun u hu => by simp at hu, fun u hu => by simp at hu, fun y a h => by simp at h, fun st inn V _ u hu => by simp at hu, fun u hu => by simp at hu⟩
theorem usesN_useI {nodes : List Node} {u : Nat} {x : Node} (hx : nodes[u]? = some x) (h : ¬ spN nodes u) : usesN x = useI nodes u := by
  rw [useI_at hx, usesN, if_neg (fun e => h (.inr (by rw [kindAt_eq hx]; exact e)))]
theorem SV.step {nodes : List Node} {l : List Int} {o : List Nat} {s : ShS} (h : SV nodes l o s) (hS : SL nodes o s) (hf : Frm nodes) (hl : IsLev nodes l) {a : Nat} (ha : a < nodes.length) (hao : a ∉ o) (hu : ¬ spN nodes a → ∀ u ∈ useI nodes a, u ∈ o) :
    SV nodes l (o ++ [a]) (shStep nodes s a) := by
  have hnx := List.getElem?_eq_getElem ha
  have hxm : nodes[a] ∈ nodes := List.getElem_mem ha
  obtain ⟨x, hx⟩ : ∃ x, nodes[a] = x := ⟨_, rfl⟩
  rw [hx] at hnx hxm
  have hka : kindAt nodes a = x.kind := kindAt_eq hnx
  have hmem : ∀ {u : Nat}, u ∈ o ++ [a] ↔ u ∈ o ∨ u = a := fun {u} => by simp
  unfold shStep
  rw [hnx]
  dsimp only
  by_cases hs : x.kind = 1 ∨ x.kind = 7
  · rw [if_pos hs]
    have hsp : spN nodes a := by unfold spN; rw [hka]; exact hs
    refine ⟨fun u hm hns v hv => ?_, fun u hm z hz hns => ?_, fun y b hb => ?_, fun st inn V hV u hm => ?_, fun u hm => ?_⟩
    · rcases hmem.1 hm with hm | rfl
      · exact hmem.2 (.inl (h.use u hm hns v hv))
      · exact absurd hsp hns
    · rcases hmem.1 hm with hm | rfl
      · exact h.bym u hm z hz hns
      · exact absurd hsp hns
    · obtain ⟨r1, r2, r3⟩ := h.fm y b hb
      exact ⟨r1, r2, hmem.2 (.inl r3)⟩
    · rcases hmem.1 hm with hm | rfl
      · exact h.val st inn V hV u hm
      · rw [hS.sp _ ha hsp]
    · rcases hmem.1 hm with hm | rfl
      · exact h.lev u hm
      · rw [hS.sp _ ha hsp]
  · rw [if_neg hs]
    have hsp : ¬ spN nodes a := by unfold spN; rw [hka]; exact hs
    have hua := hu hsp
    have hus : ∀ v ∈ usesN x, v ∈ o := by rw [usesN_useI hnx hsp]; exact hua
    have hal : a < s.m.length := by rw [hS.lm]; exact ha
    have hasl : a < s.st.length := by rw [hS.ls]; exact ha
    have hra := hf x hxm
    obtain ⟨y, hy⟩ : ∃ y, byN (stF s.st) x = y := ⟨_, rfl⟩
    rw [hy]
    have hne : ∀ u ∈ o, u ≠ a := fun u hm e => hao (e ▸ hm)
    have hma : ∀ u, u ≠ a → (s.m.set a y)[u]? = s.m[u]? := fun u hne => by rw [List.getElem?_set, if_neg (fun e => hne e.symm)]
    have hmaa : (s.m.set a y)[a]? = some y := by rw [List.getElem?_set]; simp [hal]
    have hkx : x.kind ≠ 1 ∧ x.kind ≠ 7 := by omega
    have hky : y.kind ≠ 1 ∧ y.kind ≠ 7 := by rw [← hy, kind_byN]; exact hkx
    have hvy : ∀ st inn V, IsVal nodes st inn V → V.getD a false = valB y V st inn a := fun st inn V hV => by
      rw [hV.2 a x hnx, ← hy]
      exact (valB_byN hra fun v hv => h.val st inn V hV v (hus v hv)).symm
    have hly : l.getD a 0 = lvl (usesN y) l := by
      rw [hl.2 a x hnx, ← hy]
      exact (lvl_byN hra fun v hv => h.lev v (hus v hv)).symm
    have huse : ∀ u ∈ o ++ [a], ¬ spN nodes u → ∀ v ∈ useI nodes u, v ∈ o ++ [a] := fun u hm hns v hv => by
      rcases hmem.1 hm with hm | rfl
      · exact hmem.2 (.inl (h.use u hm hns v hv))
      · exact hmem.2 (.inl (hua v hv))
    cases hlk : s.fm.lookup y with
    | some was =>
      obtain ⟨w1, w2, w3⟩ := h.fm y was hlk
      have hwn := (hS.fmOut y was hlk).2.1
      have hwx := List.getElem?_eq_getElem hwn
      have hwb := h.bym was w3 _ hwx w2
      rw [w1] at hwb
      injection hwb with hwb
      have hwu : ∀ v ∈ usesN nodes[was], v ∈ o := by rw [usesN_useI hwx w2]; exact h.use was w3 w2
      have hrw := hf _ (List.getElem_mem hwn)
      have hst : ∀ u, stF (s.st.set a was) u = if u = a then was else stF s.st u := fun u => stF_set hasl
      refine ⟨huse, fun u hm z hz hns => ?_, fun z b hb => ?_, fun st inn V hV u hm => ?_, fun u hm => ?_⟩
      · show (s.m.set a y)[u]? = some (byN (stF (s.st.set a was)) z)
        rcases hmem.1 hm with hm | rfl
        · rw [hma u (hne u hm), h.bym u hm z hz hns]
          congr 1
          refine byN_congr fun v hv => ?_
          have hvo := h.use u hm hns v (by rw [useI_at hz]; exact hv)
          rw [hst, if_neg (hne v hvo)]
        · rw [hmaa]
          rw [hnx] at hz
          injection hz with hz
          subst hz
          rw [← hy]
          congr 1
          refine byN_congr fun v hv => ?_
          have hvo := hua v (by rw [useI_at hnx]; exact hv)
          rw [hst, if_neg (hne v hvo)]
      · obtain ⟨r1, r2, r3⟩ := h.fm z b hb
        exact ⟨by show (s.m.set a y)[b]? = _; rw [hma b (hne b r3)]; exact r1, r2, hmem.2 (.inl r3)⟩
      · show V.getD (stF (s.st.set a was) u) false = _
        rw [hst]
        rcases hmem.1 hm with hm | rfl
        · rw [if_neg (hne u hm)]
          exact h.val st inn V hV u hm
        · rw [if_pos rfl, hvy st inn V hV, hV.2 was _ hwx, hwb]
          rw [valB_byN hrw fun v hv => h.val st inn V hV v (hwu v hv)]
          have hk2 : nodes[was].kind = y.kind := by rw [hwb, kind_byN]
          exact valB_index (by rw [hk2]; exact hky.1) (by rw [hk2]; exact hky.2)
      · show l.getD (stF (s.st.set a was) u) 0 = _
        rw [hst]
        rcases hmem.1 hm with hm | rfl
        · rw [if_neg (hne u hm)]
          exact h.lev u hm
        · rw [if_pos rfl, hly, hl.2 was _ hwx, hwb]
          exact (lvl_byN hrw fun v hv => h.lev v (hwu v hv)).symm
    | none =>
      have hsa : stF s.st a = a := hS.out1 a ha hao
      refine ⟨huse, fun u hm z hz hns => ?_, fun z b hb => ?_, fun st inn V hV u hm => ?_, fun u hm => ?_⟩
      · show (s.m.set a y)[u]? = some (byN (stF s.st) z)
        rcases hmem.1 hm with hm | rfl
        · rw [hma u (hne u hm)]; exact h.bym u hm z hz hns
        · rw [hmaa]
          rw [hnx] at hz
          injection hz with hz
          subst hz
          rw [hy]
      · have hb' : ((y, a) :: s.fm).lookup z = some b := hb
        show (s.m.set a y)[b]? = _ ∧ _
        by_cases e : z = y
        · subst e
          simp [List.lookup] at hb'
          subst hb'
          exact ⟨hmaa, hsp, hmem.2 (.inr rfl)⟩
        · have hbz : (z == y) = false := by simpa using e
          simp [List.lookup, hbz] at hb'
          obtain ⟨r1, r2, r3⟩ := h.fm z b hb'
          exact ⟨by rw [hma b (hne b r3)]; exact r1, r2, hmem.2 (.inl r3)⟩
      · rcases hmem.1 hm with hm | rfl
        · exact h.val st inn V hV u hm
        · show V.getD (stF s.st u) false = _
          rw [hsa]
      · rcases hmem.1 hm with hm | rfl
        · exact h.lev u hm
        · show l.getD (stF s.st u) 0 = _
          rw [hsa]
theorem share_val {nodes : List Node} {ins outs : List Port} {l : List Int} (hlev : LevOut nodes ins outs 0 l) : SL nodes (ordL l) (shRun nodes (ordL l)) ∧ SV nodes l (ordL l) (shRun nodes (ordL l)) := by
  have hez := errP_zero hlev.choose_spec.1.symm
  have hfo := formed_in hez.2.1
  have hf := Frm.of hez.2.1
  have hisl : IsLev nodes l := by obtain ⟨b, h1, h2, h3, h4, h5⟩ := hlev; exact h4 rfl
  obtain ⟨hb, hall⟩ := beh_of_lev hf hisl
  have hol : (ordL l).length = nodes.length := by rw [ordL_length (lev_nonneg hisl), hisl.1]
  have hok : ∀ x ∈ nodes, NOk x := fun x hx => right_ok (hf x hx) (by omega)
  have key : ∀ j, j ≤ nodes.length → SL nodes ((ordL l).take j) (shRun nodes ((ordL l).take j)) ∧ SV nodes l ((ordL l).take j) (shRun nodes ((ordL l).take j)) := by
    intro j
    induction j with
    | zero => exact fun _ => by rw [List.take_zero]; exact ⟨SL.init nodes, SV.init nodes l⟩
    | succ j ih =>
      intro hj
      have hlo : j < (ordL l).length := by omega
      have hT := List.take_succ_eq_append_getElem hlo
      obtain ⟨b1, b2, b3⟩ := hb.at_ j hlo
      obtain ⟨i1, i2⟩ := ih (by omega)
      have hnx := List.getElem?_eq_getElem b1
      have huse : ¬ spN nodes (ordL l)[j] → ∀ u ∈ useI nodes (ordL l)[j], u ∈ (ordL l).take j := fun hns u hu => by
        refine b3 u ?_
        rw [useAt_at hnx, usesN_useI hnx hns]
        exact hu
      rw [hT, shRun_snoc]
      exact ⟨i1.step hok (by omega) b1 b2 (fun hns u hu => ⟨huse hns u hu, inU_of hfo.1 _ u hu⟩) (fun x hx u hu => (hfo.1 x hx u hu).1), i2.step i1 hf hisl b1 b2 huse⟩
  have h := key nodes.length (Nat.le_refl _)
  rw [List.take_of_length_le (by omega)] at h
  exact h

/-- the shared net may be, and tells the same -/
theorem share_same {nodes : List Node} {ins outs : List Port} {l : List Int} (hlev : LevOut nodes ins outs 0 l) (s : ShS) (hs : shRun nodes (ordL l) = s) (n' : List Node) (hn' : dfRun nodes s.st s.m nodes.length = n') :
    n'.length = nodes.length ∧ (∀ b, errP n' ins (outs.map (rpP (stF s.st))) b = errP nodes ins outs b) ∧ IsLev n' l ∧ (outs.map (rpP (stF s.st))).map wideP = outs.map wideP ∧ ∀ script, throughC nodes ins outs script = throughC n' ins (outs.map (rpP (stF s.st))) script := by
  obtain ⟨hSL, hSV⟩ := share_val hlev
  rw [hs] at hSL hSV
  have hez := errP_zero hlev.choose_spec.1.symm
  have hfo := formed_in hez.2.1
  have hf := Frm.of hez.2.1
  have hisl : IsLev nodes l := by obtain ⟨b, h1, h2, h3, h4, h5⟩ := hlev; exact h4 rfl
  obtain ⟨-, hall⟩ := beh_of_lev hf hisl
  obtain ⟨hlen, hat⟩ := dfRun_at (nodes := nodes) (st := s.st) hSL.lm nodes.length (Nat.le_refl _)
  rw [hn'] at hlen hat
  have hby : ∀ u x, nodes[u]? = some x → n'[u]? = some (byN (stF s.st) x) := fun u x hx => by
    have hul := (List.getElem?_eq_some_iff.1 hx).1
    have hk := kindAt_eq hx
    rw [hat u]
    by_cases hc : u < nodes.length ∧ kindAt nodes u = 7
    · rw [if_pos hc, hx]; rfl
    · rw [if_neg hc]
      by_cases hsp : spN nodes u
      · have h1 : x.kind = 1 := by
          rcases hsp with e | e
          · rw [← hk]; exact e
          · exact absurd ⟨hul, e⟩ hc
        rw [hSL.outm u hul (.inr hsp), hx, byN_sp h1]
      · exact hSV.bym u (hall u hul) x hx hsp
  have hinv : ∀ u y, n'[u]? = some y → ∃ x, nodes[u]? = some x ∧ y = byN (stF s.st) x := fun u y hy => by
    have hul : u < nodes.length := by rw [← hlen]; exact (List.getElem?_eq_some_iff.1 hy).1
    have hx := List.getElem?_eq_getElem hul
    rw [hby u _ hx] at hy
    injection hy with hy
    exact ⟨_, hx, hy.symm⟩
  have hmap : n' = nodes.map (byN (stF s.st)) := by
    apply List.ext_getElem?
    intro u
    rw [List.getElem?_map]
    cases hx : nodes[u]? with
    | none =>
      show n'[u]? = none
      rw [List.getElem?_eq_none_iff] at hx ⊢
      omega
    | some x => rw [hby u x hx]; rfl
  have hlt : ∀ v, v < nodes.length → stF s.st v < nodes.length := fun v hv => (hSL.rep v hv).1
  have hVf : ∀ st inn V, IsVal nodes st inn V → ∀ u, u < nodes.length → V.getD (stF s.st u) false = V.getD u false := fun st inn V hV u hu => hSV.val st inn V hV u (hall u hu)
  have hf2 : Frm n' := fun y hy => by
    rw [hmap] at hy
    obtain ⟨x, hx, rfl⟩ := List.mem_map.1 hy
    rw [hlen]
    exact rightB_byN (hf x hx) hlt
  have hl2 : IsLev n' l := ⟨by rw [hlen]; exact hisl.1, fun u y hy => by
    obtain ⟨x, hx, rfl⟩ := hinv u y hy
    rw [hisl.2 u x hx]
    exact (lvl_byN (hf x (List.mem_of_getElem? hx)) fun v hv => hSV.lev v (hall v (hf.uses (u := u) (by rw [useAt_at hx]; exact hv)))).symm⟩
  have hwide : (outs.map (rpP (stF s.st))).map wideP = outs.map wideP := by
    rw [List.map_map]
    refine List.map_congr_left fun p _ => ?_
    simp [wideP, rpP]
  have hname : (ins ++ outs.map (rpP (stF s.st))).map (·.name) = (ins ++ outs).map (·.name) := by
    rw [List.map_append, List.map_append, List.map_map]
    rfl
  have hbad : (ins ++ outs.map (rpP (stF s.st))).any badName = (ins ++ outs).any badName := by
    rw [List.any_append, List.any_append, List.any_map]
    rfl
  have hkind : ∀ u, kindAt n' u = kindAt nodes u := fun u => by
    cases hx : nodes[u]? with
    | none =>
      have hy : n'[u]? = none := by rw [List.getElem?_eq_none_iff] at hx ⊢; omega
      rw [kindAt, kindAt, hx, hy]
    | some x => rw [kindAt_eq (hby u x hx), kindAt_eq hx, kind_byN]
  have hhome : homeB n' ins = homeB nodes ins := by
    unfold homeB
    rw [hlen, show homeAt n' (ins.flatMap (·.bits)) = homeAt nodes (ins.flatMap (·.bits)) from funext fun u => by unfold homeAt; rw [hkind]]
  have hform : formedB n' ins (outs.map (rpP (stF s.st))) = formedB nodes ins outs := by
    rw [hez.2.1, formedB, Bool.and_eq_true, List.all_eq_true, List.all_eq_true]
    refine ⟨hf2, fun p hp => ?_⟩
    rw [hlen]
    have h := hez.2.1
    rw [formedB, Bool.and_eq_true, List.all_eq_true, List.all_eq_true] at h
    rcases List.mem_append.1 hp with hp | hp
    · exact h.2 p (List.mem_append_left _ hp)
    · obtain ⟨q, hq, rfl⟩ := List.mem_map.1 hp
      have hq2 := h.2 q (List.mem_append_right _ hq)
      simp only [portB, rpP, Bool.and_eq_true, decide_eq_true_eq, List.all_eq_true] at hq2 ⊢
      refine ⟨decide_eq_true fun e => hq2.1 (List.map_eq_nil_iff.1 e), fun b hb => ?_⟩
      obtain ⟨z, hz, rfl⟩ := List.mem_map.1 hb
      have hz2 := hq2.2 z hz
      have := hlt z.toNat (by omega)
      unfold rpB
      omega
  refine ⟨hlen, fun b => ?_, hl2, hwide, fun script => ?_⟩
  · unfold errP
    rw [hlen, hform, hbad, hname, hhome, List.length_map]
  · refine through_same id hf hf2 hisl hl2 rfl ?_ (fun ms _ => by rw [hlen]; rfl) (fun st inn V _ _ hV => ?_) (fun st inn V hV => ?_) (fun st inn V hV => ?_) script
    · rw [hmap]
      unfold startR
      rw [List.map_map]
      refine List.map_congr_left fun x hx => ?_
      show (decide ((byN (stF s.st) x).kind = 7) && decide ((byN (stF s.st) x).b = 1)) = _
      rw [kind_byN]
      by_cases h7 : x.kind = 7
      · obtain ⟨k, a, b, c⟩ := x
        dsimp only at h7
        subst h7
        rfl
      · simp [h7]
    · refine ⟨by rw [hlen]; exact hV.1, fun u y hy => ?_⟩
      obtain ⟨x, hx, rfl⟩ := hinv u y hy
      show V.getD u false = _
      rw [hV.2 u x hx]
      exact (valB_byN (hf x (List.mem_of_getElem? hx)) fun v hv => hVf st inn V hV v (hf.uses (u := u) (by rw [useAt_at hx]; exact hv))).symm
    · rw [hmap]
      unfold nextR
      rw [List.map_map]
      refine List.map_congr_left fun x hx => ?_
      show (decide ((byN (stF s.st) x).kind = 7) && at_ V (byN (stF s.st) x).a) = _
      rw [kind_byN]
      by_cases h7 : x.kind = 7
      · have hr := (rightB_reg (hf x hx) h7).2
        obtain ⟨k, a, b, c⟩ := x
        dsimp only at h7 hr
        subst h7
        show (true && V.getD (stF s.st a.toNat) false) = (true && V.getD a.toNat false)
        rw [hVf st inn V hV a.toNat (by omega)]
      · simp [h7]
    · unfold outsR
      rw [List.map_map]
      refine List.map_congr_left fun p hp => ?_
      show parts32 (numB (p.bits.map (rpB (stF s.st))) V) = parts32 (numB p.bits V)
      unfold numB
      rw [List.map_map]
      congr 2
      refine List.map_congr_left fun b hb => ?_
      have hb2 := (hfo.2 p (List.mem_append_right _ hp)).2 b hb
      exact hVf st inn V hV b.toNat (by omega)
end Go.Proofs.Ytbfjacgfifecpaa
