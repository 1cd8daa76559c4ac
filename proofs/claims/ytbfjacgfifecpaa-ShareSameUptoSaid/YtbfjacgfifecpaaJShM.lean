/- Joined texts: ShL, ShM, ShN. -/
import Derived.Test.YtbfjacgfifecpaaJShA
import Derived.Test.YtbfjacgfifecpaaNOrd
import Derived.Test.YtbfjacgfifecpaaM10

/-! ## share.Share, plain: which nodes are the same. -/
namespace Go.Proofs.Ytbfjacgfifecpaa
open Go.RowKit

def spN (nodes : List Node) (u : Nat) : Prop := kindAt nodes u = 1 ∨ kindAt nodes u = 7
theorem stF_set {st : List Nat} {a was u : Nat} (ha : a < st.length) : stF (st.set a was) u = if u = a then was else stF st u := by
  unfold stF
  rw [List.getD_eq_getElem?_getD, List.getElem?_set, List.getD_eq_getElem?_getD]
  by_cases e : a = u
  · subst e; simp [ha]
  · rw [if_neg e, if_neg (fun h => e h.symm)]
theorem uses_keyN {x : Node} {z : Int} : z ∈ usesR (keyN x) ↔ z ∈ usesR x := by
  unfold keyN
  split
  · rename_i h
    obtain ⟨k, a, b, c⟩ := x
    dsimp only at h
    have hm : many k = 2 := by
      unfold many
      rw [if_neg (by omega), if_neg (by omega), if_pos (by omega)]
    simp only [usesR, hm]
    show z ∈ [b, a] ↔ z ∈ [a, b]
    simp [or_comm]
  · rfl
theorem uses_renN {f : Nat → Nat} {x : Node} {z : Int} (h : z ∈ usesR (renN f x)) : ∃ u ∈ usesR x, z = (f u.toNat : Int) := by
  have hb := many_bd x.kind
  obtain ⟨k, a, b, c⟩ := x
  dsimp only at hb
  rcases (show many k = -1 ∨ many k = 0 ∨ many k = 1 ∨ many k = 2 ∨ many k = 3 by omega) with e | e | e | e | e <;> simp [usesR, renN, e] at h ⊢
  · exact h
  · rcases h with h | h
    · exact .inl h
    · exact .inr h
  · rcases h with h | h | h
    · exact .inl h
    · exact .inr (.inl h)
    · exact .inr (.inr h)
theorem kind_byN (f : Nat → Nat) (x : Node) : (byN f x).kind = x.kind := by
  unfold byN keyN
  split <;> rfl
theorem uses_byN {f : Nat → Nat} {x : Node} {z : Int} (h : z ∈ usesR (byN f x)) : ∃ u ∈ usesR x, z = (f u.toNat : Int) := uses_renN (uses_keyN.1 h)

structure SL (nodes : List Node) (o : List Nat) (s : ShS) : Prop where
  lm : s.m.length = nodes.length
  ls : s.st.length = nodes.length
  out1 : ∀ u, u < nodes.length → u ∉ o → stF s.st u = u
  outm : ∀ u, u < nodes.length → (u ∉ o ∨ spN nodes u) → s.m[u]? = nodes[u]?
  sp : ∀ u, u < nodes.length → spN nodes u → stF s.st u = u
  rep : ∀ u, u < nodes.length → stF s.st u < nodes.length ∧ stF s.st (stF s.st u) = stF s.st u ∧ (u ∈ o → stF s.st u ∈ o)
  gate : ∀ u ∈ o, u < nodes.length → ¬ spN nodes u → ∃ y, s.m[u]? = some y ∧ keyN y = y ∧ NOk y ∧ y.kind ≠ 1 ∧ y.kind ≠ 7 ∧ ∀ z ∈ usesR y, ∃ v : Nat, z = (v : Int) ∧ v < nodes.length ∧ stF s.st v = v ∧ v ∈ o
  fmIn : ∀ u ∈ o, u < nodes.length → ¬ spN nodes u → stF s.st u = u → ∀ y, s.m[u]? = some y → s.fm.lookup y = some u
  fmOut : ∀ y a, s.fm.lookup y = some a → a ∈ o ∧ a < nodes.length ∧ stF s.st a = a
theorem SL.init (nodes : List Node) : SL nodes [] ⟨nodes, List.range nodes.length, [], 0⟩ := by
  have h : ∀ u, u < nodes.length → stF (List.range nodes.length) u = u := fun u hu => by
    unfold stF
    rw [List.getD_eq_getElem?_getD, List.getElem?_range hu]
    rfl
  exact ⟨rfl, by simp, fun u hu _ => h u hu, fun _ _ _ => rfl, fun u hu _ => h u hu, fun u hu => ⟨by rw [h u hu]; exact hu, by rw [h u hu, h u hu], fun h => by simp at h⟩, fun u hu => by simp at hu, fun u hu => by simp at hu, fun y a h => by simp at h⟩
theorem SL.step {nodes : List Node} {o : List Nat} {s : ShS} (h : SL nodes o s) (hok : ∀ x ∈ nodes, NOk x) (hn : nodes.length ≤ 1073741824) {a : Nat} (ha : a < nodes.length) (hao : a ∉ o) (hu : ¬ spN nodes a → ∀ u ∈ useI nodes a, u ∈ o ∧ u < nodes.length) (_hnn : ∀ x ∈ nodes, ∀ u ∈ usesR x, 0 ≤ u) :
    SL nodes (o ++ [a]) (shStep nodes s a) := by
  have hnx := List.getElem?_eq_getElem ha
  have hxm : nodes[a] ∈ nodes := List.getElem_mem ha
  obtain ⟨x, hx⟩ : ∃ x, nodes[a] = x := ⟨_, rfl⟩
  rw [hx] at hnx hxm
  have hka : kindAt nodes a = x.kind := kindAt_eq hnx
  have hmem : ∀ {u : Nat}, u ∈ o ++ [a] ↔ u ∈ o ∨ u = a := fun {u} => by simp
  unfold shStep
  rw [hnx]
  dsimp only
  by_cases hs : x.kind = 1 ∨ x.kind = 7
  · rw [if_pos hs]
    have hsp : spN nodes a := by unfold spN; rw [hka]; exact hs
    refine ⟨h.lm, h.ls, fun u hu hn => h.out1 u hu (fun h' => hn (hmem.2 (.inl h'))), fun u hul hc => h.outm u hul ?_, h.sp, fun u hul => ⟨(h.rep u hul).1, (h.rep u hul).2.1, fun hm => ?_⟩, fun u hm hul hns => ?_, fun u hm hul hns hr y hy => ?_, fun y b hb => ?_⟩
    · rcases hc with hc | hc
      · exact .inl fun h' => hc (hmem.2 (.inl h'))
      · exact .inr hc
    · rcases hmem.1 hm with hm | rfl
      · exact hmem.2 (.inl ((h.rep u hul).2.2 hm))
      · rw [h.sp _ hul hsp]; exact hmem.2 (.inr rfl)
    · rcases hmem.1 hm with hm | rfl
      · obtain ⟨y, h1, h2, h3, h4, h5, h6⟩ := h.gate u hm hul hns
        exact ⟨y, h1, h2, h3, h4, h5, fun z hz => by obtain ⟨v, r1, r2, r3, r4⟩ := h6 z hz; exact ⟨v, r1, r2, r3, hmem.2 (.inl r4)⟩⟩
      · exact absurd hsp hns
    · rcases hmem.1 hm with hm | rfl
      · exact h.fmIn u hm hul hns hr y hy
      · exact absurd hsp hns
    · obtain ⟨r1, r2, r3⟩ := h.fmOut y b hb
      exact ⟨hmem.2 (.inl r1), r2, r3⟩
  · rw [if_neg hs]
    have hsp : ¬ spN nodes a := by unfold spN; rw [hka]; exact hs
    have hus := hu hsp
    rw [useI_at hnx] at hus
    have hal : a < s.m.length := by rw [h.lm]; exact ha
    have hasl : a < s.st.length := by rw [h.ls]; exact ha
    obtain ⟨y, hy⟩ : ∃ y, byN (stF s.st) x = y := ⟨_, rfl⟩
    have hyk : keyN y = y := by rw [← hy]; exact keyN_key _
    have hyo : NOk y := by
      rw [← hy]
      refine byN_ok (hok x hxm) fun u => ?_
      unfold stF
      rw [List.getD_eq_getElem?_getD]
      rcases Nat.lt_or_ge u s.st.length with h' | h'
      · have := (h.rep u (by rw [← h.ls]; exact h')).1
        unfold stF at this
        rw [List.getD_eq_getElem?_getD] at this
        omega
      · rw [List.getElem?_eq_none h']; exact Nat.zero_le _
    have hykd : y.kind ≠ 1 ∧ y.kind ≠ 7 := by rw [← hy, kind_byN]; omega
    have hyu : ∀ z ∈ usesR y, ∃ v : Nat, z = (v : Int) ∧ v < nodes.length ∧ stF s.st v = v ∧ v ∈ o := fun z hz => by
      rw [← hy] at hz
      obtain ⟨u, hu1, rfl⟩ := uses_byN hz
      obtain ⟨r1, r2⟩ := hus u.toNat (List.mem_map.2 ⟨u, hu1, rfl⟩)
      obtain ⟨q1, q2, q3⟩ := h.rep u.toNat r2
      exact ⟨_, rfl, q1, q2, q3 r1⟩
    rw [hy]
    have hma : ∀ u, u ≠ a → (s.m.set a y)[u]? = s.m[u]? := fun u hne => by rw [List.getElem?_set, if_neg (fun e => hne e.symm)]
    have hmaa : (s.m.set a y)[a]? = some y := by rw [List.getElem?_set]; simp [hal]
    cases hlk : s.fm.lookup y with
    | some was =>
      obtain ⟨w1, w2, w3⟩ := h.fmOut y was hlk
      have hwa : was ≠ a := fun e => hao (e ▸ w1)
      have hst : ∀ u, stF (s.st.set a was) u = if u = a then was else stF s.st u := fun u => stF_set hasl
      have hne : ∀ u ∈ o, u ≠ a := fun u hm e => hao (e ▸ hm)
      refine ⟨by simp [h.lm], by simp [h.ls], fun u hul hn => ?_, fun u hul hc => ?_, fun u hul hs' => ?_, fun u hul => ?_, fun u hm hul hns => ?_, fun u hm hul hns hr z hz => ?_, fun z b hb => ?_⟩
      · rw [hst, if_neg (fun e => hn (hmem.2 (.inr e)))]; exact h.out1 u hul fun h' => hn (hmem.2 (.inl h'))
      · have hua : u ≠ a := by
          rintro rfl
          rcases hc with hc | hc
          · exact hc (hmem.2 (.inr rfl))
          · exact hsp hc
        show (s.m.set a y)[u]? = _
        rw [hma u hua]
        exact h.outm u hul (hc.imp (fun hc h' => hc (hmem.2 (.inl h'))) id)
      · have hua : u ≠ a := fun e => hsp (e ▸ hs')
        rw [hst, if_neg hua]; exact h.sp u hul hs'
      · show stF (s.st.set a was) u < _ ∧ stF (s.st.set a was) (stF (s.st.set a was) u) = stF (s.st.set a was) u ∧ _
        by_cases hua : u = a
        · have e1 : stF (s.st.set a was) u = was := by rw [hst, if_pos hua]
          have e2 : stF (s.st.set a was) was = was := by rw [hst, if_neg hwa]; exact w3
          exact ⟨by rw [e1]; exact w2, by rw [e1, e2], fun _ => by show stF (s.st.set a was) u ∈ _; rw [e1]; exact hmem.2 (.inl w1)⟩
        · have e1 : stF (s.st.set a was) u = stF s.st u := by rw [hst, if_neg hua]
          obtain ⟨q1, q2, q3⟩ := h.rep u hul
          have hra : stF s.st u ≠ a := by
            intro e
            by_cases hm : u ∈ o
            · exact hao (e ▸ q3 hm)
            · have := h.out1 u hul hm; omega
          have e2 : stF (s.st.set a was) (stF s.st u) = stF s.st u := by rw [hst, if_neg hra]; exact q2
          exact ⟨by rw [e1]; exact q1, by rw [e1, e2], fun hm => by
            show stF (s.st.set a was) u ∈ _
            rw [e1]
            rcases hmem.1 hm with hm | hm
            · exact hmem.2 (.inl (q3 hm))
            · exact absurd hm hua⟩
      · rcases hmem.1 hm with hm | rfl
        · obtain ⟨z, h1, h2, h3, h4, h5, h6⟩ := h.gate u hm hul hns
          exact ⟨z, by show (s.m.set a y)[u]? = _; rw [hma u (hne u hm)]; exact h1, h2, h3, h4, h5, fun t ht => by
            obtain ⟨v, r1, r2, r3, r4⟩ := h6 t ht
            exact ⟨v, r1, r2, by rw [hst, if_neg (hne v r4)]; exact r3, hmem.2 (.inl r4)⟩⟩
        · exact ⟨y, hmaa, hyk, hyo, hykd.1, hykd.2, fun t ht => by
            obtain ⟨v, r1, r2, r3, r4⟩ := hyu t ht
            exact ⟨v, r1, r2, by rw [hst, if_neg (hne v r4)]; exact r3, hmem.2 (.inl r4)⟩⟩
      · rcases hmem.1 hm with hm | rfl
        · have hr' : stF (s.st.set a was) u = u := hr
          rw [hst, if_neg (hne u hm)] at hr'
          have hz' : (s.m.set a y)[u]? = some z := hz
          rw [hma u (hne u hm)] at hz'
          exact h.fmIn u hm hul hns hr' z hz'
        · have hr' : stF (s.st.set u was) u = u := hr
          rw [hst, if_pos rfl] at hr'
          exact absurd hr' hwa
      · obtain ⟨r1, r2, r3⟩ := h.fmOut z b hb
        exact ⟨hmem.2 (.inl r1), r2, by show stF (s.st.set a was) b = b; rw [hst, if_neg (hne b r1)]; exact r3⟩
    | none =>
      have hsa : stF s.st a = a := h.out1 a ha hao
      have hne : ∀ u ∈ o, u ≠ a := fun u hm e => hao (e ▸ hm)
      have hlk2 : ∀ z, ((y, a) :: s.fm).lookup z = if z = y then some a else s.fm.lookup z := fun z => by
        by_cases e : z = y
        · subst e; simp [List.lookup]
        · have hb : (z == y) = false := by simpa using e
          simp [List.lookup, hb, e]
      refine ⟨by simp [h.lm], h.ls, fun u hul hn => h.out1 u hul fun h' => hn (hmem.2 (.inl h')), fun u hul hc => ?_, h.sp, fun u hul => ⟨(h.rep u hul).1, (h.rep u hul).2.1, fun hm => ?_⟩, fun u hm hul hns => ?_, fun u hm hul hns hr z hz => ?_, fun z b hb => ?_⟩
      · have hua : u ≠ a := by
          rintro rfl
          rcases hc with hc | hc
          · exact hc (hmem.2 (.inr rfl))
          · exact hsp hc
        show (s.m.set a y)[u]? = _
        rw [hma u hua]
        exact h.outm u hul (hc.imp (fun hc h' => hc (hmem.2 (.inl h'))) id)
      · rcases hmem.1 hm with hm | rfl
        · exact hmem.2 (.inl ((h.rep u hul).2.2 hm))
        · show stF s.st u ∈ _
          rw [hsa]; exact hmem.2 (.inr rfl)
      · rcases hmem.1 hm with hm | rfl
        · obtain ⟨z, h1, h2, h3, h4, h5, h6⟩ := h.gate u hm hul hns
          exact ⟨z, by show (s.m.set a y)[u]? = _; rw [hma u (hne u hm)]; exact h1, h2, h3, h4, h5, fun t ht => by
            obtain ⟨v, r1, r2, r3, r4⟩ := h6 t ht
            exact ⟨v, r1, r2, r3, hmem.2 (.inl r4)⟩⟩
        · exact ⟨y, hmaa, hyk, hyo, hykd.1, hykd.2, fun t ht => by
            obtain ⟨v, r1, r2, r3, r4⟩ := hyu t ht
            exact ⟨v, r1, r2, r3, hmem.2 (.inl r4)⟩⟩
      · show ((y, a) :: s.fm).lookup z = some u
        rw [hlk2]
        rcases hmem.1 hm with hm | rfl
        · have hz' : (s.m.set a y)[u]? = some z := hz
          rw [hma u (hne u hm)] at hz'
          have h1 := h.fmIn u hm hul hns hr z hz'
          rw [if_neg (by rintro rfl; rw [hlk] at h1; simp at h1)]
          exact h1
        · have hz' : (s.m.set u y)[u]? = some z := hz
          rw [hmaa] at hz'
          injection hz' with e
          rw [if_pos e.symm]
      · have hb' : ((y, a) :: s.fm).lookup z = some b := hb
        rw [hlk2] at hb'
        split at hb'
        · injection hb' with e; subst e
          exact ⟨hmem.2 (.inr rfl), ha, hsa⟩
        · obtain ⟨r1, r2, r3⟩ := h.fmOut z b hb'
          exact ⟨hmem.2 (.inl r1), r2, r3⟩
end Go.Proofs.Ytbfjacgfifecpaa

/-! ## share.Share, plain: what is left is all unlike. -/
namespace Go.Proofs.Ytbfjacgfifecpaa
open Go.RowKit

theorem dfRun_at {nodes : List Node} {st : List Nat} {m : List Node} (hm : m.length = nodes.length) : ∀ i, i ≤ nodes.length → (dfRun nodes st m i).length = nodes.length ∧ ∀ u, (dfRun nodes st m i)[u]? = if u < i ∧ kindAt nodes u = 7 then (nodes[u]?).map (byN (stF st)) else m[u]? := by
  intro i
  induction i with
  | zero => exact fun _ => ⟨hm, fun u => by rw [if_neg (by omega)]; rfl⟩
  | succ i ih =>
    intro hi
    obtain ⟨h1, h2⟩ := ih (by omega)
    have hnx := List.getElem?_eq_getElem (show i < nodes.length by omega)
    have hk := kindAt_eq hnx
    rw [dfRun_succ, dfStep, hnx]
    dsimp only
    by_cases h7 : nodes[i].kind = 7
    · rw [if_pos h7]
      refine ⟨by rw [List.length_set, h1], fun u => ?_⟩
      rw [List.getElem?_set]
      by_cases e : i = u
      · subst e
        rw [if_pos rfl, if_pos (by omega), if_pos ⟨by omega, by rw [hk]; exact h7⟩, hnx]
        rfl
      · rw [if_neg e, h2 u]
        by_cases hc : u < i ∧ kindAt nodes u = 7
        · rw [if_pos hc, if_pos ⟨by omega, hc.2⟩]
        · rw [if_neg hc, if_neg (fun h => hc ⟨by omega, h.2⟩)]
    · rw [if_neg h7]
      refine ⟨h1, fun u => ?_⟩
      rw [h2 u]
      by_cases hc : u < i ∧ kindAt nodes u = 7
      · rw [if_pos hc, if_pos ⟨by omega, hc.2⟩]
      · rw [if_neg hc, if_neg (fun h => hc ⟨by
          rcases Nat.lt_or_ge u i with h' | h'
          · exact h'
          · obtain rfl : u = i := by omega
            exact absurd (hk.symm.trans h.2) h7, h.2⟩)]
theorem mem_take_of_idx {l : List Nat} {u j : Nat} (hu : u ∈ l) (h : l.idxOf u < j) : u ∈ l.take j := by
  have hl := List.idxOf_lt_length_of_mem hu
  have h1 : (l.take j)[l.idxOf u]? = some u := by
    rw [List.getElem?_take, if_pos h, List.getElem?_eq_getElem hl]
    exact congrArg some (List.getElem_idxOf hl)
  exact List.mem_of_getElem? h1
theorem share_all {nodes : List Node} {ins outs : List Port} {l : List Int} (hlev : LevOut nodes ins outs 0 l) : SL nodes (ordL l) (shRun nodes (ordL l)) := by
  have hez := errP_zero hlev.choose_spec.1.symm
  have hf := formed_in hez.2.1
  have hisl : IsLev nodes l := by obtain ⟨b, h1, h2, h3, h4, h5⟩ := hlev; exact h4 rfl
  have hn0 := hlev.nonneg
  have hll : l.length = nodes.length := hisl.1
  have hol : (ordL l).length = nodes.length := by rw [ordL_length hn0, hll]
  have hright : ∀ x ∈ nodes, rightB x nodes.length = true := by
    have h := hez.2.1
    rw [formedB, Bool.and_eq_true, List.all_eq_true] at h
    exact h.1
  have hok : ∀ x ∈ nodes, NOk x := fun x hx => right_ok (hright x hx) (by omega)
  have key : ∀ j, j ≤ nodes.length → SL nodes ((ordL l).take j) (shRun nodes ((ordL l).take j)) := by
    intro j
    induction j with
    | zero => exact fun _ => by rw [List.take_zero]; exact SL.init nodes
    | succ j ih =>
      intro hj
      have hlo : j < (ordL l).length := by omega
      have hT := List.take_succ_eq_append_getElem hlo
      have ham : (ordL l)[j] < nodes.length := by rw [← hll]; exact (mem_ordL hn0).1 (List.getElem_mem hlo)
      have hnd := ordL_nodup l
      have hnin : (ordL l)[j] ∉ (ordL l).take j := by
        have hnd2 := hnd
        rw [← List.take_append_drop (j + 1) (ordL l), hT, List.nodup_append] at hnd2
        exact fun h => (List.nodup_append.1 hnd2.1).2.2 _ h (ordL l)[j] (List.mem_singleton.2 rfl) rfl
      rw [hT, shRun_snoc]
      refine (ih (by omega)).step hok (by omega) ham hnin (fun hns u hu => ?_) (fun x hx u hu => (hf.1 x hx u hu).1)
      have hnx := List.getElem?_eq_getElem ham
      have hul : u < nodes.length := inU_of hf.1 _ u hu
      refine ⟨mem_take_of_idx ((mem_ordL hn0).2 (by omega)) ?_, hul⟩
      have hlx := hisl.2 _ _ hnx
      rw [useI_at hnx] at hu
      have hk7 : nodes[(ordL l)[j]].kind ≠ 7 := fun e => hns (.inr (by rw [kindAt_eq hnx]; exact e))
      have hge := lvl_ge (us := usesN nodes[(ordL l)[j]]) (l := l) (u := u) (by rw [usesN, if_neg hk7]; exact hu)
      have hp := pos_lt hn0 (u := u) (i := (ordL l)[j]) (by omega) (by omega) (by omega)
      rw [posN, posN, if_pos ((mem_ordL hn0).2 (by omega)), if_pos (List.getElem_mem hlo)] at hp
      have : (ordL l).idxOf (ordL l)[j] = j := hnd.idxOf_getElem j hlo
      omega
  have h := key nodes.length (Nat.le_refl _)
  rw [List.take_of_length_le (by omega)] at h
  exact h
/-- what is left of a shared net -/
structure ShG (md : List Node) (st : List Nat) (n : Nat) : Prop where
  len : md.length = n
  ok : ∀ (u : Nat) (y : Node), u < n → stF st u = u → md[u]? = some y → NOk y ∧ ∀ z ∈ usesR y, ∃ v : Nat, z = (v : Int) ∧ v < n ∧ stF st v = v
  key : ∀ (u : Nat) (y : Node), u < n → md[u]? = some y → y.kind ≠ 1 → y.kind ≠ 7 → keyN y = y
  one : ∀ (u v : Nat) (y : Node), u < n → v < n → stF st u = u → stF st v = v → md[u]? = some y → md[v]? = some y → y.kind ≠ 1 → y.kind ≠ 7 → u = v
theorem share_left {nodes : List Node} {ins outs : List Port} {l : List Int} (hlev : LevOut nodes ins outs 0 l) :
    ShG (dfRun nodes (shRun nodes (ordL l)).st (shRun nodes (ordL l)).m nodes.length) (shRun nodes (ordL l)).st nodes.length ∧ ∀ u, u < nodes.length → stF (shRun nodes (ordL l)).st u < nodes.length ∧ stF (shRun nodes (ordL l)).st (stF (shRun nodes (ordL l)).st u) = stF (shRun nodes (ordL l)).st u := by
  have h := share_all hlev
  have hez := errP_zero hlev.choose_spec.1.symm
  have hf := formed_in hez.2.1
  have hn0 := hlev.nonneg
  have hisl : IsLev nodes l := by obtain ⟨b, h1, h2, h3, h4, h5⟩ := hlev; exact h4 rfl
  have hright : ∀ x ∈ nodes, rightB x nodes.length = true := by
    have h := hez.2.1
    rw [formedB, Bool.and_eq_true, List.all_eq_true] at h
    exact h.1
  have hmem : ∀ u, u < nodes.length → u ∈ ordL l := fun u hu => (mem_ordL hn0).2 (by rw [hisl.1]; exact hu)
  obtain ⟨s, hs⟩ : ∃ s, shRun nodes (ordL l) = s := ⟨_, rfl⟩
  rw [hs] at h ⊢
  obtain ⟨hdl, hda⟩ := dfRun_at (nodes := nodes) (st := s.st) h.lm nodes.length (Nat.le_refl _)
  have hcase : ∀ (u : Nat) (y : Node), u < nodes.length → (dfRun nodes s.st s.m nodes.length)[u]? = some y → y.kind ≠ 1 → y.kind ≠ 7 → ¬ spN nodes u ∧ s.m[u]? = some y := fun u y hul hy h1 h7 => by
    have hnx := List.getElem?_eq_getElem hul
    have hk := kindAt_eq hnx
    rw [hda u] at hy
    by_cases hc : u < nodes.length ∧ kindAt nodes u = 7
    · rw [if_pos hc, hnx] at hy
      injection hy with hy
      exact absurd (by rw [← hy, kind_byN, ← hk]; exact hc.2) h7
    · rw [if_neg hc] at hy
      refine ⟨fun hsp => ?_, hy⟩
      rw [h.outm u hul (.inr hsp), hnx] at hy
      injection hy with hy
      rcases hsp with e | e
      · exact h1 (by rw [← hy, ← hk]; exact e)
      · exact hc ⟨hul, e⟩
  refine ⟨⟨hdl, fun u y hul hr hy => ?_, fun u y hul hy h1 h7 => ?_, fun u v y hul hvl hru hrv hyu hyv h1 h7 => ?_⟩, fun u hul => ⟨(h.rep u hul).1, (h.rep u hul).2.1⟩⟩
  · have hnx := List.getElem?_eq_getElem hul
    have hk := kindAt_eq hnx
    by_cases hsp : spN nodes u
    · rw [hda u] at hy
      by_cases hc : u < nodes.length ∧ kindAt nodes u = 7
      · rw [if_pos hc, hnx] at hy
        injection hy with hy
        refine ⟨?_, fun z hz => ?_⟩
        · rw [← hy]
          refine byN_ok (right_ok (hright _ (List.getElem_mem hul)) (by omega)) fun t => ?_
          unfold stF
          rw [List.getD_eq_getElem?_getD]
          rcases Nat.lt_or_ge t s.st.length with h' | h'
          · have := (h.rep t (by rw [← h.ls]; exact h')).1
            unfold stF at this
            rw [List.getD_eq_getElem?_getD] at this
            omega
          · rw [List.getElem?_eq_none h']; exact Nat.zero_le _
        · rw [← hy] at hz
          obtain ⟨t, ht, rfl⟩ := uses_byN hz
          have hb := hf.1 _ (List.getElem_mem hul) t ht
          obtain ⟨q1, q2, -⟩ := h.rep t.toNat (by omega)
          exact ⟨_, rfl, q1, q2⟩
      · rw [if_neg hc, h.outm u hul (.inr hsp), hnx] at hy
        injection hy with hy
        have k1 : y.kind = 1 := by
          rcases hsp with e | e
          · rw [← hy, ← hk]; exact e
          · exact absurd ⟨hul, e⟩ hc
        refine ⟨by rw [← hy]; exact right_ok (hright _ (List.getElem_mem hul)) (by omega), fun z hz => ?_⟩
        unfold usesR many at hz
        rw [if_pos (.inr k1)] at hz
        simp at hz
    · have hc : ¬ (u < nodes.length ∧ kindAt nodes u = 7) := fun hc => hsp (.inr hc.2)
      rw [hda u, if_neg hc] at hy
      obtain ⟨y', h1, h2, h3, h4, h5, h6⟩ := h.gate u (hmem u hul) hul hsp
      rw [hy] at h1
      injection h1 with h1
      subst h1
      exact ⟨h3, fun z hz => by obtain ⟨v, r1, r2, r3, -⟩ := h6 z hz; exact ⟨v, r1, r2, r3⟩⟩
  · obtain ⟨hns, hm⟩ := hcase u y hul hy h1 h7
    obtain ⟨y', q1, q2, -⟩ := h.gate u (hmem u hul) hul hns
    rw [hm] at q1
    injection q1 with q1
    rw [q1]; exact q2
  · obtain ⟨hns, hm⟩ := hcase u y hul hyu h1 h7
    obtain ⟨hns', hm'⟩ := hcase v y hvl hyv h1 h7
    have e1 := h.fmIn u (hmem u hul) hul hns hru y hm
    have e2 := h.fmIn v (hmem v hvl) hvl hns' hrv y hm'
    rw [e1] at e2
    injection e2
end Go.Proofs.Ytbfjacgfifecpaa

/-! ## ShareLeft: a set of nodes; the rounds. -/
namespace Go.Proofs.Ytbfjacgfifecpaa
open Go.RowKit Go.Maps

def MNB (w : World) (b n : Nat) (S : Node → Prop) : Prop :=
  ∃ D : DataW Unit, w.ownsMap Try.prog 38 (plainElem Try.prog 4) b n D ∧ ∀ y : Node, NOk y → ∃ c : Bool, D.atKey (nodeKL y) (.lit (.bool false)) = .lit (.bool c) ∧ (c = true ↔ S y)
theorem MNB.made (w : World) : MNB (w.alloc (.map #[] 0)) w.heap.size 0 (fun _ => False) := ⟨_, World.ownsMap_made _ _ _ _, fun _ _ => ⟨false, rfl, by simp⟩⟩
section
variable {w w' : World} {b n : Nat} {S S' : Node → Prop}
theorem MNB.congr (h : MNB w b n S) (hS : ∀ y, NOk y → (S y ↔ S' y)) : MNB w b n S' := by
  obtain ⟨D, h1, h2⟩ := h
  refine ⟨D, h1, fun y hy => ?_⟩
  obtain ⟨c, h3, h4⟩ := h2 y hy
  exact ⟨c, h3, h4.trans (hS y hy)⟩
theorem MNB.below (h : MNB w b n S) (hb : Below w.heap.size w w') : MNB w' b n S := by
  obtain ⟨D, h1, h2⟩ := h
  exact ⟨D, h1.kept (row := none) ⟨hb.os, hb.tape, hb.output, hb.size, fun k hk _ => hb.block k hk⟩ (by simp), h2⟩
theorem MNB.other (h : MNB w b n S) {row : Option Nat} (hg : w.grownBy w' row) (hr : some b ≠ row) : MNB w' b n S := by
  obtain ⟨D, h1, h2⟩ := h
  exact ⟨D, h1.kept hg hr, h2⟩
set_option maxRecDepth 100000 in
theorem MNB.lookC (h : MNB w b n S) {y : Node} (hy : NOk y) (c : Bool) (hc : c = true ↔ S y) : (Instr.lookup 51 (.map (some b)) (nodeV y) false).run Try.prog w = .ok (.bool c) w := by
  obtain ⟨D, h1, h2⟩ := h
  obtain ⟨c', h3, h4⟩ := h2 y hy
  obtain ⟨v, ps, hrun, hv⟩ := h1.lookup law_node Try.underlying51 (zero_bool w) (plainElem_bool Try.underlying4 false) (key_node hy)
  obtain ⟨a, rfl, ha⟩ := plainElem_bool_inv Try.underlying4 hv
  rw [h3] at ha
  injection ha with ha
  injection ha with ha
  injection ha with ha
  subst ha
  rw [hrun, Bool.eq_iff_iff.2 (h4.trans hc.symm)]
end
theorem putB {W : World} {ops : Array Oper} {rest : List Oper} {o : Oper} {a : Act} {Q : Exit → Act → World → Prop} (hgd : o.guard = none)
    (m x v : Operand) (hop : o.op = Op.mapUpdate 51 m x v) {b n : Nat} {S : Node → Prop} (hM : MNB W b n S) (hm : a.eval m = .map (some b)) (hn : n < maxLen) (y : Node) (hy : NOk y) (hx : a.eval x = nodeV y) (hv : a.eval v = .bool true)
    (hK : ∀ w', MNB w' b (n + 1) (fun z => S z ∨ z = y) → W.grownBy w' (some b) → wpList Try.prog ops Q rest (a.put o.dst undef) w') : wpList Try.prog ops Q (o :: rest) a W := by
  obtain ⟨D, h1, h2⟩ := hM
  refine wpList_mapUpdate_own W hgd m x v 51 hop 38 4 law_node Try.underlying51 _ b n D hm h1 hn _ _ _ hx hv (key_node hy) (.lit (.bool true)) [] (plainElem_bool Try.underlying4 true)
    fun w' hw hg => hK w' ⟨_, hw, fun z hz => ?_⟩ hg
  have hT := h1.tidy law_node
  by_cases e : z = y
  · subst e
    exact ⟨true, by rw [Maps.atKey_put_same (k := nodeKL z) hT.isMap (by exact trivial)], by simp⟩
  · obtain ⟨c, h3, h4⟩ := h2 z hz
    exact ⟨c, by rw [Maps.atKey_put_other (fun h => e (nodeKL_inj hz hy h)), h3], by simp [h4, e]⟩

/-- append of numbers that are read, none too -/
theorem appIs0 {W : World} {ops : Array Oper} {rest : List Oper} {o : Oper} {a : Act} {Q : Exit → Act → World → Prop} (hgd : o.guard = none)
    (s x : Operand) (ho : o.op = .call { callee := .builtin .append, args := #[s, x], argTypes := #[28, 28] }) {B : Nat} {v : Value} {xs : List Int} (hO : Own kInt 3 W none B v xs) (hB : B ≤ W.heap.size) (hs : a.eval s = v)
    (b off c : Nat) (ys : List Int) (hu : Row kInt W (fun _ => False) (.slice (some ⟨b, off, none⟩) ys.length c) ys) (hx : a.eval x = .slice (some ⟨b, off, none⟩) ys.length c) (hl : (xs.length + ys.length) * 8 ≤ 140737488355328)
    (hK : ∀ v' w', Own kInt 3 w' none B v' (xs ++ ys) → W.grownBy w' v.ownBlock → (v'.ownBlock = v.ownBlock ∨ ∃ b, v'.ownBlock = some b ∧ W.heap.size ≤ b) → wpList Try.prog ops Q rest (a.put o.dst v') w') :
    wpList Try.prog ops Q (o :: rest) a W := by
  obtain ⟨A', c', css, he, h1, h2, h0, h3, h4⟩ := hu
  injection he with e1 e2 e3
  subst e1 e3
  refine app kInt 3 28 (.int .i64 0) 8 hgd s x ho Try.underlying28 infoIntK rfl (by decide) (by decide) none B hO (FootIn.none _) hB hs ⟨b, off, none⟩ ys.length c ys css hx rfl ⟨h3.1, fun i x cs hx hc => h3.2 i x cs hx hc⟩ (fun j u hj => ?_) hl
    fun v' w' q1 _ _ _ q5 q6 => hK v' w' q1 q5 (q6.imp id fun h => ⟨_, h, Nat.le_refl _⟩)
  have hlen : css.flatten.length = ys.length * 1 := h3.flat
  have hpos : 0 < ys.length := by have := (List.getElem?_eq_some_iff.1 hj).1; omega
  obtain ⟨b', off', hb, -, -, hc⟩ := h4 hpos
  simp only [Option.some.injEq, Addr.mk.injEq, and_true] at hb
  obtain ⟨rfl, rfl⟩ := hb
  rw [Addr.add_lit]
  exact hc j u hj

/-! the rounds -/
set_option maxRecDepth 100000 in
noncomputable def unAt (w : World) (F i : Nat) : Bool := match (Instr.lookup 50 (.map (some F)) (.int .i64 (i : Int)) false).run Try.prog w with | .ok (.bool true) _ => false | _ => true
/-- how much has not been seen -/
noncomputable def unM (w : World) (F n : Nat) : Nat := (List.range n).countP (unAt w F)
set_option maxRecDepth 100000 in
theorem unM_is {w : World} {F c : Nat} {sn : List Bool} (h : MSet w F c (fun j => sn.getD j false = true)) (hn : sn.length ≤ 1099511627776) : unM w F sn.length = unseen sn := by
  rw [unM, ← unseen_range]
  apply List.countP_congr
  intro i hi
  have hi : i < sn.length := by simpa using hi
  rw [unAt, h.lookC (k := i) (by omega) (sn.getD i false) Iff.rfl]
  cases sn.getD i false <;> simp
/-- seen gates -/
def PS (md : List Node) (sn : List Bool) (y : Node) : Prop := ∃ u, sn.getD u false = true ∧ md[u]? = some y ∧ y.kind ≠ 1 ∧ y.kind ≠ 7
structure LI (md : List Node) (st : List Nat) (n K : Nat) (sn : List Bool) (todo : List Nat) : Prop where
  len : sn.length = n
  todoOk : ∀ a ∈ todo, a < n ∧ stF st a = a
  seen : ∀ u, sn.getD u false = true → u < n ∧ stF st u = u
  cnt : todo.length + 4 * unseen sn ≤ K
theorem LI.pop {md : List Node} {st : List Nat} {n K : Nat} {sn : List Bool} {todo : List Nat} {a : Nat} (h : LI md st n K sn (todo ++ [a])) : LI md st n K sn todo ∧ a < n ∧ stF st a = a :=
  ⟨⟨h.len, fun b hb => h.todoOk b (List.mem_append_left _ hb), h.seen, by have := h.cnt; rw [List.length_append, List.length_singleton] at this; omega⟩, h.todoOk a (by simp)⟩
theorem LI.push {md : List Node} {st : List Nat} {n K : Nat} (G : ShG md st n) {sn : List Bool} {todo : List Nat} {a : Nat} (h : LI md st n K sn (todo ++ [a])) (hs : sn.getD a false = false) {x : Node} (hx : md[a]? = some x) :
    LI md st n K (sn.set a true) (todo ++ (usesR x).map Int.toNat) ∧ unseen (sn.set a true) + 1 = unseen sn := by
  obtain ⟨h1, ha, hr⟩ := h.pop
  have hu := (G.ok a x ha hr hx).2
  have hal : a < sn.length := by rw [h.len]; exact ha
  have hc := unseen_set hal hs
  have h3 : (usesR x).length ≤ 3 := by simp [usesR]; omega
  refine ⟨⟨by rw [List.length_set]; exact h.len, fun b hb => ?_, fun u hu' => ?_, ?_⟩, hc⟩
  · rcases List.mem_append.1 hb with hb | hb
    · exact h1.todoOk b hb
    · obtain ⟨z, hz, rfl⟩ := List.mem_map.1 hb
      obtain ⟨v, rfl, r1, r2⟩ := hu z hz
      exact ⟨r1, r2⟩
  · rw [getDB_set _ _ _ hal] at hu'
    split at hu'
    · rename_i e; subst e; exact ⟨ha, hr⟩
    · exact h.seen u hu'
  · have := h.cnt
    rw [List.length_append, List.length_singleton] at this
    rw [List.length_append, List.length_map]
    omega
theorem PS.fresh {md : List Node} {st : List Nat} {n K : Nat} (G : ShG md st n) {sn : List Bool} {todo : List Nat} {a : Nat} (h : LI md st n K sn (todo ++ [a])) (hs : sn.getD a false = false) {x : Node} (hx : md[a]? = some x) : ¬ PS md sn x := by
  rintro ⟨u, h1, h2, h3, h4⟩
  obtain ⟨-, ha, hr⟩ := h.pop
  obtain ⟨r1, r2⟩ := h.seen u h1
  have := G.one u a x r1 ha r2 hr h2 hx h3 h4
  subst this
  rw [hs] at h1; simp at h1
theorem PS.next {md : List Node} {sn : List Bool} {a : Nat} (ha : a < sn.length) {x : Node} (hx : md[a]? = some x) (y : Node) : PS md (sn.set a true) y ↔ (PS md sn y ∨ (y = x ∧ x.kind ≠ 1 ∧ x.kind ≠ 7)) := by
  constructor
  · rintro ⟨u, h1, h2, h3, h4⟩
    rw [getDB_set _ _ _ ha] at h1
    split at h1
    · rename_i e; subst e
      rw [hx] at h2; injection h2 with h2; subst h2
      exact .inr ⟨rfl, h3, h4⟩
    · exact .inl ⟨u, h1, h2, h3, h4⟩
  · rintro (⟨u, h1, h2, h3, h4⟩ | ⟨rfl, h3, h4⟩)
    · refine ⟨u, ?_, h2, h3, h4⟩
      rw [getDB_set _ _ _ ha]; split
      · rfl
      · exact h1
    · exact ⟨a, by rw [getDB_set _ _ _ ha, if_pos rfl], hx, h3, h4⟩
end Go.Proofs.Ytbfjacgfifecpaa
