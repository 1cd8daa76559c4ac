/- fold, plain: what is left uses no Const, but a Mux. -/
import Derived.Test.YtbfjacgfifecpaaFoS
namespace Go.Proofs.Ytbfjacgfifecpaa

def goodN (m : List Node) (y : Node) : Prop := (2 ≤ y.kind ∧ y.kind ≤ 5 → ∀ z ∈ usesR y, (nd m z).kind ≠ 0) ∧ (y.kind = 2 → (nd m y.a).kind ≠ 2) ∧ (3 ≤ y.kind ∧ y.kind ≤ 5 → y.a ≠ y.b)
theorem notN {m : List Node} {n : Nat} (hm : ∀ x ∈ m, okNd n x) {a : Int} (h0 : ¬ isN m a 0 = true) (h1 : ¬ isN m a 1 = true) : (nd m a).kind ≠ 0 := fun h => by
  have := (nd_ok hm a).1 h
  unfold isN at h0 h1
  rw [Bool.and_eq_true, decide_eq_true_eq, decide_eq_true_eq] at h0 h1
  rcases this with e | e
  · exact h0 ⟨h, e⟩
  · exact h1 ⟨h, e⟩
theorem good_two {m : List Node} {k a b c : Int} (hk : k = 3 ∨ k = 4 ∨ k = 5) (ha : (nd m a).kind ≠ 0) (hb : (nd m b).kind ≠ 0) (hab : a ≠ b) : goodN m ⟨k, a, b, c⟩ := by
  refine ⟨fun _ z hz => ?_, fun h => ?_, fun _ => hab⟩
  · rcases hk with rfl | rfl | rfl <;> simp [usesR, many] at hz <;> rcases hz with rfl | rfl <;> assumption
  · have : k = 2 := h
    omega
theorem fold1_good {m : List Node} {n : Nat} (hm : ∀ x ∈ m, okNd n x) {x : Node} (hx : okX n x) (hk : (fold1 m x).1.kind = x.kind) (hs : (fold1 m x).2 = -1) : goodN m (fold1 m x).1 := by
  obtain ⟨k, a, b, c⟩ := x
  rcases kind6 hx.1 with h | h | h | h | h | h <;> dsimp only at h <;> subst h
  · refine ⟨fun h => ?_, fun h => ?_, fun h => ?_⟩
    · have : (2 : Int) ≤ 0 := h.1
      omega
    · have : (0 : Int) = 2 := h
      omega
    · have : (3 : Int) ≤ 0 := h.1
      omega
  · have ha := uses_a hx
    change (flipN m ⟨2, a, b, c⟩).1.kind = 2 at hk
    change (flipN m ⟨2, a, b, c⟩).2 = -1 at hs
    show goodN m (flipN m ⟨2, a, b, c⟩).1
    unfold flipN at hk hs ⊢
    dsimp only at hk hs ⊢
    split at hk
    · exact absurd hk (by show ¬ (0 : Int) = 2; omega)
    · rename_i h0
      rw [if_neg h0] at hs ⊢
      split at hk
      · rename_i h2
        rw [if_pos h2] at hs
        have := (nd_ok hm a).2 h2
        have hs' : (nd m a).a = -1 := hs
        omega
      · rename_i h2
        rw [if_neg h2]
        refine ⟨fun _ z hz => ?_, fun _ => h2, fun h => ?_⟩
        · simp [usesR, many] at hz
          subst hz
          exact h0
        · have : (3 : Int) ≤ 2 := h.1
          omega
  · obtain ⟨ha, hb⟩ := uses_ab hx (.inl rfl)
    change (bothN m ⟨3, a, b, c⟩ 0).1.kind = 3 at hk
    change (bothN m ⟨3, a, b, c⟩ 0).2 = -1 at hs
    show goodN m (bothN m ⟨3, a, b, c⟩ 0).1
    unfold bothN at hk hs ⊢
    dsimp only at hk hs ⊢
    rw [show (1 : Int) - 0 = 1 from rfl] at hk hs ⊢
    split at hk
    · exact absurd hk (by show ¬ (0 : Int) = 3; omega)
    · rename_i e1
      rw [if_neg e1] at hs ⊢
      rw [Bool.or_eq_true, not_or] at e1
      split at hs
      · have : b = -1 := hs
        omega
      · rename_i e2
        rw [if_neg e2] at hk ⊢
        split at hs
        · have : a = -1 := hs
          omega
        · rename_i e3
          rw [if_neg e3] at hk ⊢
          split at hs
          · have : a = -1 := hs
            omega
          · rename_i e4
            rw [if_neg e4] at hk ⊢
            split at hk
            · exact absurd hk (by show ¬ (0 : Int) = 3; omega)
            · rename_i e5
              rw [if_neg e5]
              exact good_two (.inl rfl) (notN hm e1.1 e2) (notN hm e1.2 e3) e4
  · obtain ⟨ha, hb⟩ := uses_ab hx (.inr (.inl rfl))
    change (bothN m ⟨4, a, b, c⟩ 1).1.kind = 4 at hk
    change (bothN m ⟨4, a, b, c⟩ 1).2 = -1 at hs
    show goodN m (bothN m ⟨4, a, b, c⟩ 1).1
    unfold bothN at hk hs ⊢
    dsimp only at hk hs ⊢
    rw [show (1 : Int) - 1 = 0 from rfl] at hk hs ⊢
    split at hk
    · exact absurd hk (by show ¬ (0 : Int) = 4; omega)
    · rename_i e1
      rw [if_neg e1] at hs ⊢
      rw [Bool.or_eq_true, not_or] at e1
      split at hs
      · have : b = -1 := hs
        omega
      · rename_i e2
        rw [if_neg e2] at hk ⊢
        split at hs
        · have : a = -1 := hs
          omega
        · rename_i e3
          rw [if_neg e3] at hk ⊢
          split at hs
          · have : a = -1 := hs
            omega
          · rename_i e4
            rw [if_neg e4] at hk ⊢
            split at hk
            · exact absurd hk (by show ¬ (0 : Int) = 4; omega)
            · rename_i e5
              rw [if_neg e5]
              exact good_two (.inr (.inl rfl)) (notN hm e2 e1.1) (notN hm e3 e1.2) e4
  · obtain ⟨ha, hb⟩ := uses_ab hx (.inr (.inr rfl))
    change (oddN m ⟨5, a, b, c⟩).1.kind = 5 at hk
    change (oddN m ⟨5, a, b, c⟩).2 = -1 at hs
    show goodN m (oddN m ⟨5, a, b, c⟩).1
    unfold oddN at hk hs ⊢
    dsimp only at hk hs ⊢
    split at hk
    · exact absurd hk (by show ¬ (0 : Int) = 5; omega)
    · rename_i e1
      rw [if_neg e1] at hs ⊢
      split at hs
      · have : b = -1 := hs
        omega
      · rename_i e2
        rw [if_neg e2] at hk ⊢
        split at hs
        · have : a = -1 := hs
          omega
        · rename_i e3
          rw [if_neg e3] at hk ⊢
          split at hk
          · exact absurd hk (by show ¬ (2 : Int) = 5; omega)
          · rename_i e4
            rw [if_neg e4] at hs ⊢
            split at hk
            · exact absurd hk (by show ¬ (2 : Int) = 5; omega)
            · rename_i e5
              rw [if_neg e5] at hs ⊢
              split at hk
              · exact absurd hk (by show ¬ (0 : Int) = 5; omega)
              · rename_i e6
                rw [if_neg e6]
                exact good_two (.inr (.inr rfl)) (notN hm e2 e4) (notN hm e3 e5) e1
  · refine ⟨fun h => ?_, fun h => ?_, fun h => ?_⟩
    · rw [hk] at h
      have : (6 : Int) ≤ 5 := h.2
      omega
    · rw [hk] at h
      have : (6 : Int) = 2 := h
      omega
    · rw [hk] at h
      have : (6 : Int) ≤ 5 := h.2
      omega
theorem look_good {m : List Node} {n : Nat} (hm : ∀ x ∈ m, okNd n x) {x : Node} (hx : okX n x) (hs : (look m x).2 = -1) : goodN m (look m x).1 :=
  look_ind hm (fun _ r => r.2 = -1 → goodN m r.1) (fun x hx hk hs => fold1_good hm hx hk hs) (fun _ _ _ _ h => h) 7 x hx (by have := hx.1; omega) hs

structure FG (nodes : List Node) (o : List Nat) (s : FoS) : Prop where
  out1 : ∀ u, u < nodes.length → u ∉ o → stF s.st u = u
  ido : ∀ u ∈ o, stF s.st u ∈ o ∧ stF s.st (stF s.st u) = stF s.st u
  fixs : ∀ (u : Nat) (x : Node), nodes[u]? = some x → ¬ isGt x → stF s.st u = u
  us : ∀ u ∈ o, ∀ (x y : Node), nodes[u]? = some x → isGt x → s.m[u]? = some y → ∀ z ∈ usesR y, ∃ v : Nat, z = (v : Int) ∧ v < nodes.length ∧ v ∈ o ∧ stF s.st v = v
  good : ∀ u ∈ o, ∀ (x y : Node), nodes[u]? = some x → isGt x → s.m[u]? = some y → stF s.st u = u → goodN s.m y
theorem FG.init (nodes : List Node) : FG nodes [] ⟨nodes, List.range nodes.length⟩ := by
  have hst : ∀ u, u < nodes.length → stF (List.range nodes.length) u = u := fun u hu => by
    unfold stF
    rw [List.getD_eq_getElem?_getD, List.getElem?_range hu]
    rfl
  exact ⟨fun u hu _ => hst u hu, fun u hu => by simp at hu, fun u x hx _ => hst u (List.getElem?_eq_some_iff.1 hx).1, fun u hu => by simp at hu, fun u hu => by simp at hu⟩
theorem nd_set {m : List Node} {a : Nat} {y : Node} {z : Int} (h : z.toNat ≠ a) : nd (m.set a y) z = nd m z := by
  unfold nd
  rw [List.getD_eq_getElem?_getD, List.getElem?_set, if_neg (fun e => h e.symm), ← List.getD_eq_getElem?_getD]
theorem goodN_set {m : List Node} {a : Nat} {y w : Node} (h : goodN m y) (hu : ∀ z ∈ usesR y, z.toNat ≠ a) : goodN (m.set a w) y := by
  refine ⟨fun hk z hz => by rw [nd_set (hu z hz)]; exact h.1 hk z hz, fun hk => ?_, h.2.2⟩
  rw [nd_set (hu y.a (by simp [usesR, many, hk]))]
  exact h.2.1 hk
theorem FG.step {nodes : List Node} {o : List Nat} {s : FoS} (h : FG nodes o s) (hI : FoI nodes o s) (hf : Frm nodes) {a : Nat} (ha : a < nodes.length) (hao : a ∉ o) (hon : ∀ u ∈ o, u < nodes.length) (huo : ∀ u ∈ useAt nodes a, u ∈ o) : FG nodes (o ++ [a]) (foStep nodes s a) := by
  have hnx := List.getElem?_eq_getElem ha
  obtain ⟨x, hx⟩ : ∃ x, nodes[a] = x := ⟨_, rfl⟩
  rw [hx] at hnx
  have hmem : ∀ {u : Nat}, u ∈ o ++ [a] ↔ u ∈ o ∨ u = a := fun {u} => by simp
  have hne : ∀ u ∈ o, a ≠ u := fun u hu e => hao (e ▸ hu)
  unfold foStep
  rw [hnx]
  dsimp only
  split
  · rename_i hg
    have hrx := hf x (List.mem_of_getElem? hnx)
    have hok := okX_ren (okX_right hrx hg) hI.bs
    have hk7 : ¬ x.kind = 7 := by unfold isGt at hg; omega
    obtain ⟨o1, o2⟩ := look_ok hI.nd hok
    have hP := look_P (m := s.m) (n := nodes.length) (P := fun z => ∃ v : Nat, z = (v : Int) ∧ v < nodes.length ∧ v ∈ o ∧ stF s.st v = v) hI.nd (fun z hz h2 => by
      obtain ⟨v, rfl, h1, h3, h4⟩ := hz
      have hvm : v < s.m.length := by rw [hI.lm]; exact h1
      have hnd : nd s.m (v : Int) = s.m[v] := nd_at hvm
      rw [hnd] at h2 ⊢
      have hnv := List.getElem?_eq_getElem h1
      have hgv : isGt nodes[v] := by
        by_cases hgv : isGt nodes[v]
        · exact hgv
        · have := hI.fix v _ hnv hgv
          rw [List.getElem?_eq_getElem hvm] at this
          injection this with this
          rw [this] at h2
          exact absurd ⟨by omega, by omega⟩ hgv
      exact h.us v h3 _ _ hnv hgv (List.getElem?_eq_getElem hvm) _ (by simp [usesR, many, h2])) hok (fun z hz => by
      obtain ⟨u, hu, rfl⟩ := uses_renF hz
      have hur := rightB_uses hrx u hu
      have hoo := h.ido u.toNat (huo _ (by rw [useAt_at hnx, usesN, if_neg hk7]; exact List.mem_map.2 ⟨u, hu, rfl⟩))
      exact ⟨_, rfl, hI.bs _ (by omega), hoo.1, hoo.2⟩)
    have hgd := look_good hI.nd hok
    obtain ⟨r, hr⟩ : ∃ r, look s.m (renN (stF s.st) x) = r := ⟨_, rfl⟩
    rw [hr] at o1 o2 hP hgd ⊢
    have hal : a < s.m.length := by rw [hI.lm]; exact ha
    have hasl : a < s.st.length := by rw [hI.ls]; exact ha
    have hma : ∀ (u : Nat), (s.m.set a r.1)[u]? = if a = u then some r.1 else s.m[u]? := fun u => by
      rw [List.getElem?_set]
      by_cases e : a = u
      · rw [if_pos e, if_pos e, if_pos hal]
      · rw [if_neg e, if_neg e]
    have hsa := h.out1 a ha hao
    obtain ⟨st', hst'⟩ : ∃ st', (if r.2 = -1 then s.st else s.st.set a r.2.toNat) = st' := ⟨_, rfl⟩
    have hsu : ∀ u, a ≠ u → stF st' u = stF s.st u := fun u hu => by
      rw [← hst']
      split
      · rfl
      · rw [stF_set2 hasl, if_neg hu]
    have hsA : (r.2 = -1 ∧ stF st' a = a) ∨ (stF st' a ∈ o ∧ stF s.st (stF st' a) = stF st' a) := by
      rw [← hst']
      split
      · rename_i e; exact .inl ⟨e, hsa⟩
      · rename_i e
        rw [stF_set2 hasl, if_pos rfl]
        obtain ⟨v, h1, -, h3, h4⟩ := hP.2.resolve_left e
        rw [h1, Int.toNat_natCast]
        exact .inr ⟨h3, h4⟩
    rw [hst']
    refine ⟨fun u hu hn => ?_, fun u hu => ?_, fun u y hy hng => ?_, fun u hu y w hy hgy hw z hz => ?_, fun u hu y w hy hgy hw hsu2 => ?_⟩
    · rw [hmem, not_or] at hn
      show stF st' u = u
      rw [hsu u (fun e => hn.2 e.symm)]
      exact h.out1 u hu hn.1
    · show stF st' u ∈ _ ∧ stF st' (stF st' u) = stF st' u
      rcases hmem.1 hu with hu | rfl
      · have h1 := h.ido u hu
        rw [hsu u (hne u hu)]
        exact ⟨hmem.2 (.inl h1.1), by rw [hsu _ (hne _ h1.1)]; exact h1.2⟩
      · rcases hsA with ⟨-, e⟩ | ⟨e1, e2⟩
        · rw [e]; exact ⟨hmem.2 (.inr rfl), e⟩
        · exact ⟨hmem.2 (.inl e1), by rw [hsu _ (hne _ e1)]; exact e2⟩
    · have hua : a ≠ u := fun e => by subst e; rw [hnx] at hy; injection hy with hy; subst hy; exact hng hg
      show stF st' u = u
      rw [hsu u hua]
      exact h.fixs u y hy hng
    · have hw' : (s.m.set a r.1)[u]? = some w := hw
      rw [hma] at hw'
      rcases hmem.1 hu with hu | rfl
      · rw [if_neg (hne u hu)] at hw'
        obtain ⟨v, h1, h2, h3, h4⟩ := h.us u hu y w hy hgy hw' z hz
        exact ⟨v, h1, h2, hmem.2 (.inl h3), by show stF st' v = v; rw [hsu v (hne v h3)]; exact h4⟩
      · rw [if_pos rfl] at hw'
        injection hw' with hw'
        subst hw'
        obtain ⟨v, h1, h2, h3, h4⟩ := hP.1 z hz
        exact ⟨v, h1, h2, hmem.2 (.inl h3), by show stF st' v = v; rw [hsu v (hne v h3)]; exact h4⟩
    · have hw' : (s.m.set a r.1)[u]? = some w := hw
      have hsu3 : stF st' u = u := hsu2
      rw [hma] at hw'
      show goodN (s.m.set a r.1) w
      rcases hmem.1 hu with hu | rfl
      · rw [if_neg (hne u hu)] at hw'
        rw [hsu u (hne u hu)] at hsu3
        refine goodN_set (h.good u hu y w hy hgy hw' hsu3) fun z hz => ?_
        obtain ⟨v, rfl, -, h3, -⟩ := h.us u hu y w hy hgy hw' z hz
        exact fun e => hao (by rw [← e]; exact h3)
      · rw [if_pos rfl] at hw'
        injection hw' with hw'
        subst hw'
        have e : r.2 = -1 := by
          rcases hsA with ⟨e, -⟩ | ⟨e1, -⟩
          · exact e
          · rw [hsu3] at e1
            exact absurd e1 hao
        refine goodN_set (hgd e) fun z hz => ?_
        obtain ⟨v, rfl, -, h3, -⟩ := hP.1 z hz
        exact fun e => hao (by rw [← e]; exact h3)
  · rename_i hg
    have hsa := h.fixs a x hnx hg
    refine ⟨fun u hu hn => h.out1 u hu fun h' => hn (hmem.2 (.inl h')), fun u hu => ?_, h.fixs, fun u hu y w hy hgy hw z hz => ?_, fun u hu y w hy hgy hw hsu => ?_⟩
    · rcases hmem.1 hu with hu | rfl
      · exact ⟨hmem.2 (.inl (h.ido u hu).1), (h.ido u hu).2⟩
      · rw [hsa]; exact ⟨hmem.2 (.inr rfl), hsa⟩
    · rcases hmem.1 hu with hu | rfl
      · obtain ⟨v, h1, h2, h3, h4⟩ := h.us u hu y w hy hgy hw z hz
        exact ⟨v, h1, h2, hmem.2 (.inl h3), h4⟩
      · rw [hnx] at hy; injection hy with hy; subst hy; exact absurd hgy hg
    · rcases hmem.1 hu with hu | rfl
      · exact h.good u hu y w hy hgy hw hsu
      · rw [hnx] at hy; injection hy with hy; subst hy; exact absurd hgy hg
theorem fold_fg {nodes : List Node} {ins outs : List Port} {l : List Int} (hlev : LevOut nodes ins outs 0 l) : FG nodes (ordL l) (foRun nodes (ordL l)) := by
  have hez := errP_zero hlev.choose_spec.1.symm
  have hf := Frm.of hez.2.1
  have hisl : IsLev nodes l := by obtain ⟨b, h1, h2, h3, h4, h5⟩ := hlev; exact h4 rfl
  obtain ⟨hb, -⟩ := beh_of_lev hf hisl
  have hol : (ordL l).length = nodes.length := by rw [ordL_length (lev_nonneg hisl), hisl.1]
  have key : ∀ j, j ≤ nodes.length → FoI nodes ((ordL l).take j) (foRun nodes ((ordL l).take j)) ∧ FG nodes ((ordL l).take j) (foRun nodes ((ordL l).take j)) := by
    intro j
    induction j with
    | zero => exact fun _ => by rw [List.take_zero]; exact ⟨FoI.init hf, FG.init nodes⟩
    | succ j ih =>
      intro hj
      have hlo : j < (ordL l).length := by omega
      obtain ⟨b1, b2, b3⟩ := hb.at_ j hlo
      obtain ⟨i1, i2⟩ := ih (by omega)
      rw [List.take_succ_eq_append_getElem hlo, foRun_snoc]
      exact ⟨i1.step hf b1, i2.step i1 hf b1 b2 (fun u hu => hb.mem (List.mem_of_mem_take hu)) b3⟩
  have h := (key nodes.length (Nat.le_refl _)).2
  rw [List.take_of_length_le (by omega)] at h
  exact h
/-- what is left of a folded net -/
structure FoG (md : List Node) (st : List Nat) (n : Nat) : Prop where
  len : md.length = n
  us : ∀ (u : Nat) (y : Node), u < n → stF st u = u → md[u]? = some y → ∀ z ∈ usesR y, ∃ v : Nat, z = (v : Int) ∧ v < n ∧ stF st v = v
  good : ∀ (u : Nat) (y : Node), u < n → stF st u = u → md[u]? = some y → (2 ≤ y.kind ∧ y.kind ≤ 5 → ∀ z ∈ usesR y, kindAt md z.toNat ≠ 0) ∧ (y.kind = 2 → kindAt md y.a.toNat ≠ 2) ∧ (3 ≤ y.kind ∧ y.kind ≤ 5 → y.a ≠ y.b)
theorem fold_left {nodes : List Node} {ins outs : List Port} {n' : List Node} {o' : List Port} {st : List Nat} (h : FoOut nodes ins outs n' o' st) : FoG n' st nodes.length ∧ ∀ u, u < nodes.length → stF st u < nodes.length ∧ stF st (stF st u) = stF st u := by
  obtain ⟨l, m, hlev, hI, hV, hrun, -, hlen, hat⟩ := fold_nodes h
  have hG := fold_fg hlev
  rw [hrun] at hG
  have hez := errP_zero hlev.choose_spec.1.symm
  have hfo := formed_in hez.2.1
  have hf := Frm.of hez.2.1
  have hisl : IsLev nodes l := by obtain ⟨b, h1, h2, h3, h4, h5⟩ := hlev; exact h4 rfl
  obtain ⟨-, hall⟩ := beh_of_lev hf hisl
  have hrep : ∀ u, u < nodes.length → stF st u < nodes.length ∧ stF st (stF st u) = stF st u := fun u hu => ⟨hI.bs u hu, (hG.ido u (hall u hu)).2⟩
  have hkk : ∀ u, u < nodes.length → kindAt n' u = (nd m (u : Int)).kind := fun u hu => by
    obtain ⟨y, hy, hc⟩ := hat u _ (List.getElem?_eq_getElem hu)
    have hum : u < m.length := by rw [hI.lm]; exact hu
    rw [kindAt_eq hy, nd_at hum]
    rcases hc with ⟨h7, e⟩ | ⟨-, -, hm, -, -⟩
    · have hng : ¬ isGt nodes[u] := by unfold isGt; omega
      have := hI.fix u _ (List.getElem?_eq_getElem hu) hng
      rw [List.getElem?_eq_getElem hum] at this
      injection this with this
      rw [this, e, h7]
    · rw [List.getElem?_eq_getElem hum] at hm
      injection hm with hm
      rw [hm]
  refine ⟨⟨hlen, fun u y hu hs hy z hz => ?_, fun u y hu hs hy => ?_⟩, hrep⟩
  · obtain ⟨y', hy', hc⟩ := hat u _ (List.getElem?_eq_getElem hu)
    rw [hy] at hy'
    injection hy' with hy'
    subst hy'
    rcases hc with ⟨h7, e⟩ | ⟨h7, -, hm, hg, hn⟩
    · rw [e] at hz
      simp [usesR, many] at hz
      have hr := (rightB_reg (hf _ (List.getElem_mem hu)) h7).2
      have := hrep nodes[u].a.toNat (by omega)
      exact ⟨_, hz, this.1, this.2⟩
    · by_cases h : isGt nodes[u]
      · obtain ⟨v, h1, h2, -, h4⟩ := hG.us u (hall u hu) _ _ (List.getElem?_eq_getElem hu) h hm z hz
        exact ⟨v, h1, h2, h4⟩
      · rw [hn h] at hz
        have hk := rightB_kind (hf _ (List.getElem_mem hu))
        have : nodes[u].kind = 0 ∨ nodes[u].kind = 1 := by unfold isGt at h; omega
        rcases this with e | e <;> simp [usesR, many, e] at hz
  · obtain ⟨y', hy', hc⟩ := hat u _ (List.getElem?_eq_getElem hu)
    rw [hy] at hy'
    injection hy' with hy'
    subst hy'
    rcases hc with ⟨h7, e⟩ | ⟨h7, -, hm, hg, hn⟩
    · rw [e]
      refine ⟨fun h => ?_, fun h => ?_, fun h => ?_⟩
      · have : (7 : Int) ≤ 5 := h.2
        omega
      · have : (7 : Int) = 2 := h
        omega
      · have : (7 : Int) ≤ 5 := h.2
        omega
    · by_cases h : isGt nodes[u]
      · have hgd := hG.good u (hall u hu) _ _ (List.getElem?_eq_getElem hu) h hm hs
        have hus := hG.us u (hall u hu) _ _ (List.getElem?_eq_getElem hu) h hm
        refine ⟨fun hk z hz => ?_, fun hk => ?_, hgd.2.2⟩
        · obtain ⟨v, rfl, h2, -, -⟩ := hus z hz
          rw [Int.toNat_natCast, hkk v h2]
          exact hgd.1 hk _ hz
        · obtain ⟨v, e, h2, -, -⟩ := hus y.a (by simp [usesR, many, hk])
          rw [e, Int.toNat_natCast, hkk v h2, ← e]
          exact hgd.2.1 hk
      · rw [hn h]
        have hk := rightB_kind (hf _ (List.getElem_mem hu))
        have : nodes[u].kind = 0 ∨ nodes[u].kind = 1 := by unfold isGt at h; omega
        exact ⟨fun h => by omega, fun h => by omega, fun h => by omega⟩
end Go.Proofs.Ytbfjacgfifecpaa
