/- fold, plain: the folded net may be, and tells the same. -/
import Derived.Test.YtbfjacgfifecpaaFoV
namespace Go.Proofs.Ytbfjacgfifecpaa

structure FV (nodes : List Node) (l : List Int) (s : FoS) : Prop where
  rt : ∀ (u : Nat) (y : Node), s.m[u]? = some y → rightB y nodes.length = true
  us : ∀ (u : Nat) (y : Node), s.m[u]? = some y → ∀ v ∈ usesN y, l.getD v 0 < l.getD u 0
  st : ∀ u, u < nodes.length → l.getD (stF s.st u) 0 ≤ l.getD u 0
  val : ∀ st0 inn V, IsVal nodes st0 inn V → (∀ (u : Nat) (y : Node), s.m[u]? = some y → V.getD u false = valB y V st0 inn u) ∧ ∀ u, u < nodes.length → V.getD (stF s.st u) false = V.getD u false
theorem FV.init {nodes : List Node} {l : List Int} (hf : Frm nodes) (hl : IsLev nodes l) : FV nodes l ⟨nodes, List.range nodes.length⟩ := by
  have hst : ∀ u, u < nodes.length → stF (List.range nodes.length) u = u := fun u hu => by
    unfold stF
    rw [List.getD_eq_getElem?_getD, List.getElem?_range hu]
    rfl
  refine ⟨fun u y h => hf y (List.mem_of_getElem? h), fun u y h v hv => ?_, fun u hu => ?_, fun st0 inn V hV => ⟨fun u y h => hV.2 u y h, fun u hu => ?_⟩⟩
  · rw [hl.2 u y h]
    have := lvl_ge (l := l) hv
    omega
  · show l.getD (stF (List.range nodes.length) u) 0 ≤ _
    rw [hst u hu]
    exact Int.le_refl _
  · show V.getD (stF (List.range nodes.length) u) false = _
    rw [hst u hu]
theorem stF_set2 {st : List Nat} {a was u : Nat} (ha : a < st.length) : stF (st.set a was) u = if a = u then was else stF st u := by
  unfold stF
  rw [List.getD_eq_getElem?_getD, List.getElem?_set, List.getD_eq_getElem?_getD]
  by_cases e : a = u
  · subst e; simp [ha]
  · rw [if_neg e, if_neg e]
theorem FV.step {nodes : List Node} {l : List Int} {o : List Nat} {s : FoS} (h : FV nodes l s) (hI : FoI nodes o s) (hf : Frm nodes) (hl : IsLev nodes l) {a : Nat} (ha : a < nodes.length) : FV nodes l (foStep nodes s a) := by
  have hnx := List.getElem?_eq_getElem ha
  obtain ⟨x, hx⟩ : ∃ x, nodes[a] = x := ⟨_, rfl⟩
  rw [hx] at hnx
  unfold foStep
  rw [hnx]
  dsimp only
  split
  · rename_i hg
    have hrx := hf x (List.mem_of_getElem? hnx)
    have hokx := okX_right hrx hg
    have hok := okX_ren hokx hI.bs
    have hr1 : rightB (renN (stF s.st) x) nodes.length = true := rightB_ren2 hrx fun v hv => hI.bs v (by
      obtain ⟨z, hz, rfl⟩ := List.mem_map.1 hv
      have := rightB_uses hrx z hz
      omega)
    have hk7 : ¬ x.kind = 7 := by unfold isGt at hg; omega
    obtain ⟨o1, o2⟩ := look_ok hI.nd hok
    have hrr := look_right hI.nd hok hr1
    have hnd : ∀ z : Int, 0 ≤ z → z < nodes.length → s.m[z.toNat]? = some (nd s.m z) := fun z h0 h1 => by
      have : z.toNat < s.m.length := by rw [hI.lm]; omega
      rw [nd, List.getD_eq_getElem?_getD, List.getElem?_eq_getElem this]
      rfl
    have hP := look_P (m := s.m) (n := nodes.length) (P := fun z => (0 ≤ z ∧ z < nodes.length) ∧ l.getD z.toNat 0 < l.getD a 0) hI.nd (fun z hz h2 => by
      have hz2 := hnd z hz.1.1 hz.1.2
      have hy := (nd_ok hI.nd z).2 h2
      refine ⟨hy, ?_⟩
      have := h.us z.toNat _ hz2 (nd s.m z).a.toNat (by rw [usesN, if_neg (by omega)]; exact List.mem_map.2 ⟨_, by simp [usesR, many, h2], rfl⟩)
      have := hz.2
      omega) hok (fun z hz => by
      obtain ⟨u, hu, rfl⟩ := uses_renF hz
      have hur := rightB_uses hrx u hu
      have hb := hI.bs u.toNat (by omega)
      refine ⟨⟨by omega, by omega⟩, ?_⟩
      rw [Int.toNat_natCast]
      have h1 := h.st u.toNat (by omega)
      have h2 := lvl_ge (us := usesN x) (l := l) (u := u.toNat) (by rw [usesN, if_neg hk7]; exact List.mem_map.2 ⟨u, hu, rfl⟩)
      have h3 := hl.2 a x hnx
      omega)
    obtain ⟨r, hr⟩ : ∃ r, look s.m (renN (stF s.st) x) = r := ⟨_, rfl⟩
    have hv1 : ∀ V, Vals s.m nodes.length V → FV1 V (renN (stF s.st) x) r := fun V hV => by rw [← hr]; exact look_val hI.nd hV hok
    rw [hr] at o1 o2 hrr hP ⊢
    have hal : a < s.m.length := by rw [hI.lm]; exact ha
    have hasl : a < s.st.length := by rw [hI.ls]; exact ha
    have hma : ∀ (u : Nat), (s.m.set a r.1)[u]? = if a = u then some r.1 else s.m[u]? := fun u => by
      rw [List.getElem?_set]
      by_cases e : a = u
      · rw [if_pos e, if_pos e, if_pos hal]
      · rw [if_neg e, if_neg e]
    refine ⟨fun u y hy => ?_, fun u y hy v hv => ?_, fun u hu => ?_, fun st0 inn V hV => ?_⟩
    · have hy' : (s.m.set a r.1)[u]? = some y := hy
      rw [hma] at hy'
      split at hy'
      · injection hy' with hy'; rw [← hy']; exact hrr
      · exact h.rt u y hy'
    · have hy' : (s.m.set a r.1)[u]? = some y := hy
      rw [hma] at hy'
      split at hy'
      · rename_i e
        injection hy' with hy'
        subst hy' e
        unfold usesN at hv
        split at hv
        · simp at hv
        · obtain ⟨z, hz, rfl⟩ := List.mem_map.1 hv
          exact (hP.1 z hz).2
      · exact h.us u y hy' v hv
    · show l.getD (stF (if r.2 = -1 then s.st else s.st.set a r.2.toNat) u) 0 ≤ _
      split
      · exact h.st u hu
      · rename_i hne
        rw [stF_set2 hasl]
        split
        · rename_i e
          subst e
          have := (hP.2.resolve_left hne).2
          omega
        · exact h.st u hu
    · obtain ⟨v1, v2⟩ := h.val st0 inn V hV
      have hVs : Vals s.m nodes.length V := fun z h0 h1 => by
        have hz := v1 z.toNat _ (hnd z h0 h1)
        refine ⟨fun e => ?_, fun e => ?_⟩
        · show V.getD z.toNat false = _
          rw [hz]
          unfold valB
          rw [if_pos e]
        · show V.getD z.toNat false = _
          rw [hz]
          unfold valB gateB
          rw [if_neg (by omega), if_neg (by omega), if_neg (by omega), if_pos e]
          rfl
      obtain ⟨e1, e2⟩ := hv1 V hVs
      have hVa : V.getD a false = ev (renN (stF s.st) x) V := by
        rw [hV.2 a x hnx, ← ev_index hok V st0 inn a]
        refine (valB_ren2 hrx (fun v hv => v2 v ?_) rfl rfl).symm
        exact hf.uses (u := a) (by rw [useAt_at hnx]; exact hv)
      refine ⟨fun u y hy => ?_, fun u hu => ?_⟩
      · have hy' : (s.m.set a r.1)[u]? = some y := hy
        rw [hma] at hy'
        split at hy'
        · rename_i e
          injection hy' with hy'
          subst hy' e
          rw [hVa, ev_index o1]
          exact e1.symm
        · exact v1 u y hy'
      · show V.getD (stF (if r.2 = -1 then s.st else s.st.set a r.2.toNat) u) false = _
        split
        · exact v2 u hu
        · rename_i hne
          rw [stF_set2 hasl]
          split
          · rename_i e
            subst e
            have := e2.resolve_left hne
            rw [hVa]
            exact this
          · exact v2 u hu
  · exact h
theorem fold_fv {nodes : List Node} {ins outs : List Port} {l : List Int} (hlev : LevOut nodes ins outs 0 l) : FoI nodes (ordL l) (foRun nodes (ordL l)) ∧ FV nodes l (foRun nodes (ordL l)) := by
  have hez := errP_zero hlev.choose_spec.1.symm
  have hf := Frm.of hez.2.1
  have hisl : IsLev nodes l := by obtain ⟨b, h1, h2, h3, h4, h5⟩ := hlev; exact h4 rfl
  obtain ⟨hb, -⟩ := beh_of_lev hf hisl
  have hol : (ordL l).length = nodes.length := by rw [ordL_length (lev_nonneg hisl), hisl.1]
  have key : ∀ j, j ≤ nodes.length → FoI nodes ((ordL l).take j) (foRun nodes ((ordL l).take j)) ∧ FV nodes l (foRun nodes ((ordL l).take j)) := by
    intro j
    induction j with
    | zero => exact fun _ => by rw [List.take_zero]; exact ⟨FoI.init hf, FV.init hf hisl⟩
    | succ j ih =>
      intro hj
      have hlo : j < (ordL l).length := by omega
      obtain ⟨b1, -, -⟩ := hb.at_ j hlo
      obtain ⟨i1, i2⟩ := ih (by omega)
      rw [List.take_succ_eq_append_getElem hlo, foRun_snoc]
      exact ⟨i1.step hf b1, i2.step i1 hf hisl b1⟩
  have h := key nodes.length (Nat.le_refl _)
  rw [List.take_of_length_le (by omega)] at h
  exact h
/-- the nodes of a folded net -/
theorem fold_nodes {nodes : List Node} {ins outs : List Port} {n' : List Node} {o' : List Port} {st : List Nat} (h : FoOut nodes ins outs n' o' st) : ∃ l m, LevOut nodes ins outs 0 l ∧ FoI nodes (ordL l) ⟨m, st⟩ ∧ FV nodes l ⟨m, st⟩ ∧ foRun nodes (ordL l) = ⟨m, st⟩ ∧ o' = outs.map (rpP (stF st)) ∧ n'.length = nodes.length ∧
    ∀ (u : Nat) (x : Node), nodes[u]? = some x → ∃ y, n'[u]? = some y ∧ ((x.kind = 7 ∧ y = ⟨7, (stF st x.a.toNat : Int), x.b, x.c⟩) ∨ (x.kind ≠ 7 ∧ y.kind ≠ 7 ∧ m[u]? = some y ∧ (isGt x → okX nodes.length y) ∧ (¬ isGt x → y = x))) := by
  have hlen := h.lens.1
  obtain ⟨l, hlev, -, rfl, rfl, rfl⟩ := h
  obtain ⟨hI, hV⟩ := fold_fv hlev
  obtain ⟨s, hs⟩ : ∃ s, foRun nodes (ordL l) = s := ⟨_, rfl⟩
  rw [hs] at hI hV hlen ⊢
  obtain ⟨m, st⟩ := s
  refine ⟨l, m, hlev, hI, hV, hs, rfl, hlen, fun u x hx => ?_⟩
  have hul := (List.getElem?_eq_some_iff.1 hx).1
  have hk := kindAt_eq hx
  rw [dfRun_atF hI.lm u nodes.length (Nat.le_refl _)]
  by_cases h7 : x.kind = 7
  · rw [if_pos ⟨hul, by rw [hk]; exact h7⟩, hx]
    exact ⟨_, rfl, .inl ⟨h7, ren7_by _ _ h7⟩⟩
  · rw [if_neg (fun e => h7 (by rw [← hk]; exact e.2))]
    by_cases hg : isGt x
    · obtain ⟨y, h1, h2⟩ := hI.gate u x hx hg
      exact ⟨y, h1, .inr ⟨h7, by have := h2.1; omega, h1, fun _ => h2, fun h => absurd hg h⟩⟩
    · exact ⟨x, hI.fix u x hx hg, .inr ⟨h7, h7, hI.fix u x hx hg, fun h => absurd h hg, fun _ => rfl⟩⟩
/-- the folded net may be, and tells the same -/
theorem fold_same {nodes : List Node} {ins outs : List Port} {n' : List Node} {o' : List Port} {st : List Nat} (h : FoOut nodes ins outs n' o' st) :
    n'.length = nodes.length ∧ errP n' ins o' true = 0 ∧ (∃ k, IsLev n' k) ∧ outs.map wideP = o'.map wideP ∧ ∀ script, throughC nodes ins outs script = throughC n' ins o' script := by
  obtain ⟨l, m, hlev, hI, hV, -, ho', hlen, hat⟩ := fold_nodes h
  have hez := errP_zero hlev.choose_spec.1.symm
  have hfo := formed_in hez.2.1
  have hf := Frm.of hez.2.1
  have hisl : IsLev nodes l := by obtain ⟨b, h1, h2, h3, h4, h5⟩ := hlev; exact h4 rfl
  have hinv : ∀ (u : Nat) (y : Node), n'[u]? = some y → ∃ x, nodes[u]? = some x ∧ ((x.kind = 7 ∧ y = ⟨7, (stF st x.a.toNat : Int), x.b, x.c⟩) ∨ (x.kind ≠ 7 ∧ y.kind ≠ 7 ∧ m[u]? = some y ∧ (isGt x → okX nodes.length y) ∧ (¬ isGt x → y = x))) := fun u y hy => by
    have hul : u < nodes.length := by rw [← hlen]; exact (List.getElem?_eq_some_iff.1 hy).1
    have hx := List.getElem?_eq_getElem hul
    obtain ⟨y', h1, h2⟩ := hat u _ hx
    rw [hy] at h1
    injection h1 with h1
    subst h1
    exact ⟨_, hx, h2⟩
  have hlt : ∀ v, v < nodes.length → stF st v < nodes.length := hI.bs
  have hVf : ∀ st0 inn V, IsVal nodes st0 inn V → ∀ u, u < nodes.length → V.getD (stF st u) false = V.getD u false := fun st0 inn V hV0 u hu => (hV.val st0 inn V hV0).2 u hu
  have hf2 : Frm n' := fun y hy => by
    rw [hlen]
    obtain ⟨u, hu, rfl⟩ := List.mem_iff_getElem.1 hy
    obtain ⟨x, hx, hc⟩ := hinv u _ (List.getElem?_eq_getElem hu)
    rcases hc with ⟨h7, e⟩ | ⟨-, -, hm, -, -⟩
    · have hrx := hf x (List.mem_of_getElem? hx)
      have h1 := rightB_ren2 (f := stF st) (n' := nodes.length) hrx fun v hv => hlt v (by
        obtain ⟨z, hz, rfl⟩ := List.mem_map.1 hv
        have := rightB_uses hrx z hz
        omega)
      rw [e]
      obtain ⟨k, a, b, c⟩ := x
      dsimp only at h7
      subst h7
      exact h1
    · exact hV.rt u _ hm
  have hl2 : ∃ k, IsLev n' k := lev_of_rank hf2 (fun u => (l.getD u 0).toNat) fun u y hy v hv => by
    obtain ⟨x, hx, hc⟩ := hinv u y hy
    rcases hc with ⟨h7, e⟩ | ⟨-, -, hm, -, -⟩
    · rw [e] at hv
      simp [usesN] at hv
    · have h1 := hV.us u y hm v hv
      have h2 := hisl.nonneg v
      omega
  obtain ⟨k2, hk2⟩ := hl2
  have hwide : outs.map wideP = o'.map wideP := by
    rw [ho', List.map_map]
    exact List.map_congr_left fun p _ => by simp [wideP, rpP]
  have hname : (ins ++ o').map (·.name) = (ins ++ outs).map (·.name) := by
    rw [ho', List.map_append, List.map_append, List.map_map]
    rfl
  have hbad : (ins ++ o').any badName = (ins ++ outs).any badName := by
    rw [ho', List.any_append, List.any_append, List.any_map]
    rfl
  have hwant : ∀ u, wantK (kindAt n' u) = wantK (kindAt nodes u) := fun u => by
    cases hx : nodes[u]? with
    | none =>
      have hy : n'[u]? = none := by rw [List.getElem?_eq_none_iff] at hx ⊢; omega
      rw [kindAt, kindAt, hx, hy]
    | some x =>
      obtain ⟨y, hy, hc⟩ := hat u x hx
      rw [kindAt_eq hy, kindAt_eq hx]
      rcases hc with ⟨h7, e⟩ | ⟨-, -, -, hg, hn⟩
      · rw [e, h7]
      · by_cases h : isGt x
        · have h1 := (hg h).1
          have h2 : 2 ≤ x.kind ∧ x.kind ≤ 6 := h
          unfold wantK
          rw [if_neg (by omega), if_neg (by omega)]
        · rw [hn h]
  have hhome : homeB n' ins = homeB nodes ins := by
    unfold homeB
    rw [hlen, show homeAt n' (ins.flatMap (·.bits)) = homeAt nodes (ins.flatMap (·.bits)) from funext fun u => by unfold homeAt; rw [hwant]]
  have hform : formedB n' ins o' = true := by
    rw [formedB, Bool.and_eq_true, List.all_eq_true, List.all_eq_true]
    refine ⟨hf2, fun p hp => ?_⟩
    rw [hlen]
    have h := hez.2.1
    rw [formedB, Bool.and_eq_true, List.all_eq_true, List.all_eq_true] at h
    rcases List.mem_append.1 hp with hp | hp
    · exact h.2 p (List.mem_append_left _ hp)
    · rw [ho'] at hp
      obtain ⟨q, hq, rfl⟩ := List.mem_map.1 hp
      have hq2 := h.2 q (List.mem_append_right _ hq)
      simp only [portB, rpP, Bool.and_eq_true, decide_eq_true_eq, List.all_eq_true] at hq2 ⊢
      refine ⟨decide_eq_true fun e => hq2.1 (List.map_eq_nil_iff.1 e), fun b hb => ?_⟩
      obtain ⟨z, hz, rfl⟩ := List.mem_map.1 hb
      have hz2 := hq2.2 z hz
      have := hlt z.toNat (by omega)
      unfold rpB
      omega
  have hmapG : ∀ (g g2 : Node → Bool), (∀ x, x.kind ≠ 7 → g x = false) → (∀ x, x.kind ≠ 7 → g2 x = false) → (∀ (u : Nat) (x : Node), nodes[u]? = some x → x.kind = 7 → g2 ⟨7, (stF st x.a.toNat : Int), x.b, x.c⟩ = g x) → n'.map g2 = nodes.map g := fun g g2 hg hg2 h7 => by
    apply List.ext_getElem?
    intro u
    rw [List.getElem?_map, List.getElem?_map]
    cases hx : nodes[u]? with
    | none =>
      have hy : n'[u]? = none := by rw [List.getElem?_eq_none_iff] at hx ⊢; omega
      rw [hy]; rfl
    | some x =>
      obtain ⟨y, hy, hc⟩ := hat u x hx
      rw [hy]
      show some (g2 y) = some (g x)
      rcases hc with ⟨k7, e⟩ | ⟨k7, y7, -, -, -⟩
      · rw [e, h7 u x hx k7]
      · rw [hg x k7, hg2 y y7]
  refine ⟨hlen, ?_, ⟨k2, hk2⟩, hwide, fun script => ?_⟩
  · unfold errP
    have hol : o'.length = outs.length := by rw [ho', List.length_map]
    rw [if_neg (by rw [hlen, hol]; omega), if_neg (by rw [hform]; simp), if_neg (by rw [hbad, hez.2.2.1]; simp), if_neg (by rw [hname, hez.2.2.2.1]; simp), if_neg (by rw [hhome, hez.2.2.2.2.1]; simp), if_neg (by simp)]
  · refine through_same id hf hf2 hisl hk2 rfl ?_ (fun ms _ => by rw [hlen]; rfl) (fun st0 inn V _ _ hV0 => ?_) (fun st0 inn V hV0 => ?_) (fun st0 inn V hV0 => ?_) script
    · refine hmapG _ _ (fun x h => by simp [h]) (fun x h => by simp [h]) fun u x hx h7 => by simp [h7]
    · refine ⟨by rw [hlen]; exact hV0.1, fun u y hy => ?_⟩
      obtain ⟨x, hx, hc⟩ := hinv u y hy
      show V.getD u false = valB y V st0 inn u
      rcases hc with ⟨h7, e⟩ | ⟨-, -, hm, -, -⟩
      · rw [hV0.2 u x hx, e]
        unfold valB
        rw [if_neg (by omega), if_neg (by omega), if_pos h7]
        rfl
      · exact (hV.val st0 inn V hV0).1 u y hm
    · refine hmapG _ _ (fun x h => by simp [h]) (fun x h => by simp [h]) fun u x hx h7 => ?_
      have hr := (rightB_reg (hf x (List.mem_of_getElem? hx)) h7).2
      have e := hVf st0 inn V hV0 x.a.toNat (by omega)
      show (decide ((7 : Int) = 7) && V.getD (stF st x.a.toNat) false) = (decide (x.kind = 7) && at_ V x.a)
      rw [e, h7]
      rfl
    · unfold outsR
      rw [ho', List.map_map]
      refine List.map_congr_left fun p hp => ?_
      show parts32 (numB (p.bits.map (rpB (stF st))) V) = parts32 (numB p.bits V)
      unfold numB
      rw [List.map_map]
      congr 2
      refine List.map_congr_left fun b hb => ?_
      have hb2 := (hfo.2 p (List.mem_append_right _ hp)).2 b hb
      exact hVf st0 inn V hV0 b.toNat (by omega)
end Go.Proofs.Ytbfjacgfifecpaa
