/- The state of net.levels: levels, how many are left, who uses whom, what is ready. -/
import Derived.Test.YtbfjacgfifecpaaNi
namespace Go.Proofs.Ytbfjacgfifecpaa
open Go.RowKit

abbrev nats (l : List Nat) : List Int := l.map fun (x : Nat) => (x : Int)
abbrev nilS : Value := .slice none 0 0
def mkT (n B : Nat) (lv left : List Int) (rV : Value) (ready : List Nat) (vals : List Value) (us : List (List Nat)) : List (Value × List Int) :=
  (.slice (some ⟨B, 0, none⟩) n n, lv) :: (.slice (some ⟨B + 1, 0, none⟩) n n, left) :: (rV, nats ready) :: vals.zip (us.map nats)
structure LevS (w : World) (n B : Nat) (lv left : List Int) (rV : Value) (ready : List Nat) (vals : List Value) (us : List (List Nat)) (X : List (Value × List Int)) : Prop where
  mem : LevM w B (B + 1 + 1) n (mkT n B lv left rV ready vals us ++ X) vals
  lvals : vals.length = n
  lus : us.length = n

theorem zip_set {α β : Type} (l : List α) (r : List β) (i : Nat) (a : α) (b : β) : (l.zip r).set i (a, b) = (l.set i a).zip (r.set i b) := by
  induction l generalizing r i with
  | nil => simp
  | cons x l ih =>
    cases r with
    | nil => simp
    | cons y r =>
      cases i with
      | zero => rfl
      | succ i => simp only [List.zip_cons_cons, List.set_cons_succ]; rw [ih]

section
variable {w w' : World} {n B : Nat} {lv left : List Int} {rV : Value} {ready : List Nat} {vals : List Value} {us : List (List Nat)} {X : List (Value × List Int)}
theorem LevS.alloc (h : LevS w n B lv left rV ready vals us X) (o : Obj) : LevS (w.alloc o) n B lv left rV ready vals us X := ⟨h.mem.alloc o, h.lvals, h.lus⟩
theorem LevS.drew (h : LevS w n B lv left rV ready vals us X) : LevS w.drew n B lv left rV ready vals us X := ⟨h.mem.drew, h.lvals, h.lus⟩
theorem LevS.below (h : LevS w n B lv left rV ready vals us X) (hb : Below w.heap.size w w') : LevS w' n B lv left rV ready vals us X := ⟨h.mem.below hb, h.lvals, h.lus⟩
theorem LevS.lt (h : LevS w n B lv left rV ready vals us X) : B + 1 + 1 < w.heap.size := h.mem.tabLt.2
theorem LevS.lvOwn (h : LevS w n B lv left rV ready vals us X) : Own kInt 3 w none B (.slice (some ⟨B, 0, none⟩) n n) lv := h.mem.own 0 _ rfl
theorem LevS.leftOwn (h : LevS w n B lv left rV ready vals us X) : Own kInt 3 w none B (.slice (some ⟨B + 1, 0, none⟩) n n) left := h.mem.own 1 _ rfl
theorem LevS.rdyOwn (h : LevS w n B lv left rV ready vals us X) : Own kInt 3 w none B rV (nats ready) := h.mem.own 2 _ rfl
theorem LevS.zipLt (h : LevS w n B lv left rV ready vals us X) {a : Nat} {v : Value} (hv : vals[a]? = some v) : a < (vals.zip (us.map nats)).length := by
  have ha := (List.getElem?_eq_some_iff.1 hv).1
  have h1 := h.lvals
  have h2 := h.lus
  rw [List.length_zip, List.length_map]
  omega
theorem LevS.useOwn (h : LevS w n B lv left rV ready vals us X) {a : Nat} {v : Value} {u : List Nat} (hv : vals[a]? = some v) (hu : us[a]? = some u) : Own kInt 3 w none B v (nats u) := by
  refine h.mem.own (a + 3) (v, nats u) ?_
  show (vals.zip (us.map nats) ++ X)[a]? = _
  rw [List.getElem?_append_left (h.zipLt hv), List.getElem?_zip_eq_some]
  exact ⟨hv, by rw [List.getElem?_map, hu]; rfl⟩
theorem LevS.useCell (h : LevS w n B lv left rV ready vals us X) {a : Nat} {v : Value} (hv : vals[a]? = some v) : w.cell? ⟨B + 1 + 1, a, none⟩ = some v ∧ w.frozen? ⟨B + 1 + 1, a, none⟩ = false := by
  have ha := (List.getElem?_eq_some_iff.1 hv).1
  have hl := h.lvals
  exact ⟨by rw [h.mem.tab.cellAt a (by omega), hv], h.mem.tab.frozenAt a⟩
theorem LevS.setLv (h : LevS w n B lv left rV ready vals us X) (j : Nat) (r : Int) : LevS (w.setCell ⟨B, j, none⟩ (.int .i64 r)) n B (lv.set j r) left rV ready vals us X :=
  ⟨h.mem.rowSet (i := 0) rfl j r, h.lvals, h.lus⟩
theorem LevS.setLeft (h : LevS w n B lv left rV ready vals us X) (j : Nat) (r : Int) : LevS (w.setCell ⟨B + 1, j, none⟩ (.int .i64 r)) n B lv (left.set j r) rV ready vals us X :=
  ⟨h.mem.rowSet (i := 1) rfl j r, h.lvals, h.lus⟩
theorem LevS.setRdy (h : LevS w n B lv left rV ready vals us X) {v' : Value} {y : Nat} (ho : Own kInt 3 w' none B v' (nats ready ++ [(y : Int)])) (hg : w.grownBy w' rV.ownBlock) (hloc : v'.ownBlock = rV.ownBlock ∨ ∃ b, v'.ownBlock = some b ∧ w.heap.size ≤ b) :
    LevS w' n B lv left v' (ready ++ [y]) vals us X := by
  have e : nats (ready ++ [y]) = nats ready ++ [(y : Int)] := by simp
  have hm := h.mem.set (i := 2) rfl ho hg hloc
  refine ⟨?_, h.lvals, h.lus⟩
  rw [mkT, e]
  exact hm
/-- the append to a row of users, ahead of its store into the table -/
theorem LevS.setUse (h : LevS w n B lv left rV ready vals us X) {a : Nat} {v v' : Value} {u : List Nat} {y : Nat} (hv : vals[a]? = some v) (hu : us[a]? = some u) (ho : Own kInt 3 w' none B v' (nats u ++ [(y : Int)])) (hg : w.grownBy w' v.ownBlock)
    (hloc : v'.ownBlock = v.ownBlock ∨ ∃ b, v'.ownBlock = some b ∧ w.heap.size ≤ b) : LevS (w'.setCell ⟨B + 1 + 1, a, none⟩ v') n B lv left rV ready (vals.set a v') (us.set a (u ++ [y])) X := by
  have e : nats (u ++ [y]) = nats u ++ [(y : Int)] := by simp
  have hz := h.zipLt hv
  have hm := (h.mem.set (i := a + 3) (v := v) (xs := nats u) (by
    show (vals.zip (us.map nats) ++ X)[a]? = _
    rw [List.getElem?_append_left hz, List.getElem?_zip_eq_some]
    exact ⟨hv, by rw [List.getElem?_map, hu]; rfl⟩) ho hg hloc).tabSet a v'
  refine ⟨?_, by rw [List.length_set, h.lvals], by rw [List.length_set, h.lus]⟩
  rw [mkT, List.map_set, e, ← zip_set]
  have e2 : ((Value.slice (some ⟨B, 0, none⟩) n n, lv) :: (Value.slice (some ⟨B + 1, 0, none⟩) n n, left) :: (rV, nats ready) :: vals.zip (us.map nats) ++ X).set (a + 3) (v', nats u ++ [(y : Int)]) =
      (Value.slice (some ⟨B, 0, none⟩) n n, lv) :: (Value.slice (some ⟨B + 1, 0, none⟩) n n, left) :: (rV, nats ready) :: (vals.zip (us.map nats)).set a (v', nats u ++ [(y : Int)]) ++ X := by
    simp only [List.cons_append, List.set_cons_succ]
    rw [List.set_append_left _ _ hz]
  rw [← e2]
  exact hm
theorem LevS.tabKept (h : LevS w n B lv left rV ready vals us X) {a : Nat} {v : Value} {u : List Nat} (hv : vals[a]? = some v) (hu : us[a]? = some u) (hg : w.grownBy w' v.ownBlock) : w'.cell? ⟨B + 1 + 1, a, none⟩ = some v ∧ w'.frozen? ⟨B + 1 + 1, a, none⟩ = false := by
  have h1 := h.useCell hv
  have hne : some (B + 1 + 1) ≠ v.ownBlock := fun e => h.mem.off (a + 3) (v, nats u) (by
    show (vals.zip (us.map nats) ++ X)[a]? = _
    rw [List.getElem?_append_left (h.zipLt hv), List.getElem?_zip_eq_some]
    exact ⟨hv, by rw [List.getElem?_map, hu]; rfl⟩) e.symm
  have hb := hg.block (B + 1 + 1) h.lt hne
  exact ⟨(World.cell?_of_block hb).trans h1.1, (World.frozen?_of_block hb).trans h1.2⟩
theorem LevS.leftKept (h : LevS w n B lv left rV ready vals us X) {a i : Nat} {r : Int} {v : Value} {u : List Nat} (hv : vals[a]? = some v) (hu : us[a]? = some u) (hg : w.grownBy w' v.ownBlock) (hi : left[i]? = some r) : w'.cell? ⟨B + 1, i, none⟩ = some (.int .i64 r) ∧ w'.frozen? ⟨B + 1, i, none⟩ = false := by
  have h1 := h.leftOwn.cellAt? hi
  have hne : some (B + 1) ≠ v.ownBlock := fun e => h.mem.apart 1 (a + 3) _ (v, nats u) rfl (by
    show (vals.zip (us.map nats) ++ X)[a]? = _
    rw [List.getElem?_append_left (h.zipLt hv), List.getElem?_zip_eq_some]
    exact ⟨hv, by rw [List.getElem?_map, hu]; rfl⟩) (by omega) (B + 1) rfl e.symm
  have hb := hg.block (B + 1) (by have := h.lt; omega) hne
  exact ⟨(World.cell?_of_block hb).trans h1.1, (World.frozen?_of_block hb).trans h1.2⟩
/-- one row more, of a call's own -/
theorem LevS.enter (h : LevS w n B lv left rV ready vals us []) (hb : Below w.heap.size w w') {v : Value} {xs : List Int} (ho : Own kInt 3 w' none w.heap.size v xs) : LevS w' n B lv left rV ready vals us [(v, xs)] := by
  have hm := h.mem.below hb
  rw [List.append_nil] at hm
  have hlt := h.lt
  have hsplit : ∀ (j : Nat) (p : Value × List Int), (mkT n B lv left rV ready vals us ++ [(v, xs)])[j]? = some p → (j < (mkT n B lv left rV ready vals us).length ∧ (mkT n B lv left rV ready vals us)[j]? = some p) ∨ (j = (mkT n B lv left rV ready vals us).length ∧ p = (v, xs)) := fun j p hp => by
    rw [List.getElem?_append] at hp
    split at hp
    · rename_i hj; exact .inl ⟨hj, hp⟩
    · rename_i hj
      have : j - (mkT n B lv left rV ready vals us).length = 0 := by
        have := (List.getElem?_eq_some_iff.1 hp).1
        simp at this
        omega
      rw [this] at hp
      injection hp with hp
      exact .inr ⟨by omega, hp.symm⟩
  have hold : ∀ (j : Nat) (p : Value × List Int), (mkT n B lv left rV ready vals us)[j]? = some p → ∀ b, p.1.ownBlock = some b → b < w.heap.size := fun j p hp b hb' => by
    have := (h.mem.own j p (by rw [List.append_nil]; exact hp)).base hb'
    exact this.2
  refine ⟨⟨fun j p hp => ?_, fun i j p q hp hq hij b hb => ?_, hm.tab, fun j p hp => ?_⟩, h.lvals, h.lus⟩
  · rcases hsplit j p hp with ⟨-, hp⟩ | ⟨-, rfl⟩
    · exact hm.own j p hp
    · exact ho.lower (by omega)
  · rcases hsplit i p hp with ⟨hi, hp2⟩ | ⟨hi, rfl⟩
    · rcases hsplit j q hq with ⟨hj, hq2⟩ | ⟨hj, rfl⟩
      · exact hm.apart i j p q hp2 hq2 hij b hb
      · intro hqb
        have h1 := hold i p hp2 b hb
        have h2 := (ho.base hqb).1
        omega
    · rcases hsplit j q hq with ⟨hj, hq2⟩ | ⟨hj, rfl⟩
      · intro hqb
        have h1 := hold j q hq2 b hqb
        have h2 := (ho.base hb).1
        omega
      · omega
  · rcases hsplit j p hp with ⟨-, hp2⟩ | ⟨-, rfl⟩
    · exact hm.off j p hp2
    · intro hb'
      have := (ho.base hb').1
      omega
theorem LevS.leave (h : LevS w n B lv left rV ready vals us X) : LevS w n B lv left rV ready vals us [] := by
  have hg : ∀ (j : Nat) (p : Value × List Int), (mkT n B lv left rV ready vals us ++ [])[j]? = some p → (mkT n B lv left rV ready vals us ++ X)[j]? = some p := fun j p hp => by
    rw [List.append_nil] at hp
    rw [List.getElem?_append_left (List.getElem?_eq_some_iff.1 hp).1]
    exact hp
  exact ⟨⟨fun j p hp => h.mem.own j p (hg j p hp), fun i j p q hp hq => h.mem.apart i j p q (hg i p hp) (hg j q hq), h.mem.tab, fun j p hp => h.mem.off j p (hg j p hp)⟩, h.lvals, h.lus⟩
/-- the row of the call -/
theorem LevS.xOwn {v : Value} {xs : List Int} (h : LevS w n B lv left rV ready vals us [(v, xs)]) : Own kInt 3 w none B v xs := by
  refine h.mem.own (mkT n B lv left rV ready vals us).length (v, xs) ?_
  rw [List.getElem?_append_right (Nat.le_refl _), Nat.sub_self]
  rfl
end
theorem LevS.init (w : World) (n : Nat) (hn : n ≤ 1099511627776) :
    LevS (((w.alloc (.cells (madeCells #[.int .i64 0] n) 3)).alloc (.cells (madeCells #[.int .i64 0] n) 3)).alloc (.cells (madeCells #[nilS] n) 28)) n w.heap.size (List.replicate n 0) (List.replicate n 0) nilS [] (List.replicate n nilS) (List.replicate n []) [] := by
  have h1 := made_ints n hn w
  have h2 := made_ints n hn (w.alloc (.cells (madeCells #[.int .i64 0] n) 3))
  have s1 : (w.alloc (.cells (madeCells #[.int .i64 0] n) 3)).heap.size = w.heap.size + 1 := by simp
  have s2 : ((w.alloc (.cells (madeCells #[.int .i64 0] n) 3)).alloc (.cells (madeCells #[.int .i64 0] n) 3)).heap.size = w.heap.size + 2 := by simp
  rw [s1] at h2
  have k1 := (h1.alloc (FootIn.none _) (.cells (madeCells #[.int .i64 0] n) 3)).alloc (FootIn.none _) (.cells (madeCells #[nilS] n) 28)
  have k2 := (h2.alloc (FootIn.none _) (.cells (madeCells #[nilS] n) 28)).lower (B' := w.heap.size) (by omega)
  have ht := World.ownsRow_lit (base := w.heap.size) (e := 28) (size := 1) ((w.alloc (.cells (madeCells #[.int .i64 0] n) 3)).alloc (.cells (madeCells #[.int .i64 0] n) 3)) (madeCells #[nilS] n) n (by omega) (by simp only [maxLen]; omega) (by simp [size_madeCells])
  rw [s2] at ht
  have e : (madeCells #[nilS] n).toList = List.replicate n nilS := by rw [toList_madeCells_one]
  rw [e] at ht
  have hcase : ∀ (i : Nat) (p : Value × List Int), (mkT n w.heap.size (List.replicate n 0) (List.replicate n 0) nilS [] (List.replicate n nilS) (List.replicate n []))[i]? = some p →
      (i = 0 ∧ p = (.slice (some ⟨w.heap.size, 0, none⟩) n n, List.replicate n 0)) ∨ (i = 1 ∧ p = (.slice (some ⟨w.heap.size + 1, 0, none⟩) n n, List.replicate n 0)) ∨ p = (nilS, []) := fun i p hp => by
    match i, hp with
    | 0, hp => injection hp with hp; exact .inl ⟨rfl, hp.symm⟩
    | 1, hp => injection hp with hp; exact .inr (.inl ⟨rfl, hp.symm⟩)
    | 2, hp => injection hp with hp; exact .inr (.inr hp.symm)
    | i + 3, hp =>
      have hp : ((List.replicate n nilS).zip ((List.replicate n ([] : List Nat)).map nats))[i]? = some p := hp
      rw [List.getElem?_zip_eq_some, List.getElem?_map, List.getElem?_replicate, List.getElem?_replicate] at hp
      obtain ⟨q1, q2⟩ := hp
      split at q1
      · injection q1 with q1
        simp at q2
        exact .inr (.inr (Prod.ext q1.symm q2.2))
      · cases q1
  refine ⟨?_, by simp, by simp⟩
  rw [List.append_nil]
  refine ⟨fun i p hp => ?_, fun i j p q hp hq hij b hb => ?_, ht, fun i p hp => ?_⟩
  · rcases hcase i p hp with ⟨-, rfl⟩ | ⟨-, rfl⟩ | rfl
    · exact k1
    · exact k2
    · exact Own.nil _ _ _ _ _
  · rcases hcase i p hp with ⟨e1, rfl⟩ | ⟨e1, rfl⟩ | rfl
    · rcases hcase j q hq with ⟨e2, rfl⟩ | ⟨e2, rfl⟩ | rfl
      · omega
      · simp [Value.ownBlock] at hb ⊢; omega
      · simp [Value.ownBlock]
    · rcases hcase j q hq with ⟨e2, rfl⟩ | ⟨e2, rfl⟩ | rfl
      · simp [Value.ownBlock] at hb ⊢; omega
      · omega
      · simp [Value.ownBlock]
    · simp [Value.ownBlock] at hb
  · rcases hcase i p hp with ⟨e1, rfl⟩ | ⟨e1, rfl⟩ | rfl <;> simp [Value.ownBlock] <;> omega
end Go.Proofs.Ytbfjacgfifecpaa
