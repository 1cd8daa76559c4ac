/- Joined texts: Nh, Ni, Nj, Nk, Nl. -/
import Derived.Test.YtbfjacgfifecpaaJNA
import Derived.Test.YtbfjacgfifecpaaLev
import Derived.StillTailTactics

/-! ## net.homeless: whether inputs and bits that come in are not the same. -/
namespace Go.Proofs.Ytbfjacgfifecpaa
open Go.RowKit

theorem cellBelow {w w' : World} (hb : Below w.heap.size w w') {A : Addr} {u : Value} (h : w.cell? A = some u) : w'.cell? A = some u := (hb.cell (World.block_lt_of_cell? w A h)).trans h
def tally (n : Nat) (bs : List Int) : List Int := (List.range n).map fun (i : Nat) => ((bs.count ((i : Nat) : Int) : Nat) : Int)
theorem tally_nil (n : Nat) : tally n [] = List.replicate n 0 := by
  apply List.ext_getElem <;> simp [tally]
theorem tally_length (n : Nat) (bs : List Int) : (tally n bs).length = n := by simp [tally]
theorem tally_at {n : Nat} {bs : List Int} {k : Nat} (hk : k < n) : (tally n bs)[k]? = some ((bs.count (k : Int) : Nat) : Int) := by simp [tally, hk]
theorem tally_snoc {n : Nat} {bs : List Int} {k : Nat} : (tally n bs).set k (((bs.count (k : Int) : Nat) : Int) + 1) = tally n (bs ++ [(k : Int)]) := by
  apply List.ext_getElem?
  intro i
  rw [List.getElem?_set, tally_length]
  split
  · rename_i he; subst he
    split
    · rename_i h; rw [tally_at h, List.count_append]; simp
    · rename_i h; rw [List.getElem?_eq_none (by rw [tally_length]; omega)]
  · rename_i hne
    by_cases h : i < n
    · rw [tally_at h, tally_at h, List.count_append, List.count_cons, List.count_nil]
      have : ((k : Int) == (i : Int)) = false := by simp; omega
      simp [this]
    · rw [List.getElem?_eq_none (by rw [tally_length]; omega), List.getElem?_eq_none (by rw [tally_length]; omega)]
def wantK (k : Int) : Int := if k = 1 then 1 else 0
def kindAt (nodes : List Node) (i : Nat) : Int := match nodes[i]? with | some x => x.kind | none => 0
def homeAt (nodes : List Node) (bs : List Int) (i : Nat) : Bool := decide (((bs.count (i : Int) : Nat) : Int) = wantK (kindAt nodes i))
def homeB (nodes : List Node) (ins : List Port) : Bool := (List.range nodes.length).all (homeAt nodes (ins.flatMap (·.bits)))
theorem homeB_false {nodes : List Node} {ins : List Port} {i : Nat} (hi : i < nodes.length) (h : homeAt nodes (ins.flatMap (·.bits)) i = false) : homeB nodes ins = false := by
  rw [homeB, List.all_eq_false]; exact ⟨i, by simpa using hi, by rw [h]; decide⟩
theorem homeB_true {nodes : List Node} {ins : List Port} (h : ∀ i, i < nodes.length → homeAt nodes (ins.flatMap (·.bits)) i = true) : homeB nodes ins = true := by
  rw [homeB, List.all_eq_true]; intro i hi; exact h i (by simpa using hi)
theorem flat_take {ins : List Port} {j : Nat} (hj : j < ins.length) : (ins.take (j + 1)).flatMap (·.bits) = (ins.take j).flatMap (·.bits) ++ ins[j].bits := by
  rw [List.take_succ_eq_append_getElem hj, List.flatMap_append]; simp
theorem flat_len {ins : List Port} {j k : Nat} (hj : j < ins.length) : ((ins.take j).flatMap (·.bits) ++ ins[j].bits.take k).length ≤ (ins.flatMap (·.bits)).length := by
  have h : ins.flatMap (·.bits) = (ins.take (j + 1)).flatMap (·.bits) ++ (ins.drop (j + 1)).flatMap (·.bits) := by rw [← List.flatMap_append, List.take_append_drop]
  rw [h, flat_take hj]
  simp only [List.length_append, List.length_take]
  omega

set_option maxHeartbeats 4000000 in
set_option maxRecDepth 100000 in
theorem homeless_net (w : World) (v : Value) (nodes : List Node) (ins outs : List Port) (hN : NetV w v nodes ins outs) (hnl : nodes.length ≤ 1099511627776) (hi : ins.length ≤ 1073741824) (hsum : (ins.flatMap (·.bits)).length ≤ 1099511627776)
    (hin : ∀ q ∈ ins, ∀ b ∈ q.bits, 0 ≤ b ∧ b < nodes.length) :
    Calls Try.prog 54 #[v] w fun e w' => e = .returned (.bool (!homeB nodes ins)) ∧ Below w.heap.size w w' := by
  obtain ⟨An, cn, Ai, ci, Ao, co, rfl, hbox⟩ := hN.box
  let ob := netBox (.slice An nodes.length cn) (.slice Ai ins.length ci) (.slice Ao outs.length co)
  have hmk := make_ints nodes.length hnl
  have hO := made_ints nodes.length hnl (w.alloc ob)
  have hsz : (w.alloc ob).heap.size = w.heap.size + 1 := by simp
  rw [hsz, ← tally_nil] at hO
  have HO := Lib.hid hO
  have HBOX := Lib.hid hbox
  have HSZ := Lib.hid hsz
  have HIN := Lib.hid hin
  have HSUM := Lib.hid hsum
  have hb1 : Below (w.heap.size + 1) (w.alloc ob) ((w.alloc ob).alloc (.cells (madeCells #[.int .i64 0] nodes.length) 3)) := (Below.refl _ _).alloc (by rw [hsz]; exact Nat.le_refl _) _
  have HB1 := Lib.hid hb1
  obtain ⟨z0, z1, -, hrn0, hri0, -, -⟩ := hbox (w.alloc ob) (Below.refl _ _)
  have HRN0 := Lib.hid hrn0
  have HRI0 := Lib.hid hri0
  obtain ⟨z01, z11, -, -⟩ := hbox _ hb1
  clear hO hbox hsz hb1 hN hin hsum hrn0 hri0
  go_enter Try.func54, Try.ntmps54
  go_wp2_with fail
  go_loopw [18] (fun i wr => ∃ j : Nat, j ≤ ins.length ∧ i = .int .i64 j ∧ Hid (Own kInt 3 wr none (w.heap.size + 1) (.slice (some ⟨w.heap.size + 1, 0, none⟩) nodes.length nodes.length) (tally nodes.length ((ins.take j).flatMap (·.bits)))) ∧ Hid (Below (w.heap.size + 1) (w.alloc ob) wr)) (fun i _ => ins.length - (intOf i).toNat)
  case atStart => exact ⟨0, Nat.zero_le _, rfl, HO, HB1⟩
  case round =>
    clear z0 z1 z01 z11
    obtain ⟨j, hj, rfl, HOJ, HB⟩ := hrel
    obtain ⟨z0, z1, -, -, -, -, hbw⟩ := HBOX.out _ HB.out
    have HBA : Hid (Below (w.alloc ob).heap.size (w.alloc ob) wr) := by rw [HSZ.out]; exact HB.out
    by_cases hlt : j < ins.length
    · obtain ⟨b, off, A3, d3, rfl, y0, y1, hbits⟩ := HRI0.out.port_at hlt
      replace y0 := cellBelow HBA.out y0
      replace y1 := cellBelow HBA.out y1
      have HFT := Lib.hid (flat_take hlt)
      have HFL := Lib.hid (fun k => Nat.le_trans (flat_len (k := k) hlt) HSUM.out)
      have hbl : ins[j].bits.length ≤ 1099511627776 := by
        have := HFL.out ins[j].bits.length
        rw [List.take_length, List.length_append] at this
        omega
      have HQ := Lib.hid (HIN.out _ (List.getElem_mem hlt))
      obtain ⟨x, hxx⟩ : ∃ x, ins[j] = x := ⟨_, rfl⟩
      rw [hxx] at y0 y1 hbits HFT HQ hbl
      simp only [hxx] at HFL
      clear hxx
      obtain ⟨s, bits⟩ := x
      dsimp only at y0 y1 hbits HFT HFL HQ hbl
      have hszr : w.heap.size + 1 < wr.heap.size := (HOJ.out.base (g := w.heap.size + 1) rfl).2
      have HO2 := Lib.hid (HOJ.out.alloc (FootIn.none _) (.cells #[.string s, .slice A3 bits.length d3] 53))
      have HB2 := Lib.hid (HB.out.alloc (by omega) (.cells #[.string s, .slice A3 bits.length d3] 53))
      have HBT := Lib.hid hbits
      clear hbits hbw
      go_wp2_with fail
      obtain ⟨wo, hwo⟩ : ∃ wo, wo = wr := ⟨_, rfl⟩
      subst hwo
      go_loopw [25] (fun i wp => ∃ k : Nat, k ≤ bits.length ∧ i = .int .i64 k ∧ Hid (Own kInt 3 wp none (w.heap.size + 1) (.slice (some ⟨w.heap.size + 1, 0, none⟩) nodes.length nodes.length) (tally nodes.length ((ins.take j).flatMap (·.bits) ++ bits.take k))) ∧ Hid (Below (w.heap.size + 1) (w.alloc ob) wp)) (fun i _ => bits.length - (intOf i).toNat)
      case atStart => exact ⟨0, Nat.zero_le _, rfl, by rw [List.take_zero, List.append_nil]; exact HO2, HB2⟩
      case round =>
        clear y0 y1 z0 z1
        obtain ⟨k, hk, rfl, HOK, HBK⟩ := hrel
        by_cases hkt : k < bits.length
        · have HBKA : Hid (Below (w.alloc ob).heap.size (w.alloc ob) wr) := by rw [HSZ.out]; exact HBK.out
          obtain ⟨b2, off2, rfl, x0⟩ := HBT.out.int_at hkt
          replace x0 := cellBelow HBKA.out x0
          have hqb := HQ.out _ (List.getElem_mem hkt)
          have HTK := Lib.hid (List.take_succ_eq_append_getElem hkt)
          have hfl := HFL.out k
          obtain ⟨c, hcc⟩ := Int.eq_ofNat_of_zero_le hqb.1
          rw [hcc] at x0 hqb HTK
          have hcn : c < nodes.length := by omega
          obtain ⟨x1, x2⟩ := HOK.out.cellAt? (tally_at (bs := (ins.take j).flatMap (·.bits) ++ bits.take k) hcn)
          have hct : (((ins.take j).flatMap (·.bits) ++ bits.take k).count (c : Int)) ≤ 1099511627776 := Nat.le_trans List.count_le_length hfl
          have HTS := Lib.hid (tally_snoc (n := nodes.length) (bs := (ins.take j).flatMap (·.bits) ++ bits.take k) (k := c))
          obtain ⟨m, hm⟩ : ∃ m, (((ins.take j).flatMap (·.bits) ++ bits.take k).count (c : Int)) = m := ⟨_, rfl⟩
          rw [hm] at x1 hct HTS
          clear hm hfl hqb hcc
          have hsw : w.heap.size + 1 ≤ wr.heap.size := Nat.le_of_lt (HOK.out.base (g := w.heap.size + 1) rfl).2
          go_wp2_with fail
          refine ⟨⟨k + 1, by omega, by go_num, Lib.hid ?_, Lib.hid (HBK.out.setCell (Nat.le_refl _) _)⟩, ?_⟩
          · have hs := HOK.out.store (FootIn.none _) hsw c ((m : Int) + 1)
            rw [HTK.out, ← List.append_assoc, ← HTS.out]
            exact hs.1
          · simp [intOf]; omega
        · obtain rfl : k = bits.length := by omega
          rw [List.take_length, ← HFT.out] at HOK
          go_wp2
          refine ⟨⟨j + 1, by omega, by go_num, HOK, HBK⟩, ?_⟩
          simp [intOf]; omega
    · obtain rfl : j = ins.length := by omega
      rw [List.take_length] at HOJ
      obtain ⟨bs, hbs⟩ : ∃ bs, ins.flatMap (·.bits) = bs := ⟨_, rfl⟩
      have HHF := Lib.hid (fun i => homeB_false (nodes := nodes) (ins := ins) (i := i))
      have HHT := Lib.hid (homeB_true (nodes := nodes) (ins := ins))
      rw [hbs] at HOJ HHT HSUM
      simp only [hbs] at HHF
      clear hbs
      go_wp2_with fail
      obtain ⟨wo, hwo⟩ : ∃ wo, wo = wr := ⟨_, rfl⟩
      subst hwo
      go_loopw [40] (fun i wp => ∃ k : Nat, k ≤ nodes.length ∧ i = .int .i64 k ∧ Hid (∀ q, q < k → homeAt nodes bs q = true) ∧ Hid (Own kInt 3 wp none (w.heap.size + 1) (.slice (some ⟨w.heap.size + 1, 0, none⟩) nodes.length nodes.length) (tally nodes.length bs)) ∧ Hid (Below (w.heap.size + 1) (w.alloc ob) wp)) (fun i _ => nodes.length - (intOf i).toNat)
      case atStart => exact ⟨0, Nat.zero_le _, rfl, Lib.hid (fun q hq => by omega), HOJ, HB⟩
      case round =>
        clear z0 z1 hbw
        obtain ⟨k, hk, rfl, HH, HOK, HBK⟩ := hrel
        obtain ⟨z0, z1, -, -, -, -, hbw⟩ := HBOX.out _ HBK.out
        by_cases hkt : k < nodes.length
        · have HBKA : Hid (Below (w.alloc ob).heap.size (w.alloc ob) wr) := by rw [HSZ.out]; exact HBK.out
          obtain ⟨b2, off2, rfl, x0, x1, x2, x3⟩ := HRN0.out.node_at hkt
          replace x0 := cellBelow HBKA.out x0
          replace x1 := cellBelow HBKA.out x1
          replace x2 := cellBelow HBKA.out x2
          replace x3 := cellBelow HBKA.out x3
          have hka : kindAt nodes k = nodes[k].kind := by rw [kindAt, List.getElem?_eq_getElem hkt]
          obtain ⟨x, hxx⟩ : ∃ x, nodes[k] = x := ⟨_, rfl⟩
          rw [hxx] at x0 x1 x2 x3 hka
          clear hxx
          obtain ⟨xk, xa, xb, xc⟩ := x
          dsimp only at x0 x1 x2 x3 hka
          have hsw : w.heap.size + 1 < wr.heap.size := (HOK.out.base (g := w.heap.size + 1) rfl).2
          have HO2 := Lib.hid (HOK.out.alloc (FootIn.none _) (.cells #[.int .i64 xk, .int .i64 xa, .int .i64 xb, .int .i64 xc] 38))
          have HB2 := Lib.hid (HBK.out.alloc (by omega) (.cells #[.int .i64 xk, .int .i64 xa, .int .i64 xb, .int .i64 xc] 38))
          have HB3 := Lib.hid (hbw.alloc (by omega) (.cells #[.int .i64 xk, .int .i64 xa, .int .i64 xb, .int .i64 xc] 38))
          obtain ⟨u1, u2⟩ := HO2.out.cellAt? (tally_at (bs := bs) hkt)
          have hho : homeAt nodes bs k = decide (((bs.count (k : Int) : Nat) : Int) = wantK xk) := by rw [homeAt, hka]
          obtain ⟨m, hm⟩ : ∃ m, bs.count (k : Int) = m := ⟨_, rfl⟩
          rw [hm] at u1 hho
          clear hm hka hbw
          by_cases h1 : xk = 1
          · subst h1
            by_cases hm : m = 1
            · subst hm
              have hgood : homeAt nodes bs k = true := by rw [hho]; rfl
              have HGOOD := Lib.hid hgood
              clear hgood hho
              go_wp2_with fail
              refine ⟨⟨k + 1, by omega, by go_num, Lib.hid (fun q hq => ?_), HO2, HB2⟩, ?_⟩
              · rcases Nat.lt_or_ge q k with h | h
                · exact HH.out q h
                · obtain rfl : q = k := by omega
                  exact HGOOD.out
              · simp [intOf]; omega
            · have hmi : ¬ (m : Int) = 1 := by omega
              have hbad := HHF.out k hkt (by rw [hho, wantK, if_pos rfl, decide_eq_false hmi])
              have HBAD := Lib.hid hbad
              clear hbad hho
              go_wp2_with fail
              go_ret
              exact ⟨by rw [HBAD.out]; rfl, HB3.out⟩
          · have h1' : (xk == 1) = false := by simpa using h1
            by_cases hm : m = 0
            · subst hm
              have hgood : homeAt nodes bs k = true := by rw [hho, wantK, if_neg h1]; rfl
              have HGOOD := Lib.hid hgood
              clear hgood hho
              go_wp2_with fail
              refine ⟨⟨k + 1, by omega, by go_num, Lib.hid (fun q hq => ?_), HO2, HB2⟩, ?_⟩
              · rcases Nat.lt_or_ge q k with h | h
                · exact HH.out q h
                · obtain rfl : q = k := by omega
                  exact HGOOD.out
              · simp [intOf]; omega
            · have hmi : ¬ (m : Int) = 0 := by omega
              have hbad := HHF.out k hkt (by rw [hho, wantK, if_neg h1, decide_eq_false hmi])
              have HBAD := Lib.hid hbad
              clear hbad hho
              go_wp2_with fail
              go_ret
              exact ⟨by rw [HBAD.out]; rfl, HB3.out⟩
        · obtain rfl : k = nodes.length := by omega
          have hr := HHT.out HH.out
          have HR := Lib.hid hr
          have HB3 := Lib.hid hbw
          clear hr hbw
          go_wp2
          go_ret
          exact ⟨by rw [HR.out]; rfl, HB3.out⟩

end Go.Proofs.Ytbfjacgfifecpaa

/-! ## Rows of the call's own, each in a block of its own, and a table of them. -/
namespace Go.Proofs.Ytbfjacgfifecpaa
open Go.RowKit

structure LevM (w : World) (B g n : Nat) (T : List (Value × List Int)) (vals : List Value) : Prop where
  own : ∀ (i : Nat) (p : Value × List Int), T[i]? = some p → Own kInt 3 w none B p.1 p.2
  apart : ∀ (i j : Nat) (p q : Value × List Int), T[i]? = some p → T[j]? = some q → i ≠ j → ∀ b, p.1.ownBlock = some b → q.1.ownBlock ≠ some b
  tab : w.ownsRow B 28 1 (.slice (some ⟨g, 0, none⟩) n n) n vals
  off : ∀ (i : Nat) (p : Value × List Int), T[i]? = some p → p.1.ownBlock ≠ some g

theorem LevM.other {w w' : World} {B g n : Nat} {T : List (Value × List Int)} {vals : List Value} {row : Option Nat} (h : LevM w B g n T vals) (hg : w.grownBy w' row)
    (hr : ∀ (i : Nat) (p : Value × List Int), T[i]? = some p → p.1.ownBlock = none ∨ p.1.ownBlock ≠ row) (hgr : some g ≠ row) : LevM w' B g n T vals where
  own i p hp := (h.own i p hp).other hg (fun _i => ⟨fun hf => (foot_none _ _ hf).elim, fun hf => (foot_none _ _ hf).elim⟩) (hr i p hp) (fun _ _ h => h)
  apart := h.apart
  tab := h.tab.kept hg (.inr hgr)
  off := h.off
theorem LevM.alloc {w : World} {B g n : Nat} {T : List (Value × List Int)} {vals : List Value} (h : LevM w B g n T vals) (o : Obj) : LevM (w.alloc o) B g n T vals :=
  h.other (World.grownBy_alloc w o none) (fun i p _ => by cases p.1.ownBlock <;> simp) (by simp)
theorem LevM.drew {w : World} {B g n : Nat} {T : List (Value × List Int)} {vals : List Value} (h : LevM w B g n T vals) : LevM w.drew B g n T vals :=
  h.other (row := none) ⟨rfl, rfl, rfl, Nat.le_refl _, fun _ _ _ => rfl⟩ (fun i p _ => by cases p.1.ownBlock <;> simp) (by simp)
/-- what is Below keeps all -/
theorem LevM.below {w w' : World} {B g n : Nat} {T : List (Value × List Int)} {vals : List Value} (h : LevM w B g n T vals) (hb : Below w.heap.size w w') : LevM w' B g n T vals :=
  h.other (row := none) ⟨hb.os, hb.tape, hb.output, hb.size, fun k hk _ => hb.block k hk⟩ (fun i p _ => by cases p.1.ownBlock <;> simp) (by simp)
theorem LevM.tabLt {w : World} {B g n : Nat} {T : List (Value × List Int)} {vals : List Value} (h : LevM w B g n T vals) : B ≤ g ∧ g < w.heap.size := h.tab.lt g rfl
theorem LevM.set {w w' : World} {B g n : Nat} {T : List (Value × List Int)} {vals : List Value} (h : LevM w B g n T vals) {i : Nat} {v : Value} {xs : List Int} (hi : T[i]? = some (v, xs))
    {v' : Value} {ys : List Int} (ho : Own kInt 3 w' none B v' ys) (hg : w.grownBy w' v.ownBlock) (hloc : v'.ownBlock = v.ownBlock ∨ ∃ b, v'.ownBlock = some b ∧ w.heap.size ≤ b) : LevM w' B g n (T.set i (v', ys)) vals := by
  have hlt : i < T.length := (List.getElem?_eq_some_iff.1 hi).1
  have hsplit : ∀ (j : Nat) (p : Value × List Int), (T.set i (v', ys))[j]? = some p → (j = i ∧ p = (v', ys)) ∨ (j ≠ i ∧ T[j]? = some p) := fun j p hp => by
    rw [List.getElem?_set] at hp
    split at hp
    · rename_i e; subst e
      try rw [if_pos hlt] at hp
      injection hp with hp
      exact .inl ⟨rfl, hp.symm⟩
    · rename_i e
      exact .inr ⟨fun h => e h.symm, hp⟩
  have hothers : ∀ (j : Nat) (p : Value × List Int), j ≠ i → T[j]? = some p → p.1.ownBlock = none ∨ p.1.ownBlock ≠ v.ownBlock := fun j p hj hp => by
    cases hb : p.1.ownBlock with
    | none => exact .inl rfl
    | some b => exact .inr fun e => h.apart j i p _ hp hi hj b hb e.symm
  have hgg : some g ≠ v.ownBlock := fun e => h.off i _ hi e.symm
  refine ⟨fun j p hp => ?_, fun j k p q hp hq hjk b hb => ?_, h.tab.kept hg (.inr hgg), fun j p hp => ?_⟩
  · rcases hsplit j p hp with ⟨rfl, rfl⟩ | ⟨hj, hp⟩
    · exact ho
    · exact (h.own j p hp).other hg (fun i => ⟨fun hf => (foot_none _ _ hf).elim, fun hf => (foot_none _ _ hf).elim⟩) (hothers j p hj hp) (fun _ _ h => h)
  · rcases hsplit j p hp with ⟨rfl, rfl⟩ | ⟨hj, hp2⟩
    · rcases hsplit k q hq with ⟨rfl, rfl⟩ | ⟨hk, hq2⟩
      · exact absurd rfl hjk
      · intro hqb
        rcases hloc with e | ⟨b', hb', hsz⟩
        · exact h.apart j k _ _ hi hq2 hjk b (by rw [← e]; exact hb) hqb
        · have e : b' = b := by rw [hb'] at hb; injection hb
          have := ((h.own k q hq2).base hqb).2
          omega
    · rcases hsplit k q hq with ⟨rfl, rfl⟩ | ⟨hk, hq2⟩
      · intro hqb
        rcases hloc with e | ⟨b', hb', hsz⟩
        · exact h.apart j k _ _ hp2 hi hj b hb (by rw [← e]; exact hqb)
        · have e : b' = b := by rw [hb'] at hqb; injection hqb
          have := ((h.own j p hp2).base hb).2
          omega
      · exact h.apart j k p q hp2 hq2 hjk b hb
  · rcases hsplit j p hp with ⟨rfl, rfl⟩ | ⟨hj, hp⟩
    · intro hb
      rcases hloc with e | ⟨b', hb', hsz⟩
      · exact hgg (by rw [← e]; exact hb.symm)
      · have e : b' = g := by rw [hb'] at hb; injection hb
        have := h.tabLt.2
        omega
    · exact h.off j p hp
/-- a store into the table -/
theorem LevM.tabSet {w : World} {B g n : Nat} {T : List (Value × List Int)} {vals : List Value} (h : LevM w B g n T vals) (i : Nat) (x : Value) : LevM (w.setCell ⟨g, i, none⟩ x) B g n T (vals.set i x) := by
  have hs := h.tab.stored i x
  exact ⟨fun j p hp => (h.own j p hp).other hs.2 (fun i => ⟨fun hf => (foot_none _ _ hf).elim, fun hf => (foot_none _ _ hf).elim⟩) (.inr (h.off j p hp)) (fun _ _ h => h), h.apart, hs.1, h.off⟩
/-- a store into a row -/
theorem LevM.rowSet {w : World} {B g n : Nat} {T : List (Value × List Int)} {vals : List Value} (h : LevM w B g n T vals) {i b m c : Nat} {xs : List Int} (hi : T[i]? = some (.slice (some ⟨b, 0, none⟩) m c, xs)) (j : Nat) (r : Int) :
    LevM (w.setCell ⟨b, j, none⟩ (.int .i64 r)) B g n (T.set i (.slice (some ⟨b, 0, none⟩) m c, xs.set j r)) vals := by
  have hO := h.own i _ hi
  have hB : B ≤ w.heap.size := by have := h.tabLt; omega
  have hs := hO.store (FootIn.none _) hB j r
  exact h.set hi hs.1 hs.2.1 (.inl rfl)
end Go.Proofs.Ytbfjacgfifecpaa

/-! ## The state of net.levels: levels, how many are left, who uses whom, what is ready. -/
namespace Go.Proofs.Ytbfjacgfifecpaa
open Go.RowKit

abbrev nats (l : List Nat) : List Int := l.map fun (x : Nat) => (x : Int)
abbrev nilS : Value := .slice none 0 0
def mkT (n B : Nat) (lv left : List Int) (rV : Value) (ready : List Nat) (vals : List Value) (us : List (List Nat)) : List (Value × List Int) :=
  (.slice (some ⟨B, 0, none⟩) n n, lv) :: (.slice (some ⟨B + 1, 0, none⟩) n n, left) :: (rV, nats ready) :: vals.zip (us.map nats)
structure LevS (w : World) (n B : Nat) (lv left : List Int) (rV : Value) (ready : List Nat) (vals : List Value) (us : List (List Nat)) (X : List (Value × List Int)) : Prop where
  mem : LevM w B (B + 1 + 1) n (mkT n B lv left rV ready vals us ++ X) vals
  lvals : vals.length = n
  lus : us.length = n

theorem zip_set {α β : Type} (l : List α) (r : List β) (i : Nat) (a : α) (b : β) : (l.zip r).set i (a, b) = (l.set i a).zip (r.set i b) := by
  induction l generalizing r i with
  | nil => simp
  | cons x l ih =>
    cases r with
    | nil => simp
    | cons y r =>
      cases i with
      | zero => rfl
      | succ i => simp only [List.zip_cons_cons, List.set_cons_succ]; rw [ih]

section
variable {w w' : World} {n B : Nat} {lv left : List Int} {rV : Value} {ready : List Nat} {vals : List Value} {us : List (List Nat)} {X : List (Value × List Int)}
theorem LevS.alloc (h : LevS w n B lv left rV ready vals us X) (o : Obj) : LevS (w.alloc o) n B lv left rV ready vals us X := ⟨h.mem.alloc o, h.lvals, h.lus⟩
theorem LevS.drew (h : LevS w n B lv left rV ready vals us X) : LevS w.drew n B lv left rV ready vals us X := ⟨h.mem.drew, h.lvals, h.lus⟩
theorem LevS.below (h : LevS w n B lv left rV ready vals us X) (hb : Below w.heap.size w w') : LevS w' n B lv left rV ready vals us X := ⟨h.mem.below hb, h.lvals, h.lus⟩
theorem LevS.lt (h : LevS w n B lv left rV ready vals us X) : B + 1 + 1 < w.heap.size := h.mem.tabLt.2
theorem LevS.lvOwn (h : LevS w n B lv left rV ready vals us X) : Own kInt 3 w none B (.slice (some ⟨B, 0, none⟩) n n) lv := h.mem.own 0 _ rfl
theorem LevS.leftOwn (h : LevS w n B lv left rV ready vals us X) : Own kInt 3 w none B (.slice (some ⟨B + 1, 0, none⟩) n n) left := h.mem.own 1 _ rfl
theorem LevS.rdyOwn (h : LevS w n B lv left rV ready vals us X) : Own kInt 3 w none B rV (nats ready) := h.mem.own 2 _ rfl
theorem LevS.zipLt (h : LevS w n B lv left rV ready vals us X) {a : Nat} {v : Value} (hv : vals[a]? = some v) : a < (vals.zip (us.map nats)).length := by
  have ha := (List.getElem?_eq_some_iff.1 hv).1
  have h1 := h.lvals
  have h2 := h.lus
  rw [List.length_zip, List.length_map]
  omega
theorem LevS.useOwn (h : LevS w n B lv left rV ready vals us X) {a : Nat} {v : Value} {u : List Nat} (hv : vals[a]? = some v) (hu : us[a]? = some u) : Own kInt 3 w none B v (nats u) := by
  refine h.mem.own (a + 3) (v, nats u) ?_
  show (vals.zip (us.map nats) ++ X)[a]? = _
  rw [List.getElem?_append_left (h.zipLt hv), List.getElem?_zip_eq_some]
  exact ⟨hv, by rw [List.getElem?_map, hu]; rfl⟩
theorem LevS.useCell (h : LevS w n B lv left rV ready vals us X) {a : Nat} {v : Value} (hv : vals[a]? = some v) : w.cell? ⟨B + 1 + 1, a, none⟩ = some v ∧ w.frozen? ⟨B + 1 + 1, a, none⟩ = false := by
  have ha := (List.getElem?_eq_some_iff.1 hv).1
  have hl := h.lvals
  exact ⟨by rw [h.mem.tab.cellAt a (by omega), hv], h.mem.tab.frozenAt a⟩
theorem LevS.setLv (h : LevS w n B lv left rV ready vals us X) (j : Nat) (r : Int) : LevS (w.setCell ⟨B, j, none⟩ (.int .i64 r)) n B (lv.set j r) left rV ready vals us X :=
  ⟨h.mem.rowSet (i := 0) rfl j r, h.lvals, h.lus⟩
theorem LevS.setLeft (h : LevS w n B lv left rV ready vals us X) (j : Nat) (r : Int) : LevS (w.setCell ⟨B + 1, j, none⟩ (.int .i64 r)) n B lv (left.set j r) rV ready vals us X :=
  ⟨h.mem.rowSet (i := 1) rfl j r, h.lvals, h.lus⟩
theorem LevS.setRdy (h : LevS w n B lv left rV ready vals us X) {v' : Value} {y : Nat} (ho : Own kInt 3 w' none B v' (nats ready ++ [(y : Int)])) (hg : w.grownBy w' rV.ownBlock) (hloc : v'.ownBlock = rV.ownBlock ∨ ∃ b, v'.ownBlock = some b ∧ w.heap.size ≤ b) :
    LevS w' n B lv left v' (ready ++ [y]) vals us X := by
  have e : nats (ready ++ [y]) = nats ready ++ [(y : Int)] := by simp
  have hm := h.mem.set (i := 2) rfl ho hg hloc
  refine ⟨?_, h.lvals, h.lus⟩
  rw [mkT, e]
  exact hm
/-- the append to a row of users, ahead of its store into the table -/
theorem LevS.setUse (h : LevS w n B lv left rV ready vals us X) {a : Nat} {v v' : Value} {u : List Nat} {y : Nat} (hv : vals[a]? = some v) (hu : us[a]? = some u) (ho : Own kInt 3 w' none B v' (nats u ++ [(y : Int)])) (hg : w.grownBy w' v.ownBlock)
    (hloc : v'.ownBlock = v.ownBlock ∨ ∃ b, v'.ownBlock = some b ∧ w.heap.size ≤ b) : LevS (w'.setCell ⟨B + 1 + 1, a, none⟩ v') n B lv left rV ready (vals.set a v') (us.set a (u ++ [y])) X := by
  have e : nats (u ++ [y]) = nats u ++ [(y : Int)] := by simp
  have hz := h.zipLt hv
  have hm := (h.mem.set (i := a + 3) (v := v) (xs := nats u) (by
    show (vals.zip (us.map nats) ++ X)[a]? = _
    rw [List.getElem?_append_left hz, List.getElem?_zip_eq_some]
    exact ⟨hv, by rw [List.getElem?_map, hu]; rfl⟩) ho hg hloc).tabSet a v'
  refine ⟨?_, by rw [List.length_set, h.lvals], by rw [List.length_set, h.lus]⟩
  rw [mkT, List.map_set, e, ← zip_set]
  have e2 : ((Value.slice (some ⟨B, 0, none⟩) n n, lv) :: (Value.slice (some ⟨B + 1, 0, none⟩) n n, left) :: (rV, nats ready) :: vals.zip (us.map nats) ++ X).set (a + 3) (v', nats u ++ [(y : Int)]) =
      (Value.slice (some ⟨B, 0, none⟩) n n, lv) :: (Value.slice (some ⟨B + 1, 0, none⟩) n n, left) :: (rV, nats ready) :: (vals.zip (us.map nats)).set a (v', nats u ++ [(y : Int)]) ++ X := by
    simp only [List.cons_append, List.set_cons_succ]
    rw [List.set_append_left _ _ hz]
  rw [← e2]
  exact hm
theorem LevS.tabKept (h : LevS w n B lv left rV ready vals us X) {a : Nat} {v : Value} {u : List Nat} (hv : vals[a]? = some v) (hu : us[a]? = some u) (hg : w.grownBy w' v.ownBlock) : w'.cell? ⟨B + 1 + 1, a, none⟩ = some v ∧ w'.frozen? ⟨B + 1 + 1, a, none⟩ = false := by
  have h1 := h.useCell hv
  have hne : some (B + 1 + 1) ≠ v.ownBlock := fun e => h.mem.off (a + 3) (v, nats u) (by
    show (vals.zip (us.map nats) ++ X)[a]? = _
    rw [List.getElem?_append_left (h.zipLt hv), List.getElem?_zip_eq_some]
    exact ⟨hv, by rw [List.getElem?_map, hu]; rfl⟩) e.symm
  have hb := hg.block (B + 1 + 1) h.lt hne
  exact ⟨(World.cell?_of_block hb).trans h1.1, (World.frozen?_of_block hb).trans h1.2⟩
theorem LevS.leftKept (h : LevS w n B lv left rV ready vals us X) {a i : Nat} {r : Int} {v : Value} {u : List Nat} (hv : vals[a]? = some v) (hu : us[a]? = some u) (hg : w.grownBy w' v.ownBlock) (hi : left[i]? = some r) : w'.cell? ⟨B + 1, i, none⟩ = some (.int .i64 r) ∧ w'.frozen? ⟨B + 1, i, none⟩ = false := by
  have h1 := h.leftOwn.cellAt? hi
  have hne : some (B + 1) ≠ v.ownBlock := fun e => h.mem.apart 1 (a + 3) _ (v, nats u) rfl (by
    show (vals.zip (us.map nats) ++ X)[a]? = _
    rw [List.getElem?_append_left (h.zipLt hv), List.getElem?_zip_eq_some]
    exact ⟨hv, by rw [List.getElem?_map, hu]; rfl⟩) (by omega) (B + 1) rfl e.symm
  have hb := hg.block (B + 1) (by have := h.lt; omega) hne
  exact ⟨(World.cell?_of_block hb).trans h1.1, (World.frozen?_of_block hb).trans h1.2⟩
/-- one row more, of a call's own -/
theorem LevS.enter (h : LevS w n B lv left rV ready vals us []) (hb : Below w.heap.size w w') {v : Value} {xs : List Int} (ho : Own kInt 3 w' none w.heap.size v xs) : LevS w' n B lv left rV ready vals us [(v, xs)] := by
  have hm := h.mem.below hb
  rw [List.append_nil] at hm
  have hlt := h.lt
  have hsplit : ∀ (j : Nat) (p : Value × List Int), (mkT n B lv left rV ready vals us ++ [(v, xs)])[j]? = some p → (j < (mkT n B lv left rV ready vals us).length ∧ (mkT n B lv left rV ready vals us)[j]? = some p) ∨ (j = (mkT n B lv left rV ready vals us).length ∧ p = (v, xs)) := fun j p hp => by
    rw [List.getElem?_append] at hp
    split at hp
    · rename_i hj; exact .inl ⟨hj, hp⟩
    · rename_i hj
      have : j - (mkT n B lv left rV ready vals us).length = 0 := by
        have := (List.getElem?_eq_some_iff.1 hp).1
        simp at this
        omega
      rw [this] at hp
      injection hp with hp
      exact .inr ⟨by omega, hp.symm⟩
  have hold : ∀ (j : Nat) (p : Value × List Int), (mkT n B lv left rV ready vals us)[j]? = some p → ∀ b, p.1.ownBlock = some b → b < w.heap.size := fun j p hp b hb' => by
    have := (h.mem.own j p (by rw [List.append_nil]; exact hp)).base hb'
    exact this.2
  refine ⟨⟨fun j p hp => ?_, fun i j p q hp hq hij b hb => ?_, hm.tab, fun j p hp => ?_⟩, h.lvals, h.lus⟩
  · rcases hsplit j p hp with ⟨-, hp⟩ | ⟨-, rfl⟩
    · exact hm.own j p hp
    · exact ho.lower (by omega)
  · rcases hsplit i p hp with ⟨hi, hp2⟩ | ⟨hi, rfl⟩
    · rcases hsplit j q hq with ⟨hj, hq2⟩ | ⟨hj, rfl⟩
      · exact hm.apart i j p q hp2 hq2 hij b hb
      · intro hqb
        have h1 := hold i p hp2 b hb
        have h2 := (ho.base hqb).1
        omega
    · rcases hsplit j q hq with ⟨hj, hq2⟩ | ⟨hj, rfl⟩
      · intro hqb
        have h1 := hold j q hq2 b hqb
        have h2 := (ho.base hb).1
        omega
      · omega
  · rcases hsplit j p hp with ⟨-, hp2⟩ | ⟨-, rfl⟩
    · exact hm.off j p hp2
    · intro hb'
      have := (ho.base hb').1
      omega
theorem LevS.leave (h : LevS w n B lv left rV ready vals us X) : LevS w n B lv left rV ready vals us [] := by
  have hg : ∀ (j : Nat) (p : Value × List Int), (mkT n B lv left rV ready vals us ++ [])[j]? = some p → (mkT n B lv left rV ready vals us ++ X)[j]? = some p := fun j p hp => by
    rw [List.append_nil] at hp
    rw [List.getElem?_append_left (List.getElem?_eq_some_iff.1 hp).1]
    exact hp
  exact ⟨⟨fun j p hp => h.mem.own j p (hg j p hp), fun i j p q hp hq => h.mem.apart i j p q (hg i p hp) (hg j q hq), h.mem.tab, fun j p hp => h.mem.off j p (hg j p hp)⟩, h.lvals, h.lus⟩
/-- the row of the call -/
theorem LevS.xOwn {v : Value} {xs : List Int} (h : LevS w n B lv left rV ready vals us [(v, xs)]) : Own kInt 3 w none B v xs := by
  refine h.mem.own (mkT n B lv left rV ready vals us).length (v, xs) ?_
  rw [List.getElem?_append_right (Nat.le_refl _), Nat.sub_self]
  rfl
end
theorem LevS.init (w : World) (n : Nat) (hn : n ≤ 1099511627776) :
    LevS (((w.alloc (.cells (madeCells #[.int .i64 0] n) 3)).alloc (.cells (madeCells #[.int .i64 0] n) 3)).alloc (.cells (madeCells #[nilS] n) 28)) n w.heap.size (List.replicate n 0) (List.replicate n 0) nilS [] (List.replicate n nilS) (List.replicate n []) [] := by
  have h1 := made_ints n hn w
  have h2 := made_ints n hn (w.alloc (.cells (madeCells #[.int .i64 0] n) 3))
  have s1 : (w.alloc (.cells (madeCells #[.int .i64 0] n) 3)).heap.size = w.heap.size + 1 := by simp
  have s2 : ((w.alloc (.cells (madeCells #[.int .i64 0] n) 3)).alloc (.cells (madeCells #[.int .i64 0] n) 3)).heap.size = w.heap.size + 2 := by simp
  rw [s1] at h2
  have k1 := (h1.alloc (FootIn.none _) (.cells (madeCells #[.int .i64 0] n) 3)).alloc (FootIn.none _) (.cells (madeCells #[nilS] n) 28)
  have k2 := (h2.alloc (FootIn.none _) (.cells (madeCells #[nilS] n) 28)).lower (B' := w.heap.size) (by omega)
  have ht := World.ownsRow_lit (base := w.heap.size) (e := 28) (size := 1) ((w.alloc (.cells (madeCells #[.int .i64 0] n) 3)).alloc (.cells (madeCells #[.int .i64 0] n) 3)) (madeCells #[nilS] n) n (by omega) (by simp only [maxLen]; omega) (by simp [size_madeCells])
  rw [s2] at ht
  have e : (madeCells #[nilS] n).toList = List.replicate n nilS := by rw [toList_madeCells_one]
  rw [e] at ht
  have hcase : ∀ (i : Nat) (p : Value × List Int), (mkT n w.heap.size (List.replicate n 0) (List.replicate n 0) nilS [] (List.replicate n nilS) (List.replicate n []))[i]? = some p →
      (i = 0 ∧ p = (.slice (some ⟨w.heap.size, 0, none⟩) n n, List.replicate n 0)) ∨ (i = 1 ∧ p = (.slice (some ⟨w.heap.size + 1, 0, none⟩) n n, List.replicate n 0)) ∨ p = (nilS, []) := fun i p hp => by
    match i, hp with
    | 0, hp => injection hp with hp; exact .inl ⟨rfl, hp.symm⟩
    | 1, hp => injection hp with hp; exact .inr (.inl ⟨rfl, hp.symm⟩)
    | 2, hp => injection hp with hp; exact .inr (.inr hp.symm)
    | i + 3, hp =>
      have hp : ((List.replicate n nilS).zip ((List.replicate n ([] : List Nat)).map nats))[i]? = some p := hp
      rw [List.getElem?_zip_eq_some, List.getElem?_map, List.getElem?_replicate, List.getElem?_replicate] at hp
      obtain ⟨q1, q2⟩ := hp
      split at q1
      · injection q1 with q1
        simp at q2
        exact .inr (.inr (Prod.ext q1.symm q2.2))
      · cases q1
  refine ⟨?_, by simp, by simp⟩
  rw [List.append_nil]
  refine ⟨fun i p hp => ?_, fun i j p q hp hq hij b hb => ?_, ht, fun i p hp => ?_⟩
  · rcases hcase i p hp with ⟨-, rfl⟩ | ⟨-, rfl⟩ | rfl
    · exact k1
    · exact k2
    · exact Own.nil _ _ _ _ _
  · rcases hcase i p hp with ⟨e1, rfl⟩ | ⟨e1, rfl⟩ | rfl
    · rcases hcase j q hq with ⟨e2, rfl⟩ | ⟨e2, rfl⟩ | rfl
      · omega
      · simp [Value.ownBlock] at hb ⊢; omega
      · simp [Value.ownBlock]
    · rcases hcase j q hq with ⟨e2, rfl⟩ | ⟨e2, rfl⟩ | rfl
      · simp [Value.ownBlock] at hb ⊢; omega
      · omega
      · simp [Value.ownBlock]
    · simp [Value.ownBlock] at hb
  · rcases hcase i p hp with ⟨e1, rfl⟩ | ⟨e1, rfl⟩ | rfl <;> simp [Value.ownBlock] <;> omega
end Go.Proofs.Ytbfjacgfifecpaa

/-! ## The first half of net.levels: who uses whom. -/
namespace Go.Proofs.Ytbfjacgfifecpaa
open Go.RowKit

structure P1 (nodes : List Node) (i k : Nat) (left : List Int) (ready : List Nat) (us : List (List Nat)) : Prop where
  lleft : left.length = nodes.length
  lus : us.length = nodes.length
  kle : k ≤ (useAt nodes i).length
  cnt : ∀ a m, a < nodes.length → (us.getD a []).count m = if m < i then (useAt nodes m).count a else if m = i then ((useAt nodes i).take k).count a else 0
  left : ∀ m, m < nodes.length → left.getD m 0 = if m < i then ((useAt nodes m).length : Int) else if m = i then (k : Int) else 0
  rdy : ready = (List.range i).filter fun m => (useAt nodes m).isEmpty

theorem P1.first (nodes : List Node) : P1 nodes 0 0 (List.replicate nodes.length 0) [] (List.replicate nodes.length []) where
  lleft := by simp
  lus := by simp
  kle := Nat.zero_le _
  cnt a m ha := by
    rw [List.getD_eq_getElem?_getD, List.getElem?_replicate, if_pos ha, if_neg (by omega)]
    simp
  left m hm := by
    rw [List.getD_eq_getElem?_getD, List.getElem?_replicate, if_pos hm, if_neg (by omega)]
    simp
  rdy := rfl

theorem getD_setL {l : List (List Nat)} {i j : Nat} {v : List Nat} (hi : i < l.length) : (l.set i v).getD j [] = if j = i then v else l.getD j [] := by
  rw [List.getD_eq_getElem?_getD, List.getD_eq_getElem?_getD, List.getElem?_set]
  by_cases h : j = i
  · subst h; rw [if_pos rfl, if_pos hi, if_pos rfl]; rfl
  · rw [if_neg (fun e => h e.symm), if_neg h]

theorem P1.use {nodes : List Node} {i k a : Nat} {left : List Int} {ready : List Nat} {us : List (List Nat)} (h : P1 nodes i k left ready us) (hi : i < nodes.length) (hk : (useAt nodes i)[k]? = some a) (ha : a < nodes.length) :
    P1 nodes i (k + 1) (left.set i (left.getD i 0 + 1)) ready (us.set a (us.getD a [] ++ [i])) := by
  have hkl := (List.getElem?_eq_some_iff.1 hk).1
  have hka := (List.getElem?_eq_some_iff.1 hk).2
  refine ⟨by rw [List.length_set, h.lleft], by rw [List.length_set, h.lus], hkl, fun c m hc => ?_, fun m hm => ?_, h.rdy⟩
  · rw [getD_setL (by rw [h.lus]; exact ha), List.take_succ_eq_append_getElem hkl, hka, List.count_append, List.count_cons, List.count_nil]
    have h1 := h.cnt c m hc
    by_cases e : c = a
    · subst e
      rw [if_pos rfl, List.count_append, List.count_cons, List.count_nil, h1]
      by_cases e1 : m < i
      · rw [if_pos e1, if_pos e1]
        have : (i == m) = false := by simp; omega
        simp [this]
      · rw [if_neg e1, if_neg e1]
        by_cases e2 : m = i
        · subst e2; simp
        · rw [if_neg e2, if_neg e2]
          have : (i == m) = false := by simp; omega
          simp [this]
    · rw [if_neg e, h1]
      have : (a == c) = false := by simp; omega
      simp [this]
  · rw [getD_set (by rw [h.lleft]; exact hi), h.left m hm, h.left i hi]
    by_cases e : m = i
    · subst e; rw [if_pos rfl, if_neg (by omega), if_pos rfl, if_neg (by omega), if_pos rfl]; omega
    · rw [if_neg e]
      by_cases e1 : m < i
      · rw [if_pos e1, if_pos e1]
      · rw [if_neg e1, if_neg e1, if_neg e, if_neg e]

theorem P1.next {nodes : List Node} {i : Nat} {left : List Int} {ready : List Nat} {us : List (List Nat)} (h : P1 nodes i (useAt nodes i).length left ready us) (hi : i < nodes.length) :
    P1 nodes (i + 1) 0 left (if left.getD i 0 = 0 then ready ++ [i] else ready) us := by
  refine ⟨h.lleft, h.lus, Nat.zero_le _, fun a m ha => ?_, fun m hm => ?_, ?_⟩
  · rw [h.cnt a m ha]
    by_cases e1 : m < i
    · rw [if_pos e1, if_pos (by omega)]
    · rw [if_neg e1]
      by_cases e2 : m = i
      · subst e2; rw [if_pos rfl, if_pos (by omega), List.take_length]
      · rw [if_neg e2, if_neg (by omega)]
        simp
  · rw [h.left m hm]
    by_cases e1 : m < i
    · rw [if_pos e1, if_pos (by omega)]
    · rw [if_neg e1]
      by_cases e2 : m = i
      · subst e2; rw [if_pos rfl, if_pos (by omega)]
      · rw [if_neg e2, if_neg (by omega)]
        simp
  · have e : left.getD i 0 = ((useAt nodes i).length : Int) := by rw [h.left i hi, if_neg (by omega), if_pos rfl]
    rw [List.range_succ, List.filter_append, e, ← h.rdy]
    cases hu : useAt nodes i with
    | nil => simp [hu]
    | cons x l =>
      rw [if_neg (by simp; omega)]
      simp [hu]

theorem useAt_in {nodes : List Node} (hN : InN nodes) {i a : Nat} (ha : a ∈ useAt nodes i) : a < nodes.length := by
  unfold useAt at ha
  split at ha
  · rename_i x hx
    exact hN x (List.mem_of_getElem? hx) a ha
  · simp at ha
theorem P1.users {nodes : List Node} (hN : InN nodes) {left : List Int} {ready : List Nat} {us : List (List Nat)} (h : P1 nodes nodes.length 0 left ready us) (a i : Nat) (hi : i < nodes.length) : (us.getD a []).count i = (useAt nodes i).count a := by
  by_cases ha : a < nodes.length
  · rw [h.cnt a i ha, if_pos hi]
  · rw [List.getD_eq_getElem?_getD, List.getElem?_eq_none (by rw [h.lus]; omega)]
    symm
    rw [Option.getD_none, List.count_nil, List.count_eq_zero]
    exact fun hm => ha (useAt_in hN hm)
theorem P1.userIn {nodes : List Node} {left : List Int} {ready : List Nat} {us : List (List Nat)} (h : P1 nodes nodes.length 0 left ready us) {a m : Nat} (hm : m ∈ us.getD a []) : m < nodes.length := by
  by_cases ha : a < nodes.length
  · rcases Nat.lt_or_ge m nodes.length with h1 | h1
    · exact h1
    · have h2 := h.cnt a m ha
      have h3 := List.count_pos_iff.2 hm
      have h4 : (us.getD a []).count m = 0 := by rw [h2, if_neg (by omega)]; split <;> simp
      omega
  · rw [List.getD_eq_getElem?_getD, List.getElem?_eq_none (by rw [h.lus]; omega)] at hm
    simp at hm
theorem P1.done {nodes : List Node} (hN : InN nodes) {left : List Int} {ready : List Nat} {us : List (List Nat)} (h : P1 nodes nodes.length 0 left ready us) (cur : Nat) :
    KInv nodes (fun a => us.getD a []) 0 cur (us.getD cur []) ⟨List.replicate nodes.length 0, left, ready⟩ (useAt nodes) := by
  refine KInv.init (users := fun a => us.getD a []) (fun a i hi => h.users hN a i hi) cur (by simp) (fun i => ?_) h.lleft (fun i hi => by rw [h.left i hi, if_pos hi]) ?_ (fun i => ?_)
  · rw [List.getD_eq_getElem?_getD, List.getElem?_replicate]
    split <;> rfl
  · show ready.Nodup
    rw [h.rdy]
    exact List.nodup_range.filter _
  · show i ∈ ready ↔ _
    rw [h.rdy, List.mem_filter, List.mem_range, List.isEmpty_iff]
end Go.Proofs.Ytbfjacgfifecpaa

/-! ## net.levels: the walk. -/
namespace Go.Proofs.Ytbfjacgfifecpaa
open Go.RowKit

theorem infoIntsK : (Try.prog.info? 28).map (fun i => (i.zero, i.size, i.bytes)) = some (some (.slice none 0 0), 1, 24) := by kernel_rfl
theorem make_slices (n : Nat) (hn : n ≤ 1099511627776) (W : World) : (Instr.makeSlice 73 (.int .i64 (n : Int)) (.int .i64 (n : Int))).run Try.prog W = .ok (.slice (some ⟨W.heap.size, 0, none⟩) n n) (W.alloc (.cells (madeCells #[nilS] n) 28)) := by
  obtain ⟨i0, hi, hz0, hz1, hz2⟩ := info_parts infoIntsK
  have hr := run_make (P := Try.prog) W 73 28 i0 (.slice none 0 0) Try.underlying73 hi hz0 .i64 .i64 n n (by omega) (Int.le_refl _) (by rw [hz2]; omega) (by omega)
  rw [hz1] at hr
  simp only [Int.toNat_natCast, Nat.mul_one] at hr
  exact hr

theorem uses_own (w : World) (x : Node) :
    Calls Try.prog 23 #[nodeV x] w fun e w' => ∃ v', e = .returned v' ∧ Own kInt 3 w' none w.heap.size v' (usesR x) ∧ Below w.heap.size w w' := by
  obtain ⟨k, a, b, c⟩ := x
  have hb1 : ∀ k, Below w.heap.size w (w.alloc (.cells #[.int .i64 k, .int .i64 a, .int .i64 b, .int .i64 c] 38)) := fun k => (Below.refl _ _).alloc (Nat.le_refl _) _
  have hlit : ∀ (k : Int) (l : List Int), l.length ≤ 3 → Own kInt 3 ((w.alloc (.cells #[.int .i64 k, .int .i64 a, .int .i64 b, .int .i64 c] 38)).alloc (.cells (l.map fun x => Value.int .i64 x).toArray 3)) none w.heap.size (.slice (some ⟨(w.alloc (.cells #[.int .i64 k, .int .i64 a, .int .i64 b, .int .i64 c] 38)).heap.size, 0, none⟩) l.length l.length) l := fun k l hl => (lit_ints _ l (by omega)).lower (by simp)
  have hb2 : ∀ k (o : Obj), Below w.heap.size w ((w.alloc (.cells #[.int .i64 k, .int .i64 a, .int .i64 b, .int .i64 c] 38)).alloc o) := fun k o => (hb1 k).alloc (by simp) _
  have HB1 := Lib.hid hb1
  have HB2 := Lib.hid hb2
  have HL := Lib.hid hlit
  clear hb1 hb2 hlit
  have hk : k = 2 ∨ k = 7 ∨ k = 3 ∨ k = 4 ∨ k = 5 ∨ k = 6 ∨ (k ≠ 2 ∧ k ≠ 7 ∧ k ≠ 3 ∧ k ≠ 4 ∧ k ≠ 5 ∧ k ≠ 6) := by omega
  rcases hk with rfl | rfl | rfl | rfl | rfl | rfl | ⟨h2, h7, h3, h4, h5, h6⟩
  · go_enter Try.func23, Try.ntmps23
    go_wp2
    go_ret
    have h := HL.out 2 [a] (by simp)
    exact ⟨_, rfl, by rw [show usesR ⟨2, a, b, c⟩ = [a] by simp [usesR, many]]; simpa using h, HB2.out _ _⟩
  · go_enter Try.func23, Try.ntmps23
    go_wp2
    go_ret
    have h := HL.out 7 [a] (by simp)
    exact ⟨_, rfl, by rw [show usesR ⟨7, a, b, c⟩ = [a] by simp [usesR, many]]; simpa using h, HB2.out _ _⟩
  · go_enter Try.func23, Try.ntmps23
    go_wp2
    go_ret
    have h := HL.out 3 [a, b] (by simp)
    exact ⟨_, rfl, by rw [show usesR ⟨3, a, b, c⟩ = [a, b] by simp [usesR, many]]; simpa using h, HB2.out _ _⟩
  · go_enter Try.func23, Try.ntmps23
    go_wp2
    go_ret
    have h := HL.out 4 [a, b] (by simp)
    exact ⟨_, rfl, by rw [show usesR ⟨4, a, b, c⟩ = [a, b] by simp [usesR, many]]; simpa using h, HB2.out _ _⟩
  · go_enter Try.func23, Try.ntmps23
    go_wp2
    go_ret
    have h := HL.out 5 [a, b] (by simp)
    exact ⟨_, rfl, by rw [show usesR ⟨5, a, b, c⟩ = [a, b] by simp [usesR, many]]; simpa using h, HB2.out _ _⟩
  · go_enter Try.func23, Try.ntmps23
    go_wp2
    go_ret
    have h := HL.out 6 [a, b, c] (by simp)
    exact ⟨_, rfl, by rw [show usesR ⟨6, a, b, c⟩ = [a, b, c] by simp [usesR, many]]; simpa using h, HB2.out _ _⟩
  · have hu : usesR ⟨k, a, b, c⟩ = [] := by
      unfold usesR many
      by_cases h01 : k = 0 ∨ k = 1
      · simp [h01]
      · simp [h01, h2, h7, h3, h4, h5, h6]
    have e2 : (k == 2) = false := by simpa using h2
    have e3 : (k == 3) = false := by simpa using h3
    have e4 : (k == 4) = false := by simpa using h4
    have e5 : (k == 5) = false := by simpa using h5
    have e6 : (k == 6) = false := by simpa using h6
    have e7 : (k == 7) = false := by simpa using h7
    have HU := Lib.hid hu
    clear hu h2 h3 h4 h5 h6 h7
    go_enter Try.func23, Try.ntmps23
    go_wp2
    go_ret
    exact ⟨_, rfl, by rw [HU.out]; exact Own.nil _ _ _ _ _, HB1.out _⟩


/-- append of one number to a row of the call's own -/
theorem appI {W : World} {ops : Array Oper} {rest : List Oper} {o : Oper} {a : Act} {Q : Exit → Act → World → Prop} (hgd : o.guard = none)
    (s x : Operand) (ho : o.op = .call { callee := .builtin .append, args := #[s, x], argTypes := #[28, 28] }) {B : Nat} {v : Value} {xs : List Int} (hO : Own kInt 3 W none B v xs) (hB : B ≤ W.heap.size) (hs : a.eval s = v)
    (y : Int) (g : Nat) (hg : W.heap.size = g) (hx : a.eval x = .slice (some ⟨g, 0, none⟩) 1 1) (hl : (xs.length + 1) * 8 ≤ 140737488355328)
    (hK : ∀ v' w', Own kInt 3 w' none B v' (xs ++ [y]) → W.grownBy w' v.ownBlock → (v'.ownBlock = v.ownBlock ∨ ∃ b, v'.ownBlock = some b ∧ W.heap.size ≤ b) → wpList Try.prog ops Q rest (a.put o.dst v') w') :
    wpList Try.prog ops Q (o :: rest) a (W.alloc (.cells #[.int .i64 y] 3)) :=
  app1 kInt 3 28 (.int .i64 0) 8 hgd s x ho Try.underlying28 infoIntK rfl (by decide) (by decide) none B hO (FootIn.none _) hB hs y [.int .i64 y] (by rw [hg]; exact hx) rfl hl
    fun v' w' q1 _ _ _ q5 q6 => hK v' w' q1 q5 (q6.imp id fun ⟨b, h1, h2⟩ => ⟨b, h1, by omega⟩)

def LevE (w : World) (n B : Nat) (lv left : List Int) (rV : Value) (ready : List Nat) (us : List (List Nat)) (X : List (Value × List Int)) : Prop := ∃ vals, LevS w n B lv left rV ready vals us X
theorem KInv.reach {nodes : List Node} {users : Nat → List Nat} {d cur : Nat} {todo : List Nat} {s : KS} {rem : Nat → List Nat} (hN : InN nodes) (h : KInv nodes users d cur todo s rem) :
    ∀ (v : Nat) (i : Nat), i < nodes.length → s.lv.getD i 0 = (v : Int) → ∃ l : List Nat, l.Nodup ∧ (∀ x ∈ l, x < nodes.length ∧ s.lv.getD x 0 ≤ (v : Int)) ∧ l.length = v + 1 := by
  intro v
  induction v with
  | zero => exact fun i hi he => ⟨[i], by simp, fun x hx => by simp at hx; subst hx; exact ⟨hi, by rw [he]; exact Int.le_refl _⟩, rfl⟩
  | succ v ih =>
    intro i hi he
    rcases h.is i hi with h0 | ⟨a, ha, _, hl⟩
    · rw [he] at h0; omega
    · obtain ⟨l, l1, l2, l3⟩ := ih a (useAt_in hN ha) (by rw [he] at hl; omega)
      refine ⟨i :: l, List.nodup_cons.2 ⟨fun hm => ?_, l1⟩, fun x hx => ?_, by rw [List.length_cons, l3]⟩
      · have := (l2 i hm).2; rw [he] at this; omega
      · rcases List.mem_cons.1 hx with rfl | hx
        · exact ⟨hi, by rw [he]; exact Int.le_refl _⟩
        · exact ⟨(l2 x hx).1, by have := (l2 x hx).2; omega⟩
theorem KInv.bound {nodes : List Node} {users : Nat → List Nat} {d cur : Nat} {todo : List Nat} {s : KS} {rem : Nat → List Nat} (hN : InN nodes) (h : KInv nodes users d cur todo s rem) {i : Nat} (hi : i < nodes.length) : 0 ≤ s.lv.getD i 0 ∧ s.lv.getD i 0 < nodes.length := by
  refine ⟨h.nn i, ?_⟩
  obtain ⟨v, hv⟩ := Int.eq_ofNat_of_zero_le (h.nn i)
  obtain ⟨l, l1, l2, l3⟩ := h.reach hN v i hi hv
  have := nodup_le nodes.length l l1 (fun x hx => (l2 x hx).1)
  omega

/-- ahead of what is ready at d -/
def St1 (nodes : List Node) (us : List (List Nat)) (vals : List Value) (w : World) (B d : Nat) (rv : Value) : Prop :=
  ∃ lv left ready rem A c, rv = .slice A ready.length c ∧ LevS w nodes.length B lv left (.slice A ready.length c) ready vals us [] ∧ (∀ cur, KInv nodes (fun a => us.getD a []) d cur (us.getD cur []) ⟨lv, left, ready⟩ rem) ∧ ∀ i, (rem i).length ≤ 3
/-- at cur's users -/
def St2 (nodes : List Node) (us : List (List Nat)) (vals : List Value) (w : World) (B d cur : Nat) (todo : List Nat) (rv : Value) : Prop :=
  ∃ lv left ready rem A c, rv = .slice A ready.length c ∧ LevS w nodes.length B lv left (.slice A ready.length c) ready vals us [] ∧ KInv nodes (fun a => us.getD a []) d cur todo ⟨lv, left, ready⟩ rem ∧ ready[d]? = some cur ∧ ∀ i, (rem i).length ≤ 3

attribute [local go_sem] max2_int max_two in
set_option maxHeartbeats 4000000 in
set_option maxRecDepth 100000 in
theorem levels_net (w : World) (v : Value) (nodes : List Node) (ins outs : List Port) (hN : NetV w v nodes ins outs) (hnl : nodes.length ≤ 1073741824)
    (hin : ∀ x ∈ nodes, ∀ u ∈ usesR x, 0 ≤ u ∧ u < nodes.length) :
    Calls Try.prog 55 #[v] w fun e w' => ∃ v' l b, e = .returned (.tuple #[v', .bool b]) ∧ Row kInt w' (fun _ => False) v' l ∧ (b = true → IsLev nodes l) ∧ (b = false → ¬ ∃ l, IsLev nodes l) ∧ Below w.heap.size w w' := by
  have hInN : InN nodes := fun x hx u hu => by
    unfold usesN at hu
    split at hu
    · simp at hu
    · obtain ⟨z, hz, rfl⟩ := List.mem_map.1 hu
      have := hin x hx z hz
      omega
  obtain ⟨An, cn, Ai, ci, Ao, co, rfl, hbox⟩ := hN.box
  let ob := netBox (.slice An nodes.length cn) (.slice Ai ins.length ci) (.slice Ao outs.length co)
  have hmk := make_ints nodes.length (by omega)
  have hmk2 := make_slices nodes.length (by omega)
  have hS := LevS.init (w.alloc ob) nodes.length (by omega)
  have hsz : (w.alloc ob).heap.size = w.heap.size + 1 := by simp
  rw [hsz] at hS
  have HS := Lib.hid hS
  have HBOX := Lib.hid hbox
  have HSZ := Lib.hid hsz
  have HIN := Lib.hid hin
  have HINN := Lib.hid hInN
  have hb3 : Below (w.heap.size + 1) (w.alloc ob) (((((w.alloc ob)).alloc (.cells (madeCells #[.int .i64 0] nodes.length) 3)).alloc (.cells (madeCells #[.int .i64 0] nodes.length) 3)).alloc (.cells (madeCells #[nilS] nodes.length) 28)) :=
    (((Below.refl _ _).alloc (by rw [hsz]; exact Nat.le_refl _) _).alloc (by simp) _).alloc (by simp) _
  have HB3 := Lib.hid hb3
  obtain ⟨z0, z1, -, hrn0, -, -, -⟩ := hbox (w.alloc ob) (Below.refl _ _)
  obtain ⟨z01, z11, -, -⟩ := hbox _ ((Below.refl _ _).alloc (by rw [hsz]; exact Nat.le_refl _) (.cells (madeCells #[.int .i64 0] nodes.length) 3))
  obtain ⟨z02, z12, -, -⟩ := hbox _ (((Below.refl _ _).alloc (by rw [hsz]; exact Nat.le_refl _) (.cells (madeCells #[.int .i64 0] nodes.length) 3)).alloc (by simp) (.cells (madeCells #[.int .i64 0] nodes.length) 3))
  obtain ⟨z03, z13, -, -⟩ := hbox _ hb3
  have HRN0 := Lib.hid hrn0
  clear hbox hsz hb3 hN hin hrn0 hS hInN
  go_enter Try.func55, Try.ntmps55
  go_wp2_with fail
  clear z0 z1 z01 z11 z02 z12
  go_loopw [7, 31] (fun rv iv wr => ∃ (i : Nat) (left : List Int) (ready : List Nat) (us : List (List Nat)) (vals : List Value) (rV : Value), rv = rV ∧ iv = .int .i64 i ∧ i ≤ nodes.length ∧ Hid (P1 nodes i 0 left ready us) ∧ Hid (LevS wr nodes.length (w.heap.size + 1) (List.replicate nodes.length 0) left rV ready vals us []) ∧ Hid (Below (w.heap.size + 1) (w.alloc ob) wr) ∧ Hid (∀ a, (us.getD a []).length ≤ 3 * i)) (fun _ iv _ => nodes.length - (intOf iv).toNat)
  case atStart => exact ⟨0, _, _, _, _, _, rfl, rfl, Nat.zero_le _, Lib.hid (P1.first nodes), HS, HB3, Lib.hid (fun a => by rw [List.getD_eq_getElem?_getD, List.getElem?_replicate]; split <;> simp)⟩
  case round =>
    clear z03 z13 HS HB3
    obtain ⟨i, left, ready, us, vals, rV, rfl, rfl, hi, HP, HL, HB, HLN⟩ := hrel
    obtain ⟨z0, z1, -, -, -, -, hbw⟩ := HBOX.out _ HB.out
    have HBA : Hid (Below (w.alloc ob).heap.size (w.alloc ob) wr) := by rw [HSZ.out]; exact HB.out
    by_cases hlt : i < nodes.length
    · obtain ⟨b, off, rfl, x0, x1, x2, x3⟩ := HRN0.out.node_at hlt
      replace x0 := cellBelow HBA.out x0
      replace x1 := cellBelow HBA.out x1
      replace x2 := cellBelow HBA.out x2
      replace x3 := cellBelow HBA.out x3
      have hua : useAt nodes i = usesN nodes[i] := useAt_eq (List.getElem?_eq_getElem hlt)
      have hiu := HIN.out _ (List.getElem_mem hlt)
      obtain ⟨x, hxx⟩ : ∃ x, nodes[i] = x := ⟨_, rfl⟩
      rw [hxx] at x0 x1 x2 x3 hua hiu
      clear hxx
      obtain ⟨xk, xa, xb, xc⟩ := x
      dsimp only at x0 x1 x2 x3
      have HIU := Lib.hid hiu
      have HUA := Lib.hid hua
      have hlw := HL.out.lt
      have HLX := Lib.hid (HL.out.alloc (.cells #[.int .i64 xk, .int .i64 xa, .int .i64 xb, .int .i64 xc] 38))
      have HBX := Lib.hid (HB.out.alloc (by omega) (.cells #[.int .i64 xk, .int .i64 xa, .int .i64 xb, .int .i64 xc] 38))
      have hl0 : left.getD i 0 = 0 := by rw [HP.out.left i hlt, if_neg (by omega), if_pos rfl]; rfl
      have hli : left[i]? = some 0 := by
        have h1 : i < left.length := by rw [HP.out.lleft]; exact hlt
        rw [List.getD_eq_getElem?_getD, List.getElem?_eq_getElem h1] at hl0
        rw [List.getElem?_eq_getElem h1]
        exact congrArg some hl0
      have hrl : (nats ready).length ≤ 1073741824 := by
        rw [List.length_map, HP.out.rdy]
        have h1 := List.length_filter_le (fun m => (useAt nodes m).isEmpty) (List.range i)
        rw [List.length_range] at h1
        omega
      have HRL := Lib.hid hrl
      have HLI := Lib.hid hli
      have HL0 := Lib.hid hl0
      clear hiu hua hl0 hli hrl hbw
      by_cases h7 : xk = 7
      · subst h7
        have hu0 : useAt nodes i = [] := by rw [HUA.out]; simp [usesN]
        have HPN : Hid (P1 nodes (i + 1) 0 left (ready ++ [i]) us) := by
          have h := P1.next (i := i) (left := left) (ready := ready) (us := us) (by rw [hu0]; exact HP.out) hlt
          rw [HL0.out, if_pos rfl] at h
          exact h
        obtain ⟨c0, c1⟩ := HLX.out.leftOwn.cellAt? HLI.out
        clear hu0
        have hb1 := Nat.le_of_lt (Nat.lt_of_le_of_lt (Nat.le_add_right _ 2) HLX.out.lt)
        have hb2 : ((nats ready).length + 1) * 8 ≤ 140737488355328 := by have := HRL.out; omega
        have hro := HLX.out.rdyOwn
        have HRO := Lib.hid hro
        have hsx : (wr.alloc (.cells #[.int .i64 7, .int .i64 xa, .int .i64 xb, .int .i64 xc] 38)).heap.size = wr.heap.size + 1 := by simp
        have HSX := Lib.hid hsx
        clear hro hsx
        go_wp2_with (at_builtin; refine appI rfl (.tmp 68) (.tmp 70) rfl HRO.out hb1 rfl (i : Int) _ HSX.out rfl hb2 ?_; intro v' w4 q1 q5 q6)
        refine ⟨⟨i + 1, left, ready ++ [i], us, vals, v', rfl, by go_num, by omega, HPN, Lib.hid (HLX.out.setRdy q1 q5 q6), Lib.hid (HBX.out.grown q5 (by have := HLX.out.lt; omega) (fun k hk => (HLX.out.rdyOwn.base hk).1)), Lib.hid (fun a => by have := HLN.out a; omega)⟩, ?_⟩
        simp [intOf]; omega
      · have h7' : (xk == 7) = false := by simpa using h7
        have hua2 : useAt nodes i = (usesR ⟨xk, xa, xb, xc⟩).map Int.toNat := by rw [HUA.out, usesN, if_neg h7]
        have hul : (usesR ⟨xk, xa, xb, xc⟩).length ≤ 3 := by simp [usesR]; omega
        have hU := uses_own (wr.alloc (.cells #[.int .i64 xk, .int .i64 xa, .int .i64 xb, .int .i64 xc] 38)) ⟨xk, xa, xb, xc⟩
        obtain ⟨uu, huu⟩ : ∃ uu, usesR ⟨xk, xa, xb, xc⟩ = uu := ⟨_, rfl⟩
        rw [huu] at hua2 hul hU
        have HIU2 : Hid (∀ u ∈ uu, 0 ≤ u ∧ u < (nodes.length : Int)) := by rw [← huu]; exact HIU.out
        have HUA2 := Lib.hid hua2
        have HU := Lib.hid hU
        clear hua2 hU huu HIU
        go_wp2_with fail
        refine HU.out.mono ?_
        rintro e w4 ⟨v4, rfl, ho4, hb4⟩
        have HL4 := Lib.hid (HLX.out.enter hb4 ho4)
        have HB4 := Lib.hid (HBX.out.trans (hb4.mono (by rw [← HSZ.out]; exact HBX.out.size)))
        obtain ⟨A4, c4, rfl, -, -⟩ := ho4.shape
        clear ho4 hb4 HU
        go_wp2_with fail
        obtain ⟨wo, hwo⟩ : ∃ wo, wo = wr := ⟨_, rfl⟩
        subst hwo
        go_loopw [42] (fun kv wp => ∃ (k : Nat) (left : List Int) (us : List (List Nat)), kv = .int .i64 k ∧ k ≤ uu.length ∧ Hid (P1 nodes i k left ready us) ∧ Hid (LevE wp nodes.length (w.heap.size + 1) (List.replicate nodes.length 0) left u7 ready us [(.slice A4 uu.length c4, uu)]) ∧ Hid (Below (w.heap.size + 1) (w.alloc ob) wp) ∧ Hid (∀ a, (us.getD a []).length ≤ 3 * i + k)) (fun kv _ => uu.length - (intOf kv).toNat)
        case atStart => exact ⟨0, left, us, rfl, Nat.zero_le _, HP, Lib.hid ⟨vals, HL4.out⟩, HB4, HLN⟩
        case round =>
          clear HP HL4 HB4 HLN HL HB HLX HBX HLI HL0 HBA x0 x1 x2 x3 z0 z1
          obtain ⟨k, left, us, rfl, hk, HP, HLE, HB, HLN⟩ := hrel
          obtain ⟨vals, hle⟩ := HLE.out
          have HL := Lib.hid hle
          clear hle HLE
          by_cases hkt : k < uu.length
          · obtain ⟨g4, c5, he, -, -⟩ := HL.out.xOwn.form (by omega)
            injection he with he1 he2 he3
            subst he1
            subst he3
            have hc4 := (HL.out.xOwn.cellAt hkt).1
            have hub := HIU2.out _ (List.getElem_mem hkt)
            obtain ⟨a, ha⟩ := Int.eq_ofNat_of_zero_le hub.1
            have hka : (useAt nodes i)[k]? = some a := by rw [HUA2.out, List.getElem?_map, List.getElem?_eq_getElem hkt, ha]; rfl
            rw [ha] at hc4 hub
            have han : a < nodes.length := by omega
            have hvl := HL.out.lvals
            have hus := HL.out.lus
            obtain ⟨v, hv⟩ : ∃ v, vals[a]? = some v := ⟨_, List.getElem?_eq_getElem (by omega)⟩
            obtain ⟨u, hu⟩ : ∃ u, us[a]? = some u := ⟨_, List.getElem?_eq_getElem (by omega)⟩
            have hgu : us.getD a [] = u := by rw [List.getD_eq_getElem?_getD, hu]; rfl
            have hli : left[i]? = some (k : Int) := by
              have h1 : i < left.length := by rw [HP.out.lleft]; exact hlt
              have h2 := HP.out.left i hlt
              rw [if_neg (by omega), if_pos rfl, List.getD_eq_getElem?_getD, List.getElem?_eq_getElem h1] at h2
              rw [List.getElem?_eq_getElem h1]
              exact congrArg some h2
            have hgl : left.getD i 0 = k := by rw [List.getD_eq_getElem?_getD, hli]; rfl
            have HPU := Lib.hid (HP.out.use hlt hka han)
            rw [hgu, hgl] at HPU
            have hun : ((nats u).length + 1) * 8 ≤ 140737488355328 := by
              have h1 := HLN.out a
              rw [hgu] at h1
              rw [List.length_map]
              omega
            have HLN2 : Hid (∀ c, ((us.set a (u ++ [i])).getD c []).length ≤ 3 * i + (k + 1)) := fun c => by
              have h1 := HLN.out c
              rw [getD_setL (by omega)]
              split
              · rename_i e; subst e; rw [hgu] at h1; simp; omega
              · omega
            have hO := HL.out.useOwn hv hu
            have hcv := (HL.out.useCell hv).1
            have HO := Lib.hid hO
            have HV := Lib.hid hv
            have HU := Lib.hid hu
            have HLI := Lib.hid hli
            have hb1 := Nat.le_of_lt (Nat.lt_of_le_of_lt (Nat.le_add_right _ 2) HL.out.lt)
            have hkk : (k : Int) ≤ 3 := by omega
            have HVL := Lib.hid hvl
            have HUSL := Lib.hid hus
            clear hO hv hu hgu hli hgl hka hub ha hvl hus
            have hl6 : (nats u ++ [(i : Int)]).length = u.length + 1 := by simp
            have HL6L := Lib.hid hl6
            clear hl6
            go_wp2_with (at_builtin; go_loud (refine appI rfl (.tmp 51) (.tmp 53) rfl HO.out hb1 rfl (i : Int) _ rfl rfl hun ?_; intro v' w5 q1 q5 q6; obtain ⟨A6, c6, he6, -, -⟩ := q1.shape; rw [HL6L.out] at he6; subst he6; obtain ⟨t0, t1⟩ := HL.out.tabKept HV.out HU.out q5; have HL6 := Lib.hid (HL.out.setUse HV.out HU.out q1 q5 q6); obtain ⟨t2, t3⟩ := HL.out.leftKept HV.out HU.out q5 HLI.out; have HQ5 := Lib.hid q5; clear q1 q5 q6))
            refine ⟨⟨k + 1, _, _, by go_num, by omega, HPU, Lib.hid ⟨_, HL6.out.setLeft i ((k : Int) + 1)⟩, Lib.hid ?_, HLN2⟩, ?_⟩
            · have hB5 := HB.out.grown HQ5.out (by have := HL.out.lt; omega) (fun g hg => (HO.out.base hg).1)
              exact (hB5.setCell (p := ⟨w.heap.size + 1 + 1 + 1, a, none⟩) (by simp) _).setCell (p := ⟨w.heap.size + 1 + 1, i, none⟩) (by simp) _
            · simp [intOf]; omega
          · obtain rfl : k = uu.length := by omega
            have HL2 := Lib.hid HL.out.leave
            have hul3 : (useAt nodes i).length = uu.length := by rw [HUA2.out, List.length_map]
            have hPn := P1.next (by rw [hul3]; exact HP.out) hlt
            have hli : left[i]? = some (uu.length : Int) := by
              have h1 : i < left.length := by rw [HP.out.lleft]; exact hlt
              have h2 := HP.out.left i hlt
              rw [if_neg (by omega), if_pos rfl, List.getD_eq_getElem?_getD, List.getElem?_eq_getElem h1] at h2
              rw [List.getElem?_eq_getElem h1]
              exact congrArg some h2
            have hgl : left.getD i 0 = (uu.length : Int) := by rw [List.getD_eq_getElem?_getD, hli]; rfl
            rw [hgl] at hPn
            obtain ⟨c0, c1⟩ := HL2.out.leftOwn.cellAt? hli
            have HLN2 : Hid (∀ a, (us.getD a []).length ≤ 3 * (i + 1)) := fun a => by have := HLN.out a; omega
            have hb1 := Nat.le_of_lt (Nat.lt_of_le_of_lt (Nat.le_add_right _ 2) HL2.out.lt)
            have hb2 : ((nats ready).length + 1) * 8 ≤ 140737488355328 := by have := HRL.out; omega
            have hro := HL2.out.rdyOwn
            have HRO := Lib.hid hro
            clear hro hgl hli hul3
            by_cases hz : uu.length = 0
            · rw [if_pos (by omega)] at hPn
              have HPN := Lib.hid hPn
              rw [hz] at c0
              clear hPn hz
              go_wp2_with (at_builtin; refine appI rfl (.tmp 68) (.tmp 70) rfl HRO.out hb1 rfl (i : Int) _ rfl rfl hb2 ?_; intro v' w5 q1 q5 q6)
              refine ⟨⟨i + 1, left, ready ++ [i], us, vals, v', rfl, by go_num, by omega, HPN, Lib.hid (HL2.out.setRdy q1 q5 q6), Lib.hid (HB.out.grown q5 (by have := HL2.out.lt; omega) (fun k hk => (HL2.out.rdyOwn.base hk).1)), HLN2⟩, ?_⟩
              simp [intOf]; omega
            · have hzi : ¬ (uu.length : Int) = 0 := by omega
              rw [if_neg hzi] at hPn
              have HPN := Lib.hid hPn
              clear hPn hz
              go_wp2
              refine ⟨⟨i + 1, left, ready, us, vals, _, rfl, by go_num, by omega, HPN, HL2, HB, HLN2⟩, ?_⟩
              simp [intOf]; omega
    · obtain rfl : i = nodes.length := by omega
      have HUI := Lib.hid (fun a m (hm : m ∈ us.getD a []) => HP.out.userIn hm)
      have h0 : Hid (St1 nodes us vals wr (w.heap.size + 1) 0 u7) := by
        obtain ⟨A, c, he, -, -⟩ := HL.out.rdyOwn.shape
        rw [List.length_map] at he
        subst he
        exact ⟨_, _, _, _, A, c, rfl, HL.out, fun cur => HP.out.done HINN.out cur, fun i => by
          unfold useAt
          split
          · unfold usesN
            split
            · simp
            · simp [usesR]; omega
          · simp⟩
      have HUS := Lib.hid (HP.out.users HINN.out)
      have HBS := Lib.hid HB.out
      have HUL := Lib.hid (fun a => (HLN.out a))
      clear HP HL HB HLN HBA hbw
      go_wp2_with fail
      obtain ⟨wo, hwo⟩ : ∃ wo, wo = wr := ⟨_, rfl⟩
      subst hwo
      go_loopw [7, 12] (fun rv dv wp => ∃ d : Nat, dv = .int .i64 d ∧ d ≤ nodes.length ∧ Hid (St1 nodes us vals wp (w.heap.size + 1) d rv) ∧ Hid (Below (w.heap.size + 1) (w.alloc ob) wp)) (fun _ dv _ => nodes.length - (intOf dv).toNat)
      case atStart => exact ⟨0, rfl, Nat.zero_le _, h0, HBS⟩
      case round =>
        clear h0 HBS z0 z1
        obtain ⟨d, rfl, hd, HS1, HB⟩ := hrel
        obtain ⟨lv, left, ready, rem, A, c, rfl, hl, hk, hr3⟩ := HS1.out
        have HL := Lib.hid hl
        have HK := Lib.hid hk
        have HR3 := Lib.hid hr3
        have hrn := nodup_le nodes.length ready (hk 0).nodup (hk 0).inn
        clear hl hk hr3
        obtain ⟨z0, z1, -, -, -, -, hbw⟩ := HBOX.out _ HB.out
        by_cases hlt : d < ready.length
        · obtain ⟨g, c1, he, -, -⟩ := HL.out.rdyOwn.form (by rw [List.length_map]; omega)
          injection he with he1 he2 he3
          subst he1
          subst he3
          obtain ⟨cur, hcur⟩ : ∃ cur, ready[d]? = some cur := ⟨_, List.getElem?_eq_getElem hlt⟩
          have hcn : cur < nodes.length := (HK.out 0).inn cur (List.mem_of_getElem? hcur)
          have hcell := (HL.out.rdyOwn.cellAt? (i := d) (r := (cur : Int)) (by rw [List.getElem?_map, hcur]; rfl)).1
          have hvl := HL.out.lvals
          have hus := HL.out.lus
          obtain ⟨v, hv⟩ : ∃ v, vals[cur]? = some v := ⟨_, List.getElem?_eq_getElem (by omega)⟩
          obtain ⟨u, hu⟩ : ∃ u, us[cur]? = some u := ⟨_, List.getElem?_eq_getElem (by omega)⟩
          have hgu : us.getD cur [] = u := by rw [List.getD_eq_getElem?_getD, hu]; rfl
          have HUC := Lib.hid (fun m (hm : m ∈ u) => HUI.out cur m (by rw [hgu]; exact hm))
          have hO := HL.out.useOwn hv hu
          obtain ⟨Av, cv, he5, -, -⟩ := hO.shape
          rw [List.length_map] at he5
          subst he5
          have hucell := (HL.out.useCell hv).1
          have hulen : u.length ≤ 3 * nodes.length := by have := HUL.out cur; rw [hgu] at this; exact this
          have h20 : Hid (St2 nodes us vals wr (w.heap.size + 1) d cur (u.drop 0) (.slice (some ⟨g, 0, none⟩) ready.length c)) := ⟨lv, left, ready, rem, _, _, rfl, HL.out, by have := HK.out cur; rw [hgu] at this; exact this, hcur, HR3.out⟩
          have HV := Lib.hid hv
          have HU := Lib.hid hu
          have HGU := Lib.hid hgu
          have HULEN := Lib.hid hulen
          have HRN := Lib.hid hrn
          clear hv hu hgu hO hvl hus hcur he2 hulen hrn
          go_wp2
          obtain ⟨wo2, hwo2⟩ : ∃ wo, wo = wr := ⟨_, rfl⟩
          subst hwo2
          go_loopw [7, 88] (fun rv kv wp => ∃ k : Nat, kv = .int .i64 k ∧ k ≤ u.length ∧ Hid (St2 nodes us vals wp (w.heap.size + 1) d cur (u.drop k) rv) ∧ Hid (Below (w.heap.size + 1) (w.alloc ob) wp)) (fun _ kv _ => u.length - (intOf kv).toNat)
          case atStart => exact ⟨0, rfl, Nat.zero_le _, h20, HB⟩
          case round =>
            clear h20 hcell hucell HL HK HR3 HB hbw z0 z1 HS1 HRN
            obtain ⟨k, rfl, hk, HS2, HB⟩ := hrel
            obtain ⟨lv, left, ready, rem, A, c, rfl, hl, hki, hcur, hr3⟩ := HS2.out
            have HL := Lib.hid hl
            have HK := Lib.hid hki
            have HR3 := Lib.hid hr3
            have HCUR := Lib.hid hcur
            have hrn := nodup_le nodes.length ready hki.nodup hki.inn
            clear hl hki hr3 hcur
            by_cases hkt : k < u.length
            · have hmn : u[k] < nodes.length := HUC.out _ (List.getElem_mem hkt)
              have hdrop := List.drop_eq_getElem_cons hkt
              have hum : u[k]? = some u[k] := List.getElem?_eq_getElem hkt
              obtain ⟨m, hm⟩ : ∃ m, u[k] = m := ⟨_, rfl⟩
              rw [hm] at hmn hdrop hum
              have hO := HL.out.useOwn HV.out HU.out
              obtain ⟨g5, c6, he, -, -⟩ := hO.form (by rw [List.length_map]; omega)
              injection he with he1 he2 he3
              subst he1
              subst he3
              have hc := (hO.cellAt? (i := k) (r := (m : Int)) (by rw [List.getElem?_map, hum]; rfl)).1
              have hll := HK.out.llv
              have hlf := HK.out.lleft
              dsimp only at hll hlf
              obtain ⟨l0, h0⟩ : ∃ l, lv[m]? = some l := ⟨_, List.getElem?_eq_getElem (by omega)⟩
              obtain ⟨l1, h1⟩ : ∃ l, lv[cur]? = some l := ⟨_, List.getElem?_eq_getElem (by omega)⟩
              obtain ⟨r0, h2⟩ : ∃ l, left[m]? = some l := ⟨_, List.getElem?_eq_getElem (by omega)⟩
              have g0 : lv.getD m 0 = l0 := by rw [List.getD_eq_getElem?_getD, h0]; rfl
              have g1 : lv.getD cur 0 = l1 := by rw [List.getD_eq_getElem?_getD, h1]; rfl
              have g2 : left.getD m 0 = r0 := by rw [List.getD_eq_getElem?_getD, h2]; rfl
              have b1 := HK.out.bound HINN.out hcn
              have b2 : r0 = ((rem m).length : Int) := by rw [← g2]; exact HK.out.left m hmn
              have b3 := HR3.out m
              dsimp only at b1
              rw [g1] at b1
              have hst := HK.out
              rw [hdrop] at hst
              have hst := hst.step hmn HCUR.out
              simp only [kStep, g0, g1, g2] at hst
              have HST := Lib.hid hst
              have c0 := HL.out.lvOwn.cellAt? h0
              have c1 := HL.out.lvOwn.cellAt? h1
              have c2 := HL.out.leftOwn.cellAt? h2
              obtain ⟨c00, c01⟩ := c0
              obtain ⟨c10, c11⟩ := c1
              obtain ⟨c20, c21⟩ := c2
              have hul := HULEN.out
              have w1 : IntKind.i64.wrap (l1 + 1) = l1 + 1 := IntWalk.i64_in _ (by omega)
              clear hst hO hum hdrop hll hlf h0 h1 h2 g0 g1 g2 hrn he2 hm
              go_wp2_with fail
              have b4 : r0 ≤ 3 := by omega
              have b5 : 0 ≤ r0 := by omega
              have B2 := Lib.hid b2
              clear b2 b3
              have HLD := Lib.hid HL.out.drew
              have HBD := Lib.hid HB.out.drew
              have hro := HL.out.rdyOwn
              have hrl : (nats ready).length ≤ 1073741824 := by rw [List.length_map]; have := nodup_le nodes.length ready HK.out.nodup HK.out.inn; omega
              have e00 : wr.drew.cell? _ = _ := c00
              have e01 : wr.drew.frozen? _ = _ := c01
              have e10 : wr.drew.cell? _ = _ := c10
              have e20 : wr.drew.cell? _ = _ := c20
              have e21 : wr.drew.frozen? _ = _ := c21
              go_still_tail 13, (by kernel_rfl)
              change wpList _ _ _ _ _ wr.drew
              generalize wr.drew = w2 at HLD HBD e00 e01 e10 e20 e21
              have hlw := HLD.out.lt
              by_cases hz : r0 = 1
              · subst hz
                have HL7 := Lib.hid ((HLD.out.setLv m (max l0 (l1 + 1))).setLeft m 0)
                have hro7 := HL7.out.rdyOwn
                have hb1 := Nat.le_of_lt (Nat.lt_of_le_of_lt (Nat.le_add_right _ 2) HL7.out.lt)
                have hb2 : ((nats ready).length + 1) * 8 ≤ 140737488355328 := by omega
                have hsx : ((w2.setCell ⟨w.heap.size + 1, m, none⟩ (.int .i64 (max l0 (l1 + 1)))).setCell ⟨w.heap.size + 1 + 1, m, none⟩ (.int .i64 0)).heap.size = w2.heap.size := by simp
                have HRO7 := Lib.hid hro7
                have HSX := Lib.hid hsx
                clear hro7 hsx hro
                go_wp2_with (at_builtin; go_loud (refine appI rfl (.tmp 116) (.tmp 118) rfl HRO7.out hb1 rfl (m : Int) _ HSX.out rfl hb2 ?_; intro v' w5 q1 q5 q6))
                have HSN : Hid (KInv nodes (fun a => us.getD a []) d cur (u.drop (k + 1)) ⟨lv.set m (max l0 (l1 + 1)), left.set m 0, ready ++ [m]⟩ (fun i => if i = m then (rem i).erase cur else rem i)) := by
                  have h := HST.out
                  rw [show (1 : Int) - 1 = 0 from rfl, if_pos rfl] at h
                  exact Lib.hid h
                have hl7 : (nats ready ++ [(m : Int)]).length = (ready ++ [m]).length := by simp
                obtain ⟨A7, c7, he7, -, -⟩ := q1.shape
                rw [hl7] at he7
                subst he7
                have hB5 := ((HBD.out.setCell (p := ⟨w.heap.size + 1, m, none⟩) (by simp) (.int .i64 (max l0 (l1 + 1)))).setCell (p := ⟨w.heap.size + 1 + 1, m, none⟩) (by simp) (.int .i64 0)).grown q5 (by have := HL7.out.lt; omega) (fun g hg => (HRO7.out.base hg).1)
                refine ⟨⟨k + 1, by go_num, by omega, Lib.hid ⟨_, _, _, _, A7, c7, rfl, HL7.out.setRdy q1 q5 q6, HSN.out, ?_, ?_⟩, Lib.hid hB5⟩, ?_⟩
                · have h := HCUR.out
                  rw [List.getElem?_append_left (List.getElem?_eq_some_iff.1 h).1]; exact h
                · intro i
                  have h := HR3.out i
                  split
                  · exact Nat.le_trans List.length_erase_le h
                  · exact h
                · simp [intOf]; omega
              · have hz1 : ¬ (r0 - 1 = 0) := by omega
                have HSN : Hid (KInv nodes (fun a => us.getD a []) d cur (u.drop (k + 1)) ⟨lv.set m (max l0 (l1 + 1)), left.set m (r0 - 1), ready⟩ (fun i => if i = m then (rem i).erase cur else rem i)) := by
                  have h := HST.out
                  rw [if_neg hz1] at h
                  exact Lib.hid h
                have w2' : IntKind.i64.wrap (r0 - 1) = r0 - 1 := IntWalk.i64_in _ (by omega)
                have HL7 := Lib.hid ((HLD.out.setLv m (max l0 (l1 + 1))).setLeft m (r0 - 1))
                clear hro
                go_wp2_with fail
                have hB5 := ((HBD.out.setCell (p := ⟨w.heap.size + 1, m, none⟩) (by simp) (.int .i64 (max l0 (l1 + 1)))).setCell (p := ⟨w.heap.size + 1 + 1, m, none⟩) (by simp) (.int .i64 (r0 - 1)))
                refine ⟨⟨k + 1, by go_num, by omega, Lib.hid ⟨_, _, _, _, _, _, rfl, HL7.out, HSN.out, HCUR.out, ?_⟩, Lib.hid hB5⟩, ?_⟩
                · intro i
                  have h := HR3.out i
                  split
                  · exact Nat.le_trans List.length_erase_le h
                  · exact h
                · simp [intOf]; omega
            · obtain rfl : k = u.length := by omega
              have h1 : Hid (St1 nodes us vals wr (w.heap.size + 1) (d + 1) (.slice A ready.length c)) := by
                refine ⟨lv, left, ready, rem, A, c, rfl, HL.out, fun cur' => ?_, HR3.out⟩
                have h := HK.out
                rw [List.drop_length] at h
                exact KInv.next HUS.out h HCUR.out
              have hd2 : d < nodes.length := by have := (List.getElem?_eq_some_iff.1 HCUR.out).1; omega
              clear hrn
              go_wp2
              refine ⟨⟨d + 1, by go_num, by omega, h1, HB⟩, ?_⟩
              simp [intOf]; omega
        · have hdl : d = ready.length := by have h : d ≤ ready.length := (HK.out 0).dle; omega
          have HDN := Lib.hid ((fun h => KInv.done HINN.out h) (show KInv nodes (fun a => us.getD a []) (KS.ready ⟨lv, left, ready⟩).length 0 (us.getD 0 []) ⟨lv, left, ready⟩ rem by have := HK.out 0; rw [hdl] at this; exact this))
          have HRW := Lib.hid ((HL.out.lvOwn).rowS (fun _ => False) (fun _ _ h => h))
          have HBW := Lib.hid hbw
          have HDL := Lib.hid hdl
          clear hrn hbw
          go_wp2
          go_quiet (fail)
          go_wp2
          go_ret2
          refine ⟨_, lv, _, rfl, HRW.out.later (pw_drewN _ _), fun h => HDN.out.1 ?_, fun h => HDN.out.2 ?_, HBW.out.trans ((pw_drewN _ _).mono HBW.out.size)⟩
          · simp at h; show ready.length = nodes.length; omega
          · simp at h; show ¬ ready.length = nodes.length; omega
end Go.Proofs.Ytbfjacgfifecpaa
