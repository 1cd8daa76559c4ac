/- net.homeless: whether inputs and bits that come in are not the same. -/
import Derived.Test.YtbfjacgfifecpaaNa
namespace Go.Proofs.Ytbfjacgfifecpaa
open Go.RowKit

theorem cellBelow {w w' : World} (hb : Below w.heap.size w w') {A : Addr} {u : Value} (h : w.cell? A = some u) : w'.cell? A = some u := (hb.cell (World.block_lt_of_cell? w A h)).trans h
def tally (n : Nat) (bs : List Int) : List Int := (List.range n).map fun (i : Nat) => ((bs.count ((i : Nat) : Int) : Nat) : Int)
theorem tally_nil (n : Nat) : tally n [] = List.replicate n 0 := by
  apply List.ext_getElem <;> simp [tally]
theorem tally_length (n : Nat) (bs : List Int) : (tally n bs).length = n := by simp [tally]
theorem tally_at {n : Nat} {bs : List Int} {k : Nat} (hk : k < n) : (tally n bs)[k]? = some ((bs.count (k : Int) : Nat) : Int) := by simp [tally, hk]
theorem tally_snoc {n : Nat} {bs : List Int} {k : Nat} : (tally n bs).set k (((bs.count (k : Int) : Nat) : Int) + 1) = tally n (bs ++ [(k : Int)]) := by
  apply List.ext_getElem?
  intro i
  rw [List.getElem?_set, tally_length]
  split
  · rename_i he; subst he
    split
    · rename_i h; rw [tally_at h, List.count_append]; simp
    · rename_i h; rw [List.getElem?_eq_none (by rw [tally_length]; omega)]
  · rename_i hne
    by_cases h : i < n
    · rw [tally_at h, tally_at h, List.count_append, List.count_cons, List.count_nil]
      have : ((k : Int) == (i : Int)) = false := by simp; omega
      simp [this]
    · rw [List.getElem?_eq_none (by rw [tally_length]; omega), List.getElem?_eq_none (by rw [tally_length]; omega)]
def wantK (k : Int) : Int := if k = 1 then 1 else 0
def kindAt (nodes : List Node) (i : Nat) : Int := match nodes[i]? with | some x => x.kind | none => 0
def homeAt (nodes : List Node) (bs : List Int) (i : Nat) : Bool := decide (((bs.count (i : Int) : Nat) : Int) = wantK (kindAt nodes i))
def homeB (nodes : List Node) (ins : List Port) : Bool := (List.range nodes.length).all (homeAt nodes (ins.flatMap (·.bits)))
theorem homeB_false {nodes : List Node} {ins : List Port} {i : Nat} (hi : i < nodes.length) (h : homeAt nodes (ins.flatMap (·.bits)) i = false) : homeB nodes ins = false := by
  rw [homeB, List.all_eq_false]; exact ⟨i, by simpa using hi, by rw [h]; decide⟩
theorem homeB_true {nodes : List Node} {ins : List Port} (h : ∀ i, i < nodes.length → homeAt nodes (ins.flatMap (·.bits)) i = true) : homeB nodes ins = true := by
  rw [homeB, List.all_eq_true]; intro i hi; exact h i (by simpa using hi)
theorem flat_take {ins : List Port} {j : Nat} (hj : j < ins.length) : (ins.take (j + 1)).flatMap (·.bits) = (ins.take j).flatMap (·.bits) ++ ins[j].bits := by
  rw [List.take_succ_eq_append_getElem hj, List.flatMap_append]; simp
theorem flat_len {ins : List Port} {j k : Nat} (hj : j < ins.length) : ((ins.take j).flatMap (·.bits) ++ ins[j].bits.take k).length ≤ (ins.flatMap (·.bits)).length := by
  have h : ins.flatMap (·.bits) = (ins.take (j + 1)).flatMap (·.bits) ++ (ins.drop (j + 1)).flatMap (·.bits) := by rw [← List.flatMap_append, List.take_append_drop]
  rw [h, flat_take hj]
  simp only [List.length_append, List.length_take]
  omega

set_option maxHeartbeats 4000000 in
set_option maxRecDepth 100000 in
theorem homeless_net (w : World) (v : Value) (nodes : List Node) (ins outs : List Port) (hN : NetV w v nodes ins outs) (hnl : nodes.length ≤ 1099511627776) (hi : ins.length ≤ 1073741824) (hsum : (ins.flatMap (·.bits)).length ≤ 1099511627776)
    (hin : ∀ q ∈ ins, ∀ b ∈ q.bits, 0 ≤ b ∧ b < nodes.length) :
    Calls Try.prog 54 #[v] w fun e w' => e = .returned (.bool (!homeB nodes ins)) ∧ Below w.heap.size w w' := by
  obtain ⟨An, cn, Ai, ci, Ao, co, rfl, hbox⟩ := hN.box
  let ob := netBox (.slice An nodes.length cn) (.slice Ai ins.length ci) (.slice Ao outs.length co)
  have hmk := make_ints nodes.length hnl
  have hO := made_ints nodes.length hnl (w.alloc ob)
  have hsz : (w.alloc ob).heap.size = w.heap.size + 1 := by simp
  rw [hsz, ← tally_nil] at hO
  have HO := Lib.hid hO
  have HBOX := Lib.hid hbox
  have HSZ := Lib.hid hsz
  have HIN := Lib.hid hin
  have HSUM := Lib.hid hsum
  have hb1 : Below (w.heap.size + 1) (w.alloc ob) ((w.alloc ob).alloc (.cells (madeCells #[.int .i64 0] nodes.length) 3)) := (Below.refl _ _).alloc (by rw [hsz]; exact Nat.le_refl _) _
  have HB1 := Lib.hid hb1
  obtain ⟨z0, z1, -, hrn0, hri0, -, -⟩ := hbox (w.alloc ob) (Below.refl _ _)
  have HRN0 := Lib.hid hrn0
  have HRI0 := Lib.hid hri0
  obtain ⟨z01, z11, -, -⟩ := hbox _ hb1
  clear hO hbox hsz hb1 hN hin hsum hrn0 hri0
  go_enter Try.func54, Try.ntmps54
  go_wp2_with fail
  go_loopw [18] (fun i wr => ∃ j : Nat, j ≤ ins.length ∧ i = .int .i64 j ∧ Hid (Own kInt 3 wr none (w.heap.size + 1) (.slice (some ⟨w.heap.size + 1, 0, none⟩) nodes.length nodes.length) (tally nodes.length ((ins.take j).flatMap (·.bits)))) ∧ Hid (Below (w.heap.size + 1) (w.alloc ob) wr)) (fun i _ => ins.length - (intOf i).toNat)
  case atStart => exact ⟨0, Nat.zero_le _, rfl, HO, HB1⟩
  case round =>
    clear z0 z1 z01 z11
    obtain ⟨j, hj, rfl, HOJ, HB⟩ := hrel
    obtain ⟨z0, z1, -, -, -, -, hbw⟩ := HBOX.out _ HB.out
    have HBA : Hid (Below (w.alloc ob).heap.size (w.alloc ob) wr) := by rw [HSZ.out]; exact HB.out
    by_cases hlt : j < ins.length
    · obtain ⟨b, off, A3, d3, rfl, y0, y1, hbits⟩ := HRI0.out.port_at hlt
      replace y0 := cellBelow HBA.out y0
      replace y1 := cellBelow HBA.out y1
      have HFT := Lib.hid (flat_take hlt)
      have HFL := Lib.hid (fun k => Nat.le_trans (flat_len (k := k) hlt) HSUM.out)
      have hbl : ins[j].bits.length ≤ 1099511627776 := by
        have := HFL.out ins[j].bits.length
        rw [List.take_length, List.length_append] at this
        omega
      have HQ := Lib.hid (HIN.out _ (List.getElem_mem hlt))
      obtain ⟨x, hxx⟩ : ∃ x, ins[j] = x := ⟨_, rfl⟩
      rw [hxx] at y0 y1 hbits HFT HQ hbl
      simp only [hxx] at HFL
      clear hxx
      obtain ⟨s, bits⟩ := x
      dsimp only at y0 y1 hbits HFT HFL HQ hbl
      have hszr : w.heap.size + 1 < wr.heap.size := (HOJ.out.base (g := w.heap.size + 1) rfl).2
      have HO2 := Lib.hid (HOJ.out.alloc (FootIn.none _) (.cells #[.string s, .slice A3 bits.length d3] 53))
      have HB2 := Lib.hid (HB.out.alloc (by omega) (.cells #[.string s, .slice A3 bits.length d3] 53))
      have HBT := Lib.hid hbits
      clear hbits hbw
      go_wp2_with fail
      obtain ⟨wo, hwo⟩ : ∃ wo, wo = wr := ⟨_, rfl⟩
      subst hwo
      go_loopw [25] (fun i wp => ∃ k : Nat, k ≤ bits.length ∧ i = .int .i64 k ∧ Hid (Own kInt 3 wp none (w.heap.size + 1) (.slice (some ⟨w.heap.size + 1, 0, none⟩) nodes.length nodes.length) (tally nodes.length ((ins.take j).flatMap (·.bits) ++ bits.take k))) ∧ Hid (Below (w.heap.size + 1) (w.alloc ob) wp)) (fun i _ => bits.length - (intOf i).toNat)
      case atStart => exact ⟨0, Nat.zero_le _, rfl, by rw [List.take_zero, List.append_nil]; exact HO2, HB2⟩
      case round =>
        clear y0 y1 z0 z1
        obtain ⟨k, hk, rfl, HOK, HBK⟩ := hrel
        by_cases hkt : k < bits.length
        · have HBKA : Hid (Below (w.alloc ob).heap.size (w.alloc ob) wr) := by rw [HSZ.out]; exact HBK.out
          obtain ⟨b2, off2, rfl, x0⟩ := HBT.out.int_at hkt
          replace x0 := cellBelow HBKA.out x0
          have hqb := HQ.out _ (List.getElem_mem hkt)
          have HTK := Lib.hid (List.take_succ_eq_append_getElem hkt)
          have hfl := HFL.out k
          obtain ⟨c, hcc⟩ := Int.eq_ofNat_of_zero_le hqb.1
          rw [hcc] at x0 hqb HTK
          have hcn : c < nodes.length := by omega
          obtain ⟨x1, x2⟩ := HOK.out.cellAt? (tally_at (bs := (ins.take j).flatMap (·.bits) ++ bits.take k) hcn)
          have hct : (((ins.take j).flatMap (·.bits) ++ bits.take k).count (c : Int)) ≤ 1099511627776 := Nat.le_trans List.count_le_length hfl
          have HTS := Lib.hid (tally_snoc (n := nodes.length) (bs := (ins.take j).flatMap (·.bits) ++ bits.take k) (k := c))
          obtain ⟨m, hm⟩ : ∃ m, (((ins.take j).flatMap (·.bits) ++ bits.take k).count (c : Int)) = m := ⟨_, rfl⟩
          rw [hm] at x1 hct HTS
          clear hm hfl hqb hcc
          have hsw : w.heap.size + 1 ≤ wr.heap.size := Nat.le_of_lt (HOK.out.base (g := w.heap.size + 1) rfl).2
          go_wp2_with fail
          refine ⟨⟨k + 1, by omega, by go_num, Lib.hid ?_, Lib.hid (HBK.out.setCell (Nat.le_refl _) _)⟩, ?_⟩
          · have hs := HOK.out.store (FootIn.none _) hsw c ((m : Int) + 1)
            rw [HTK.out, ← List.append_assoc, ← HTS.out]
            exact hs.1
          · simp [intOf]; omega
        · obtain rfl : k = bits.length := by omega
          rw [List.take_length, ← HFT.out] at HOK
          go_wp2
          refine ⟨⟨j + 1, by omega, by go_num, HOK, HBK⟩, ?_⟩
          simp [intOf]; omega
    · obtain rfl : j = ins.length := by omega
      rw [List.take_length] at HOJ
      obtain ⟨bs, hbs⟩ : ∃ bs, ins.flatMap (·.bits) = bs := ⟨_, rfl⟩
      have HHF := Lib.hid (fun i => homeB_false (nodes := nodes) (ins := ins) (i := i))
      have HHT := Lib.hid (homeB_true (nodes := nodes) (ins := ins))
      rw [hbs] at HOJ HHT HSUM
      simp only [hbs] at HHF
      clear hbs
      go_wp2_with fail
      obtain ⟨wo, hwo⟩ : ∃ wo, wo = wr := ⟨_, rfl⟩
      subst hwo
      go_loopw [40] (fun i wp => ∃ k : Nat, k ≤ nodes.length ∧ i = .int .i64 k ∧ Hid (∀ q, q < k → homeAt nodes bs q = true) ∧ Hid (Own kInt 3 wp none (w.heap.size + 1) (.slice (some ⟨w.heap.size + 1, 0, none⟩) nodes.length nodes.length) (tally nodes.length bs)) ∧ Hid (Below (w.heap.size + 1) (w.alloc ob) wp)) (fun i _ => nodes.length - (intOf i).toNat)
      case atStart => exact ⟨0, Nat.zero_le _, rfl, Lib.hid (fun q hq => by omega), HOJ, HB⟩
      case round =>
        clear z0 z1 hbw
        obtain ⟨k, hk, rfl, HH, HOK, HBK⟩ := hrel
        obtain ⟨z0, z1, -, -, -, -, hbw⟩ := HBOX.out _ HBK.out
        by_cases hkt : k < nodes.length
        · have HBKA : Hid (Below (w.alloc ob).heap.size (w.alloc ob) wr) := by rw [HSZ.out]; exact HBK.out
          obtain ⟨b2, off2, rfl, x0, x1, x2, x3⟩ := HRN0.out.node_at hkt
          replace x0 := cellBelow HBKA.out x0
          replace x1 := cellBelow HBKA.out x1
          replace x2 := cellBelow HBKA.out x2
          replace x3 := cellBelow HBKA.out x3
          have hka : kindAt nodes k = nodes[k].kind := by rw [kindAt, List.getElem?_eq_getElem hkt]
          obtain ⟨x, hxx⟩ : ∃ x, nodes[k] = x := ⟨_, rfl⟩
          rw [hxx] at x0 x1 x2 x3 hka
          clear hxx
          obtain ⟨xk, xa, xb, xc⟩ := x
          dsimp only at x0 x1 x2 x3 hka
          have hsw : w.heap.size + 1 < wr.heap.size := (HOK.out.base (g := w.heap.size + 1) rfl).2
          have HO2 := Lib.hid (HOK.out.alloc (FootIn.none _) (.cells #[.int .i64 xk, .int .i64 xa, .int .i64 xb, .int .i64 xc] 38))
          have HB2 := Lib.hid (HBK.out.alloc (by omega) (.cells #[.int .i64 xk, .int .i64 xa, .int .i64 xb, .int .i64 xc] 38))
          have HB3 := Lib.hid (hbw.alloc (by omega) (.cells #[.int .i64 xk, .int .i64 xa, .int .i64 xb, .int .i64 xc] 38))
          obtain ⟨u1, u2⟩ := HO2.out.cellAt? (tally_at (bs := bs) hkt)
          have hho : homeAt nodes bs k = decide (((bs.count (k : Int) : Nat) : Int) = wantK xk) := by rw [homeAt, hka]
          obtain ⟨m, hm⟩ : ∃ m, bs.count (k : Int) = m := ⟨_, rfl⟩
          rw [hm] at u1 hho
          clear hm hka hbw
          by_cases h1 : xk = 1
          · subst h1
            by_cases hm : m = 1
            · subst hm
              have hgood : homeAt nodes bs k = true := by rw [hho]; rfl
              have HGOOD := Lib.hid hgood
              clear hgood hho
              go_wp2_with fail
              refine ⟨⟨k + 1, by omega, by go_num, Lib.hid (fun q hq => ?_), HO2, HB2⟩, ?_⟩
              · rcases Nat.lt_or_ge q k with h | h
                · exact HH.out q h
                · obtain rfl : q = k := by omega
                  exact HGOOD.out
              · simp [intOf]; omega
            · have hmi : ¬ (m : Int) = 1 := by omega
              have hbad := HHF.out k hkt (by rw [hho, wantK, if_pos rfl, decide_eq_false hmi])
              have HBAD := Lib.hid hbad
              clear hbad hho
              go_wp2_with fail
              go_ret
              exact ⟨by rw [HBAD.out]; rfl, HB3.out⟩
          · have h1' : (xk == 1) = false := by simpa using h1
            by_cases hm : m = 0
            · subst hm
              have hgood : homeAt nodes bs k = true := by rw [hho, wantK, if_neg h1]; rfl
              have HGOOD := Lib.hid hgood
              clear hgood hho
              go_wp2_with fail
              refine ⟨⟨k + 1, by omega, by go_num, Lib.hid (fun q hq => ?_), HO2, HB2⟩, ?_⟩
              · rcases Nat.lt_or_ge q k with h | h
                · exact HH.out q h
                · obtain rfl : q = k := by omega
                  exact HGOOD.out
              · simp [intOf]; omega
            · have hmi : ¬ (m : Int) = 0 := by omega
              have hbad := HHF.out k hkt (by rw [hho, wantK, if_neg h1, decide_eq_false hmi])
              have HBAD := Lib.hid hbad
              clear hbad hho
              go_wp2_with fail
              go_ret
              exact ⟨by rw [HBAD.out]; rfl, HB3.out⟩
        · obtain rfl : k = nodes.length := by omega
          have hr := HHT.out HH.out
          have HR := Lib.hid hr
          have HB3 := Lib.hid hbw
          clear hr hbw
          go_wp2
          go_ret
          exact ⟨by rw [HR.out]; rfl, HB3.out⟩

end Go.Proofs.Ytbfjacgfifecpaa
