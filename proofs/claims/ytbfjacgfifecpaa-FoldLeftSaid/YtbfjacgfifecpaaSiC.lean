/- What comes in, of any net: slipstickref07.Inputs, and does it fit? -/
import Derived.Test.YtbfjacgfifecpaaSiB
namespace Go.Proofs.Ytbfjacgfifecpaa
open Go.RowKit

def fitAt (ins : List Port) (ms : List Nat) (i : Nat) : Bool := match ins[i]?, ms[i]? with | some p, some m => decide (nbits m ≤ p.bits.length) | _, _ => true
def fitsB (ins : List Port) (ms : List Nat) : Bool := decide (ms.length = ins.length) && (List.range ins.length).all (fitAt ins ms)

set_option maxHeartbeats 4000000 in
set_option maxRecDepth 100000 in
theorem inputs_any (w : World) (S S1 : Nat → Prop) (hS : There S w) (v u : Value) (nodes : List Node) (ins outs : List Port) (nums : List (List Int)) (hN : NetV w v nodes ins outs) (hx : Row (kRow (kNum .u32)) w S1 u nums) (hnl : nodes.length ≤ 1099511627776)
    (hil2 : ins.length ≤ 1073741824) (hnn : nums.length ≤ 1099511627776)
    (hkn : ∀ xs ∈ nums, okParts xs ∧ xs.length ≤ 4294967296) (hkp : ∀ q ∈ ins, q.bits.length ≤ 549755813888 ∧ ∀ b ∈ q.bits, 0 ≤ b ∧ b < nodes.length) :
    Calls Try.prog 91 #[v, u] w fun e w' => ∃ v' l, e = .returned (.tuple #[v', .bool (fitsB ins (nums.map partsVal))]) ∧ Row kInt w' S v' l ∧ (fitsB ins (nums.map partsVal) = true → l = (inputsR nodes.length ins (nums.map partsVal)).map b2i) ∧ Below w.heap.size w w' := by
  have hk : ∀ i (h : i < ins.length) (h' : i < nums.length), okParts nums[i] ∧ nums[i].length ≤ 4294967296 ∧ ins[i].bits.length ≤ 549755813888 ∧ ∀ b ∈ ins[i].bits, 0 ≤ b ∧ b < nodes.length := fun i h h' => ⟨(hkn _ (List.getElem_mem h')).1, (hkn _ (List.getElem_mem h')).2, (hkp _ (List.getElem_mem h)).1, (hkp _ (List.getElem_mem h)).2⟩
  clear hkn hkp
  obtain ⟨An, cn, Ai, ci, Ao, co, rfl, hbox⟩ := hN.box
  let ob := netBox (.slice An nodes.length cn) (.slice Ai ins.length ci) (.slice Ao outs.length co)
  have hmk := make_ints nodes.length hnl
  have hO := made_ints nodes.length hnl (w.alloc ob)
  have hsz : (w.alloc ob).heap.size = w.heap.size + 1 := by simp
  rw [hsz] at hO
  have hb1 : Below (w.heap.size + 1) (w.alloc ob) ((w.alloc ob).alloc (.cells (madeCells #[.int .i64 0] nodes.length) 3)) := (Below.refl _ _).alloc (by rw [hsz]; exact Nat.le_refl _) _
  obtain ⟨z0, -, -, -⟩ := hbox (w.alloc ob) (Below.refl _ _)
  obtain ⟨-, z1, -, -⟩ := hbox _ hb1
  obtain ⟨Ax, cx, rfl, -, -⟩ := hx.shape
  have hx := hx.mono (S' := fun i => i = w.heap.size + 1) (fun i hi h => by omega)
  have HO := Lib.hid hO
  have HBOX := Lib.hid hbox
  have HK := Lib.hid hk
  have HX := Lib.hid hx
  have HB1 := Lib.hid hb1
  have HRL : ∀ i, Hid ((setPorts ins (nums.map partsVal) i (List.replicate nodes.length false)).length = nodes.length) := fun i => Lib.hid (by rw [setPorts_length]; simp)
  clear hO hbox hk hsz hb1 hN hx
  by_cases hil : nums.length = ins.length
  case neg =>
    have hne : ((nums.length : Int) != (ins.length : Int)) = true := by simp; omega
    have HNF := Lib.hid (show fitsB ins (nums.map partsVal) = false by unfold fitsB; rw [List.length_map, decide_eq_false hil, Bool.false_and])
    have HBW := Lib.hid (HBOX.out _ HB1.out).2.2.2.2.2.2
    clear HRL hil
    go_enter Try.func91, Try.ntmps91
    go_wp2_with fail
    go_ret2
    rw [HNF.out]
    exact ⟨_, rfl, _, HO.out.rowS S (fun g hg hs => by have h1 := (HO.out.base hg).1; have := hS g hs; omega), fun h => absurd h (by simp), HBW.out⟩
  have HIL := Lib.hid hil
  rw [hil] at HX hnn ⊢
  clear hil
  go_enter Try.func91, Try.ntmps91
  go_wp2_with fail
  go_loopw [7] (fun i wr => ∃ j : Nat, j ≤ ins.length ∧ i = .int .i64 j ∧ Hid (∀ i, i < j → fitAt ins (nums.map partsVal) i = true) ∧ Own kInt 3 wr none (w.heap.size + 1) (.slice (some ⟨w.heap.size + 1, 0, none⟩) nodes.length nodes.length) ((setPorts ins (nums.map partsVal) j (List.replicate nodes.length false)).map b2i) ∧ Below (w.heap.size + 1) (w.alloc ob) wr) (fun i _ => ins.length - (intOf i).toNat)
  case atStart => exact ⟨0, Nat.zero_le _, rfl, Lib.hid (fun i h => absurd h (Nat.not_lt_zero _)), by rw [setPorts]; simp only [List.map_replicate]; exact HO.out, HB1.out⟩
  case round =>
    obtain ⟨wo, rfl⟩ : ∃ wo : World, wo = wr := ⟨_, rfl⟩
    obtain ⟨j, hj, rfl, HFT, ho, hb⟩ := hrel
    clear z0 z1
    obtain ⟨-, z1, -, -, hri, -, hbw⟩ := HBOX.out _ hb
    have HBW := Lib.hid hbw
    have HB := Lib.hid hb
    have HOW := Lib.hid ho
    have hszr : w.heap.size + 1 ≤ wo.heap.size := by have := hb.size; simp at this; omega
    by_cases hlt : j < ins.length
    · have hltn : j < nums.length := by have := HIL.out; omega
      have hW0 : (w.alloc ob).heap.size = w.heap.size + 1 := by simp
      obtain ⟨b, off, A2, c2, he0, -, y0, hbits0⟩ := (HBOX.out _ (Below.refl _ _)).2.2.2.2.1.port_at hlt
      subst he0
      have HALL := Lib.hid (fun (W : World) (hW : Below (w.heap.size + 1) (w.alloc ob) W) => And.intro (HBOX.out W hW).2.1 (And.intro ((hW.cell (p := ⟨b, off + j * 2 + 1, none⟩) (by have := World.block_lt_of_cell? _ _ y0; rw [hW0] at this; exact this)).trans y0) (hbits0.later (by rw [hW0]; exact hW))))
      clear hri y0 hbits0 hW0
      obtain ⟨-, y1, -⟩ := HALL.out _ hb
      obtain ⟨b1, o1, A3, c3, rfl, x1, hnum⟩ := (HX.out.later hbw).row_at hltn
      obtain ⟨k1, k2, k4, k5⟩ := HK.out j hlt hltn
      have HFA := Lib.hid (show fitAt ins (nums.map partsVal) j = decide (nbits (partsVal nums[j]) ≤ ins[j].bits.length) by rw [fitAt, List.getElem?_eq_getElem hlt, List.getElem?_map, List.getElem?_eq_getElem hltn]; rfl)
      have hsp : setPorts ins (nums.map partsVal) (j + 1) (List.replicate nodes.length false) = setPort ins[j].bits (partsVal nums[j]) (nbits (partsVal nums[j])) (setPorts ins (nums.map partsVal) j (List.replicate nodes.length false)) := by
        rw [setPorts]
        simp [List.getD_eq_getElem?_getD, hlt, hltn]
      have HSP := Lib.hid hsp
      have hrl := (HRL j).out
      have HNUM := Lib.hid hnum
      have HK1 := Lib.hid k1
      have HK5 := Lib.hid k5
      clear hnum k1 k5 hb hbw hsp ho
      generalize setPorts ins (nums.map partsVal) j (List.replicate nodes.length false) = vs at *
      generalize ins[j] = q at *
      generalize nums[j] = xs at *
      obtain ⟨name, bits⟩ := q
      dsimp only at *
      have HRL2 := Lib.hid hrl
      clear hrl
      go_wp2_with fail
      refine (of_ref _ (fun i => i = w.heap.size + 1) (fun i hi => by rw [hi]; exact (HOW.out.base (g := w.heap.size + 1) rfl).2) _ xs HNUM.out HK1.out k2).mono ?_
      rintro e w1 ⟨v1, rfl, hrb, hb1⟩
      obtain ⟨A4, c4, rfl, -, -⟩ := hrb.shape
      have hnl4 := natBits_length (partsVal xs)
      rw [hnl4] at hrb ⊢
      have HRB := Lib.hid hrb
      have HB2 := Lib.hid (HB.out.trans (hb1.mono hszr))
      have HO2 := Lib.hid (HOW.out.kept (Kept.of_below_all hb1 (FootIn.none _) (Nat.le_refl _)))
      have z1a := (hb1.cell (p := ⟨w.heap.size, 1, none⟩) (World.block_lt_of_cell? _ _ z1)).trans z1
      have y1a := (hb1.cell (p := ⟨b, off + j * 2 + 1, none⟩) (World.block_lt_of_cell? _ _ y1)).trans y1
      have hsz1 := hb1.size
      have HNL4 := Lib.hid hnl4
      clear hrb hb1 z1 y1 hnl4
      generalize hm : partsVal xs = m at *
      clear hm
      by_cases k3 : nbits m ≤ bits.length
      case neg =>
        have HNF := Lib.hid (show fitsB ins (nums.map partsVal) = false by
          unfold fitsB
          rw [Bool.and_eq_false_iff, List.all_eq_false]
          exact .inr ⟨j, List.mem_range.2 hlt, by rw [HFA.out, decide_eq_false k3]; simp⟩)
        have hgt : decide ((bits.length : Int) < (nbits m : Int)) = true := decide_eq_true (by omega)
        have HBW2 := Lib.hid (HBOX.out _ HB2.out).2.2.2.2.2.2
        have HRL3 := Lib.hid (show (vs.map b2i).length = nodes.length by rw [List.length_map]; exact HRL2.out)
        have k3' : bits.length < nbits m := by omega
        go_wp2
        go_ret2
        rw [HNF.out]
        exact ⟨_, _, rfl, HO2.out.rowS S (fun g hg hs => by have h1 := (HO2.out.base hg).1; have := hS g hs; omega), fun h => absurd h (by simp), HBW2.out⟩
      have HFO := Lib.hid (show fitAt ins (nums.map partsVal) j = true by rw [HFA.out]; exact decide_eq_true k3)
      have hle : decide ((bits.length : Int) < (nbits m : Int)) = false := decide_eq_false (by omega)
      go_wp2_with fail
      go_loopw [9] (fun i wr => ∃ k : Nat, k ≤ nbits m ∧ i = .int .i64 k ∧ Own kInt 3 wr none (w.heap.size + 1) (.slice (some ⟨w.heap.size + 1, 0, none⟩) nodes.length nodes.length) ((setPort bits m k vs).map b2i) ∧ Below (w.heap.size + 1) (w.alloc ob) wr ∧ Row kBool wr (fun i => i = w.heap.size + 1) (.slice A4 (nbits m) c4) (natBits m)) (fun i _ => nbits m - (intOf i).toNat)
      case atStart => exact ⟨0, Nat.zero_le _, rfl, HO2.out, HB2.out, HRB.out⟩
      case round =>
        obtain ⟨k, hk, rfl, hok, hbk, hrk⟩ := hrel
        clear z1a y1a
        obtain ⟨z1, y1, hbits⟩ := HALL.out _ hbk
        have HOK := Lib.hid hok
        have HBK := Lib.hid hbk
        have HRK := Lib.hid hrk
        by_cases hkl : k < nbits m
        · obtain ⟨b5, o5, rfl, x5⟩ := hrk.bool_at (i := k) (by rw [natBits_length]; exact hkl)
          have hbt : (natBits m)[k]'(by rw [natBits_length]; exact hkl) = m.testBit k := by simp [natBits, lowBits]
          rw [hbt] at x5
          clear hbt hrk
          have HSS := Lib.hid (show setPort bits m (k + 1) vs = if m.testBit k then (setPort bits m k vs).set (bits.getD k 0).toNat true else setPort bits m k vs from rfl)
          have hkb : k < bits.length := by omega
          cases hbit : m.testBit k with
          | false =>
            rw [hbit] at x5 HSS
            simp only [Bool.false_eq_true, if_false] at HSS
            clear hbit hbits hok hbk
            go_wp2
            go_roundw
            case rel => exact ⟨k + 1, by omega, by go_num, by rw [HSS.out]; exact HOK.out, HBK.out, HRK.out⟩
            case measure => simp [intOf]; omega
          | true =>
            rw [hbit] at x5 HSS
            simp only [if_true] at HSS
            obtain ⟨b6, o6, rfl, x6⟩ := hbits.int_at hkb
            have hbb := HK5.out _ (List.getElem_mem hkb)
            rw [List.getD_eq_getElem?_getD, List.getElem?_eq_getElem hkb, Option.getD_some] at HSS
            generalize bits[k] = z at *
            obtain ⟨zz, rfl⟩ := Int.eq_ofNat_of_zero_le hbb.1
            rw [Int.toNat_natCast] at HSS
            have hzl : zz < nodes.length := by omega
            have hl2 : ((setPort bits m k vs).map b2i).length = nodes.length := by rw [List.length_map, setPort_length]; exact HRL2.out
            obtain ⟨y, hy⟩ : ∃ y, ((setPort bits m k vs).map b2i)[zz]? = some y := ⟨_, List.getElem?_eq_getElem (by omega)⟩
            obtain ⟨u0, u1⟩ := hok.cellAt? hy
            have hst := (HOK.out.store (FootIn.none _) (by have := (HOK.out.base (g := w.heap.size + 1) rfl).2; omega) zz 1)
            rw [map_set_b2i, ← HSS.out] at hst
            have HST := Lib.hid hst.1
            have HRK2 := Lib.hid (HRK.out.keep (S' := fun i => i = w.heap.size + 1) ⟨hst.2.1.size, fun i _ hn => hst.2.1.block i (by omega) fun he => hn (by injection he)⟩ fun _ _ h => h)
            clear hbit hbits hok hbk hbb hl2 hst hy
            go_wp2
            go_roundw
            case rel => exact ⟨k + 1, by omega, by go_num, HST.out, HBK.out.setCell (Nat.le_refl _) _, HRK2.out⟩
            case measure => simp [intOf]; omega
        · obtain rfl : k = nbits m := by omega
          clear hbits hok hbk hrk
          go_wp2
          go_roundw
          case rel => exact ⟨j + 1, by omega, by go_num, Lib.hid (fun i h => by
            rcases Nat.lt_or_ge i j with h' | h'
            · exact HFT.out i h'
            · obtain rfl : i = j := by omega
              exact HFO.out), by rw [HSP.out]; exact HOK.out, HBK.out⟩
          case measure => simp [intOf]; omega
    · obtain rfl : j = ins.length := by omega
      clear hri hb hbw
      go_wp2
      go_ret2
      have hft : fitsB ins (nums.map partsVal) = true := by
        unfold fitsB
        rw [Bool.and_eq_true, List.all_eq_true]
        exact ⟨decide_eq_true (by rw [List.length_map]; exact HIL.out), fun i hi => HFT.out i (List.mem_range.1 hi)⟩
      rw [hft]
      exact ⟨_, _, rfl, HOW.out.rowS S (fun g hg hs => by have h1 := (HOW.out.base hg).1; have := hS g hs; omega), fun _ => rfl, HBW.out⟩
end Go.Proofs.Ytbfjacgfifecpaa
