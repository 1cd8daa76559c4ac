/- The reference's Large. -/
import Derived.Test.YtbfjacgfifecpaaNh
import Derived.Laws.EntriesVeiled
namespace Go.Proofs.Ytbfjacgfifecpaa
open Go.RowKit

def wtP (p : Port) : Nat := p.bits.length + p.name.size
def wt (ps : List Port) : Nat := (ps.map wtP).sum
theorem wt_snoc (ps : List Port) (p : Port) : wt (ps ++ [p]) = wt ps + wtP p := by simp [wt]
theorem wt_le {M : Nat} : ∀ {ps : List Port}, (∀ p ∈ ps, wtP p ≤ M) → wt ps ≤ ps.length * M := by
  intro ps
  induction ps with
  | nil => intro _; simp [wt]
  | cons p ps ih =>
    intro h
    have h1 := h p List.mem_cons_self
    have h2 := ih fun q hq => h q (List.mem_cons_of_mem _ hq)
    have h3 : wt (p :: ps) = wtP p + wt ps := rfl
    rw [h3, List.length_cons, Nat.add_mul]
    omega
def largeB (nodes : List Node) (ins outs : List Port) (n : Nat) : Bool := ((decide (n < nodes.length) || decide (66 < ins.length)) || decide (66 < outs.length)) || decide (4000 < wt (ins.take 70) + wt (outs.take 70))

theorem take_all {ps : List Port} {i : Nat} (hi : i ≤ ps.length) (h70 : i ≤ 70) (h : ps.length ≤ i ∨ 70 ≤ i) : ps.take i = ps.take 70 := by
  rcases h with h | h
  · rw [List.take_of_length_le h, List.take_of_length_le (by omega)]
  · rw [show i = 70 by omega]




set_option maxHeartbeats 2000000 in
set_option maxRecDepth 4096 in
theorem large_ref (w : World) (v : Value) (nodes : List Node) (ins outs : List Port) (n : Nat) (hN : NetV w v nodes ins outs) (hw : ∀ q ∈ ins ++ outs, wtP q ≤ 281474976710656) :
    Calls Try.prog 15 #[v, .int .i64 n] w fun e w' => e = .returned (.bool (largeB nodes ins outs n)) ∧ Below w.heap.size w w' := by
  obtain ⟨An, cn, Ai, ci, Ao, co, rfl, hbox⟩ := hN.box
  let ob := netBox (.slice An nodes.length cn) (.slice Ai ins.length ci) (.slice Ao outs.length co)
  have hsz : (w.alloc ob).heap.size = w.heap.size + 1 := by simp
  have HBOX := Lib.hid hbox
  have HSZ := Lib.hid hsz
  have HLI := Lib.hid (fun (l : List Port) (hl : ∀ q ∈ l, q ∈ ins) => wt_le (ps := l) (M := 281474976710656) fun q hq => hw q (List.mem_append_left _ (hl q hq)))
  have HLO := Lib.hid (fun (l : List Port) (hl : ∀ q ∈ l, q ∈ outs) => wt_le (ps := l) (M := 281474976710656) fun q hq => hw q (List.mem_append_right _ (hl q hq)))
  clear hbox hsz hN hw
  obtain ⟨c0, hc0⟩ : ∃ c0 : Nat, c0 = 0 := ⟨_, rfl⟩
  have HC00 := Lib.hid hc0
  have HC0 : Hid (c0 ≤ 19703248369745920) := Lib.hid (by omega)
  clear hc0
  go_enter Try.func15, Try.ntmps15
  go_wp2_with fail
  go_loopw [5, 6] (fun cv iv wr => ∃ i : Nat, iv = .int .i64 i ∧ i ≤ ins.length ∧ i ≤ 70 ∧ cv = .int .i64 ((c0 : Int) + (wt (ins.take i) : Int)) ∧ Hid (Below (w.heap.size + 1) (w.alloc ob) wr)) (fun cv iv _ => ins.length - (intOf iv).toNat)
  case atStart => exact ⟨0, rfl, Nat.zero_le _, Nat.zero_le _, by rw [HC00.out]; rfl, Lib.hid (Below.refl _ _)⟩
  case round =>
    obtain ⟨i, rfl, hi, hi70, rfl, HB⟩ := hrel
    obtain ⟨z0, z1, z2, hrn, hri, hro, hbw⟩ := HBOX.out _ HB.out
    have hszr : w.heap.size + 1 ≤ wr.heap.size := by have := HB.out.size; have := HSZ.out; omega
    by_cases hlt : i < ins.length
    · by_cases h70 : i < 70
      · clear hbw
        obtain ⟨b, off, A3, d3, rfl, x0, x1, hxb⟩ := hri.port_at hlt
        have hT := show wt (ins.take (i + 1)) = wt (ins.take i) + wtP ins[i] by rw [List.take_succ_eq_append_getElem hlt, wt_snoc]
        have hw1 := HLI.out (ins.take i) (fun q hq => List.mem_of_mem_take hq)
        rw [List.length_take] at hw1
        have hw2 := HLI.out [ins[i]] (fun q hq => by simp at hq; subst hq; exact List.getElem_mem hlt)
        have hw3 : wt [ins[i]] = wtP ins[i] := by simp [wt]
        rw [hw3] at hw2
        obtain ⟨x, hxx⟩ : ∃ x, ins[i] = x := ⟨_, rfl⟩
        rw [hxx] at x0 x1 hxb hT hw2
        clear hxx hxb hrn hri hro hw3
        obtain ⟨s, bs⟩ := x
        dsimp only at x0 x1
        have hwp : wtP ⟨s, bs⟩ = bs.length + s.size := rfl
        obtain ⟨M, hM⟩ : ∃ M, wt (ins.take i) = M := ⟨_, rfl⟩
        rw [hM] at hw1 hT
        rw [hwp] at hT hw2
        have hmin : min i ins.length = i := by omega
        rw [hmin] at hw1
        simp only [List.length_cons, List.length_nil, Nat.zero_add, Nat.one_mul] at hw2
        rw [hM]
        have hMb : M ≤ 19703248369745920 := by omega
        have hC0b := HC0.out
        have w1 : IntKind.i64.wrap ((bs.length : Int) + (s.size : Int)) = (bs.length : Int) + (s.size : Int) := IntWalk.i64_in _ (by omega)
        have w2 : IntKind.i64.wrap ((c0 : Int) + (M : Int) + ((bs.length : Int) + (s.size : Int))) = (c0 : Int) + (M : Int) + ((bs.length : Int) + (s.size : Int)) := IntWalk.i64_in _ (by omega)
        have HT := Lib.hid hT
        clear hT hwp hw1 hmin hM hC0b hMb hw2
        go_wp2
        go_quiet (fail)
        go_wp2
        refine ⟨⟨i + 1, by go_num, by omega, by omega, by rw [HT.out]; go_num, Lib.hid (HB.out.trans ((pw_drewN _ _).mono (by omega)))⟩, ?_⟩
        simp [intOf]; omega
      · skip
        obtain ⟨c1, hc1⟩ : ∃ c1 : Nat, c1 = c0 + wt (ins.take i) := ⟨_, rfl⟩
        have e1 : (c0 : Int) + (wt (ins.take i) : Int) = (c1 : Int) := by omega
        rw [e1]
        have hc2 : c1 = wt (ins.take 70) := by rw [hc1, HC00.out, take_all hi hi70 (by omega), Nat.zero_add]
        have HC1 := Lib.hid hc2
        have HC1b : Hid (c1 ≤ 19703248369745920) := Lib.hid (by
          have h := HLI.out (ins.take 70) (fun q hq => List.mem_of_mem_take hq)
          rw [List.length_take, ← hc2] at h
          omega)
        have HB1 := Lib.hid HB.out
        clear e1 hc1 hc2 hrn hri hro hbw
        go_wp2_with fail
        clear z0 z1 z2 HB hi hi70 hlt
        obtain ⟨wo, hwo⟩ : ∃ wo, wo = wr := ⟨_, rfl⟩
        subst hwo
        go_loopw [5, 7] (fun cv iv wr => ∃ i : Nat, iv = .int .i64 i ∧ i ≤ outs.length ∧ i ≤ 70 ∧ cv = .int .i64 ((c1 : Int) + (wt (outs.take i) : Int)) ∧ Hid (Below (w.heap.size + 1) (w.alloc ob) wr)) (fun cv iv _ => outs.length - (intOf iv).toNat)
        case atStart => exact ⟨0, rfl, Nat.zero_le _, Nat.zero_le _, (congrArg (Value.int .i64) (Int.add_zero _)).symm, HB1⟩
        case round =>
          obtain ⟨i, rfl, hi, hi70, rfl, HB⟩ := hrel
          obtain ⟨z0, z1, z2, hrn, hri, hro, hbw⟩ := HBOX.out _ HB.out
          have hszr : w.heap.size + 1 ≤ wr.heap.size := by have := HB.out.size; have := HSZ.out; omega
          by_cases hlt : i < outs.length
          · by_cases h70 : i < 70
            · clear hbw
              obtain ⟨b, off, A3, d3, rfl, x0, x1, hxb⟩ := hro.port_at hlt
              have hT := show wt (outs.take (i + 1)) = wt (outs.take i) + wtP outs[i] by rw [List.take_succ_eq_append_getElem hlt, wt_snoc]
              have hw1 := HLO.out (outs.take i) (fun q hq => List.mem_of_mem_take hq)
              rw [List.length_take] at hw1
              have hw2 := HLO.out [outs[i]] (fun q hq => by simp at hq; subst hq; exact List.getElem_mem hlt)
              have hw3 : wt [outs[i]] = wtP outs[i] := by simp [wt]
              rw [hw3] at hw2
              obtain ⟨x, hxx⟩ : ∃ x, outs[i] = x := ⟨_, rfl⟩
              rw [hxx] at x0 x1 hxb hT hw2
              clear hxx hxb hrn hri hro hw3
              obtain ⟨s, bs⟩ := x
              dsimp only at x0 x1
              have hwp : wtP ⟨s, bs⟩ = bs.length + s.size := rfl
              obtain ⟨M, hM⟩ : ∃ M, wt (outs.take i) = M := ⟨_, rfl⟩
              rw [hM] at hw1 hT
              rw [hwp] at hT hw2
              have hmin : min i outs.length = i := by omega
              rw [hmin] at hw1
              simp only [List.length_cons, List.length_nil, Nat.zero_add, Nat.one_mul] at hw2
              rw [hM]
              have hMb : M ≤ 19703248369745920 := by omega
              have hC0b := HC1b.out
              have w1 : IntKind.i64.wrap ((bs.length : Int) + (s.size : Int)) = (bs.length : Int) + (s.size : Int) := IntWalk.i64_in _ (by omega)
              have w2 : IntKind.i64.wrap ((c1 : Int) + (M : Int) + ((bs.length : Int) + (s.size : Int))) = (c1 : Int) + (M : Int) + ((bs.length : Int) + (s.size : Int)) := IntWalk.i64_in _ (by omega)
              have HT := Lib.hid hT
              clear hT hwp hw1 hmin hM hC0b hMb hw2
              go_wp2
              go_quiet (fail)
              go_wp2
              refine ⟨⟨i + 1, by go_num, by omega, by omega, by rw [HT.out]; go_num, Lib.hid (HB.out.trans ((pw_drewN _ _).mono (by omega)))⟩, ?_⟩
              simp [intOf]; omega
            · skip
              have hcc : ((c1 : Int) + (wt (outs.take i) : Int)) = (wt (ins.take 70) : Int) + (wt (outs.take 70) : Int) := by rw [HC1.out, take_all hi hi70 (by omega)]
              rw [hcc]
              have HBW := Lib.hid hbw
              clear hrn hri hro hbw hcc
              obtain ⟨K, hK⟩ : ∃ K : Nat, K = wt (ins.take 70) + wt (outs.take 70) := ⟨_, rfl⟩
              have hKi : (wt (ins.take 70) : Int) + (wt (outs.take 70) : Int) = (K : Int) := by omega
              rw [hKi]
              have HK := Lib.hid hK
              clear hK hKi
              by_cases g1 : n < nodes.length
              · have hres : largeB nodes ins outs n = true := by simp [largeB, g1]
                have hd1 : decide ((n : Int) < (nodes.length : Int)) = true := decide_eq_true (by omega)
                have HRES : Hid (largeB nodes ins outs n = true) := Lib.hid hres
                clear hres
                go_wp2
                go_ret
                exact ⟨by rw [HRES.out]; rfl, HBW.out⟩
              have hd1 : decide ((n : Int) < (nodes.length : Int)) = false := decide_eq_false (by omega)
              by_cases g2 : 66 < ins.length
              · have hres : largeB nodes ins outs n = true := by simp [largeB, g2]
                have hd2 : decide (66 < (ins.length : Int)) = true := decide_eq_true (by omega)
                have HRES : Hid (largeB nodes ins outs n = true) := Lib.hid hres
                clear hres
                go_wp2
                go_ret
                exact ⟨by rw [HRES.out]; rfl, HBW.out⟩
              have hd2 : decide (66 < (ins.length : Int)) = false := decide_eq_false (by omega)
              by_cases g3 : 66 < outs.length
              · have hres : largeB nodes ins outs n = true := by simp [largeB, g3]
                have hd3 : decide (66 < (outs.length : Int)) = true := decide_eq_true (by omega)
                have HRES : Hid (largeB nodes ins outs n = true) := Lib.hid hres
                clear hres
                go_wp2
                go_ret
                exact ⟨by rw [HRES.out]; rfl, HBW.out⟩
              have hd3 : decide (66 < (outs.length : Int)) = false := decide_eq_false (by omega)
              exfalso
              omega
          · skip
            have hcc : ((c1 : Int) + (wt (outs.take i) : Int)) = (wt (ins.take 70) : Int) + (wt (outs.take 70) : Int) := by rw [HC1.out, take_all hi hi70 (by omega)]
            rw [hcc]
            have HBW := Lib.hid hbw
            clear hrn hri hro hbw hcc
            obtain ⟨K, hK⟩ : ∃ K : Nat, K = wt (ins.take 70) + wt (outs.take 70) := ⟨_, rfl⟩
            have hKi : (wt (ins.take 70) : Int) + (wt (outs.take 70) : Int) = (K : Int) := by omega
            rw [hKi]
            have HK := Lib.hid hK
            clear hK hKi
            by_cases g1 : n < nodes.length
            · have hres : largeB nodes ins outs n = true := by simp [largeB, g1]
              have hd1 : decide ((n : Int) < (nodes.length : Int)) = true := decide_eq_true (by omega)
              have HRES : Hid (largeB nodes ins outs n = true) := Lib.hid hres
              clear hres
              go_wp2
              go_ret
              exact ⟨by rw [HRES.out]; rfl, HBW.out⟩
            have hd1 : decide ((n : Int) < (nodes.length : Int)) = false := decide_eq_false (by omega)
            by_cases g2 : 66 < ins.length
            · have hres : largeB nodes ins outs n = true := by simp [largeB, g2]
              have hd2 : decide (66 < (ins.length : Int)) = true := decide_eq_true (by omega)
              have HRES : Hid (largeB nodes ins outs n = true) := Lib.hid hres
              clear hres
              go_wp2
              go_ret
              exact ⟨by rw [HRES.out]; rfl, HBW.out⟩
            have hd2 : decide (66 < (ins.length : Int)) = false := decide_eq_false (by omega)
            by_cases g3 : 66 < outs.length
            · have hres : largeB nodes ins outs n = true := by simp [largeB, g3]
              have hd3 : decide (66 < (outs.length : Int)) = true := decide_eq_true (by omega)
              have HRES : Hid (largeB nodes ins outs n = true) := Lib.hid hres
              clear hres
              go_wp2
              go_ret
              exact ⟨by rw [HRES.out]; rfl, HBW.out⟩
            have hd3 : decide (66 < (outs.length : Int)) = false := decide_eq_false (by omega)
            have hres : largeB nodes ins outs n = decide ((4000 : Int) < (K : Int)) := by
              have e1 : decide (n < nodes.length) = false := decide_eq_false g1
              have e2 : decide (66 < ins.length) = false := decide_eq_false g2
              have e3 : decide (66 < outs.length) = false := decide_eq_false g3
              rw [largeB, e1, e2, e3, HK.out, Bool.false_or, Bool.false_or, Bool.false_or, decide_eq_decide]
              omega
            have HRES : Hid (largeB nodes ins outs n = decide ((4000 : Int) < (K : Int))) := Lib.hid hres
            clear hres
            go_wp2
            go_ret
            exact ⟨by rw [HRES.out]; rfl, HBW.out⟩
    · skip
      obtain ⟨c1, hc1⟩ : ∃ c1 : Nat, c1 = c0 + wt (ins.take i) := ⟨_, rfl⟩
      have e1 : (c0 : Int) + (wt (ins.take i) : Int) = (c1 : Int) := by omega
      rw [e1]
      have hc2 : c1 = wt (ins.take 70) := by rw [hc1, HC00.out, take_all hi hi70 (by omega), Nat.zero_add]
      have HC1 := Lib.hid hc2
      have HC1b : Hid (c1 ≤ 19703248369745920) := Lib.hid (by
        have h := HLI.out (ins.take 70) (fun q hq => List.mem_of_mem_take hq)
        rw [List.length_take, ← hc2] at h
        omega)
      have HB1 := Lib.hid HB.out
      clear e1 hc1 hc2 hrn hri hro hbw
      go_wp2_with fail
      clear z0 z1 z2 HB hi hi70 hlt
      obtain ⟨wo, hwo⟩ : ∃ wo, wo = wr := ⟨_, rfl⟩
      subst hwo
      go_loopw [5, 7] (fun cv iv wr => ∃ i : Nat, iv = .int .i64 i ∧ i ≤ outs.length ∧ i ≤ 70 ∧ cv = .int .i64 ((c1 : Int) + (wt (outs.take i) : Int)) ∧ Hid (Below (w.heap.size + 1) (w.alloc ob) wr)) (fun cv iv _ => outs.length - (intOf iv).toNat)
      case atStart => exact ⟨0, rfl, Nat.zero_le _, Nat.zero_le _, (congrArg (Value.int .i64) (Int.add_zero _)).symm, HB1⟩
      case round =>
        obtain ⟨i, rfl, hi, hi70, rfl, HB⟩ := hrel
        obtain ⟨z0, z1, z2, hrn, hri, hro, hbw⟩ := HBOX.out _ HB.out
        have hszr : w.heap.size + 1 ≤ wr.heap.size := by have := HB.out.size; have := HSZ.out; omega
        by_cases hlt : i < outs.length
        · by_cases h70 : i < 70
          · clear hbw
            obtain ⟨b, off, A3, d3, rfl, x0, x1, hxb⟩ := hro.port_at hlt
            have hT := show wt (outs.take (i + 1)) = wt (outs.take i) + wtP outs[i] by rw [List.take_succ_eq_append_getElem hlt, wt_snoc]
            have hw1 := HLO.out (outs.take i) (fun q hq => List.mem_of_mem_take hq)
            rw [List.length_take] at hw1
            have hw2 := HLO.out [outs[i]] (fun q hq => by simp at hq; subst hq; exact List.getElem_mem hlt)
            have hw3 : wt [outs[i]] = wtP outs[i] := by simp [wt]
            rw [hw3] at hw2
            obtain ⟨x, hxx⟩ : ∃ x, outs[i] = x := ⟨_, rfl⟩
            rw [hxx] at x0 x1 hxb hT hw2
            clear hxx hxb hrn hri hro hw3
            obtain ⟨s, bs⟩ := x
            dsimp only at x0 x1
            have hwp : wtP ⟨s, bs⟩ = bs.length + s.size := rfl
            obtain ⟨M, hM⟩ : ∃ M, wt (outs.take i) = M := ⟨_, rfl⟩
            rw [hM] at hw1 hT
            rw [hwp] at hT hw2
            have hmin : min i outs.length = i := by omega
            rw [hmin] at hw1
            simp only [List.length_cons, List.length_nil, Nat.zero_add, Nat.one_mul] at hw2
            rw [hM]
            have hMb : M ≤ 19703248369745920 := by omega
            have hC0b := HC1b.out
            have w1 : IntKind.i64.wrap ((bs.length : Int) + (s.size : Int)) = (bs.length : Int) + (s.size : Int) := IntWalk.i64_in _ (by omega)
            have w2 : IntKind.i64.wrap ((c1 : Int) + (M : Int) + ((bs.length : Int) + (s.size : Int))) = (c1 : Int) + (M : Int) + ((bs.length : Int) + (s.size : Int)) := IntWalk.i64_in _ (by omega)
            have HT := Lib.hid hT
            clear hT hwp hw1 hmin hM hC0b hMb hw2
            go_wp2
            go_quiet (fail)
            go_wp2
            refine ⟨⟨i + 1, by go_num, by omega, by omega, by rw [HT.out]; go_num, Lib.hid (HB.out.trans ((pw_drewN _ _).mono (by omega)))⟩, ?_⟩
            simp [intOf]; omega
          · skip
            have hcc : ((c1 : Int) + (wt (outs.take i) : Int)) = (wt (ins.take 70) : Int) + (wt (outs.take 70) : Int) := by rw [HC1.out, take_all hi hi70 (by omega)]
            rw [hcc]
            have HBW := Lib.hid hbw
            clear hrn hri hro hbw hcc
            obtain ⟨K, hK⟩ : ∃ K : Nat, K = wt (ins.take 70) + wt (outs.take 70) := ⟨_, rfl⟩
            have hKi : (wt (ins.take 70) : Int) + (wt (outs.take 70) : Int) = (K : Int) := by omega
            rw [hKi]
            have HK := Lib.hid hK
            clear hK hKi
            by_cases g1 : n < nodes.length
            · have hres : largeB nodes ins outs n = true := by simp [largeB, g1]
              have hd1 : decide ((n : Int) < (nodes.length : Int)) = true := decide_eq_true (by omega)
              have HRES : Hid (largeB nodes ins outs n = true) := Lib.hid hres
              clear hres
              go_wp2
              go_ret
              exact ⟨by rw [HRES.out]; rfl, HBW.out⟩
            have hd1 : decide ((n : Int) < (nodes.length : Int)) = false := decide_eq_false (by omega)
            by_cases g2 : 66 < ins.length
            · have hres : largeB nodes ins outs n = true := by simp [largeB, g2]
              have hd2 : decide (66 < (ins.length : Int)) = true := decide_eq_true (by omega)
              have HRES : Hid (largeB nodes ins outs n = true) := Lib.hid hres
              clear hres
              go_wp2
              go_ret
              exact ⟨by rw [HRES.out]; rfl, HBW.out⟩
            have hd2 : decide (66 < (ins.length : Int)) = false := decide_eq_false (by omega)
            by_cases g3 : 66 < outs.length
            · have hres : largeB nodes ins outs n = true := by simp [largeB, g3]
              have hd3 : decide (66 < (outs.length : Int)) = true := decide_eq_true (by omega)
              have HRES : Hid (largeB nodes ins outs n = true) := Lib.hid hres
              clear hres
              go_wp2
              go_ret
              exact ⟨by rw [HRES.out]; rfl, HBW.out⟩
            have hd3 : decide (66 < (outs.length : Int)) = false := decide_eq_false (by omega)
            exfalso
            omega
        · skip
          have hcc : ((c1 : Int) + (wt (outs.take i) : Int)) = (wt (ins.take 70) : Int) + (wt (outs.take 70) : Int) := by rw [HC1.out, take_all hi hi70 (by omega)]
          rw [hcc]
          have HBW := Lib.hid hbw
          clear hrn hri hro hbw hcc
          obtain ⟨K, hK⟩ : ∃ K : Nat, K = wt (ins.take 70) + wt (outs.take 70) := ⟨_, rfl⟩
          have hKi : (wt (ins.take 70) : Int) + (wt (outs.take 70) : Int) = (K : Int) := by omega
          rw [hKi]
          have HK := Lib.hid hK
          clear hK hKi
          by_cases g1 : n < nodes.length
          · have hres : largeB nodes ins outs n = true := by simp [largeB, g1]
            have hd1 : decide ((n : Int) < (nodes.length : Int)) = true := decide_eq_true (by omega)
            have HRES : Hid (largeB nodes ins outs n = true) := Lib.hid hres
            clear hres
            go_wp2
            go_ret
            exact ⟨by rw [HRES.out]; rfl, HBW.out⟩
          have hd1 : decide ((n : Int) < (nodes.length : Int)) = false := decide_eq_false (by omega)
          by_cases g2 : 66 < ins.length
          · have hres : largeB nodes ins outs n = true := by simp [largeB, g2]
            have hd2 : decide (66 < (ins.length : Int)) = true := decide_eq_true (by omega)
            have HRES : Hid (largeB nodes ins outs n = true) := Lib.hid hres
            clear hres
            go_wp2
            go_ret
            exact ⟨by rw [HRES.out]; rfl, HBW.out⟩
          have hd2 : decide (66 < (ins.length : Int)) = false := decide_eq_false (by omega)
          by_cases g3 : 66 < outs.length
          · have hres : largeB nodes ins outs n = true := by simp [largeB, g3]
            have hd3 : decide (66 < (outs.length : Int)) = true := decide_eq_true (by omega)
            have HRES : Hid (largeB nodes ins outs n = true) := Lib.hid hres
            clear hres
            go_wp2
            go_ret
            exact ⟨by rw [HRES.out]; rfl, HBW.out⟩
          have hd3 : decide (66 < (outs.length : Int)) = false := decide_eq_false (by omega)
          have hres : largeB nodes ins outs n = decide ((4000 : Int) < (K : Int)) := by
            have e1 : decide (n < nodes.length) = false := decide_eq_false g1
            have e2 : decide (66 < ins.length) = false := decide_eq_false g2
            have e3 : decide (66 < outs.length) = false := decide_eq_false g3
            rw [largeB, e1, e2, e3, HK.out, Bool.false_or, Bool.false_or, Bool.false_or, decide_eq_decide]
            omega
          have HRES : Hid (largeB nodes ins outs n = decide ((4000 : Int) < (K : Int))) := Lib.hid hres
          clear hres
          go_wp2
          go_ret
          exact ⟨by rw [HRES.out]; rfl, HBW.out⟩
end Go.Proofs.Ytbfjacgfifecpaa
