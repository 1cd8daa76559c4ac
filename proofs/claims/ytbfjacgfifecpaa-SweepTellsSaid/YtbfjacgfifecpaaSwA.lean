/- sweep.reached: the closure that lays places. -/
import Derived.Test.YtbfjacgfifecpaaKeep
import Derived.Test.YtbfjacgfifecpaaReach
import Derived.Test.YtbfjacgfifecpaaNl
namespace Go.Proofs.Ytbfjacgfifecpaa
open Go.RowKit

/-- the state of sweep.reached: what was seen, its box, what is to do, its box -/
abbrev SwT (B n : Nat) (seen : List Bool) (tv : Value) (todo : List Nat) : List Rw :=
  [rwBools 4 (.slice (some ⟨B, 0, none⟩) n n) seen, rwBox 61 (B + 1) (.slice (some ⟨B, 0, none⟩) n n), rwInts 3 tv (nats todo), rwBox 28 (B + 1 + 1) tv]
def SwE (w : World) (B n : Nat) (s : List Bool × List Nat) (tv : Value) : Prop := Keep w B (SwT B n s.1 tv s.2)
def swS (B : Nat) (tv : Value) (i : Nat) : Prop := (i = B ∨ i = B + 1 ∨ i = B + 1 + 1) ∨ tv.ownBlock = some i
theorem SwE.lt {w : World} {B n : Nat} {s : List Bool × List Nat} {tv : Value} (h : SwE w B n s tv) : B + 1 + 1 < w.heap.size := (Keep.lt h (i := 3) rfl (b := B + 1 + 1) rfl).2
theorem SwE.there {w : World} {B n : Nat} {s : List Bool × List Nat} {tv : Value} (h : SwE w B n s tv) : There (swS B tv) w := fun i hi => by
  have := h.lt
  rcases hi with (e | e | e) | e
  · omega
  · omega
  · omega
  · exact (Keep.lt h (i := 2) rfl e).2
theorem SwE.below {w w' : World} {B n : Nat} {s : List Bool × List Nat} {tv : Value} (h : SwE w B n s tv) (hb : Below w.heap.size w w') : SwE w' B n s tv := Keep.below h hb
theorem SwE.boxes {w : World} {B n : Nat} {s : List Bool × List Nat} {tv : Value} (h : SwE w B n s tv) : (w.cell? ⟨B + 1, 0, none⟩ = some (.slice (some ⟨B, 0, none⟩) n n) ∧ w.frozen? ⟨B + 1, 0, none⟩ = false) ∧ (w.cell? ⟨B + 1 + 1, 0, none⟩ = some tv ∧ w.frozen? ⟨B + 1 + 1, 0, none⟩ = false) := ⟨Keep.box h (i := 1) rfl, Keep.box h (i := 3) rfl⟩
theorem SwE.len {w : World} {B n : Nat} {s : List Bool × List Nat} {tv : Value} (h : SwE w B n s tv) : s.1.length = n := by
  have := Keep.bools h (i := 0) rfl
  obtain ⟨_, _, he, _⟩ := this.shape
  injection he with _ e _
  exact e.symm
theorem SwE.at {w : World} {B n : Nat} {s : List Bool × List Nat} {tv : Value} (h : SwE w B n s tv) {a : Nat} (ha : a < s.1.length) : w.cell? ⟨B, a, none⟩ = some (.bool (s.1.getD a false)) ∧ w.frozen? ⟨B, a, none⟩ = false :=
  Keep.cell h (i := 0) rfl (c := n) (by show Value.slice _ n n = Value.slice _ s.1.length n; rw [h.len]) (u := .bool (s.1.getD a false)) (by simp [List.getD_eq_getElem?_getD, List.getElem?_eq_getElem ha])
theorem SwE.todo {w : World} {B n : Nat} {s : List Bool × List Nat} {tv : Value} (h : SwE w B n s tv) : Own kInt 3 w none B tv (nats s.2) := Keep.ints h (i := 2) rfl
/-- one place is laid -/
theorem SwE.seeBool {w : World} {B n : Nat} {seen : List Bool} {todo : List Nat} {tv : Value} (h : SwE w B n (seen, todo) tv) (a : Nat) : SwE (w.setCell ⟨B, a, none⟩ (.bool true)) B n (seen.set a true, todo) tv := Keep.setBool h (i := 0) rfl a true
theorem SwE.push {w w' : World} {B n : Nat} {seen : List Bool} {todo : List Nat} {tv tv' : Value} {a : Nat} (h : SwE w B n (seen, todo) tv) (ho : Own kInt 3 w' none B tv' (nats todo ++ [(a : Int)])) (hg : w.grownBy w' tv.ownBlock)
    (hloc : tv'.ownBlock = tv.ownBlock ∨ ∃ b, tv'.ownBlock = some b ∧ w.heap.size ≤ b) :
    (w'.cell? ⟨B + 1 + 1, 0, none⟩ = some tv ∧ w'.frozen? ⟨B + 1 + 1, 0, none⟩ = false) ∧ SwE (w'.setCell ⟨B + 1 + 1, 0, none⟩ tv') B n (seen, todo ++ [a]) tv' := by
  have e : nats (todo ++ [a]) = nats todo ++ [(a : Int)] := by simp
  have h1 : Keep w' B (SwT B n seen tv todo |>.set 2 (rwInts 3 tv' (nats (todo ++ [a])))) := Keep.setRow h (i := 2) rfl (by rw [e]; exact ho) hg hloc
  have hb := Keep.box h1 (i := 3) rfl
  exact ⟨hb, Keep.setBox h1 (i := 3) rfl tv'⟩

theorem enter_lay (args : Array Value) (W : World) : (callFunc 96 args).run Try.prog W = .ok (.enter 96 args) W := by kernel_rfl
set_option maxHeartbeats 2000000 in
theorem lay_net (w : World) (B n : Nat) (s : List Bool × List Nat) (tv v : Value) (l : List Nat) (hK : SwE w B n s tv) (hx : Row kInt w (swS B tv) v (nats l)) (hl : ∀ a ∈ l, a < n) (hll : l.length ≤ 1099511627776) (hsz : s.2.length + unseen s.1 ≤ 1099511627776) :
    Calls Try.prog 96 #[v, .pointer (some ⟨B + 1, 0, none⟩), .pointer (some ⟨B + 1 + 1, 0, none⟩)] w fun e w' => ∃ tv', e = .returned (.tuple #[]) ∧ SwE w' B n (layL l s) tv' ∧ Below B w w' := by
  have hl0 : (nats l).length = l.length := by simp
  obtain ⟨A, c, he, -, -⟩ := hx.shape
  rw [hl0] at he
  subst he
  have HX := Lib.hid hx
  have HL := Lib.hid hl
  have HK := Lib.hid hK
  have HLAID := Lib.hid (fun i => laid s (l.take i) (fun a ha => by rw [hK.len]; exact hl a (List.mem_of_mem_take ha)))
  have HSZ := Lib.hid hsz
  clear hx hl hK hl0 hsz
  go_enter Try.func96, Try.ntmps96
  go_wp2_with fail
  go_loopw [8] (fun iv wr => ∃ i : Nat, iv = .int .i64 i ∧ i ≤ l.length ∧ Hid (∃ tr, SwE wr B n (layL (l.take i) s) tr ∧ (tr.ownBlock = tv.ownBlock ∨ ∃ b, tr.ownBlock = some b ∧ w.heap.size ≤ b)) ∧ Hid (Same (swS B tv) w wr) ∧ Hid (Below B w wr)) (fun iv _ => l.length - (intOf iv).toNat)
  case atStart => exact ⟨0, rfl, Nat.zero_le _, Lib.hid ⟨tv, HK.out, .inl rfl⟩, Lib.hid ⟨Nat.le_refl _, fun _ _ _ => rfl⟩, Lib.hid (Below.refl _ _)⟩
  case round =>
    obtain ⟨i, rfl, hi, HE, HS, HB⟩ := hrel
    obtain ⟨tr, hE, htr⟩ := HE.out
    have HE2 := Lib.hid hE
    have HTR := Lib.hid htr
    clear hE htr HE
    by_cases hlt : i < l.length
    · have hrow := HX.out.keep (S' := fun _ => False) HS.out (fun _ _ h => h.elim)
      obtain ⟨b, off, rfl, x0⟩ := hrow.int_at (by simpa using hlt)
      have hm := HL.out _ (List.getElem_mem hlt)
      have HT := Lib.hid (List.take_succ_eq_append_getElem hlt)
      have x0' : wr.cell? ⟨b, off + i, none⟩ = some (.int .i64 ((l[i] : Nat) : Int)) := by simpa using x0
      obtain ⟨a, ha⟩ : ∃ a, l[i] = a := ⟨_, rfl⟩
      rw [ha] at hm HT x0'
      clear ha x0 hrow
      have HLD := Lib.hid (HLAID.out i)
      obtain ⟨⟨seen, todo⟩, hs⟩ : ∃ q, layL (l.take i) s = q := ⟨_, rfl⟩
      have HT2 := Lib.hid (show layL (l.take (i + 1)) s = lay1 (seen, todo) a by rw [HT.out, layL_snoc, hs])
      rw [hs] at HE2 HLD
      clear hs
      have hal : a < seen.length := by rw [HE2.out.len]; exact hm
      obtain ⟨⟨b0, b1⟩, b2, b3⟩ := HE2.out.boxes
      obtain ⟨c0, c1⟩ := HE2.out.at hal
      have hBl := HE2.out.lt
      dsimp only at c0
      cases hsa : seen.getD a false with
      | true =>
        rw [hsa] at c0
        have HN : Hid (layL (l.take (i + 1)) s = (seen, todo)) := by
          have h := HT2.out
          rw [lay1, if_pos hsa] at h
          exact Lib.hid h
        clear hsa
        go_wp2_with fail
        refine ⟨⟨i + 1, by go_num, by omega, Lib.hid ⟨tr, by rw [HN.out]; exact HE2.out, HTR.out⟩, HS, HB⟩, ?_⟩
        simp [intOf]; omega
      | false =>
        rw [hsa] at c0
        have HN : Hid (layL (l.take (i + 1)) s = (seen.set a true, todo ++ [a])) := by
          have h := HT2.out
          rw [lay1, if_neg (by rw [hsa]; simp)] at h
          exact Lib.hid h
        have HE3 := Lib.hid (HE2.out.seeBool a)
        have HO3 : Hid (Own kInt 3 (wr.setCell ⟨B, a, none⟩ (.bool true)) none B tr (nats todo)) := Lib.hid HE3.out.todo
        have HL6L := Lib.hid (show (nats todo ++ [(a : Int)]).length = todo.length + 1 by simp)
        have hlen : ((nats todo).length + 1) * 8 ≤ 140737488355328 := by
          have h1 := HLD.out.cnt
          have h2 := HSZ.out
          dsimp only at h1
          rw [List.length_map]
          omega
        have hb1 : B ≤ (wr.setCell ⟨B, a, none⟩ (.bool true)).heap.size := by simp; omega
        have hsx : (wr.setCell ⟨B, a, none⟩ (.bool true)).heap.size = wr.heap.size := by simp
        have HSX := Lib.hid hsx
        clear hsa hsx
        go_wp2_with (at_builtin; go_loud (refine appI rfl (.tmp 20) (.tmp 22) rfl HO3.out hb1 rfl (a : Int) _ HSX.out rfl hlen ?_; intro v' w5 q1 q5 q6; obtain ⟨⟨t0, t1⟩, h6⟩ := HE3.out.push q1 q5 q6; have HE6 := Lib.hid h6; obtain ⟨A6, c6, he6, -, -⟩ := q1.shape; rw [HL6L.out] at he6; have HQ5 := Lib.hid q5; have HQ6 := Lib.hid q6; subst he6; clear q1 q5 q6 h6))
        refine ⟨⟨i + 1, by go_num, by omega, Lib.hid ⟨_, by rw [HN.out]; exact HE6.out, ?_⟩, Lib.hid ?_, Lib.hid ?_⟩, ?_⟩
        · rcases HQ6.out with e | ⟨b, e, hb⟩
          · rw [e]; exact HTR.out
          · exact .inr ⟨b, e, by have := HSX.out; have := HS.out.1; omega⟩
        · have h1 := HS.out
          have h2 := HTR.out
          refine ⟨?_, fun j hj hn => ?_⟩
          · have := HQ5.out.size; have := h1.1; have := HSX.out; simp only [World.size_setCell]; omega
          · have e0 : j ≠ B := fun e => hn (.inl (.inl e))
            have e2 : j ≠ B + 1 + 1 := fun e => hn (.inl (.inr (.inr e)))
            rw [heap_setCell_other _ ⟨B + 1 + 1, 0, none⟩ j _ e2, HQ5.out.block j (by have := h1.1; have := HSX.out; omega) (fun e => ?_), heap_setCell_other _ ⟨B, a, none⟩ j _ e0, h1.2 j hj hn]
            rcases h2 with q | ⟨b, q, hb⟩
            · exact hn (.inr (by rw [← q]; exact e.symm))
            · rw [q] at e; injection e with e; omega
        · exact ((HB.out.setCell (p := ⟨B, a, none⟩) (Nat.le_refl _) _).grown HQ5.out hb1 (fun g hg => (HO3.out.base hg).1)).setCell (p := ⟨B + 1 + 1, 0, none⟩) (by simp; omega) _
        · simp [intOf]; omega
    · obtain rfl : i = l.length := by omega
      have HE3 := HE2
      rw [List.take_length] at HE3
      clear HE2
      go_wp2
      go_end0
      exact ⟨tr, rfl, HE3.out, HB.out⟩
end Go.Proofs.Ytbfjacgfifecpaa
