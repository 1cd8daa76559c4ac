/- slipsticklaw15: cut. -/
import Derived.Test.YtdljgifoboiaeaaJR07
namespace Go.Proofs.Ytdljgifoboiaeaa
open Go.RowKit

theorem infoBits : (Try.prog.info? 42).map (fun i => (i.zero, i.size, i.bytes)) = some (some (.slice none 0 0), 1, 24) := by kernel_rfl
/-- numbers cut to the widths -/
def cutN (nums : List (List Int)) (i : Nat) (x : Int) : List Bool := natBits (partsVal (nums.getD i []) % 2 ^ ((x % 16).toNat + 1))
def cuts (nums : List (List Int)) (ws : List Int) : List (List Bool) := ws.zipIdx.map fun q => cutN nums q.2 q.1
theorem cuts_length (nums : List (List Int)) (ws : List Int) : (cuts nums ws).length = ws.length := by simp [cuts]
theorem cuts_succ (nums : List (List Int)) (ws : List Int) {j : Nat} (h : j < ws.length) : (cuts nums ws).take (j + 1) = (cuts nums ws).take j ++ [cutN nums j ws[j]] := by
  rw [List.take_succ_eq_append_getElem (by rw [cuts_length]; exact h)]
  congr 2
  simp [cuts]

section
variable {P : Program} {o : Oper} {a : Act} {Q : Exit → Act → World → Prop}
theorem app1g {α : Type} (k : Kd α) (e t : TypeId) (z : Value) (bytes : Nat) {W : World} {ops : Array Oper} {rest : List Oper} (hgd : o.guard = none)
    (s x : Operand) (ho : o.op = .call { callee := .builtin .append, args := #[s, x], argTypes := #[t, t] })
    (ht : P.underlying t = some (.slice e)) (hinfo : (P.info? e).map (fun i => (i.zero, i.size, i.bytes)) = some (some z, k.size, bytes)) (hz : z.cells.size = k.size) (hk0 : 0 < k.size) (hb0 : 0 < bytes)
    (p : Option Nat) (B : Nat) {v : Value} {xs : List α} (hO : Own k e W p B v xs) (hF : FootIn W p) (hB : B ≤ W.heap.size) (hs : a.eval s = v)
    (y : α) (cs : List Value) (g : Nat) (hg : g = W.heap.size) (hx : a.eval x = .slice (some ⟨g, 0, none⟩) 1 1)
    (hP : k.K W (fun i => foot W p i ∨ v.ownBlock = some i) y cs)
    (hl : (xs.length + 1) * bytes ≤ 140737488355328)
    (hK : ∀ v' w', Own k e w' p B v' (xs ++ [y]) → Kept B p W w' → FootIn w' p → (∀ i, foot w' p i ↔ foot W p i) → W.grownBy w' v.ownBlock → (v'.ownBlock = v.ownBlock ∨ ∃ b, v'.ownBlock = some b ∧ W.heap.size < b) → wpList P ops Q rest (a.put o.dst v') w') :
    wpList P ops Q (o :: rest) a (W.alloc (.cells cs.toArray e)) := app1 k e t z bytes hgd s x ho ht hinfo hz hk0 hb0 p B hO hF hB hs y cs (hg ▸ hx) hP hl hK
end
set_option maxHeartbeats 4000000 in
set_option maxRecDepth 100000 in
/-- slipsticklaw15.cut -/
theorem cut15 (w : World) (S S1 : Nat → Prop) (hS : There S w) (v u : Value) (ws : List Int) (nums : List (List Int)) (hx : Row (kNum .u8) w S1 v ws) (hok : ∀ x ∈ ws, 0 ≤ x ∧ x < 256) (hl : ws.length ≤ 24)
    (hy : Row (kRow (kNum .u32)) w S u nums) (hyo : ∀ xs ∈ nums, okParts xs) (hyl : ∀ xs ∈ nums, xs.length ≤ 200) :
    Calls Try.prog 52 #[v, u] w fun e w' => ∃ v', e = .returned v' ∧ Row (kRow kBool) w' S v' (cuts nums ws) ∧ Below w.heap.size w w' := by
  obtain ⟨A, c, rfl, -, -⟩ := hx.shape
  obtain ⟨A', c', rfl, -, -⟩ := hy.shape
  have HX := Lib.hid hx
  have HY := Lib.hid (hy.mono (S' := fun i => w.heap.size ≤ i ∨ S i) fun i hi hm => hm.elim (fun h => by omega) id)
  have HYO := Lib.hid hyo
  have HYL := Lib.hid hyl
  clear hx hy hyo hyl
  go_enter Try.func52, Try.ntmps52
  go_wp2
  go_loopw [5, 11] (fun lv iv wr => ∃ j : Nat, j ≤ ws.length ∧ iv = .int .i64 j ∧ Own (kOff S kBool) 42 wr none w.heap.size lv ((cuts nums ws).take j) ∧ Below w.heap.size w wr) (fun _ iv _ => ws.length - (intOf iv).toNat)
  case atStart => exact ⟨0, Nat.zero_le _, rfl, Own.nil _ _ _ _ _, Below.refl _ _⟩
  case round =>
    obtain ⟨j, hj, rfl, ho, hb⟩ := hrel
    obtain ⟨A9, c9, rfl, -, -⟩ := ho.shape
    by_cases hlt : j < ws.length
    · obtain ⟨b1, o1, rfl, hq⟩ := (HX.out.below hb).num_at hlt
      obtain ⟨x, hxe⟩ : ∃ x, ws[j] = x := ⟨_, rfl⟩
      have hxb := hok _ (List.getElem_mem hlt)
      rw [hxe] at hq hxb
      obtain ⟨n, hn⟩ : ∃ n : Nat, x = n := ⟨x.toNat, by omega⟩
      subst hn
      obtain ⟨m, hm⟩ : ∃ m : Nat, (n : Int) % 16 = m := ⟨n % 16, by omega⟩
      have hm1 : m < 16 := by omega
      obtain ⟨m1, hm2⟩ : ∃ m1 : Nat, (m : Int) + 1 = m1 := ⟨m + 1, by omega⟩
      have hj2 : j < 24 := by omega
      have hsz := hb.size
      have HSU := Lib.hid (cuts_succ nums ws hlt)
      rw [hxe, show cutN nums j (n : Int) = natBits (partsVal (nums.getD j []) % 2 ^ m1) by unfold cutN; rw [hm, show ((m : Int)).toNat + 1 = m1 by omega]] at HSU
      have hcl : ((cuts nums ws).take j).length = j := by rw [List.length_take, cuts_length]; omega
      generalize (cuts nums ws).take j = done at ho HSU hcl
      have hdl : done.length ≤ 24 := by omega
      clear hcl
      clear hxe
      have HO := Lib.hid ho
      have HB := Lib.hid hb
      have hS' : There (fun i => Value.ownBlock (.slice A9 done.length c9) = some i ∨ S i) wr := fun i hi => hi.elim (fun hi => (HO.out.base hi).2) (fun hi => by have := hS i hi; omega)
      clear ho hb
      by_cases hin : j < nums.length
      · have hin' : (j : Int) < (nums.length : Int) := by omega
        obtain ⟨b2, o2, A2, c2, rfl, hq2, hr2⟩ := (HY.out.below HB.out).row_at hin
        have hgd : nums.getD j [] = nums[j] := by rw [List.getD_eq_getElem?_getD, List.getElem?_eq_getElem hin]; rfl
        have hpo := HYO.out _ (List.getElem_mem hin)
        have hpl := HYL.out _ (List.getElem_mem hin)
        rw [hgd] at HSU
        generalize nums[j] = zs at *
        have hal : Below wr.heap.size wr (wr.alloc (.cells #[] 4)) := (Below.refl _ _).alloc (Nat.le_refl _) _
        have hr2' := (hr2.mono (S' := fun i => Value.ownBlock (.slice A9 done.length c9) = some i ∨ S i) fun i hi hm => hm.elim (fun h => .inl (HO.out.base h).1) .inr).below hal
        have hnb : nbits (partsVal zs) ≤ 1099511627776 := Nat.le_trans (nbits_parts hpo) (by omega)
        have hq2' : (wr.alloc (.cells #[] 4)).cell? ⟨b2, o2 + j, none⟩ = _ := (World.cell?_alloc_some _ _ _ (by rw [hq2]; rfl)).trans hq2
        have HR2 := Lib.hid hr2'
        have HAL := Lib.hid hal
        have hS2 : There (fun i => Value.ownBlock (.slice A9 done.length c9) = some i ∨ S i) (wr.alloc (.cells #[] 4)) := hS'.later hal.size
        clear hr2 hr2' hal
        go_wp2_with fail
        refine (of_ref _ _ hS2 _ zs HR2.out hpo (by omega)).mono ?_
        rintro e w3 ⟨v3, rfl, hr3, hb3⟩
        go_wp2_with fail
        refine (low_ref _ _ (hS2.later hb3.size) _ (partsVal zs) m1 hr3 hnb (by omega)).mono ?_
        rintro e w4 ⟨v4, rfl, hr4, hb4⟩
        have hbb : Below wr.heap.size wr w4 := (HAL.out.trans (hb3.mono HAL.out.size)).trans (hb4.mono (Nat.le_trans HAL.out.size hb3.size))
        have hszb := hbb.size
        have HO4 := Lib.hid (HO.out.kept (Kept.of_below_all hbb (FootIn.none _) (Nat.le_refl _)))
        have HB4 := Lib.hid (HB.out.trans (hbb.mono hsz))
        obtain ⟨A4, c4, rfl, -, -⟩ := hr4.shape
        have HR4 := Lib.hid hr4
        generalize natBits (partsVal zs % 2 ^ m1) = pp at *
        clear hr3 hb3 hr4 hb4 hbb
        go_wp2_with (at_builtin; refine app1 (kOff S kBool) 42 85 (.slice none 0 0) 24 rfl (.tmp 31) (.tmp 33) rfl Try.underlying85 infoBits rfl Nat.zero_lt_one (by decide) none w.heap.size HO4.out (FootIn.none _) (by omega) rfl pp [.slice A4 pp.length c4] rfl ⟨_, rfl, HR4.out.mono (fun i _ h => h.elim (fun h => h.elim (fun h => (foot_none _ _ h).elim) .inl) .inr)⟩ (by omega) ?_; intro v' w5 q1 q2 _ _ _ _)
        go_roundw
        case rel => exact ⟨j + 1, by omega, by go_num, by rw [HSU.out]; exact q1, HB4.out.trans q2.below⟩
        case measure => simp [intOf]; omega
      · have hin' : ¬ (j : Int) < (nums.length : Int) := by omega
        have hgd : nums.getD j [] = [] := by rw [List.getD_eq_getElem?_getD, List.getElem?_eq_none (by omega)]; rfl
        rw [hgd, show natBits (partsVal [] % 2 ^ m1) = [] by simp [partsVal, natBits, lowBits, nbits]] at HSU
        have hal : Below wr.heap.size wr (wr.alloc (.cells #[] 4)) := (Below.refl _ _).alloc (Nat.le_refl _) _
        have hszb := hal.size
        have HO4 := Lib.hid (HO.out.kept (Kept.of_below_all hal (FootIn.none _) (Nat.le_refl _)))
        have HB4 := Lib.hid (HB.out.trans (hal.mono hsz))
        have HR4 := Lib.hid (show Row kBool (wr.alloc (.cells #[] 4)) (fun i => Value.ownBlock (.slice A9 done.length c9) = some i ∨ S i) (.slice (some ⟨wr.heap.size, 0, none⟩) 0 0) [] from ⟨some ⟨wr.heap.size, 0, none⟩, 0, [], rfl, Nat.le_refl _, Nat.zero_le _, (fun h => nomatch h), Pairs.nil _ _ _, fun h => by simp at h⟩)
        clear hal
        go_wp2_with (at_builtin; refine app1g (kOff S kBool) 42 85 (.slice none 0 0) 24 rfl (.tmp 31) (.tmp 33) rfl Try.underlying85 infoBits rfl Nat.zero_lt_one (by decide) none w.heap.size HO4.out (FootIn.none _) (by omega) rfl [] [.slice (some ⟨wr.heap.size, 0, none⟩) 0 0] (wr.heap.size + 1) (by simp) rfl ⟨_, rfl, HR4.out.mono (fun i _ h => h.elim (fun h => h.elim (fun h => (foot_none _ _ h).elim) .inl) .inr)⟩ (by omega) ?_; intro v' w5 q1 q2 _ _ _ _)
        go_roundw
        case rel => exact ⟨j + 1, by omega, by go_num, by rw [HSU.out]; exact q1, HB4.out.trans q2.below⟩
        case measure => simp [intOf]; omega
    · obtain rfl : j = ws.length := by omega
      have hall : (cuts nums ws).take ws.length = cuts nums ws := List.take_of_length_le (by rw [cuts_length]; exact Nat.le_refl _)
      rw [hall] at ho ⊢
      have HALL := Lib.hid (ho.rowOff (S := S) fun g hg => fun hs => by have := (ho.base hg).1; have := hS g hs; omega)
      have hcl := cuts_length nums ws
      clear ho hall
      go_wp2
      go_ret
      exact ⟨_, rfl, HALL.out, hb⟩
end Go.Proofs.Ytdljgifoboiaeaa
