/- net.twice: whether two ports have one name. -/
import Derived.Test.YtbfjacgfifecpaaNe
import Derived.Maps.Own
import Derived.Maps.OwnSet
import Derived.Maps.Views
namespace Go.Proofs.Ytbfjacgfifecpaa
open Go.RowKit
open Go.Maps (Keyed)

/-- texts are the same -/
def txt (s t : ByteArray) : Bool := s.toList == t.toList
def dupAt (ns : List ByteArray) (i : Nat) : Bool := (ns.take i).any fun m => txt (ns.getD i ByteArray.empty) m
def dupB (ns : List ByteArray) : Bool := (List.range ns.length).any (dupAt ns)
theorem dupB_true {ns : List ByteArray} {i : Nat} (hi : i < ns.length) (h : dupAt ns i = true) : dupB ns = true := by
  rw [dupB, List.any_eq_true]; exact ⟨i, by simpa using hi, h⟩
theorem dupB_false {ns : List ByteArray} (h : ∀ i, i < ns.length → dupAt ns i = false) : dupB ns = false := by
  rw [dupB, List.any_eq_false]; intro i hi; rw [h i (by simpa using hi)]; decide

theorem law_str : Keyed Try.prog 9 := Go.Maps.string_keyed Try.underlying9
theorem zero_bool (w : World) : (zeroValue 4).run Try.prog w = .ok (.bool false) w := by kernel_rfl
theorem plain_bool_inv {H : Type} {P : Program} {e : TypeId} (he : P.underlying e = some .bool) {v : Value} {z : DataW H × List MemPlace} (h : plainElem P e v = some z) : ∃ x, v = .bool x ∧ z = (.lit (.bool x), []) := by
  unfold plainElem at h
  rw [he] at h
  cases v <;> simp at h
  exact ⟨_, rfl, h.symm⟩

/-- the names that the map holds -/
def Seen (w : World) (b n : Nat) (ns : List ByteArray) : Prop :=
  ∃ D : DataW Unit, w.ownsMap Try.prog 9 (plainElem Try.prog 4) b n D ∧ ∀ s : ByteArray, D.atKey (.string s.data.toList) (.lit (.bool false)) = .lit (.bool (ns.any fun m => txt s m))
theorem Seen.look {w : World} {b n : Nat} {ns : List ByteArray} (h : Seen w b n ns) (s : ByteArray) (hs : s.size ≤ maxLen) :
    (Instr.lookup 112 (.map (some b)) (.string s) false).run Try.prog w = .ok (.bool (ns.any fun m => txt s m)) w := by
  obtain ⟨D, h1, h2⟩ := h
  obtain ⟨v, ps, hrun, hv⟩ := h1.lookup law_str Try.underlying112 (zero_bool w) (plainElem_bool Try.underlying4 false) (WideMaps.keyOf_string_mk Try.underlying9 hs)
  obtain ⟨x, rfl, hx⟩ := plain_bool_inv Try.underlying4 hv
  rw [h2 s] at hx
  simp only [Prod.mk.injEq, DataW.lit.injEq, Lit.bool.injEq] at hx
  rw [hrun, hx.1]
theorem Seen.put {w' : World} {b n : Nat} {ns : List ByteArray} {D : DataW Unit} (hD : Maps.IsMap D) (hk : ∀ s : ByteArray, D.atKey (.string s.data.toList) (.lit (.bool false)) = .lit (.bool (ns.any fun m => txt s m))) (m : ByteArray)
    (h : w'.ownsMap Try.prog 9 (plainElem Try.prog 4) b n (D.put (.string m.data.toList) (.lit (.bool true)))) : Seen w' b n (ns ++ [m]) := by
  refine ⟨_, h, fun s => ?_⟩
  rw [List.any_append, List.any_cons, List.any_nil, Bool.or_false]
  by_cases e : s.data.toList = m.data.toList
  · rw [e, Maps.atKey_put_same (k := .string m.data.toList) hD (by exact trivial)]
    have : txt s m = true := by rw [txt, Lib.toList_data, Lib.toList_data, e]; simp
    rw [this, Bool.or_true]
  · rw [Maps.atKey_put_other (fun h => e (by injection h))]
    have : txt s m = false := by rw [txt, Lib.toList_data, Lib.toList_data]; simpa using e
    rw [this, Bool.or_false, hk]

theorem Seen.made (w : World) : Seen (w.alloc (.map #[] 0)) w.heap.size 0 [] := ⟨_, World.ownsMap_made _ _ _ _, fun _ => rfl⟩
theorem Seen.alloc {w : World} {b n : Nat} {ns : List ByteArray} (h : Seen w b n ns) (o : Obj) : Seen (w.alloc o) b n ns := by
  obtain ⟨D, h1, h2⟩ := h
  exact ⟨D, h1.alloc o, h2⟩

set_option maxRecDepth 4096 in
set_option maxHeartbeats 1000000 in
theorem twice_net (w : World) (v : Value) (ps : List Port) (hx : Row kPort w (fun _ => False) v ps) (hl : ps.length ≤ 2147483648) (hnm : ∀ q ∈ ps, q.name.size ≤ 1099511627776) :
    Calls Try.prog 53 #[v] w fun e w' => e = .returned (.bool (dupB (ps.map (·.name)))) ∧ Below w.heap.size w w' := by
  obtain ⟨A, c, rfl, -, -⟩ := hx.shape
  have HX := Lib.hid hx
  have HNM := Lib.hid hnm
  clear hx hnm
  have hmm := @run_makeMap Try.prog
  go_enter Try.func53, Try.ntmps53
  go_wp2
  clear hmm
  go_loopw [9] (fun i wr => ∃ j : Nat, i = .int .i64 (j : Nat) ∧ j ≤ ps.length ∧ Hid (∀ q, q < j → dupAt (ps.map (·.name)) q = false) ∧ Hid (Seen wr w.heap.size j ((ps.map (·.name)).take j)) ∧ Hid (Below w.heap.size w wr)) (fun i _ => ps.length - (intOf i).toNat)
  case atStart => exact ⟨0, rfl, Nat.zero_le _, Lib.hid (fun q hq => by omega), Lib.hid (Seen.made w), Lib.hid ((Below.refl _ _).alloc (Nat.le_refl _) _)⟩
  case round =>
    obtain ⟨j, rfl, hj, HG, HS, HB⟩ := hrel
    by_cases hlt : j < ps.length
    · obtain ⟨b, off, A3, d3, rfl, y0, y1, hbits⟩ := (HX.out.later HB.out).port_at hlt
      have hnl := HNM.out _ (List.getElem_mem hlt)
      have HT := Lib.hid (List.take_succ_eq_append_getElem (l := ps.map (·.name)) (i := j) (by simpa using hlt))
      have hget : (ps.map (·.name)).getD j ByteArray.empty = ps[j].name := by simp [List.getD_eq_getElem?_getD, hlt]
      simp only [List.getElem_map] at HT
      obtain ⟨x, hxx⟩ : ∃ x, ps[j] = x := ⟨_, rfl⟩
      rw [hxx] at y0 y1 hbits HT hget hnl
      clear hxx hbits
      have HGET := Lib.hid hget
      obtain ⟨s, bits⟩ := x
      dsimp only at y0 y1 hnl HGET HT
      clear hget
      have hlook := (HS.out.alloc (.cells #[.string s, .slice A3 bits.length d3] 53)).look s (by unfold maxLen; omega)
      have hdup : dupAt (ps.map (·.name)) j = ((ps.map (·.name)).take j).any fun m => txt s m := by rw [dupAt, HGET.out]
      cases hd : ((ps.map (·.name)).take j).any fun m => txt s m with
      | true =>
        rw [hd] at hlook hdup
        have HR := Lib.hid (dupB_true (by simpa using hlt) hdup)
        clear hd hdup
        go_wp2
        go_ret
        exact ⟨by rw [HR.out]; rfl, HB.out.alloc HB.out.size _⟩
      | false =>
        rw [hd] at hlook hdup
        have HD := Lib.hid hdup
        clear hd hdup
        obtain ⟨D, ho, hk⟩ := HS.out.alloc (.cells #[.string s, .slice A3 bits.length d3] 53)
        have HK := Lib.hid hk
        have HO := Lib.hid ho
        clear hk ho
        go_wp2_with (at_mapUpdate; refine wpList_mapUpdate_own _ rfl _ _ _ 112 rfl 9 4 law_str Try.underlying112 _ w.heap.size j _ rfl HO.out (by unfold maxLen; omega) _ _ _ rfl rfl (WideMaps.keyOf_string_mk Try.underlying9 (by unfold maxLen; omega)) _ [] (plainElem_bool Try.underlying4 true) ?_; intro w1 hown1 hgrow1)
        refine ⟨⟨j + 1, by go_num, by omega, Lib.hid (fun q hq => ?_), Lib.hid ?_, Lib.hid ?_⟩, ?_⟩
        · rcases Nat.lt_or_ge q j with h | h
          · exact HG.out q h
          · obtain rfl : q = j := by omega
            exact HD.out
        · rw [HT.out]; exact Seen.put HO.out.isMap HK.out s hown1
        · exact (HB.out.alloc HB.out.size _).grown hgrow1 (by have := HB.out.size; simp; omega) (fun k hk => by injection hk with hk; omega)
        · simp [intOf]; omega
    · obtain rfl : j = ps.length := by omega
      have hr := dupB_false (ns := ps.map (·.name)) (fun i hi => HG.out i (by simpa using hi))
      have HR := Lib.hid hr
      clear hr
      go_wp2
      go_ret
      exact ⟨by rw [HR.out]; rfl, HB.out⟩
end Go.Proofs.Ytbfjacgfifecpaa
