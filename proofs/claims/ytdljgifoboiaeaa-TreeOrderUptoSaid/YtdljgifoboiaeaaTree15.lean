/- slipsticklaw15: large, rows. -/
import Derived.Test.YtdljgifoboiaeaaL15
import Derived.Test.YtdljgifoboiaeaaLawB
import Derived.Laws.BytesArg
namespace Go.Proofs.Ytdljgifoboiaeaa
open Go.RowKit

set_option maxHeartbeats 2000000 in
/-- slipsticklaw15.large -/
theorem large15 (w : World) (S : Nat → Prop) (v : Value) (xss : List (List Int)) (hx : Row (kRow (kNum .u32)) w S v xss) (hl : xss.length ≤ 1048576) (hs : (xss.map List.length).sum ≤ 1048576) :
    Calls Try.prog 48 #[v] w fun e w' => e = .returned (.bool (decide (200 < (xss.map List.length).sum))) ∧ w = w' := by
  obtain ⟨A, c, rfl, -, -⟩ := hx.shape
  have HS := Lib.hid hs
  have HX := Lib.hid hx
  clear hs hx
  go_enter Try.func48, Try.ntmps48
  go_wp2
  go_loopw [3, 7] (fun cv iv wr => ∃ j s : Nat, j ≤ xss.length ∧ iv = .int .i64 j ∧ cv = .int .i64 s ∧ Hid (((xss.take j).map List.length).sum = s) ∧ w = wr) (fun _ iv _ => xss.length - (intOf iv).toNat)
  case atStart => exact ⟨0, 0, Nat.zero_le _, rfl, rfl, Lib.hid rfl, rfl⟩
  case round =>
    obtain ⟨j, s, hj, rfl, rfl, hsum, rfl⟩ := hrel
    by_cases hlt : j < xss.length
    · obtain ⟨b, off, A2, c2, rfl, hq, -⟩ := HX.out.row_at hlt
      obtain ⟨l, hlen⟩ : ∃ l, xss[j].length = l := ⟨_, rfl⟩
      rw [hlen] at hq
      have h1 : ((xss.take (j + 1)).map List.length).sum = s + l := by
        rw [List.take_succ_eq_append_getElem hlt, List.map_append, List.sum_append, hsum.out]; simp [hlen]
      have h2 : s + l ≤ 1048576 := by
        rw [← h1]
        have e := congrArg (fun l => (l.map List.length).sum) (List.take_append_drop (j + 1) xss)
        simp only [List.map_append, List.sum_append] at e
        have := HS.out
        omega
      have H1 := Lib.hid h1
      clear h1 hlen
      have hw : IntKind.i64.wrap ((s : Int) + (l : Int)) = ((s + l : Nat) : Int) := by rw [IntWalk.i64_in _ (by omega)]; omega
      obtain ⟨t, ht⟩ : ∃ t, s + l = t := ⟨_, rfl⟩
      rw [ht] at hw h2 H1
      have hv : (s : Int) + (l : Int) = (t : Int) := by omega
      clear ht
      go_wp2
      go_roundw
      case rel => exact ⟨j + 1, t, by omega, by go_num, rfl, H1, trivial⟩
      case measure => simp [intOf]; omega
    · obtain rfl : j = xss.length := by omega
      rw [List.take_length] at hsum
      go_wp2
      go_ret
      exact ⟨by rw [hsum.out]; simp; omega, rfl⟩

theorem FineR.grown {w w' : World} {p B : Nat} {st st' : BSt} {v : Value} {xss : List (List Int)} (h : FineR w p st B v xss) (hk : Kept w.heap.size (some p) w w') (he : st.nodes.length ≤ st'.nodes.length) : FineR w' p st' B v xss := ⟨h.own.kept hk, fun xs hx => ⟨(h.okay xs hx).1.grow he, (h.okay xs hx).2⟩, h.len⟩

set_option maxHeartbeats 2000000 in
set_option maxRecDepth 100000 in
/-- slipsticklaw15.rows -/
theorem rows15 (w : World) (S : Nat → Prop) (v : Value) (ws : List Int) (hx : Row (kNum .u8) w S v ws) (hok : ∀ x ∈ ws, 0 ≤ x ∧ x < 256) (hl : ws.length ≤ 24) :
    Calls Try.prog 49 #[v] w fun e w' => ∃ p X vl xss st, e = .returned (.tuple #[.pointer (some ⟨p, 0, none⟩), vl, .bool true]) ∧ Hid (xss.map List.length = ws.map fun x => (x % 16).toNat + 1) ∧
      Hid (st.ins.map Port.bits = xss ∧ st.outs = []) ∧ PortsOk st ∧ Env (fun a => Fresh w.heap.size a p ∧ Below w.heap.size w a) p X st w' st 1000 (.words vl xss :: []) (fun _ => True) := by
  obtain ⟨A, c, rfl, -, -⟩ := hx.shape
  have HX := Lib.hid hx
  clear hx
  go_enter Try.func49, Try.ntmps49
  go_wp2_with fail
  refine (new_mine w).mono ?_
  rintro e w1 ⟨rfl, hM⟩
  obtain ⟨p, hp⟩ : ∃ p : Nat, w.heap.size = p := ⟨_, rfl⟩
  have E := (Env.ofMine hM HasBits.none Ordered.nil).cntle (N' := 0) (by simp)
  have hP0 := PortsOk.none
  have hs0 : (⟨[], [], []⟩ : BSt).ins = [] ∧ (⟨[], [], []⟩ : BSt).outs = [] := ⟨rfl, rfl⟩
  generalize (⟨[], [], []⟩ : BSt) = s0 at E hP0 hs0
  have HS := Lib.hid hs0
  rw [hp] at E ⊢
  have HP := Lib.hid hp
  clear hM hs0 hp
  go_wp2_with fail
  go_loopw [6, 13] (fun lv iv wr => ∃ (j : Nat) (xss : List (List Int)) (stj : BSt), j ≤ ws.length ∧ iv = .int .i64 (j : Nat) ∧ Hid (xss.map List.length = (ws.take j).map fun x => (x % 16).toNat + 1) ∧ Hid (xss.length = j) ∧ Hid (stj.ins.map Port.bits = xss ∧ stj.outs = []) ∧ PortsOk stj ∧ FineR wr p stj p lv xss ∧
      Env (fun a => Fresh p a p ∧ Below p w a) p p stj wr stj (16 * j) [] (fun _ => True)) (fun _ iv _ => ws.length - (intOf iv).toNat)
  case atStart => exact ⟨0, [], s0, Nat.zero_le _, rfl, Lib.hid rfl, Lib.hid rfl, Lib.hid ⟨by rw [HS.out.1]; rfl, HS.out.2⟩, hP0, FineR.nil _ _ _ _, E⟩
  case round =>
    clear E
    obtain ⟨j, xss, stj, hj, rfl, hlen, hxl, hpo, hPj, fl, E⟩ := hrel
    obtain ⟨Al, cl, rfl, -, -⟩ := fl.own.shape
    by_cases hlt : j < ws.length
    · have hx1 := HX.out.later (w' := wr) (by rw [HP.out]; exact E.c.2)
      obtain ⟨b1, o1, rfl, hq⟩ := hx1.num_at hlt
      obtain ⟨x, hxe⟩ : ∃ x, ws[j] = x := ⟨_, rfl⟩
      have hxb := hok _ (List.getElem_mem hlt)
      rw [hxe] at hq hxb
      obtain ⟨n, hn⟩ : ∃ n : Nat, x = n := ⟨x.toNat, by omega⟩
      subst hn
      obtain ⟨m, hm⟩ : ∃ m : Nat, (n : Int) % 16 = m := ⟨n % 16, by omega⟩
      have hm1 : m < 16 := by omega
      obtain ⟨m1, hm2⟩ : ∃ m1 : Nat, (m : Int) + 1 = m1 := ⟨m + 1, by omega⟩
      have hj2 : j < 24 := by omega
      have HXE := Lib.hid hxe
      clear hx1 hxe
      have hcv := run_convert_bytes_arg (P := Try.prog) (wr.alloc (.cells #[.int .u8 (97 + (j : Int))] 5)) 78 5 Try.underlying78 Try.underlying5 wr.heap.size 0 1 1 [97 + (j : Int)] rfl (fun i hi => by
        obtain rfl : i = 0 := by omega
        simp) 9 Try.underlying9
      have Ea := E.alloc (.cells #[.int .u8 (97 + (j : Int))] 5)
      have fla := fl.quiet E ((Below.refl _ _).alloc (Nat.le_refl _) (.cells #[.int .u8 (97 + (j : Int))] 5))
      have hbl := Lib.hid (fun g (hg : Value.ownBlock _ = some g) => (fla.own.base hg).2)
      have hins : stj.ins.length < 100 := by have h := congrArg List.length hpo.out.1; rw [List.length_map, hxl.out] at h; omega
      go_wp2_with fail
      refine (Ea.in_ hPj _ m1 (by omega) (by omega) hins (by omega)).mono ?_
      rintro e w3 ⟨u, ys, st3, rfl, hy, hio, hP3, k3, hn3, fu, E2⟩
      have E3 := Ea.behind' k3 hn3 E2
      have fl3 := fla.grown k3 hn3
      obtain ⟨A4, c4, rfl, -, -⟩ := fu.own.shape
      rw [hy.out] at fu ⊢
      have t1 := Lib.hid (hu_one (R := fun u ys => Row kInt w3 (fun j => foot w3 (some p) j ∨ Value.ownBlock _ = some j) u ys ∧ Okay st3 ys ∧ ys.length ≤ 1024) (fu.beside hbl.out))
      have t2 : xss.length + 1 ≤ 1024 := by have := hxl.out; omega
      have t3 : p ≤ w3.heap.size := Nat.le_trans Ea.size k3.size
      clear fu E2 Ea fla
      go_wp2_with (at_builtin; refine appW rfl (.tmp 37) (.tmp 39) rfl Try.underlying80 infoInts E3 fl3 (Nat.le_refl _) t3 rfl [.slice A4 m1 c4] [ys] 1 ⟨rfl, rfl⟩ #[.slice A4 m1 c4] rfl rfl t1.out t2 ?_; intro v5 w5 k5 fl5 E5)
      go_roundw
      case rel =>
        refine ⟨j + 1, xss ++ [ys], st3, by omega, by go_num, Lib.hid ?_, Lib.hid (by rw [List.length_append, hxl.out]; rfl), Lib.hid ⟨by rw [hio.out.1, List.map_append, hpo.out.1]; rfl, hio.out.2.trans hpo.out.2⟩, hP3, fl5, E5.cntle (by omega)⟩
        rw [List.map_append, hlen.out, List.take_succ_eq_append_getElem hlt, List.map_append, HXE.out, List.map_singleton, List.map_singleton, hy.out]
        congr 2
        omega
      case measure => simp [intOf]; omega
    · obtain rfl : j = ws.length := by omega
      rw [List.take_length] at hlen
      go_wp2
      refine bodyPost_ret (v := .tuple #[.pointer (some ⟨p, 0, none⟩), .slice Al xss.length cl, .bool true]) (by simp [results, Try.results49, go_sem]) rfl ⟨p, wr.heap.size, _, xss, stj, rfl, hlen, hpo, hPj, ?_⟩
      rw [HP.out]
      exact (E.fineR fl).cntle (by omega)
end Go.Proofs.Ytdljgifoboiaeaa
