/- Two [8]int that are the same. -/
import Derived.Test.YtbfjacgfifecpaaJND
import Derived.ChangeKeysEq
namespace Go.Proofs.Ytbfjacgfifecpaa
open Go.RowKit
theorem cellsIntA : Try.prog.cellsOf 3 = 1 := by kernel_rfl
theorem infoIntSome : ∃ i, Try.prog.info? 3 = some i := by
  cases h : Try.prog.info? 3 with
  | none => have := infoInt; rw [h] at this; cases this
  | some i => exact ⟨i, rfl⟩
theorem eq8 (a0 a1 a2 a3 a4 a5 a6 a7 : Int) (W : World) : (Op.equalIn 10000 39 (.agg #[.int .i64 a0, .int .i64 a1, .int .i64 a2, .int .i64 a3, .int .i64 a4, .int .i64 a5, .int .i64 a6, .int .i64 a7]) (.agg #[.int .i64 a0, .int .i64 a1, .int .i64 a2, .int .i64 a3, .int .i64 a4, .int .i64 a5, .int .i64 a6, .int .i64 a7])).run Try.prog W = .ok true W := by
  obtain ⟨i, hi⟩ := infoIntSome
  have hp : ∀ (xs : Array Value) (j : Nat) (v : Value), xs[j]? = some v → (part 3 xs j).run Try.prog W = .ok v W := fun xs j v h => run_part_plain W (by kernel_rfl) h
  have hd : ∀ (d : Nat) (a : Int), (Op.equalIn (d + 1) 3 (.int .i64 a) (.int .i64 a)).run Try.prog W = .ok true W := fun d a => by
    simp only [Op.equalIn, Sem.run_bind, run_underlying Try.underlying3, Result.andThen_ok]
    simp
  have he : ∀ a : Int, (Op.equalIn 9999 3 (.int .i64 a) (.int .i64 a)).run Try.prog W = .ok true W := fun a => hd 9998 a
  obtain ⟨xs, hxs⟩ : ∃ xs : Array Value, xs = #[.int .i64 a0, .int .i64 a1, .int .i64 a2, .int .i64 a3, .int .i64 a4, .int .i64 a5, .int .i64 a6, .int .i64 a7] := ⟨_, rfl⟩
  rw [← hxs]
  have p0 : (part 3 xs 0).run Try.prog W = .ok (.int .i64 a0) W := hp _ 0 _ (by rw [hxs]; rfl)
  have p1 : (part 3 xs 1).run Try.prog W = .ok (.int .i64 a1) W := hp _ 1 _ (by rw [hxs]; rfl)
  have p2 : (part 3 xs 2).run Try.prog W = .ok (.int .i64 a2) W := hp _ 2 _ (by rw [hxs]; rfl)
  have p3 : (part 3 xs 3).run Try.prog W = .ok (.int .i64 a3) W := hp _ 3 _ (by rw [hxs]; rfl)
  have p4 : (part 3 xs 4).run Try.prog W = .ok (.int .i64 a4) W := hp _ 4 _ (by rw [hxs]; rfl)
  have p5 : (part 3 xs 5).run Try.prog W = .ok (.int .i64 a5) W := hp _ 5 _ (by rw [hxs]; rfl)
  have p6 : (part 3 xs 6).run Try.prog W = .ok (.int .i64 a6) W := hp _ 6 _ (by rw [hxs]; rfl)
  have p7 : (part 3 xs 7).run Try.prog W = .ok (.int .i64 a7) W := hp _ 7 _ (by rw [hxs]; rfl)
  have h := run_equalIn_array (P := Try.prog) W 9999 (e := 3) (n := 8) xs xs Try.underlying39 hi
  refine Eq.trans h ?_
  rw [cellsIntA, show List.range 8 = [0, 1, 2, 3, 4, 5, 6, 7] from rfl]
  simp only [Op.eqItems, Sem.run_bind, Nat.mul_one, p0, Result.andThen_ok, he]
  simp [p1, p2, p3, p4, p5, p6, p7, he]
end Go.Proofs.Ytbfjacgfifecpaa
