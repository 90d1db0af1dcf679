/- Two pairs of numbers that are the same, compared. -/
import Derived.Test.YtidfjemblidjkaaThD
import Derived.ChangeKeysEq
namespace Go.Proofs.Ytidfjemblidjkaa
open Go Go.RowKit
set_option linter.unusedVariables false
theorem eqPair (w : World) (x y : Int) : (Op.equalIn 9999 49 (.agg #[.int .i64 x, .int .i64 y]) (.agg #[.int .i64 x, .int .i64 y])).run Try.prog w = .ok true w := by
  obtain ⟨i, hi⟩ : ∃ i, Try.prog.info? 3 = some i := by
    have h : (Try.prog.info? 3).isSome = true := by kernel_rfl
    exact Option.isSome_iff_exists.1 h
  have hc : Try.prog.cellsOf 3 = 1 := by kernel_rfl
  have h := run_equalIn_array (P := Try.prog) (w := w) 9998 #[.int .i64 x, .int .i64 y] #[.int .i64 x, .int .i64 y] Try.underlying49 hi
  rw [h, hc]
  have e0 : ∀ (d : Nat) (z : Int), (Op.equalIn (d + 1) 3 (.int .i64 z) (.int .i64 z)).run Try.prog w = .ok true w := fun d z => by
    simp [Op.equalIn, run_underlying Try.underlying3]
  have e1 := e0 9997
  have p0 : (part 3 #[.int .i64 x, .int .i64 y] (0 * 1)).run Try.prog w = .ok (.int .i64 x) w := run_part_plain (P := Try.prog) (w := w) (by kernel_rfl) rfl
  have p1 : (part 3 #[.int .i64 x, .int .i64 y] (1 * 1)).run Try.prog w = .ok (.int .i64 y) w := run_part_plain (P := Try.prog) (w := w) (by kernel_rfl) rfl
  rw [show List.range 2 = [0, 1] from rfl]
  simp only [Op.eqItems, Sem.run_bind, p0, Result.andThen_ok]
  rw [e1]
  simp only [Result.andThen_ok, Bool.not_true, Bool.false_eq_true, if_false, Sem.run_bind, p1]
  rw [e1]
  simp
end Go.Proofs.Ytidfjemblidjkaa
