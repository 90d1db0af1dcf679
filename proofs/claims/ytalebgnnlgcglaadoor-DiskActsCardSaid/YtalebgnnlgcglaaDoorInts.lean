/- slices.Clone, Reverse, Equal at []int. -/
import Derived.Test.YtalebgnnlgcglaaDoorLib
import Derived.Lib.SliceRun
namespace Go.Proofs.YtalebgnnlgcglaaDoor
open Go Go.RowKit
set_option linter.unusedVariables false
theorem infoZ0 : (Tryd.prog.info? 3).map (fun i => (i.zero, i.size, i.bytes)) = some (some (.int .i64 0), 1, 8) := by kernel_rfl
def eqB (xs ys : List Int) : Bool := xs == ys
theorem eqB_yes {xs ys : List Int} (h : xs = ys) : eqB xs ys = true := by unfold eqB; simpa using h
theorem eqB_no {xs ys : List Int} (h : xs ≠ ys) : eqB xs ys = false := by unfold eqB; simpa using h
end Go.Proofs.YtalebgnnlgcglaaDoor
