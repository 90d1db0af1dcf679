/- Bytes as strings: what string(b) gives. -/
import Derived.Test.YtcnjlbbckdmifaaLib
import Derived.Laws.BytesArg
namespace Go.Proofs.Ytcnjlbbckdmifaa
open Go Go.RowKit
set_option linter.unusedVariables false
def strB (bs : List UInt8) : ByteArray := ⟨bs.toArray⟩
theorem strB_app (a b : List UInt8) : strB a ++ strB b = strB (a ++ b) := by
  unfold strB
  apply ByteArray.ext
  simp [ByteArray.data_append]
theorem strB_size (a : List UInt8) : (strB a).size = a.length := by simp [strB, ByteArray.size]
theorem str_add (a b : List UInt8) (h : a.length + b.length ≤ 1000000000) (w : World) : (Op.stringOp .add (strB a) (strB b)).run Try.prog w = .ok (.string (strB (a ++ b))) w := by
  rw [run_string_add_sum w _ _ (by rw [strB_size, strB_size]; omega), strB_app]
theorem strB_eq (a b : List UInt8) : (strB a == strB b) = decide (a = b) := by
  by_cases h : a = b
  · subst h; rw [decide_eq_true rfl]; show (strB a).data == (strB a).data; simp
  · rw [decide_eq_false h]; show ((strB a).data == (strB b).data) = false; simp [h, strB]
end Go.Proofs.Ytcnjlbbckdmifaa
