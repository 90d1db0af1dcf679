/- Runs that came in, opened. -/
import Derived.Test.YtidfjemblidjkaaOpenS
import Derived.Test.YtidfjemblidjkaaMyR
namespace Go.Proofs.Ytidfjemblidjkaa
open Go Go.RowKit
set_option linter.unusedVariables false
def rnG (x : Rn) : Prop := (-9223372036854775808 ≤ x.1 ∧ x.1 ≤ 9223372036854775807) ∧ (-9223372036854775808 ≤ x.2 ∧ x.2 ≤ 9223372036854775807)
theorem rn_dec {H : Type} {enc : TypeId × Value → H} {w : World} {base : Nat} {spare : Nat → Bool} {held : Bool} (n : Nat) (cs' : List Value) (y : DataW H × List MemPlace)
    (h : DataW.trod enc Try.prog w base spare held n 41 cs' = some y) : ∃ x, cs' = rnC x ∧ rnG x := by
  obtain ⟨v0, v1, y0, y1, n', rfl, h0, h1⟩ := dec2 Try.underlying41 (by kernel_rfl) (by kernel_rfl) h
  obtain ⟨z0, e0, _, w0⟩ := DataW.trod_int Try.underlying3 h0
  obtain ⟨z1, e1, _, w1⟩ := DataW.trod_int Try.underlying3 h1
  cases e0
  cases e1
  exact ⟨(z0, z1), rfl, bounds_i64 w0, bounds_i64 w1⟩
end Go.Proofs.Ytidfjemblidjkaa
