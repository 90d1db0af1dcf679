/- A record that came in, by its cells. -/
import Derived.Test.YtgehbabcpmkgaaaDoorRcA
import Derived.Test.YtgehbabcpmkgaaaDoorOpenS
import Derived.Lib.SmallJoins
namespace Go.Proofs.YtgehbabcpmkgaaaDoor
open Go Go.RowKit Go.ChangeShapes Go.WideShapes
set_option linter.unusedVariables false
theorem list5 {α : Type} : ∀ {cs : List α}, cs.length = 5 → ∃ a b c d e, cs = [a, b, c, d, e]
  | [a, b, c, d, e], _ => ⟨a, b, c, d, e, rfl⟩
section
variable {H : Type} {enc : TypeId × Value → H} {w : World} {base : Nat} {spare : Nat → Bool} {held : Bool}
theorem cells_tag : Tryd.prog.cellsOf 66 = 2 := by kernel_rfl
theorem cells_u64 : Tryd.prog.cellsOf 67 = 1 := by kernel_rfl
theorem cells_str : Tryd.prog.cellsOf 9 = 1 := by kernel_rfl
theorem cells_int : Tryd.prog.cellsOf 3 = 1 := by kernel_rfl
theorem cells_rec : Tryd.prog.cellsOf 69 = 5 := by kernel_rfl
theorem wf_int {n : Int} (h : (Lit.int .i64 n).wf = true) : -9223372036854775808 ≤ n ∧ n ≤ 9223372036854775807 := by simpa [Lit.wf, IntKind.min, IntKind.max, IntKind.signed, IntKind.bits] using h
theorem wf_u64 {n : Int} (h : (Lit.int .u64 n).wf = true) : ∃ m : Nat, n = m ∧ m < 18446744073709551616 := by
  have h2 : 0 ≤ n ∧ n ≤ 18446744073709551615 := by simpa [Lit.wf, IntKind.min, IntKind.max, IntKind.signed, IntKind.bits] using h
  exact ⟨n.toNat, by omega, by omega⟩
/-- what is told of a record that came in -/
def rcGood (r : Rc) : Prop := (-9223372036854775808 ≤ r.n ∧ r.n ≤ 9223372036854775807) ∧ (-9223372036854775808 ≤ r.k ∧ r.k ≤ 9223372036854775807) ∧ r.bits < 18446744073709551616
theorem rec_open {fuel : Nat} {cs : List Value} {x : DataW H × List MemPlace} (h : DataW.trod enc Tryd.prog w base spare held fuel 69 cs = some x) : ∃ r : Rc, cs = rcC r ∧ rcGood r := by
  obtain ⟨y0, y1, y2, y3, n, -, hl, h0, h1, h2, h3⟩ := Joins.trod_struct4 Tryd.underlying69 h
  rw [cells_rec] at hl
  obtain ⟨a, b, c, d, e, rfl⟩ := list5 hl
  rw [cells_tag] at h0
  rw [cells_u64] at h1
  rw [cells_str] at h2 h3
  obtain ⟨z0, z1, m, -, -, g0, g1⟩ := trod_struct2 Tryd.underlying66 h0
  rw [cells_int] at g0 g1
  obtain ⟨n', q0, -, w0⟩ := DataW.trod_int Tryd.underlying3 g0
  obtain ⟨k', q1, -, w1⟩ := DataW.trod_int Tryd.underlying3 g1
  obtain ⟨b', q2, -, w2⟩ := DataW.trod_int Tryd.underlying67 h1
  obtain ⟨s, q3, -, -⟩ := DataW.trod_string Tryd.underlying9 h2
  obtain ⟨t, q4, -, -⟩ := DataW.trod_string Tryd.underlying9 h3
  cases q0
  cases q1
  cases q2
  cases q3
  cases q4
  obtain ⟨bn, rfl, hbn⟩ := wf_u64 w2
  refine ⟨⟨n', k', bn, s.data.toList, t.data.toList⟩, ?_, wf_int w0, wf_int w1, hbn⟩
  unfold rcC strB
  simp
end
end Go.Proofs.YtgehbabcpmkgaaaDoor
