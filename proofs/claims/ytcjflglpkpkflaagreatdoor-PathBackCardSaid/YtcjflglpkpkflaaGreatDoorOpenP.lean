/- Paths that came in, opened. -/
import Derived.Test.YtcjflglpkpkflaaGreatDoorOpenV
import Derived.Test.YtcjflglpkpkflaaGreatDoorPaE
namespace Go.Proofs.YtcjflglpkpkflaaGreatDoor
open Go Go.RowKit Go.ChangeShapes Go.WideShapes Go.Deep
set_option linter.unusedVariables false
section
variable {H : Type} {enc : TypeId × Value → H} {w : World} {base : Nat} {held : Bool}
/-- a struct of four fields, whose fields are read at lesser fuel -/
theorem decFour {P : Program} {e : TypeId} {f0 f1 f2 f3 : Field} {n : Nat} {cs' : List Value} {y : DataW H × List MemPlace} {spare : Nat → Bool} (he : P.underlying e = some (.struct #[f0, f1, f2, f3]))
    (h : DataW.trod enc P w base spare held n e cs' = some y) : cs'.length = P.cellsOf e ∧ ∃ n', (∃ y, DataW.trod enc P w base spare held n' f0.type ((cs'.drop f0.offset).take (P.cellsOf f0.type)) = some y) ∧ (∃ y, DataW.trod enc P w base spare held n' f1.type ((cs'.drop f1.offset).take (P.cellsOf f1.type)) = some y) ∧ (∃ y, DataW.trod enc P w base spare held n' f2.type ((cs'.drop f2.offset).take (P.cellsOf f2.type)) = some y) ∧ ∃ y, DataW.trod enc P w base spare held n' f3.type ((cs'.drop f3.offset).take (P.cellsOf f3.type)) = some y := by
  obtain ⟨ys, n', hn', hy, hlen, hyl, hf⟩ := DataW.trod_struct he h
  match ys, hyl with
  | [y0, y1, y2, y3], _ => exact ⟨hlen, n', ⟨y0, hf 0 f0 rfl⟩, ⟨y1, hf 1 f1 rfl⟩, ⟨y2, hf 2 f2 rfl⟩, ⟨y3, hf 3 f3 rfl⟩⟩
theorem step_dec (n : Nat) (cs' : List Value) (y : DataW H × List MemPlace) (h : DataW.trod enc Tryz.prog w base (fun _ => true) held n 62 cs' = some y) : ∃ x : SQ, cs' = sC x ∧ RQ (fun _ => True) w x := by
  obtain ⟨hl, n', ⟨z0, h0⟩, ⟨z1, h1⟩, ⟨z2, h2⟩, ⟨z3, h3⟩⟩ := decFour Tryz.underlying62 h
  change DataW.trod enc Tryz.prog w base _ held n' 3 ((cs'.drop 0).take (Tryz.prog.cellsOf 3)) = _ at h0
  change DataW.trod enc Tryz.prog w base _ held n' 3 ((cs'.drop 1).take (Tryz.prog.cellsOf 3)) = _ at h1
  change DataW.trod enc Tryz.prog w base _ held n' 3 ((cs'.drop 2).take (Tryz.prog.cellsOf 3)) = _ at h2
  change DataW.trod enc Tryz.prog w base _ held n' 38 ((cs'.drop 3).take (Tryz.prog.cellsOf 38)) = _ at h3
  rw [cells_Int] at h0 h1 h2
  rw [cells_Value] at h3
  obtain ⟨k0, q0, -, w0⟩ := DataW.trod_int Tryz.underlying3 h0
  obtain ⟨k1, q1, -, w1⟩ := DataW.trod_int Tryz.underlying3 h1
  obtain ⟨k2, q2, -, w2⟩ := DataW.trod_int Tryz.underlying3 h2
  obtain ⟨⟨v, a⟩, hx, hr⟩ := open_V n' _ _ h3
  have hl10 : cs'.length = 10 := by rw [hl]; kernel_rfl
  refine ⟨(⟨k0, k1, k2, v⟩, a), ?_, ⟨bounds_i64 w0, bounds_i64 w1, bounds_i64 w2⟩, hr⟩
  have e0 : (cs'.drop 0).take 1 = [.int .i64 k0] := q0
  have e1 : (cs'.drop 1).take 1 = [.int .i64 k1] := q1
  have e2 : (cs'.drop 2).take 1 = [.int .i64 k2] := q2
  have e3 : (cs'.drop 3).take 7 = vC (v, a) := hx
  rw [List.drop_zero] at e0
  rw [List.take_of_length_le (by simp; omega)] at e3
  show cs' = .int .i64 k0 :: .int .i64 k1 :: .int .i64 k2 :: vC (v, a)
  have d1 : cs'.drop 1 = [.int .i64 k1] ++ cs'.drop 2 := by rw [← e1, show cs'.drop 2 = (cs'.drop 1).drop 1 by rw [List.drop_drop]]; exact (List.take_append_drop 1 _).symm
  have d2 : cs'.drop 2 = [.int .i64 k2] ++ cs'.drop 3 := by rw [← e2, show cs'.drop 3 = (cs'.drop 2).drop 1 by rw [List.drop_drop]]; exact (List.take_append_drop 1 _).symm
  rw [← List.take_append_drop 1 cs', e0, d1, d2, e3]; rfl
end
end Go.Proofs.YtcjflglpkpkflaaGreatDoor
