/- A block that is put on a disk (layer 33), by its cells. -/
import Derived.Test.YtgehbabcpmkgaaaDoorOpenI
namespace Go.Proofs.YtgehbabcpmkgaaaDoor
open Go Go.RowKit Go.ChangeShapes Go.WideShapes Go.Deep
set_option linter.unusedVariables false
section
variable {H : Type} {enc : TypeId × Value → H} {w : World} {base : Nat} {held : Bool}
theorem trod_struct5 {P : Program} {spare : Nat → Bool} {t : TypeId} {f0 f1 f2 f3 f4 : Field} {fuel : Nat} {cs : List Value} {x : DataW H × List MemPlace} (ht : P.underlying t = some (.struct #[f0, f1, f2, f3, f4])) (h : DataW.trod enc P w base spare held fuel t cs = some x) :
    ∃ y0 y1 y2 y3 y4 n, cs.length = P.cellsOf t ∧ DataW.trod enc P w base spare held n f0.type ((cs.drop f0.offset).take (P.cellsOf f0.type)) = some y0 ∧
      DataW.trod enc P w base spare held n f1.type ((cs.drop f1.offset).take (P.cellsOf f1.type)) = some y1 ∧ DataW.trod enc P w base spare held n f2.type ((cs.drop f2.offset).take (P.cellsOf f2.type)) = some y2 ∧
      DataW.trod enc P w base spare held n f3.type ((cs.drop f3.offset).take (P.cellsOf f3.type)) = some y3 ∧ DataW.trod enc P w base spare held n f4.type ((cs.drop f4.offset).take (P.cellsOf f4.type)) = some y4 := by
  obtain ⟨xs, n, _, rfl, hl, hlen, hf⟩ := DataW.trod_struct ht h
  match xs, hlen with
  | [y0, y1, y2, y3, y4], _ => exact ⟨y0, y1, y2, y3, y4, n, hl, by simpa using hf 0 f0 rfl, by simpa using hf 1 f1 rfl, by simpa using hf 2 f2 rfl, by simpa using hf 3 f3 rfl, by simpa using hf 4 f4 rfl⟩
theorem spz_int : Tryd.prog.cellsOf 3 = 1 := by kernel_rfl
theorem spz_u32 : Tryd.prog.cellsOf 22 = 1 := by kernel_rfl
theorem spz_bool : Tryd.prog.cellsOf 4 = 1 := by kernel_rfl
theorem spz_bytes : Tryd.prog.cellsOf 23 = 1 := by kernel_rfl
theorem spz_block : Tryd.prog.cellsOf 51 = 4 := by kernel_rfl
theorem spz_put : Tryd.prog.cellsOf 140 = 8 := by kernel_rfl
/-- a block that is put -/
structure Sp where
  s : Int
  f : Int
  g : Nat
  b : Nat
  h : Int
  e : Int
  c : Bool
  v : Value
  bs : List UInt8
def spC (p : Sp) : List Value := [.int .i64 p.s, .int .i64 p.f, .int .u32 p.g, .int .u32 p.b, .int .i64 p.h, .int .i64 p.e, .bool p.c, p.v]
theorem spC_len (p : Sp) : (spC p).length = 8 := rfl
def spG (w : World) (p : Sp) : Prop := (-9223372036854775808 ≤ p.s ∧ p.s ≤ 9223372036854775807) ∧ (-9223372036854775808 ≤ p.f ∧ p.f ≤ 9223372036854775807) ∧ p.g < 4294967296 ∧ p.b < 4294967296 ∧ (-9223372036854775808 ≤ p.h ∧ p.h ≤ 9223372036854775807) ∧ (-9223372036854775808 ≤ p.e ∧ p.e ≤ 9223372036854775807) ∧ RowB w p.v p.bs
theorem list8' {α : Type} {l : List α} (h : l.length = 8) : ∃ a b c d e f g i, l = [a, b, c, d, e, f, g, i] := by
  match l, h with
  | [a, b, c, d, e, f, g, i], _ => exact ⟨a, b, c, d, e, f, g, i, rfl⟩
theorem sp_dec (n : Nat) (cs' : List Value) (y : DataW H × List MemPlace) (h : DataW.trod enc Tryd.prog w base (fun _ => true) held n 140 cs' = some y) : ∃ x, cs' = spC x ∧ spG w x := by
  obtain ⟨y0, y1, y2, y3, y4, m, hl, g0, g1, g2, g3, g4⟩ := trod_struct5 Tryd.underlying140 h
  rw [spz_put] at hl
  obtain ⟨c0, c1, c2, c3, c4, c5, c6, c7, rfl⟩ := list8' hl
  rw [spz_int] at g0 g1
  rw [spz_block] at g2
  rw [spz_bool] at g3
  rw [spz_bytes] at g4
  obtain ⟨z0, z1, z2, z3, n', -, -, k0, k1, k2, k3⟩ := Joins.trod_struct4 Tryd.underlying51 g2
  rw [spz_u32] at k0 k1
  rw [spz_int] at k2 k3
  obtain ⟨i0, e0, _, w0⟩ := DataW.trod_int Tryd.underlying3 g0
  obtain ⟨i1, e1, _, w1⟩ := DataW.trod_int Tryd.underlying3 g1
  obtain ⟨i2, e2, _, w2⟩ := DataW.trod_int Tryd.underlying22 k0
  obtain ⟨i3, e3, _, w3⟩ := DataW.trod_int Tryd.underlying22 k1
  obtain ⟨i4, e4, _, w4⟩ := DataW.trod_int Tryd.underlying3 k2
  obtain ⟨i5, e5, _, w5⟩ := DataW.trod_int Tryd.underlying3 k3
  obtain ⟨b6, e6, _⟩ := DataW.trod_bool Tryd.underlying4 g3
  obtain ⟨bs, hb⟩ := dec_bytes g4
  cases e0
  cases e1
  cases e2
  cases e3
  cases e4
  cases e5
  cases e6
  have q2 := bounds_u32 w2
  have q3 := bounds_u32 w3
  obtain ⟨g, rfl⟩ := Int.eq_ofNat_of_zero_le q2.1
  obtain ⟨b, rfl⟩ := Int.eq_ofNat_of_zero_le q3.1
  exact ⟨⟨i0, i1, g, b, i4, i5, b6, _, bs⟩, rfl, bounds_i64 w0, bounds_i64 w1, by show g < _; omega, by show b < _; omega, bounds_i64 w4, bounds_i64 w5, hb⟩
end
end Go.Proofs.YtgehbabcpmkgaaaDoor
