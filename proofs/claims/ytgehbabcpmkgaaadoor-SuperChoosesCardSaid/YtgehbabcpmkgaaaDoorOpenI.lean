/- Arguments of layer 32 and 33, opened: an image, bytes in a row, frames and blocks that are put. -/
import Derived.Test.YtgehbabcpmkgaaaDoorOpenS
import Derived.Lib.SmallJoins
namespace Go.Proofs.YtgehbabcpmkgaaaDoor
open Go Go.RowKit Go.ChangeShapes Go.WideShapes Go.Deep
set_option linter.unusedVariables false
def imC (p : Value × List UInt8) : List Value := [p.1]
theorem imC_len (p : Value × List UInt8) : (imC p).length = 1 := rfl
theorem im_row {w : World} {v : Value} {ps : List (Value × List UInt8)} (h : RowS imC w v ps) : RowL Prod.fst w v ps := by
  have e : ps.flatMap imC = ps.map Prod.fst := List.map_eq_flatMap.symm
  unfold RowS at h
  rw [e] at h
  exact h
def imG (w : World) (p : Value × List UInt8) : Prop := RowB w p.1 p.2
section
variable {H : Type} {enc : TypeId × Value → H} {w : World} {base : Nat} {held : Bool}
theorem im_dec (n : Nat) (cs' : List Value) (y : DataW H × List MemPlace) (h : DataW.trod enc Tryd.prog w base (fun _ => true) held n 23 cs' = some y) : ∃ x, cs' = imC x ∧ imG w x := by
  rcases open_ints Tryd.underlying23 Tryd.underlying5 (by kernel_rfl) h with ⟨hcs, _⟩ | ⟨x, l, c, zs, hcs, _, hl, hm, hz, _, hcell, hwz⟩
  · subst hcs
    exact ⟨(_, []), rfl, RowB.nil w⟩
  · subst hcs
    simp at hz
    obtain ⟨bs, _, hb⟩ := rowB_of_ints (row_of_ints hl hm hz hcell) (by omega) hwz
    exact ⟨(_, bs), rfl, hb⟩
theorem okWide_array {P : Program} {r : Reach} {t : TypeId} {v : Value} {n : Nat} {e : TypeId} (ht : P.underlying t = some (.array n e)) (h : Value.okWide P w r base t v) : ∃ cs, v = .agg cs ∧ cs.size = P.cellsOf t := by
  simp only [Value.okWide, ht] at h
  obtain ⟨cs, h1, h2, _⟩ := h
  exact ⟨cs, h1, h2⟩
theorem lists_dec {n : Nat} {v : Value} {y : DataW H × List MemPlace} (h : DataW.trod enc Tryd.prog w base (fun _ => true) held n 83 [v] = some y) : ∃ ps : List (Value × List UInt8), RowL Prod.fst w v ps ∧ ∀ p ∈ ps, RowB w p.1 p.2 := by
  obtain ⟨a, l, c, rfl⟩ : ∃ a l c, v = .slice a l c := by
    rcases open_slice Tryd.underlying83 h with ⟨h1, _⟩ | ⟨a, len, cap, m, n, D, Pl, h1, _⟩
    · exact ⟨none, 0, 0, by simpa using h1⟩
    · exact ⟨some a, len, cap, by simpa using h1⟩
  obtain ⟨xs, hl, hr, hg⟩ := open_sliceS (cs := imC) (good := imG w) (d := y.1) (p := y.2) Tryd.underlying83 (by kernel_rfl) (by decide) imC_len (fun n cs' y h => im_dec n cs' y h) ⟨n, h⟩
  exact ⟨xs, im_row hr, hg⟩
theorem arr2_i64 {P : Program} {spare : Nat → Bool} {t e : TypeId} {fuel : Nat} {cs : List Value} {x : DataW H × List MemPlace} (ht : P.underlying t = some (.array 2 e)) (he : P.underlying e = some (.int .i64)) (hce : P.cellsOf e = 1) (hct : P.cellsOf t = 2)
    (h : DataW.trod enc P w base spare held fuel t cs = some x) : ∃ a b : Int, cs = [.int .i64 a, .int .i64 b] ∧ (-9223372036854775808 ≤ a ∧ a ≤ 9223372036854775807) ∧ (-9223372036854775808 ≤ b ∧ b ≤ 9223372036854775807) := by
  obtain ⟨xs, m, -, -, hl, hxl, hi⟩ := DataW.trod_array ht h
  rw [hct] at hl
  match cs, hl, xs, hxl with
  | [c0, c1], _, [y0, y1], _ =>
    have h0 := hi 0 (by decide)
    have h1 := hi 1 (by decide)
    rw [hce] at h0 h1
    obtain ⟨z0, e0, -, w0⟩ := DataW.trod_int he (x := y0) (by simpa using h0)
    obtain ⟨z1, e1, -, w1⟩ := DataW.trod_int he (x := y1) (by simpa using h1)
    cases e0
    cases e1
    exact ⟨z0, z1, rfl, bounds_i64 w0, bounds_i64 w1⟩
theorem arr2_u32 {P : Program} {spare : Nat → Bool} {t e : TypeId} {fuel : Nat} {cs : List Value} {x : DataW H × List MemPlace} (ht : P.underlying t = some (.array 2 e)) (he : P.underlying e = some (.int .u32)) (hce : P.cellsOf e = 1) (hct : P.cellsOf t = 2)
    (h : DataW.trod enc P w base spare held fuel t cs = some x) : ∃ a b : Int, cs = [.int .u32 a, .int .u32 b] ∧ (0 ≤ a ∧ a ≤ 4294967295) ∧ (0 ≤ b ∧ b ≤ 4294967295) := by
  obtain ⟨xs, m, -, -, hl, hxl, hi⟩ := DataW.trod_array ht h
  rw [hct] at hl
  match cs, hl, xs, hxl with
  | [c0, c1], _, [y0, y1], _ =>
    have h0 := hi 0 (by decide)
    have h1 := hi 1 (by decide)
    rw [hce] at h0 h1
    obtain ⟨z0, e0, -, w0⟩ := DataW.trod_int he (x := y0) (by simpa using h0)
    obtain ⟨z1, e1, -, w1⟩ := DataW.trod_int he (x := y1) (by simpa using h1)
    cases e0
    cases e1
    exact ⟨z0, z1, rfl, bounds_u32 w0, bounds_u32 w1⟩
theorem img_open {n : Nat} {cs' : List Value} {y : DataW H × List MemPlace} (h : DataW.trod enc Tryd.prog w base (fun _ => true) held n 85 cs' = some y) : ∃ (v : Value) (ps : List (Value × List UInt8)), cs' = [v] ∧ RowL Prod.fst w v ps ∧ ∀ p ∈ ps, RowB w p.1 p.2 := by
  obtain ⟨hl, n', hf⟩ := decF Tryd.underlying85 (by kernel_rfl) (by kernel_rfl) h
  obtain ⟨v, y0, hv, h0⟩ := hf 0 _ rfl
  obtain ⟨ps, h1, h2⟩ := lists_dec h0
  refine ⟨v, ps, ?_, h1, h2⟩
  match cs', hl with
  | [c], _ => simp at hv; rw [hv]
/-- a frame that is put -/
structure Pu where
  a : Int
  e : Int
  f : Int
  g : Nat
  v : Value
  bs : List UInt8
def puC (p : Pu) : List Value := [.int .i64 p.a, .int .i64 p.e, .int .i64 p.f, .int .u32 p.g, p.v]
theorem puC_len (p : Pu) : (puC p).length = 5 := rfl
def puG (w : World) (p : Pu) : Prop := (-9223372036854775808 ≤ p.a ∧ p.a ≤ 9223372036854775807) ∧ (-9223372036854775808 ≤ p.e ∧ p.e ≤ 9223372036854775807) ∧ (-9223372036854775808 ≤ p.f ∧ p.f ≤ 9223372036854775807) ∧ p.g < 4294967296 ∧ RowB w p.v p.bs
theorem list5' {α : Type} {l : List α} (h : l.length = 5) : ∃ a b c d e, l = [a, b, c, d, e] := by
  match l, h with
  | [a, b, c, d, e], _ => exact ⟨a, b, c, d, e, rfl⟩
theorem pu_dec (n : Nat) (cs' : List Value) (y : DataW H × List MemPlace) (h : DataW.trod enc Tryd.prog w base (fun _ => true) held n 92 cs' = some y) : ∃ x, cs' = puC x ∧ puG w x := by
  obtain ⟨hl, n', hf⟩ := decF Tryd.underlying92 (by kernel_rfl) (by kernel_rfl) h
  obtain ⟨a, b, c, d, e, rfl⟩ := list5' hl
  obtain ⟨v0, y0, hv0, h0⟩ := hf 0 _ rfl
  obtain ⟨v1, y1, hv1, h1⟩ := hf 1 _ rfl
  obtain ⟨v2, y2, hv2, h2⟩ := hf 2 _ rfl
  obtain ⟨v3, y3, hv3, h3⟩ := hf 3 _ rfl
  obtain ⟨v4, y4, hv4, h4⟩ := hf 4 _ rfl
  simp at hv0 hv1 hv2 hv3 hv4
  subst hv0 hv1 hv2 hv3 hv4
  obtain ⟨z0, e0, _, w0⟩ := DataW.trod_int Tryd.underlying3 h0
  obtain ⟨z1, e1, _, w1⟩ := DataW.trod_int Tryd.underlying3 h1
  obtain ⟨z2, e2, _, w2⟩ := DataW.trod_int Tryd.underlying3 h2
  obtain ⟨z3, e3, _, w3⟩ := DataW.trod_int Tryd.underlying22 h3
  obtain ⟨bs, hb⟩ := dec_bytes h4
  cases e0
  cases e1
  cases e2
  cases e3
  have b3 := bounds_u32 w3
  obtain ⟨g, rfl⟩ := Int.eq_ofNat_of_zero_le b3.1
  exact ⟨⟨z0, z1, z2, g, _, bs⟩, rfl, bounds_i64 w0, bounds_i64 w1, bounds_i64 w2, by show g < _; omega, hb⟩
end
end Go.Proofs.YtgehbabcpmkgaaaDoor
