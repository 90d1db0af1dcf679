/- Strings: []byte(s), and the first n bytes of one. -/
import Derived.Test.YtalebgnnlgcglaaDoorStr
import Derived.Laws.IdiomStrings
namespace Go.Proofs.YtalebgnnlgcglaaDoor
open Go Go.RowKit
set_option linter.unusedVariables false
/-- []byte(s) -/
theorem conv_bytes (bs : List UInt8) (w : World) (hl : bs.length ≤ 1000000) : ∃ (v : Value) (w1 : World), (convert 9 22 (.string (strB bs))).run Tryd.prog w = .ok v w1 ∧ RowB w1 v bs ∧ Below w.heap.size w w1 := by
  have hsz := strB_size bs
  have hrun := run_bytes_of_string (P := Tryd.prog) w 9 22 5 (strB bs) Tryd.underlying9 Tryd.underlying22 Tryd.underlying5
  have hge := grownCap_ge w (strB bs).size 0 5
  have hle := grownCap_le_maxLen w (strB bs).size 0 5 (by rw [hsz]; unfold maxLen; omega)
  generalize grownCap w (strB bs).size 0 5 = C at *
  refine ⟨_, _, hrun, ?_, ((Below.refl _ _).drew).alloc (Nat.le_refl _) _⟩
  rw [hsz] at hge ⊢
  have hh := heap_alloc_new w.drew (.cells (bytesRow (strB bs) C) 5 ((bytesRow (strB bs) C).size, (bytesRow (strB bs) C).size + 1))
  refine .inr ⟨w.heap.size, 0, C, rfl, hge, hle, lt_of_block hh, fun j u hu => ?_⟩
  rw [Nat.zero_add]
  refine (cell_of_row _ _ _ _ _ _ hh).trans ?_
  rw [List.getElem?_map] at hu
  obtain ⟨x, hx, rfl⟩ := Option.map_eq_some_iff.1 hu
  obtain ⟨hj, rfl⟩ := List.getElem?_eq_some_iff.1 hx
  rw [bytesRow_at (strB bs) C j (by simpa [strB] using hj)]
  simp [strB, BV]
theorem strB_take (bs : List UInt8) (n : Nat) : (strB bs).extract 0 n = strB (bs.take n) := by
  apply ByteArray.ext
  simp [strB, ByteArray.data_extract]
end Go.Proofs.YtalebgnnlgcglaaDoor
