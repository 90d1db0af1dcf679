/- Bytes that stand in the text. -/
import Derived.Test.YtalebgnnlgcglaaDoorLib
import Derived.Lib.SlBytesConst
namespace Go.Proofs.YtalebgnnlgcglaaDoor
open Go Go.RowKit
set_option linter.unusedVariables false
theorem rowB_lits (w : World) (bs : List UInt8) (cs : Array Value) (fz : Nat × Nat) (h : cs = (bs.map BV).toArray) (n : Nat) (hn : n = bs.length) (hm : n ≤ 1000) : RowB (w.alloc (.cells cs 5 fz)) (.slice (some ⟨w.heap.size, 0, none⟩) n n) bs := by
  subst h
  subst hn
  have hh := heap_alloc_new w (.cells (bs.map BV).toArray 5 fz)
  refine .inr ⟨w.heap.size, 0, bs.length, rfl, Nat.le_refl _, by unfold maxLen; omega, lt_of_block hh, fun j u hu => ?_⟩
  rw [Nat.zero_add, cell_of_row _ _ _ _ _ _ hh]
  simpa using hu
end Go.Proofs.YtalebgnnlgcglaaDoor
