/- The walk of CrcLinear (under way): the plain law. -/
import Derived.Test.YtjincjgapjekeaaDoorSeal
namespace Go.Proofs.YtjincjgapjekeaaDoor
open Go Go.RowKit
set_option linter.unusedVariables false
/-- byte by byte -/
def xor3 : List UInt8 → List UInt8 → List UInt8 → List UInt8
  | x :: a, y :: b, z :: c => (x ^^^ y ^^^ z) :: xor3 a b c
  | _, _, _ => []
theorem cfold_xor3 : ∀ (a b c : List UInt8) (p q r : Nat), b.length = a.length → c.length = a.length → cfold (p ^^^ q ^^^ r) (xor3 a b c) = cfold p a ^^^ cfold q b ^^^ cfold r c
  | [], [], [], _, _, _, _, _ => rfl
  | x :: a, y :: b, z :: c, p, q, r, h1, h2 => by
    have ih := cfold_xor3 a b c (cbyte p x) (cbyte q y) (cbyte r z) (by simpa using h1) (by simpa using h2)
    show cfold (cbyte (p ^^^ q ^^^ r) (x ^^^ y ^^^ z)) (xor3 a b c) = _
    rw [cbyte_xor, cbyte_xor, ih]
    rfl
theorem csum_xor3 (a b c : List UInt8) (h1 : b.length = a.length) (h2 : c.length = a.length) : csum (xor3 a b c) = csum a ^^^ csum b ^^^ csum c := by
  have h := cfold_xor3 a b c (cnot 0) (cnot 0) (cnot 0) h1 h2
  rw [show cnot 0 ^^^ cnot 0 ^^^ cnot 0 = cnot 0 from by rw [Nat.xor_self, Nat.zero_xor]] at h
  unfold csum cmore
  rw [h]
  unfold cnot
  generalize cfold _ a = A
  generalize cfold _ b = B
  generalize cfold _ c = C
  generalize 4294967295 = F
  rw [xor_swap A F B F, Nat.xor_self, Nat.xor_zero, Nat.xor_assoc (A ^^^ B)]
end Go.Proofs.YtjincjgapjekeaaDoor
