/- What x[l:], x[:h], x[l:h] come to, as one value: equations for a walk, so that it does not part on 'capacity = l'. -/
import Derived.Test.YtbcpciegdmminaaGreatDoorLib
namespace Go.Proofs.YtbcpciegdmminaaGreatDoor
open Go Go.RowKit
set_option linter.unusedVariables false
/-- the value of x[l:h] -/
def slcV (a : Option Addr) (c l h : Nat) : Value := .slice (if c = l then a else a.map fun x => x.add l) (h - l) (c - l)
section
variable {P : Program} {T E : TypeId} {z : Option Value} {bytes : Nat} (ht : P.underlying T = some (.slice E)) (hinf : (P.info? E).map (fun i => (i.zero, i.size, i.bytes)) = some (z, 1, bytes))
include ht hinf
theorem slc_run_l (a : Option Addr) (n c l : Nat) (k : IntKind) (hl : l ≤ n) (w : World) : (Instr.slice T (.slice a n c) (some (.int k l)) none none).run P w = .ok (slcV a c l n) w := by
  have ht' : P.underlying T = some (.slice (P.elem T)) := by rw [elem_of ht]; exact ht
  have hrun := run_slice_l (P := P) w T a n c ht' k l (by omega) (by omega)
  have hs := sizeOf_of (P := P) (w := w) hinf
  rw [elem_of ht, hs] at hrun
  simp only [Result.andThen_ok] at hrun
  rw [Int.toNat_natCast] at hrun
  rw [hrun]
  unfold sliced slcV
  simp
theorem slc_run_lh (a : Option Addr) (n c l h : Nat) (k k' : IntKind) (hl : l ≤ h) (hc : h ≤ c) (w : World) : (Instr.slice T (.slice a n c) (some (.int k l)) (some (.int k' h)) none).run P w = .ok (slcV a c l h) w := by
  have ht' : P.underlying T = some (.slice (P.elem T)) := by rw [elem_of ht]; exact ht
  have hrun := run_slice_lh (P := P) w T a n c ht' k k' l h (by omega) (by omega) (by omega)
  have hs := sizeOf_of (P := P) (w := w) hinf
  rw [elem_of ht, hs] at hrun
  simp only [Result.andThen_ok] at hrun
  rw [Int.toNat_natCast, Int.toNat_natCast] at hrun
  rw [hrun]
  unfold sliced slcV
  simp
theorem slc_at_l (a : Option Addr) (n c l : Nat) (k : IntKind) (hl : l ≤ n) (w : World) : (Instr.sliceAt T (.slice a n c) (some (.int k l)) none none).run P w = .ok (slcV a c l n) w := by
  rw [run_sliceAt_slice w _ _ _ _ _ (by rw [elem_of ht]; exact ht)]
  exact slc_run_l ht hinf a n c l k hl w
theorem slc_at_lh (a : Option Addr) (n c l h : Nat) (k k' : IntKind) (hl : l ≤ h) (hc : h ≤ c) (w : World) : (Instr.sliceAt T (.slice a n c) (some (.int k l)) (some (.int k' h)) none).run P w = .ok (slcV a c l h) w := by
  rw [run_sliceAt_slice w _ _ _ _ _ (by rw [elem_of ht]; exact ht)]
  exact slc_run_lh ht hinf a n c l h k k' hl hc w
end
theorem slc_row {α : Type} {f : α → Value} {w : World} {a : Option Addr} {c l h : Nat} {xs : List α} (hr : RowL f w (.slice a xs.length c) xs) (hl : l ≤ h) (hh : h ≤ xs.length) : RowL f w (slcV a c l h) ((xs.take h).drop l) := hr.part hl hh
theorem slc_rowB {w : World} {a : Option Addr} {c l : Nat} {bs : List UInt8} (hr : RowB w (.slice a bs.length c) bs) (hl : l ≤ bs.length) : RowB w (slcV a c l bs.length) (bs.drop l) := by
  have h := slc_row hr.gen hl (Nat.le_refl _)
  rw [List.take_length] at h
  exact h
end Go.Proofs.YtbcpciegdmminaaGreatDoor
