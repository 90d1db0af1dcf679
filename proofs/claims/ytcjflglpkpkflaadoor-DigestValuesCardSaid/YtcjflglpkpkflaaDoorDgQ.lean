/- Digests, the document's: figures one by one; a figure's text. -/
import Derived.Test.YtcjflglpkpkflaaDoorDgH
namespace Go.Proofs.YtcjflglpkpkflaaDoor
open Go Go.RowKit
set_option linter.unusedVariables false
theorem dec_step (u : Nat) (h : u ≠ 0) : ∃ P, Lib.decDigits u = P ++ [UInt8.ofNat (48 + u % 10)] ∧ (u / 10 = 0 → P = []) ∧ (u / 10 ≠ 0 → P = Lib.decDigits (u / 10)) := by
  by_cases h10 : u < 10
  · exact ⟨[], by rw [dec_small u h10, show u % 10 = u by omega]; rfl, fun _ => rfl, fun e => absurd (by omega) e⟩
  · exact ⟨Lib.decDigits (u / 10), dec_big u h10, fun e => absurd e (by omega), fun _ => rfl⟩
/-- the figures of what is left, ahead of what is told -/
def figT (u : Nat) (t : Bs) : Bs := if u = 0 then t else Lib.decDigits u ++ t
theorem figT_step (u : Nat) (t : Bs) (h : u ≠ 0) : figT (u / 10) (UInt8.ofNat (48 + u % 10) :: t) = figT u t := by
  obtain ⟨P, h1, h2, h3⟩ := dec_step u h
  unfold figT
  rw [if_neg h, h1]
  by_cases h0 : u / 10 = 0
  · rw [if_pos h0, h2 h0]; rfl
  · rw [if_neg h0, h3 h0]; simp
theorem hex_cut (d : Nat) (h : d < 16) : (⟨#[48, 49, 50, 51, 52, 53, 54, 55, 56, 57, 97, 98, 99, 100, 101, 102]⟩ : ByteArray).extract d (d + 1) = strB [hexd d] := by
  match d, h with
  | 0, _ => rfl
  | 1, _ => rfl
  | 2, _ => rfl
  | 3, _ => rfl
  | 4, _ => rfl
  | 5, _ => rfl
  | 6, _ => rfl
  | 7, _ => rfl
  | 8, _ => rfl
  | 9, _ => rfl
  | 10, _ => rfl
  | 11, _ => rfl
  | 12, _ => rfl
  | 13, _ => rfl
  | 14, _ => rfl
  | 15, _ => rfl
  | n + 16, h => omega
theorem hex_ext (d : Nat) (h : d < 16) (W : World) : (Instr.slice 9 (.string ⟨#[48, 49, 50, 51, 52, 53, 54, 55, 56, 57, 97, 98, 99, 100, 101, 102]⟩) (some (.int .i64 (d : Int))) (some (.int .i64 ((d : Int) + 1))) none).run Tryd.prog W = .ok (.string (strB [hexd d])) W := by
  have h1 := run_slice_string (P := Tryd.prog) W 9 (⟨#[48, 49, 50, 51, 52, 53, 54, 55, 56, 57, 97, 98, 99, 100, 101, 102]⟩ : ByteArray) .i64 .i64 (d : Int) ((d : Int) + 1) Tryd.underlying9 (by omega) (by omega) (by
    have : (ByteArray.size ⟨#[48, 49, 50, 51, 52, 53, 54, 55, 56, 57, 97, 98, 99, 100, 101, 102]⟩ : Nat) = 16 := rfl
    rw [this]; omega)
  rw [h1, show ((d : Int) + 1).toNat = d + 1 from by omega, Int.toNat_natCast, hex_cut d h]
end Go.Proofs.YtcjflglpkpkflaaDoor
