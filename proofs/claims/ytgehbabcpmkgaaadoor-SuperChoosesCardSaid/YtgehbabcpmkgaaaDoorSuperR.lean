/- super.Right and super.Half, and the reference's. -/
import Derived.Test.YtgehbabcpmkgaaaDoorLib
import Derived.BigQuiet
import Derived.Deep.QuietTactic
namespace Go.Proofs.YtgehbabcpmkgaaaDoor
open Go Go.RowKit
set_option linter.unusedVariables false
/-- is a block right? -/
def blkR (g b : Nat) (h e : Int) : Bool := decide (1 ≤ b ∧ b ≤ g ∧ 0 ≤ h ∧ h < 2 ∧ 1 ≤ e ∧ e ≤ 32)
theorem blkR_true {g b : Nat} {h e : Int} (hr : blkR g b h e = true) : 1 ≤ b ∧ b ≤ g ∧ 0 ≤ h ∧ h < 2 ∧ 1 ≤ e ∧ e ≤ 32 := of_decide_eq_true hr
section
variable (g b : Nat) (h e : Int) (w : World) (hb : b ≤ 4294967295) (hh1 : -9223372036854775808 ≤ h) (hh2 : h ≤ 9223372036854775807) (he1 : -9223372036854775808 ≤ e) (he2 : e ≤ 9223372036854775807)
include hb hh1 hh2 he1 he2
theorem sRight_any : Calls Tryd.prog 36 #[.agg #[.int .u32 g, .int .u32 b, .int .i64 h, .int .i64 e]] w fun e' w' => e' = .returned (.bool (blkR g b h e)) ∧ Below w.heap.size w w' := by
  have hb' : Below w.heap.size w (w.alloc (.cells #[.int .u32 g, .int .u32 b, .int .i64 h, .int .i64 e] 51)) := (Below.refl _ _).alloc (Nat.le_refl _) _
  have HB := Lib.hid hb'
  clear hb'
  go_enter Tryd.func36, Tryd.ntmps36
  go_wp2_with fail
  all_goals go_ret
  all_goals unfold blkR
  all_goals first
    | exact ⟨ret1 (congrArg Value.bool (decide_eq_decide.2 (by omega))), HB.out⟩
    | exact ⟨ret1 (congrArg Value.bool (decide_eq_false (by omega)).symm), HB.out⟩
    | exact ⟨ret1 (congrArg Value.bool (decide_eq_true (by omega)).symm), HB.out⟩
theorem rsRight_any : Calls Tryd.prog 37 #[.agg #[.int .u32 g, .int .u32 b, .int .i64 h, .int .i64 e]] w fun e' w' => e' = .returned (.bool (blkR g b h e)) ∧ Below w.heap.size w w' := by
  have hb' : Below w.heap.size w (w.alloc (.cells #[.int .u32 g, .int .u32 b, .int .i64 h, .int .i64 e] 52)) := (Below.refl _ _).alloc (Nat.le_refl _) _
  have HB := Lib.hid hb'
  clear hb'
  by_cases h0 : h = 0
  · subst h0
    go_enter Tryd.func37, Tryd.ntmps37
    go_wp2_with fail
    all_goals go_ret
    all_goals unfold blkR
    all_goals first
      | exact ⟨ret1 (congrArg Value.bool (decide_eq_decide.2 (by omega))), HB.out⟩
      | exact ⟨ret1 (congrArg Value.bool (decide_eq_false (by omega)).symm), HB.out⟩
      | exact ⟨ret1 (congrArg Value.bool (decide_eq_true (by omega)).symm), HB.out⟩
  · by_cases h1 : h = 1
    · subst h1
      go_enter Tryd.func37, Tryd.ntmps37
      go_wp2_with fail
      all_goals go_ret
      all_goals unfold blkR
      all_goals first
        | exact ⟨ret1 (congrArg Value.bool (decide_eq_decide.2 (by omega))), HB.out⟩
        | exact ⟨ret1 (congrArg Value.bool (decide_eq_false (by omega)).symm), HB.out⟩
        | exact ⟨ret1 (congrArg Value.bool (decide_eq_true (by omega)).symm), HB.out⟩
    · have b0 : ((h : Int) == 0) = false := by simp; omega
      have b1 : ((h : Int) == 1) = false := by simp; omega
      go_enter Tryd.func37, Tryd.ntmps37
      go_wp2_with fail
      all_goals go_ret
      all_goals unfold blkR
      all_goals first
        | exact ⟨ret1 (congrArg Value.bool (decide_eq_decide.2 (by omega))), HB.out⟩
        | exact ⟨ret1 (congrArg Value.bool (decide_eq_false (by omega)).symm), HB.out⟩
        | exact ⟨ret1 (congrArg Value.bool (decide_eq_true (by omega)).symm), HB.out⟩
end
/-- a half's sectors -/
def halfV (s h : Int) : Int × Int := if s < 8 ∨ h < 0 ∨ 2 ≤ h then (0, 0) else if h = 0 then (2, 2 + (s - 2) / 2) else (2 + (s - 2) / 2, 2 + 2 * ((s - 2) / 2))
section
variable (s h : Int) (w : World) (hs1 : -9223372036854775808 ≤ s) (hs2 : s ≤ 1099511627776) (hh1 : -9223372036854775808 ≤ h) (hh2 : h ≤ 9223372036854775807)
include hs1 hs2 hh1 hh2
theorem sHalf_any : Calls Tryd.prog 34 #[.int .i64 s, .int .i64 h] w fun e' w' => e' = .returned (.tuple #[.int .i64 (halfV s h).1, .int .i64 (halfV s h).2]) ∧ w = w' := by
  by_cases hb : s < 8 ∨ h < 0 ∨ 2 ≤ h
  · have HV : Hid (halfV s h = (0, 0)) := if_pos hb
    go_enter Tryd.func34, Tryd.ntmps34
    go_wp2_with fail
    all_goals first
      | (exfalso; omega)
      | (go_ret2; exact ⟨ret2 (vint (by rw [HV.out])) (vint (by rw [HV.out])), rfl⟩)
  · have h8 : 8 ≤ s := by omega
    by_cases h0 : h = 0
    · subst h0
      have HV : Hid (halfV s 0 = (2, 2 + (s - 2) / 2)) := by show _ = _; unfold halfV; rw [if_neg hb, if_pos rfl]
      clear hb
      go_enter Tryd.func34, Tryd.ntmps34
      go_wp2_with fail
      go_ret2
      exact ⟨ret2 (vint (by rw [HV.out])) (vint (by rw [HV.out])), rfl⟩
    · obtain rfl : h = 1 := by omega
      have HV : Hid (halfV s 1 = (2 + (s - 2) / 2, 2 + 2 * ((s - 2) / 2))) := by show _ = _; unfold halfV; rw [if_neg hb, if_neg (by decide)]
      clear hb
      go_enter Tryd.func34, Tryd.ntmps34
      go_wp2_with fail
      go_ret2
      exact ⟨ret2 (vint (by rw [HV.out])) (vint (by rw [HV.out]; omega)), rfl⟩
theorem rsHalf_any : Calls Tryd.prog 35 #[.int .i64 s, .int .i64 h] w fun e' w' => e' = .returned (.tuple #[.int .i64 (halfV s h).1, .int .i64 (halfV s h).2]) ∧ w = w' := by
  by_cases hb : s < 8 ∨ h < 0 ∨ 2 ≤ h
  · have HV : Hid (halfV s h = (0, 0)) := if_pos hb
    have hn0 : s < 8 ∨ ((h : Int) != 0) = true ∧ ((h : Int) != 1) = true := by simp; omega
    rcases hn0 with h8 | ⟨hn0, hn1⟩
    all_goals
      go_enter Tryd.func35, Tryd.ntmps35
      go_wp2_with fail
      all_goals first
        | (exfalso; omega)
        | (go_ret2; exact ⟨ret2 (vint (by rw [HV.out])) (vint (by rw [HV.out])), rfl⟩)
  · have h8 : 8 ≤ s := by omega
    by_cases h0 : h = 0
    · subst h0
      have HV : Hid (halfV s 0 = (2, 2 + (s - 2) / 2)) := by show _ = _; unfold halfV; rw [if_neg hb, if_pos rfl]
      clear hb
      go_enter Tryd.func35, Tryd.ntmps35
      go_wp2_with fail
      go_ret2
      exact ⟨ret2 (vint (by rw [HV.out])) (vint (by rw [HV.out]; omega)), rfl⟩
    · obtain rfl : h = 1 := by omega
      have HV : Hid (halfV s 1 = (2 + (s - 2) / 2, 2 + 2 * ((s - 2) / 2))) := by show _ = _; unfold halfV; rw [if_neg hb, if_neg (by decide)]
      clear hb
      go_enter Tryd.func35, Tryd.ntmps35
      go_wp2_with fail
      go_ret2
      exact ⟨ret2 (vint (by rw [HV.out]; omega)) (vint (by rw [HV.out]; omega)), rfl⟩
end
end Go.Proofs.YtgehbabcpmkgaaaDoor
