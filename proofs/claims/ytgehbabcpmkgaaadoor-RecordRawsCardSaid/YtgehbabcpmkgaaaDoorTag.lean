/- Tags: which there are (tag.Check and the reference's Check), their code. -/
import Derived.Test.YtgehbabcpmkgaaaDoorVmath
import Derived.Test.YtgehbabcpmkgaaaDoorVputR
namespace Go.Proofs.YtgehbabcpmkgaaaDoor
open Go Go.RowKit
set_option linter.unusedVariables false
/-- the error's number of a tag -/
def tcheck (n k : Int) : Nat := if n < 1 ∨ 536870911 < n then 5 else if k = 3 ∨ k = 4 then 6 else if k = 0 ∨ k = 1 ∨ k = 2 ∨ k = 5 then 0 else 12
/-- a right tag's number and kind in one -/
def tcode (n k : Int) : Nat := (n * 8 + k).toNat
theorem tcheck_le (n k : Int) : tcheck n k ≤ 19 := by unfold tcheck; split <;> (try split) <;> (try split) <;> decide
theorem tcheck_zero {n k : Int} (h : tcheck n k = 0) : 1 ≤ n ∧ n ≤ 536870911 ∧ (k = 0 ∨ k = 1 ∨ k = 2 ∨ k = 5) := by
  unfold tcheck at h
  split at h
  · cases h
  · split at h
    · cases h
    · split at h
      · omega
      · cases h
theorem tcheck_num {n k : Int} (h : n < 1 ∨ 536870911 < n) : tcheck n k = 5 := if_pos h
theorem tcheck_group {n k : Int} (h1 : 1 ≤ n) (h2 : n ≤ 536870911) (h : k = 3 ∨ k = 4) : tcheck n k = 6 := by
  unfold tcheck; rw [if_neg (by omega), if_pos h]
theorem tcheck_ok {n k : Int} (h1 : 1 ≤ n) (h2 : n ≤ 536870911) (h : k = 0 ∨ k = 1 ∨ k = 2 ∨ k = 5) : tcheck n k = 0 := by
  unfold tcheck; rw [if_neg (by omega), if_neg (by omega), if_pos h]
theorem tcheck_kind {n k : Int} (h1 : 1 ≤ n) (h2 : n ≤ 536870911) (h : ¬ (k = 0 ∨ k = 1 ∨ k = 2 ∨ k = 5)) (h' : ¬ (k = 3 ∨ k = 4)) : tcheck n k = 12 := by
  unfold tcheck; rw [if_neg (by omega), if_neg h', if_neg h]
set_option maxRecDepth 100000 in
theorem tCheck_any (ea : Nat → Addr) (n k : Int) (w : World) (hn1 : -9223372036854775808 ≤ n) (hn2 : n ≤ 9223372036854775807) (hk1 : -9223372036854775808 ≤ k) (hk2 : k ≤ 9223372036854775807)
    (he5 : ErrAt w 10 (ea 5)) (he6 : ErrAt w 11 (ea 6)) (he12 : ErrAt w 1 (ea 12)) :
    Calls Tryd.prog 105 #[.agg #[.int .i64 n, .int .i64 k]] w fun e w' => e = .returned (EV ea (tcheck n k)) ∧ Below w.heap.size w w' := by
  have h5 := he5.stays ((Below.refl _ w).alloc (Nat.le_refl _) (.cells #[.int .i64 n, .int .i64 k] 66))
  have h6 := he6.stays ((Below.refl _ w).alloc (Nat.le_refl _) (.cells #[.int .i64 n, .int .i64 k] 66))
  have h12 := he12.stays ((Below.refl _ w).alloc (Nat.le_refl _) (.cells #[.int .i64 n, .int .i64 k] 66))
  have hb : Hid (Below w.heap.size w (w.alloc (.cells #[.int .i64 n, .int .i64 k] 66))) := (Below.refl _ w).alloc (Nat.le_refl _) _
  unfold ErrAt at h5 h6 h12
  clear he5 he6 he12
  by_cases hn : n < 1 ∨ 536870911 < n
  · have HR := Lib.hid (tcheck_num (k := k) hn)
    rcases hn with hn | hn
    · go_enter Tryd.func105, Tryd.ntmps105
      go_wp2
      go_ret
      exact ⟨by rw [HR.out]; rfl, hb.out⟩
    · go_enter Tryd.func105, Tryd.ntmps105
      go_wp2
      all_goals go_ret
      all_goals exact ⟨by rw [HR.out]; rfl, hb.out⟩
  · have hn3 : 1 ≤ n := by omega
    have hn4 : n ≤ 536870911 := by omega
    clear hn
    by_cases hg : k = 3 ∨ k = 4
    · have HR := Lib.hid (tcheck_group hn3 hn4 hg)
      rcases hg with rfl | rfl
      all_goals
        go_enter Tryd.func105, Tryd.ntmps105
        go_wp2
        go_ret
        exact ⟨by rw [HR.out]; rfl, hb.out⟩
    · by_cases ho : k = 0 ∨ k = 1 ∨ k = 2 ∨ k = 5
      · have HR := Lib.hid (tcheck_ok hn3 hn4 ho)
        clear hg
        rcases ho with rfl | rfl | rfl | rfl
        all_goals
          go_enter Tryd.func105, Tryd.ntmps105
          go_wp2
          go_ret
          exact ⟨by rw [HR.out]; rfl, hb.out⟩
      · have HR := Lib.hid (tcheck_kind hn3 hn4 ho hg)
        have b0 : (k == 0) = false := by simp; omega
        have b1 : (k == 1) = false := by simp; omega
        have b2 : (k == 2) = false := by simp; omega
        have b5 : (k == 5) = false := by simp; omega
        have b3 : (k == 3) = false := by simp; omega
        have b4 : (k == 4) = false := by simp; omega
        clear ho hg
        go_enter Tryd.func105, Tryd.ntmps105
        go_wp2
        go_ret
        exact ⟨by rw [HR.out]; rfl, hb.out⟩
set_option maxRecDepth 100000 in
theorem tCheckR_any (n k : Int) (w : World) (hn1 : -9223372036854775808 ≤ n) (hn2 : n ≤ 9223372036854775807) (hk1 : -9223372036854775808 ≤ k) (hk2 : k ≤ 9223372036854775807) :
    Calls Tryd.prog 102 #[.int .i64 n, .int .i64 k] w fun e w' => e = .returned (.int .i64 (tcheck n k)) ∧ w = w' := by
  by_cases hn : n < 1 ∨ 536870911 < n
  · have HR := Lib.hid (tcheck_num (k := k) hn)
    rcases hn with hn | hn
    · go_enter Tryd.func102, Tryd.ntmps102
      go_wp2
      go_ret
      exact ⟨by rw [HR.out]; rfl, rfl⟩
    · go_enter Tryd.func102, Tryd.ntmps102
      go_wp2
      all_goals go_ret
      all_goals exact ⟨by rw [HR.out]; rfl, rfl⟩
  · have hn3 : 1 ≤ n := by omega
    have hn4 : n ≤ 536870911 := by omega
    clear hn
    by_cases hg : k = 3 ∨ k = 4
    · have HR := Lib.hid (tcheck_group hn3 hn4 hg)
      rcases hg with rfl | rfl
      all_goals
        go_enter Tryd.func102, Tryd.ntmps102
        go_wp2
        go_ret
        exact ⟨by rw [HR.out]; rfl, rfl⟩
    · by_cases ho : k = 0 ∨ k = 1 ∨ k = 2 ∨ k = 5
      · have HR := Lib.hid (tcheck_ok hn3 hn4 ho)
        clear hg
        rcases ho with rfl | rfl | rfl | rfl
        all_goals
          go_enter Tryd.func102, Tryd.ntmps102
          go_wp2
          go_ret
          exact ⟨by rw [HR.out]; rfl, rfl⟩
      · have HR := Lib.hid (tcheck_kind hn3 hn4 ho hg)
        have b0 : (k != 0) = true := by simp; omega
        have b1 : (k != 1) = true := by simp; omega
        have b2 : (k != 2) = true := by simp; omega
        have b5 : (k != 5) = true := by simp; omega
        have b3 : (k == 3) = false := by simp; omega
        have b4 : (k == 4) = false := by simp; omega
        clear ho hg
        go_enter Tryd.func102, Tryd.ntmps102
        go_wp2
        go_ret
        exact ⟨by rw [HR.out]; rfl, rfl⟩
theorem tcode_bits {n k : Int} (h1 : 1 ≤ n) (h2 : n ≤ 536870911) (h3 : 0 ≤ k) (h4 : k ≤ 7) : bits .or .u64 (n * 8) k = ((tcode n k : Nat) : Int) := by
  rw [u64_or _ _ (by omega) (by omega) (by omega) (by omega), nat_join 3 (n * 8).toNat k.toNat (by omega) (by omega)]
  unfold tcode; omega
theorem tcode_lt {n k : Int} (h2 : n ≤ 536870911) (h4 : k ≤ 7) : tcode n k < 18446744073709551616 := by unfold tcode; omega
/-- a right tag's code -/
theorem tCode_any (n k : Int) (w : World) (h1 : 1 ≤ n) (h2 : n ≤ 536870911) (h3 : 0 ≤ k) (h4 : k ≤ 7) :
    Calls Tryd.prog 130 #[.agg #[.int .i64 n, .int .i64 k]] w fun e w' => e = .returned (.int .u64 (tcode n k)) ∧ Below w.heap.size w w' := by
  have hb := Lib.hid (tcode_bits h1 h2 h3 h4)
  go_enter Tryd.func130, Tryd.ntmps130
  go_wp2
  go_ret
  exact ⟨ret1 (vint hb.out), (Below.refl _ _).alloc (Nat.le_refl _) _⟩
end Go.Proofs.YtgehbabcpmkgaaaDoor
