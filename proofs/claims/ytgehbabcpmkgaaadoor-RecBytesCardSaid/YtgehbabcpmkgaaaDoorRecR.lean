/- rec.Right, known, Word, and the reference's Right. -/
import Derived.Test.YtgehbabcpmkgaaaDoorLib
import Derived.Test.YtgehbabcpmkgaaaDoorStr
namespace Go.Proofs.YtgehbabcpmkgaaaDoor
open Go Go.RowKit
set_option linter.unusedVariables false
/-- is a record right? -/
def recR (k f t : Int) : Bool := decide (0 ≤ t ∧ t < 400 ∧ (k = 1 ∧ f = -1 ∨ k = 2 ∧ 0 ≤ f ∧ f = t - 1 ∨ k = 3 ∧ 0 ≤ f ∧ f < t - 1))
theorem recR_true {k f t : Int} (h : recR k f t = true) : 0 ≤ t ∧ t < 400 ∧ (k = 1 ∧ f = -1 ∨ k = 2 ∧ 0 ≤ f ∧ f = t - 1 ∨ k = 3 ∧ 0 ≤ f ∧ f < t - 1) := of_decide_eq_true h
/-- is it a kind? -/
def recK (k : Int) : Bool := decide (1 ≤ k ∧ k ≤ 3)
theorem recKnown_any (k : Int) (w : World) : Calls Tryd.prog 80 #[.int .i64 k] w fun e w' => e = .returned (.bool (recK k)) ∧ w = w' := by
  by_cases h1 : 1 ≤ k
  · by_cases h2 : k ≤ 3
    · have e0 : recK k = true := decide_eq_true ⟨h1, h2⟩
      rw [e0]
      have e1 : decide (k ≥ 1) = true := decide_eq_true h1
      have e2 : decide (k ≤ 3) = true := decide_eq_true h2
      go_enter Tryd.func80, Tryd.ntmps80
      go_wp2_with fail
      go_ret
      exact ⟨rfl, rfl⟩
    · have e0 : recK k = false := decide_eq_false (by omega)
      rw [e0]
      have e1 : decide (k ≥ 1) = true := decide_eq_true h1
      have e2 : decide (k ≤ 3) = false := decide_eq_false h2
      go_enter Tryd.func80, Tryd.ntmps80
      go_wp2_with fail
      go_ret
      exact ⟨rfl, rfl⟩
  · have e0 : recK k = false := decide_eq_false (by omega)
    rw [e0]
    have e1 : decide (k ≥ 1) = false := decide_eq_false h1
    go_enter Tryd.func80, Tryd.ntmps80
    go_wp2_with fail
    go_ret
    exact ⟨rfl, rfl⟩
/-- a kind's word -/
def recWord (k : Int) : List UInt8 := if k = 1 then [115, 110, 97, 112, 115, 104, 111, 116] else if k = 2 then [100, 101, 108, 116, 97] else if k = 3 then [115, 107, 105, 112] else []
theorem recWord_any (k : Int) (w : World) : Calls Tryd.prog 29 #[.int .i64 k] w fun e w' => e = .returned (.string (strB (recWord k))) ∧ w = w' := by
  by_cases h1 : k = 1
  · subst h1
    go_enter Tryd.func29, Tryd.ntmps29
    go_wp2_with fail
    go_ret
    exact ⟨rfl, rfl⟩
  · by_cases h2 : k = 2
    · subst h2
      go_enter Tryd.func29, Tryd.ntmps29
      go_wp2_with fail
      go_ret
      exact ⟨rfl, rfl⟩
    · by_cases h3 : k = 3
      · subst h3
        go_enter Tryd.func29, Tryd.ntmps29
        go_wp2_with fail
        go_ret
        exact ⟨rfl, rfl⟩
      · have e1 : (k == 1) = false := by simpa using h1
        have e2 : (k == 2) = false := by simpa using h2
        have e3 : (k == 3) = false := by simpa using h3
        have e0 : Hid (recWord k = []) := by show _ = _; unfold recWord; rw [if_neg h1, if_neg h2, if_neg h3]
        go_enter Tryd.func29, Tryd.ntmps29
        go_wp2_with fail
        go_ret
        exact ⟨by rw [e0.out]; rfl, rfl⟩
section
variable (k f t : Int) (a : Option Addr) (n c : Nat) (w : World) (hk1 : -9223372036854775808 ≤ k) (hk2 : k ≤ 9223372036854775807) (hf1 : -9223372036854775808 ≤ f) (hf2 : f ≤ 9223372036854775807) (ht1 : -9223372036854775808 ≤ t) (ht2 : t ≤ 9223372036854775807)
include hk1 hk2 hf1 hf2 ht1 ht2
set_option maxRecDepth 100000 in
set_option maxHeartbeats 4000000 in
theorem recRight_any : Calls Tryd.prog 27 #[.agg #[.int .i64 k, .int .i64 f, .int .i64 t, .slice a n c]] w fun e w' => e = .returned (.bool (recR k f t)) ∧ Below w.heap.size w w' := by
  have HB : Hid (Below w.heap.size w (w.alloc (.cells #[.int .i64 k, .int .i64 f, .int .i64 t, .slice a n c] 37))) := (Below.refl _ _).alloc (Nat.le_refl _) _
  by_cases h0 : 0 ≤ t ∧ t < 400
  · have ht0 := h0.1
    have ht4 := h0.2
    have t0 : decide (t < 0) = false := decide_eq_false (by omega)
    have t4 : decide (t ≥ 400) = false := decide_eq_false (by omega)
    have ts : IntKind.i64.wrap (t - 1) = t - 1 := IntWalk.i64_in _ (by omega)
    clear h0
    by_cases h1 : k = 1
    · subst h1
      have e0 : Hid (recR 1 f t = (f == -1)) := by
        show recR 1 f t = decide (f = -1)
        exact decide_eq_decide.2 (by omega)
      go_enter Tryd.func27, Tryd.ntmps27
      go_wp2_with fail
      go_ret
      exact ⟨by rw [e0.out]; rfl, HB.out⟩
    · by_cases h2 : k = 2
      · subst h2
        by_cases hf0 : 0 ≤ f
        · have e1 : decide (f ≥ 0) = true := decide_eq_true hf0
          have e0 : Hid (recR 2 f t = (f == t - 1)) := by
            show recR 2 f t = decide (f = t - 1)
            exact decide_eq_decide.2 (by omega)
          go_enter Tryd.func27, Tryd.ntmps27
          go_wp2_with fail
          go_ret
          exact ⟨by rw [e0.out]; rfl, HB.out⟩
        · have e1 : decide (f ≥ 0) = false := decide_eq_false hf0
          have e0 : Hid (recR 2 f t = false) := decide_eq_false (by omega)
          go_enter Tryd.func27, Tryd.ntmps27
          go_wp2_with fail
          go_ret
          exact ⟨by rw [e0.out]; rfl, HB.out⟩
      · have n1 : (k == 1) = false := by simpa using h1
        have n2 : (k == 2) = false := by simpa using h2
        by_cases h3 : k = 3
        · subst h3
          by_cases hf0 : 0 ≤ f
          · have e1 : decide (f ≥ 0) = true := decide_eq_true hf0
            have e0 : Hid (recR 3 f t = decide (f < t - 1)) := decide_eq_decide.2 (by omega)
            go_enter Tryd.func27, Tryd.ntmps27
            go_wp2_with fail
            go_ret
            exact ⟨by rw [e0.out]; rfl, HB.out⟩
          · have e1 : decide (f ≥ 0) = false := decide_eq_false hf0
            have e0 : Hid (recR 3 f t = false) := decide_eq_false (by omega)
            go_enter Tryd.func27, Tryd.ntmps27
            go_wp2_with fail
            go_ret
            exact ⟨by rw [e0.out]; rfl, HB.out⟩
        · have n3 : (k == 3) = false := by simpa using h3
          have e0 : Hid (recR k f t = false) := decide_eq_false (by omega)
          go_enter Tryd.func27, Tryd.ntmps27
          go_wp2_with fail
          go_ret
          exact ⟨by rw [e0.out]; rfl, HB.out⟩
  · have e0 : Hid (recR k f t = false) := decide_eq_false (by omega)
    by_cases h1 : t < 0
    · have t0 : decide (t < 0) = true := decide_eq_true h1
      go_enter Tryd.func27, Tryd.ntmps27
      go_wp2_with fail
      go_ret
      exact ⟨by rw [e0.out]; rfl, HB.out⟩
    · have t0 : decide (t < 0) = false := decide_eq_false h1
      have t4 : decide (t ≥ 400) = true := decide_eq_true (by omega)
      clear h0
      go_enter Tryd.func27, Tryd.ntmps27
      go_wp2_with fail
      go_ret
      exact ⟨by rw [e0.out]; rfl, HB.out⟩
end
section
variable (k f t : Int) (s : ByteArray) (w : World) (hk1 : -9223372036854775808 ≤ k) (hk2 : k ≤ 9223372036854775807) (hf1 : -9223372036854775808 ≤ f) (hf2 : f ≤ 9223372036854775807) (ht1 : -9223372036854775808 ≤ t) (ht2 : t ≤ 9223372036854775807)
include hk1 hk2 hf1 hf2 ht1 ht2
set_option maxRecDepth 100000 in
set_option maxHeartbeats 4000000 in
theorem rrecRight_any : Calls Tryd.prog 25 #[.agg #[.int .i64 k, .int .i64 f, .int .i64 t, .string s]] w fun e w' => e = .returned (.bool (recR k f t)) ∧ Below w.heap.size w w' := by
  have HB : Hid (Below w.heap.size w (w.alloc (.cells #[.int .i64 k, .int .i64 f, .int .i64 t, .string s] 39))) := (Below.refl _ _).alloc (Nat.le_refl _) _
  by_cases h0 : 1 ≤ k ∧ k ≤ 3 ∧ 0 ≤ t ∧ t ≤ 399
  · obtain ⟨hk3, hk4, ht3, ht4⟩ := h0
    have c1 : decide (k < 1) = false := decide_eq_false (by omega)
    have c2 : decide (k > 3) = false := decide_eq_false (by omega)
    have c3 : decide (t < 0) = false := decide_eq_false (by omega)
    have c4 : decide (t > 399) = false := decide_eq_false (by omega)
    by_cases h1 : k = 1
    · subst h1
      have e0 : Hid (recR 1 f t = (f == -1)) := by
        show recR 1 f t = decide (f = -1)
        exact decide_eq_decide.2 (by omega)
      go_enter Tryd.func25, Tryd.ntmps25
      go_wp2_with fail
      go_ret
      exact ⟨by rw [e0.out]; rfl, HB.out⟩
    · have n1 : (k == 1) = false := by simpa using h1
      by_cases h2 : 0 ≤ f ∧ f < t
      · obtain ⟨hf3, hf4⟩ := h2
        have c5 : decide (f < 0) = false := decide_eq_false (by omega)
        have c6 : decide (f ≥ t) = false := decide_eq_false (by omega)
        have ts : IntKind.i64.wrap (t - f) = t - f := IntWalk.i64_in _ (by omega)
        have e0 : Hid (recR k f t = ((t - f == 1) == (k == 2))) := by
          show recR k f t = (decide (t - f = 1) == decide (k = 2))
          unfold recR
          by_cases a1 : t - f = 1 <;> by_cases a2 : k = 2 <;> simp [a1, a2] <;> omega
        go_enter Tryd.func25, Tryd.ntmps25
        go_wp2_with fail
        go_ret
        exact ⟨by rw [e0.out]; rfl, HB.out⟩
      · have e0 : Hid (recR k f t = false) := decide_eq_false (by omega)
        by_cases h3 : f < 0
        · have c5 : decide (f < 0) = true := decide_eq_true h3
          go_enter Tryd.func25, Tryd.ntmps25
          go_wp2_with fail
          go_ret
          exact ⟨by rw [e0.out]; rfl, HB.out⟩
        · have c5 : decide (f < 0) = false := decide_eq_false h3
          have c6 : decide (f ≥ t) = true := decide_eq_true (by omega)
          go_enter Tryd.func25, Tryd.ntmps25
          go_wp2_with fail
          go_ret
          exact ⟨by rw [e0.out]; rfl, HB.out⟩
  · have e0 : Hid (recR k f t = false) := decide_eq_false (by omega)
    by_cases h1 : k < 1
    · have c1 : decide (k < 1) = true := decide_eq_true h1
      go_enter Tryd.func25, Tryd.ntmps25
      go_wp2_with fail
      go_ret
      exact ⟨by rw [e0.out]; rfl, HB.out⟩
    · have c1 : decide (k < 1) = false := decide_eq_false h1
      by_cases h2 : k > 3
      · have c2 : decide (k > 3) = true := decide_eq_true h2
        go_enter Tryd.func25, Tryd.ntmps25
        go_wp2_with fail
        go_ret
        exact ⟨by rw [e0.out]; rfl, HB.out⟩
      · have c2 : decide (k > 3) = false := decide_eq_false h2
        by_cases h3 : t < 0
        · have c3 : decide (t < 0) = true := decide_eq_true h3
          go_enter Tryd.func25, Tryd.ntmps25
          go_wp2_with fail
          go_ret
          exact ⟨by rw [e0.out]; rfl, HB.out⟩
        · have c3 : decide (t < 0) = false := decide_eq_false h3
          have c4 : decide (t > 399) = true := decide_eq_true (by omega)
          clear h0
          go_enter Tryd.func25, Tryd.ntmps25
          go_wp2_with fail
          go_ret
          exact ⟨by rw [e0.out]; rfl, HB.out⟩
end
end Go.Proofs.YtgehbabcpmkgaaaDoor
