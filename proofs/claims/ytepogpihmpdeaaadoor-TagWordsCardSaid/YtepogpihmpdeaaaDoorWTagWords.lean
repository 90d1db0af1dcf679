/- The walk of TagWords: the words of all wire kinds. -/
import Derived.Test.YtepogpihmpdeaaaDoorTagWord
namespace Go.Proofs.YtepogpihmpdeaaaDoor
open Go Go.RowKit
theorem tw0 : tword 0 = ⟨#[118, 97, 114, 105, 110, 116]⟩ := rfl
theorem tw1 : tword 1 = ⟨#[102, 105, 120, 101, 100, 54, 52]⟩ := rfl
theorem tw2 : tword 2 = ⟨#[98, 121, 116, 101, 115]⟩ := rfl
theorem tw3 : tword 3 = ⟨#[]⟩ := rfl
theorem tw4 : tword 4 = ⟨#[]⟩ := rfl
theorem tw5 : tword 5 = ⟨#[102, 105, 120, 101, 100, 51, 50]⟩ := rfl
set_option maxHeartbeats 1000000 in
set_option maxRecDepth 100000 in
theorem walkTagWords (w : World) (k : Int) (hk : -9223372036854775808 ≤ k ∧ k ≤ 9223372036854775807) (ea : Nat → Addr) (he5 : ErrAt w 2 (ea 5)) (he6 : ErrAt w 3 (ea 6)) (he12 : ErrAt w 4 (ea 12)) :
    Calls Tryd.prog 5 #[.int .i64 k] w fun e w' => e = .returned (.bool true) ∧ Below w.heap.size w w' := by
  obtain ⟨hk1, hk2⟩ := hk
  have HA := Lib.hid (alive03 ea w he5 he6 he12)
  have HW := Lib.hid (fun w => tWord_any k w hk1 hk2)
  clear he5 he6 he12
  by_cases hin : 0 ≤ k ∧ k ≤ 5
  · obtain ⟨h0, h5⟩ := hin
    have hc : k = 0 ∨ k = 1 ∨ k = 2 ∨ k = 3 ∨ k = 4 ∨ k = 5 := by omega
    clear hk1 hk2 h0 h5
    rcases hc with rfl | rfl | rfl | rfl | rfl | rfl
    all_goals
      go_enter Tryd.func5, Tryd.ntmps5
      go_wp2_with fail
      refine HA.out.mono ?_
      rintro e w1 ⟨rfl, hb1⟩
      clear HA
      go_wp2_with fail
      refine (HW.out _).mono ?_
      rintro e w2 ⟨rfl, rfl⟩
      first | rw [tw0] | rw [tw1] | rw [tw2] | rw [tw3] | rw [tw4] | rw [tw5]
      go_wp2_with fail
      go_ret
      exact ⟨rfl, hb1.alloc (by have := hb1.size; omega) _⟩
  · have d0 : decide (0 ≤ k) = true ∨ decide (0 ≤ k) = false := by cases decide (0 ≤ k) <;> simp
    have hW : ∀ w, Calls Tryd.prog 21 #[.int .i64 k] w fun e w' => e = .returned (.string ⟨#[]⟩) ∧ w = w' := fun w => by
      have h := HW.out w
      have e : tword k = ⟨#[]⟩ := by
        unfold tword; rw [if_neg (by omega), if_neg (by omega), if_neg (by omega), if_neg (by omega)]; rfl
      rw [e] at h; exact h
    have HX := Lib.hid hW
    clear hW HW
    rcases d0 with d0 | d0
    · have d1 : decide (k ≤ 5) = false := by simp at d0 ⊢; omega
      clear hin
      go_enter Tryd.func5, Tryd.ntmps5
      go_wp2_with fail
      refine HA.out.mono ?_
      rintro e w1 ⟨rfl, hb1⟩
      clear HA
      go_wp2_with fail
      refine (HX.out _).mono ?_
      rintro e w2 ⟨rfl, rfl⟩
      go_wp2_with fail
      go_ret
      exact ⟨rfl, hb1⟩
    · clear hin
      go_enter Tryd.func5, Tryd.ntmps5
      go_wp2_with fail
      refine HA.out.mono ?_
      rintro e w1 ⟨rfl, hb1⟩
      clear HA
      go_wp2_with fail
      refine (HX.out _).mono ?_
      rintro e w2 ⟨rfl, rfl⟩
      go_wp2_with fail
      go_ret
      exact ⟨rfl, hb1⟩
end Go.Proofs.YtepogpihmpdeaaaDoor
