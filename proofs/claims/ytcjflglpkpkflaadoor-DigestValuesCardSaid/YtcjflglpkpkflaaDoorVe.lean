/- cmp.Compare at int, uint64, string; cmp.Or at int. -/
import Derived.Test.YtcjflglpkpkflaaDoorVa
import Derived.Test.YtcjflglpkpkflaaDoorStr
import Derived.BigQuiet
import Derived.WalkLawsBesides
namespace Go.Proofs.YtcjflglpkpkflaaDoor
open Go Go.RowKit
set_option linter.unusedVariables false
theorem less_cmpB : ∀ a b : List UInt8, Op.bytesLess a b = decide (cmpB a b < 0)
  | [], [] => by simp [Op.bytesLess, cmpB]
  | [], _ :: _ => by simp [Op.bytesLess, cmpB]
  | _ :: _, [] => by simp [Op.bytesLess, cmpB]
  | x :: a, y :: b => by
    have ih := less_cmpB a b
    by_cases h1 : x < y
    · have h : x.toNat < y.toNat := by simpa [UInt8.lt_iff_toNat_lt] using h1
      simp [Op.bytesLess, cmpB, h1, sgnI, orI, h]
    · by_cases h2 : y < x
      · have h : y.toNat < x.toNat := by simpa [UInt8.lt_iff_toNat_lt] using h2
        have h' : ¬ x.toNat < y.toNat := by omega
        simp [Op.bytesLess, cmpB, h1, sgnI, orI, h, h']
        intro e
        subst e
        omega
      · have h : ¬ y.toNat < x.toNat := by simpa [UInt8.lt_iff_toNat_lt] using h2
        have h' : ¬ x.toNat < y.toNat := by simpa [UInt8.lt_iff_toNat_lt] using h1
        obtain rfl : x = y := UInt8.toNat_inj.1 (by omega)
        simp [Op.bytesLess, cmpB, sgnI, orI, ih]
theorem nanI_any (x : Int) (w : World) : Calls Tryd.prog 87 #[.int .i64 x] w fun e w' => e = .returned (.bool false) ∧ w = w' := by
  have t1 : (x != x) = false := by simp
  go_enter Tryd.func87, Tryd.ntmps87
  go_wp2_with fail
  go_ret
  exact ⟨rfl, rfl⟩
theorem cmpI_any (x y : Int) (w : World) : Calls Tryd.prog 78 #[.int .i64 x, .int .i64 y] w fun e w' => e = .returned (.int .i64 (sgnI x y)) ∧ w = w' := by
  by_cases h1 : x < y
  · rw [show sgnI x y = -1 from by unfold sgnI; rw [if_pos h1]]
    go_enter Tryd.func78, Tryd.ntmps78
    go_wp2_with (first | (go_at_call 87; refine (nanI_any _ _).mono ?_; rintro e w1 ⟨rfl, rfl⟩))
    go_ret
    exact ⟨rfl, rfl⟩
  · by_cases h2 : y < x
    · rw [show sgnI x y = 1 from by unfold sgnI; rw [if_neg h1, if_pos h2]]
      go_enter Tryd.func78, Tryd.ntmps78
      go_wp2_with (first | (go_at_call 87; refine (nanI_any _ _).mono ?_; rintro e w1 ⟨rfl, rfl⟩))
      go_ret
      exact ⟨rfl, rfl⟩
    · rw [show sgnI x y = 0 from by unfold sgnI; rw [if_neg h1, if_neg h2]]
      go_enter Tryd.func78, Tryd.ntmps78
      go_wp2_with (first | (go_at_call 87; refine (nanI_any _ _).mono ?_; rintro e w1 ⟨rfl, rfl⟩))
      go_ret
      exact ⟨rfl, rfl⟩
theorem nanN_any (x : Nat) (w : World) : Calls Tryd.prog 88 #[.int .u64 (x : Int)] w fun e w' => e = .returned (.bool false) ∧ w = w' := by
  have t1 : ((x : Int) != x) = false := by simp
  go_enter Tryd.func88, Tryd.ntmps88
  go_wp2_with fail
  go_ret
  exact ⟨rfl, rfl⟩
theorem cmpN_any (x y : Nat) (w : World) : Calls Tryd.prog 79 #[.int .u64 (x : Int), .int .u64 (y : Int)] w fun e w' => e = .returned (.int .i64 (sgnI x y)) ∧ w = w' := by
  by_cases h1 : x < y
  · rw [show sgnI x y = -1 from by unfold sgnI; rw [if_pos (by omega)]]
    go_enter Tryd.func79, Tryd.ntmps79
    go_wp2_with (first | (go_at_call 88; refine (nanN_any _ _).mono ?_; rintro e w1 ⟨rfl, rfl⟩))
    go_ret
    exact ⟨rfl, rfl⟩
  · by_cases h2 : y < x
    · rw [show sgnI x y = 1 from by unfold sgnI; rw [if_neg (by omega), if_pos (by omega)]]
      go_enter Tryd.func79, Tryd.ntmps79
      go_wp2_with (first | (go_at_call 88; refine (nanN_any _ _).mono ?_; rintro e w1 ⟨rfl, rfl⟩))
      go_ret
      exact ⟨rfl, rfl⟩
    · rw [show sgnI x y = 0 from by unfold sgnI; rw [if_neg (by omega), if_neg (by omega)]]
      go_enter Tryd.func79, Tryd.ntmps79
      go_wp2_with (first | (go_at_call 88; refine (nanN_any _ _).mono ?_; rintro e w1 ⟨rfl, rfl⟩))
      go_ret
      exact ⟨rfl, rfl⟩
theorem cmpB_pm (a b : List UInt8) : cmpB a b = -1 ∨ cmpB a b = 0 ∨ cmpB a b = 1 := by
  match a, b with
  | [], [] => simp [cmpB]
  | [], _ :: _ => simp [cmpB]
  | _ :: _, [] => simp [cmpB]
  | x :: a, y :: b =>
    have h3 : sgnI x.toNat y.toNat = -1 ∨ sgnI x.toNat y.toNat = 0 ∨ sgnI x.toNat y.toNat = 1 := by unfold sgnI; split <;> (try split) <;> simp
    have h4 := cmpB_pm a b
    simp only [cmpB]
    unfold orI
    rcases h3 with h3 | h3 | h3 <;> rw [h3]
    · simp
    · simpa using h4
    · simp
theorem nanS_any (x : List UInt8) (w : World) : Calls Tryd.prog 89 #[.string (strB x)] w fun e w' => e = .returned (.bool false) ∧ w = w' := by
  have t1 : ((strB x).toList != (strB x).toList) = false := by simp
  go_enter Tryd.func89, Tryd.ntmps89
  go_wp2_with fail
  go_ret
  exact ⟨rfl, rfl⟩
theorem strB_list (x : List UInt8) : (strB x).toList = x := by simp [strB, ByteArray.toList_eq]
theorem cmpS_any (x y : List UInt8) (w : World) : Calls Tryd.prog 80 #[.string (strB x), .string (strB y)] w fun e w' => e = .returned (.int .i64 (cmpB x y)) ∧ w = w' := by
  have hs := cmpB_swap x y
  have l1 : Op.bytesLess (strB x).toList (strB y).toList = decide (cmpB x y < 0) := by rw [strB_list, strB_list, less_cmpB]
  have l2 : Op.bytesLess (strB y).toList (strB x).toList = decide (cmpB y x < 0) := by rw [strB_list, strB_list, less_cmpB]
  have l3 : ((strB x).toList == (strB y).toList) = decide (cmpB x y = 0) := by rw [strB_list, strB_list, Bool.eq_iff_iff]; simp [cmpB_zero]
  rcases cmpB_pm x y with h | h | h
  all_goals
    rw [h] at l1 l3 hs
    rw [hs] at l2
    rw [h]
    simp only [Int.reduceNeg, Int.reduceLT, Int.reduceEq, decide_true, decide_false, Int.neg_neg, Int.neg_zero] at l1 l2 l3
    clear hs h
    go_enter Tryd.func80, Tryd.ntmps80
    go_wp2_with (first | (go_at_call 89; refine (nanS_any _ _).mono ?_; rintro e w1 ⟨rfl, rfl⟩))
    go_ret
    exact ⟨rfl, rfl⟩
/-- two numbers, the first that is not 0 -/
theorem orI_any (a b : Int) (g : Nat) (w : World) (h0 : w.cell? ⟨g, 0, none⟩ = some (.int .i64 a)) (h1 : w.cell? ⟨g, 1, none⟩ = some (.int .i64 b)) :
    Calls Tryd.prog 81 #[.slice (some ⟨g, 0, none⟩) 2 2] w fun e w' => e = .returned (.int .i64 (orI a b)) ∧ w = w' := by
  have H0 := Lib.hid h0
  have H1 := Lib.hid h1
  clear h0 h1
  have HZ : Hid (Ending.returned (.int .i64 (orI a b)) = .returned (.int .i64 (orI a b))) := rfl
  obtain ⟨R, hR⟩ : ∃ R, R = orI a b := ⟨_, rfl⟩
  have HR := Lib.hid hR
  clear hR
  go_enter Tryd.func81, Tryd.ntmps81
  go_wp2_with fail
  go_loop [8] (fun i => ∃ k : Nat, k ≤ 2 ∧ i = .int .i64 k ∧ (1 ≤ k → a = 0) ∧ (2 ≤ k → b = 0)) (fun i => 2 - (intOf i).toNat)
  case atStart => exact ⟨0, by omega, rfl, fun h => by omega, fun h => by omega⟩
  case round =>
    obtain ⟨k, hk, rfl, ha, hb⟩ := hrel
    have HA := Lib.hid ha
    have HB := Lib.hid hb
    clear ha hb
    by_cases k0 : k = 0
    · subst k0
      have c0 := H0.out
      by_cases e : a = 0
      · have HE := Lib.hid e
        have t1 : (a != 0) = false := by simpa using e
        clear e
        go_wp2_with fail
        go_round
        case rel => exact ⟨1, by omega, rfl, fun _ => HE.out, fun h => by omega⟩
        case measure => simp [intOf]
      · have t1 : (a != 0) = true := by simpa using e
        have HE := Lib.hid e
        clear e
        go_wp2_with fail
        go_ret
        exact ⟨congrArg (fun z => Ending.returned (Value.int .i64 z)) (by unfold orI; rw [if_neg HE.out]), rfl⟩
    · by_cases k1 : k = 1
      · subst k1
        have c1 := H1.out
        have ha := HA.out (by omega)
        have HE := Lib.hid ha
        clear ha HA HB k0
        by_cases e : b = 0
        · have HE2 := Lib.hid e
          have t1 : (b != 0) = false := by simpa using e
          clear e
          go_wp2_with fail
          go_round
          case rel => exact ⟨2, by omega, rfl, fun _ => HE.out, fun _ => HE2.out⟩
          case measure => simp [intOf]
        · have t1 : (b != 0) = true := by simpa using e
          clear e
          go_wp2_with fail
          go_ret
          exact ⟨congrArg (fun z => Ending.returned (Value.int .i64 z)) (by unfold orI; rw [if_pos HE.out]), rfl⟩
      · have HE := Lib.hid (HA.out (by omega))
        have HE2 := Lib.hid (HB.out (by omega))
        obtain rfl : k = 2 := by omega
        clear k0 k1 HA HB hk
        go_wp2_with fail
        go_ret
        exact ⟨congrArg (fun z => Ending.returned (Value.int .i64 z)) (by unfold orI; rw [if_pos HE.out, HE2.out]), rfl⟩
theorem orA_any (a b : Int) (W : World) (T : TypeId) : Calls Tryd.prog 81 #[.slice (some ⟨W.heap.size, 0, none⟩) 2 2] (W.alloc (.cells #[.int .i64 a, .int .i64 b] T)) fun e w' => e = .returned (.int .i64 (orI a b)) ∧ W.alloc (.cells #[.int .i64 a, .int .i64 b] T) = w' :=
  orI_any a b _ _ (by go_simp) (by go_simp)
theorem orD_any (a b : Int) (W : World) (T : TypeId) : Calls Tryd.prog 81 #[.slice (some ⟨W.heap.size, 0, none⟩) 2 2] (W.alloc (.cells #[.int .i64 a, .int .i64 b] T)).drew fun e w' => e = .returned (.int .i64 (orI a b)) ∧ (W.alloc (.cells #[.int .i64 a, .int .i64 b] T)).drew = w' :=
  orI_any a b _ _ (by go_simp) (by go_simp)
end Go.Proofs.YtcjflglpkpkflaaDoor
