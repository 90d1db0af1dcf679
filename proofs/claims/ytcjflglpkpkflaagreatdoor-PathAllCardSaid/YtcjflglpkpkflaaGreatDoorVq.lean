/- The reference's order of values: numbers, texts, Compare, Same. -/
import Derived.Test.YtcjflglpkpkflaaGreatDoorVl
import Derived.Deep.RegionHeld3
import Derived.Deep.QuietTactic
import Derived.BigQuiet
namespace Go.Proofs.YtcjflglpkpkflaaGreatDoor
open Go Go.RowKit
set_option linter.unusedVariables false
theorem rnumbers_any (x y : Nat) (w : World) : Calls Tryz.prog 64 #[.int .u64 (x : Int), .int .u64 (y : Int)] w fun e w' => e = .returned (.int .i64 (sgnI x y)) ∧ w = w' := by
  by_cases h1 : x < y
  · rw [show sgnI x y = -1 from by unfold sgnI; rw [if_pos (by omega)]]
    go_enter Tryz.func64, Tryz.ntmps64
    go_wp2_with fail
    go_ret
    exact ⟨rfl, rfl⟩
  · by_cases h2 : y < x
    · rw [show sgnI x y = 1 from by unfold sgnI; rw [if_neg (by omega), if_pos (by omega)]]
      go_enter Tryz.func64, Tryz.ntmps64
      go_wp2_with fail
      go_ret
      exact ⟨rfl, rfl⟩
    · rw [show sgnI x y = 0 from by unfold sgnI; rw [if_neg (by omega), if_neg (by omega)]]
      go_enter Tryz.func64, Tryz.ntmps64
      go_wp2_with fail
      go_ret
      exact ⟨rfl, rfl⟩
theorem rtexts_any (x y : List UInt8) (w : World) : Calls Tryz.prog 65 #[.string (strB x), .string (strB y)] w fun e w' => e = .returned (.int .i64 (cmpB x y)) ∧ w = w' := by
  have hs := cmpB_swap x y
  have l1 : Op.bytesLess (strB x).toList (strB y).toList = decide (cmpB x y < 0) := by rw [strB_list, strB_list, less_cmpB]
  have l2 : Op.bytesLess (strB y).toList (strB x).toList = decide (cmpB y x < 0) := by rw [strB_list, strB_list, less_cmpB]
  have l3 : ((strB x).toList == (strB y).toList) = decide (cmpB x y = 0) := by rw [strB_list, strB_list, Bool.eq_iff_iff]; simp [cmpB_zero]
  rcases cmpB_pm x y with h | h | h
  all_goals
    rw [h] at l1 l3 hs
    rw [hs] at l2
    rw [h]
    simp only [Int.reduceNeg, Int.reduceLT, Int.reduceEq, decide_true, decide_false, Int.neg_neg, Int.neg_zero] at l1 l2 l3
    clear hs h
    go_enter Tryz.func65, Tryz.ntmps65
    go_wp2_with fail
    go_ret
    exact ⟨rfl, rfl⟩
/-- the reference's order of a value and all others -/
def RCmpC (v : V) : Prop := ∀ (v' : V) (a a' : A3) (S S' : Nat → Prop) (w : World), Rep S w v a → Rep S' w v' a' →
    Calls Tryz.prog 43 #[vG (v, a), vG (v', a')] w fun e w' => e = .returned (.int .i64 (cmpV v v')) ∧ Below w.heap.size w w'
theorem exitF {fs fs2 : List (Int × V)} {m : Nat} (h : m ≤ fs.length) (h2 : m ≤ fs2.length) (he : ¬ (m < fs.length ∧ m < fs2.length)) : cmpF (fs.drop m) (fs2.drop m) = sgnI fs.length fs2.length := by
  by_cases e1 : m < fs.length
  · obtain ⟨⟨n, v⟩, hq⟩ : ∃ p, fs[m]? = some p := ⟨_, List.getElem?_eq_getElem e1⟩
    rw [drop_fields hq, List.drop_of_length_le (by omega : fs2.length ≤ m), cmpF]
    unfold sgnI; rw [if_neg (by omega), if_pos (by omega)]
  · by_cases e2 : m < fs2.length
    · obtain ⟨⟨n, v⟩, hq⟩ : ∃ p, fs2[m]? = some p := ⟨_, List.getElem?_eq_getElem e2⟩
      rw [drop_fields hq, List.drop_of_length_le (by omega : fs.length ≤ m), cmpF]
      unfold sgnI; rw [if_pos (by omega)]
    · rw [List.drop_of_length_le (by omega : fs.length ≤ m), List.drop_of_length_le (by omega : fs2.length ≤ m), cmpF]
      unfold sgnI; rw [if_neg (by omega), if_neg (by omega)]
theorem exitL {fs fs2 : List V} {m : Nat} (h : m ≤ fs.length) (h2 : m ≤ fs2.length) (he : ¬ (m < fs.length ∧ m < fs2.length)) : cmpL (fs.drop m) (fs2.drop m) = sgnI fs.length fs2.length := by
  by_cases e1 : m < fs.length
  · obtain ⟨v, hq⟩ : ∃ p, fs[m]? = some p := ⟨_, List.getElem?_eq_getElem e1⟩
    rw [drop_fields hq, List.drop_of_length_le (by omega : fs2.length ≤ m), cmpL]
    unfold sgnI; rw [if_neg (by omega), if_pos (by omega)]
  · by_cases e2 : m < fs2.length
    · obtain ⟨v, hq⟩ : ∃ p, fs2[m]? = some p := ⟨_, List.getElem?_eq_getElem e2⟩
      rw [drop_fields hq, List.drop_of_length_le (by omega : fs.length ≤ m), cmpL]
      unfold sgnI; rw [if_pos (by omega)]
    · rw [List.drop_of_length_le (by omega : fs.length ≤ m), List.drop_of_length_le (by omega : fs2.length ≤ m), cmpL]
      unfold sgnI; rw [if_neg (by omega), if_neg (by omega)]
theorem exitP {fs fs2 : List (V × V)} {m : Nat} (h : m ≤ fs.length) (h2 : m ≤ fs2.length) (he : ¬ (m < fs.length ∧ m < fs2.length)) : cmpP (fs.drop m) (fs2.drop m) = sgnI fs.length fs2.length := by
  by_cases e1 : m < fs.length
  · obtain ⟨⟨n, v⟩, hq⟩ : ∃ p, fs[m]? = some p := ⟨_, List.getElem?_eq_getElem e1⟩
    rw [drop_fields hq, List.drop_of_length_le (by omega : fs2.length ≤ m), cmpP]
    unfold sgnI; rw [if_neg (by omega), if_pos (by omega)]
  · by_cases e2 : m < fs2.length
    · obtain ⟨⟨n, v⟩, hq⟩ : ∃ p, fs2[m]? = some p := ⟨_, List.getElem?_eq_getElem e2⟩
      rw [drop_fields hq, List.drop_of_length_le (by omega : fs.length ≤ m), cmpP]
      unfold sgnI; rw [if_pos (by omega)]
    · rw [List.drop_of_length_le (by omega : fs.length ≤ m), List.drop_of_length_le (by omega : fs2.length ≤ m), cmpP]
      unfold sgnI; rw [if_neg (by omega), if_neg (by omega)]
section
variable {k k2 : Int} {n n2 : Nat} {t r t2 r2 : List UInt8} {fs fs2 : List (Int × V)} {ls ls2 : List V} {ps ps2 : List (V × V)} {fa la pa fa2 la2 pa2 : Option Addr} {fc lc pc fc2 lc2 pc2 : Nat} {S S' : Nat → Prop} {w : World}
theorem RCmpC.lit (h : RCmpC (.mk k n t fs r ls ps)) (hr : Rep S w (.mk k n t fs r ls ps) ⟨fa, fc, la, lc, pa, pc⟩) (hr' : Rep S' w (.mk k2 n2 t2 fs2 r2 ls2 ps2) ⟨fa2, fc2, la2, lc2, pa2, pc2⟩) :
    Calls Tryz.prog 43 #[.agg #[.int .i64 k, .int .u64 (n : Int), .string (strB t), .slice fa fs.length fc, .string (strB r), .slice la ls.length lc, .slice pa ps.length pc], .agg #[.int .i64 k2, .int .u64 (n2 : Int), .string (strB t2), .slice fa2 fs2.length fc2, .string (strB r2), .slice la2 ls2.length lc2, .slice pa2 ps2.length pc2]] w
      fun e w' => e = .returned (.int .i64 (cmpV (.mk k n t fs r ls ps) (.mk k2 n2 t2 fs2 r2 ls2 ps2))) ∧ Below w.heap.size w w' := by
  have := h _ _ _ _ _ w hr hr'
  rw [vG_lit, vG_lit] at this
  exact this
end
end Go.Proofs.YtcjflglpkpkflaaGreatDoor
