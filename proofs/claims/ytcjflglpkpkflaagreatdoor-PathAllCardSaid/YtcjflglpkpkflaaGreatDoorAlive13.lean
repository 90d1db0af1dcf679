/- The chapter's example (layer 13). -/
import Derived.Test.YtcjflglpkpkflaaGreatDoorVn
namespace Go.Proofs.YtcjflglpkpkflaaGreatDoor
open Go Go.RowKit
set_option linter.unusedVariables false
def al0 : V := .mk 3 0 [] [] [] [] []
def al7 : V := .mk 1 7 [] [] [] [] []
theorem al_with : withV al0 1 al7 = .mk 3 0 [] [(1, .mk 1 7 [] [] [] [] [])] [] [] [] := by
  simp [withV, al0, al7, V.k, V.fs, V.r, putA]
theorem al_right : rightV (.mk 3 0 [] [(1, .mk 1 7 [] [] [] [] [])] [] [] []) = true := by
  simp [rightV, rightF, rightL, rightP, shapeB, V.k]
theorem al_size : sizeV (.mk 3 0 [] [(1, .mk 1 7 [] [] [] [] [])] [] [] []) = 2 := by simp [sizeV, sizeF, sizeL, sizeP]
theorem al_depth : depthV (.mk 3 0 [] [(1, .mk 1 7 [] [] [] [] [])] [] [] []) = 1 := by simp [depthV, depthF, depthL, depthP]
theorem al_get : getV (.mk 3 0 [] [(1, .mk 1 7 [] [] [] [] [])] [] [] []) 1 = .mk 1 7 [] [] [] [] [] := by simp [getV, V.k, V.fs, findA, fieldC, sgnI]
theorem al_w : wV (.mk 3 0 [] [(1, .mk 1 7 [] [] [] [] [])] [] [] []) ≤ 1000000 := by simp [wV, wF, wL, wP]
theorem al_rep0 (w : World) : Rep (fun _ => True) w al0 ⟨none, 0, none, 0, none, 0⟩ := Rep.leaf 3 0 [] [] ⟨by decide, by decide⟩ (by decide) _
theorem al_rep7 (w : World) : Rep (fun _ => True) w al7 ⟨none, 0, none, 0, none, 0⟩ := Rep.leaf 1 7 [] [] ⟨by decide, by decide⟩ (by decide) _
set_option maxRecDepth 100000 in
theorem al_num (w : World) : Calls Tryz.prog 71 #[.int .u64 7] w fun e w' => e = .returned (.agg #[.int .i64 1, .int .u64 7, .string ⟨#[]⟩, .slice none 0 0, .string ⟨#[]⟩, .slice none 0 0, .slice none 0 0]) ∧ Below w.heap.size w w' := num_lit 7 w
section
variable {fa la pa : Option Addr} {fc lc pc : Nat} {w : World} {S : Nat → Prop}
set_option maxRecDepth 100000 in
theorem al_R (hr : Rep S w (.mk 3 0 [] [(1, .mk 1 7 [] [] [] [] [])] [] [] []) ⟨fa, fc, la, lc, pa, pc⟩) : Calls Tryz.prog 13 #[.agg #[.int .i64 3, .int .u64 0, .string (strB []), .slice fa 1 fc, .string (strB []), .slice la 0 lc, .slice pa 0 pc]] w fun e w' => e = .returned (.bool true) ∧ Below w.heap.size w w' := by
  have h := right_lit hr
  rw [al_right] at h
  exact h
set_option maxRecDepth 100000 in
theorem al_G (hr : Rep S w (.mk 3 0 [] [(1, .mk 1 7 [] [] [] [] [])] [] [] []) ⟨fa, fc, la, lc, pa, pc⟩) : Calls Tryz.prog 60 #[.agg #[.int .i64 3, .int .u64 0, .string (strB []), .slice fa 1 fc, .string (strB []), .slice la 0 lc, .slice pa 0 pc], .int .i64 1] w fun e w' => ∃ (fa la pa : Option Addr) (fc lc pc : Nat), e = .returned (.agg #[.int .i64 1, .int .u64 7, .string (strB []), .slice fa 0 fc, .string (strB []), .slice la 0 lc, .slice pa 0 pc]) ∧ Rep (fun _ => True) w' (.mk 1 7 [] [] [] [] []) ⟨fa, fc, la, lc, pa, pc⟩ ∧ Below w.heap.size w w' := by
  have h := get_any 1 hr al_right (by simp)
  rw [al_get] at h
  exact h.mono fun e w' h => ValP.lit h
set_option maxRecDepth 100000 in
theorem al_E {fa la pa : Option Addr} {fc lc pc : Nat} (hr : Rep S w (.mk 1 7 [] [] [] [] []) ⟨fa, fc, la, lc, pa, pc⟩) : Calls Tryz.prog 56 #[.agg #[.int .i64 1, .int .u64 7, .string (strB []), .slice fa 0 fc, .string (strB []), .slice la 0 lc, .slice pa 0 pc], .agg #[.int .i64 1, .int .u64 7, .string ⟨#[]⟩, .slice none 0 0, .string ⟨#[]⟩, .slice none 0 0, .slice none 0 0]] w fun e w' => e = .returned (.bool true) ∧ Below w.heap.size w w' := by
  have h := same_lit hr (al_rep7 w)
  rw [show cmpV (.mk 1 7 [] [] [] [] []) (.mk 1 7 [] [] [] [] []) = 0 from cmpV_self _] at h
  exact h
end
end Go.Proofs.YtcjflglpkpkflaaGreatDoor
