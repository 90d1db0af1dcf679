/- The chapter's example (layer 13). -/
import Derived.Test.YtcnjlbbckdmifaaVn
namespace Go.Proofs.Ytcnjlbbckdmifaa
open Go Go.RowKit
set_option linter.unusedVariables false
def al0 : V := .mk 3 0 [] [] [] [] []
def al7 : V := .mk 1 7 [] [] [] [] []
theorem al_with : withV al0 1 al7 = .mk 3 0 [] [(1, .mk 1 7 [] [] [] [] [])] [] [] [] := by
  simp [withV, al0, al7, V.k, V.fs, V.r, putA]
theorem al_right : rightV (.mk 3 0 [] [(1, .mk 1 7 [] [] [] [] [])] [] [] []) = true := by
  simp [rightV, rightF, rightL, rightP, shapeB, V.k]
theorem al_size : sizeV (.mk 3 0 [] [(1, .mk 1 7 [] [] [] [] [])] [] [] []) = 2 := by simp [sizeV, sizeF, sizeL, sizeP]
theorem al_depth : depthV (.mk 3 0 [] [(1, .mk 1 7 [] [] [] [] [])] [] [] []) = 1 := by simp [depthV, depthF, depthL, depthP]
theorem al_get : getV (.mk 3 0 [] [(1, .mk 1 7 [] [] [] [] [])] [] [] []) 1 = .mk 1 7 [] [] [] [] [] := by simp [getV, V.k, V.fs, findA, fieldC, sgnI]
theorem al_w : wV (.mk 3 0 [] [(1, .mk 1 7 [] [] [] [] [])] [] [] []) ≤ 1000000 := by simp [wV, wF, wL, wP]
theorem al_rep0 (w : World) : Rep (fun _ => True) w al0 ⟨none, 0, none, 0, none, 0⟩ := Rep.leaf 3 0 [] [] ⟨by decide, by decide⟩ (by decide) _
theorem al_rep7 (w : World) : Rep (fun _ => True) w al7 ⟨none, 0, none, 0, none, 0⟩ := Rep.leaf 1 7 [] [] ⟨by decide, by decide⟩ (by decide) _
set_option maxRecDepth 100000 in
theorem al_num (w : World) : Calls Try.prog 33 #[.int .u64 7] w fun e w' => e = .returned (.agg #[.int .i64 1, .int .u64 7, .string ⟨#[]⟩, .slice none 0 0, .string ⟨#[]⟩, .slice none 0 0, .slice none 0 0]) ∧ Below w.heap.size w w' := num_lit 7 w
set_option maxRecDepth 100000 in
theorem al_W (w : World) : Calls Try.prog 25 #[.agg #[.int .i64 3, .int .u64 0, .string ⟨#[]⟩, .slice none 0 0, .string ⟨#[]⟩, .slice none 0 0, .slice none 0 0], .int .i64 1, .agg #[.int .i64 1, .int .u64 7, .string ⟨#[]⟩, .slice none 0 0, .string ⟨#[]⟩, .slice none 0 0, .slice none 0 0]] w (ValP (.mk 3 0 [] [(1, .mk 1 7 [] [] [] [] [])] [] [] []) w) := by
  have h := with_any (w := w) 1 (al_rep0 w) (al_rep7 w) (by simp [rightV, rightF, rightL, rightP, shapeB]) (by simp) ⟨by decide, by decide⟩
  have e : withV (.mk 3 0 [] [] [] [] []) 1 (.mk 1 7 [] [] [] [] []) = .mk 3 0 [] [(1, .mk 1 7 [] [] [] [] [])] [] [] [] := al_with
  rw [e] at h
  exact h
section
variable {fa la pa : Option Addr} {fc lc pc : Nat} {w : World} {S : Nat → Prop}
set_option maxRecDepth 100000 in
theorem al_R (hr : Rep S w (.mk 3 0 [] [(1, .mk 1 7 [] [] [] [] [])] [] [] []) ⟨fa, fc, la, lc, pa, pc⟩) : Calls Try.prog 15 #[.agg #[.int .i64 3, .int .u64 0, .string (strB []), .slice fa 1 fc, .string (strB []), .slice la 0 lc, .slice pa 0 pc]] w fun e w' => e = .returned (.bool true) ∧ Below w.heap.size w w' := by
  have h := right_lit hr
  rw [al_right] at h
  exact h
set_option maxRecDepth 100000 in
theorem al_S (hr : Rep S w (.mk 3 0 [] [(1, .mk 1 7 [] [] [] [] [])] [] [] []) ⟨fa, fc, la, lc, pa, pc⟩) : Calls Try.prog 17 #[.agg #[.int .i64 3, .int .u64 0, .string (strB []), .slice fa 1 fc, .string (strB []), .slice la 0 lc, .slice pa 0 pc]] w fun e w' => e = .returned (.int .i64 2) ∧ Below w.heap.size w w' := by
  have h := size_lit hr al_w
  rw [al_size] at h
  exact h
set_option maxRecDepth 100000 in
theorem al_D (hr : Rep S w (.mk 3 0 [] [(1, .mk 1 7 [] [] [] [] [])] [] [] []) ⟨fa, fc, la, lc, pa, pc⟩) : Calls Try.prog 19 #[.agg #[.int .i64 3, .int .u64 0, .string (strB []), .slice fa 1 fc, .string (strB []), .slice la 0 lc, .slice pa 0 pc]] w fun e w' => e = .returned (.int .i64 1) ∧ Below w.heap.size w w' := by
  have h := depth_lit hr al_w
  rw [al_depth] at h
  exact h
set_option maxRecDepth 100000 in
theorem al_G (hr : Rep S w (.mk 3 0 [] [(1, .mk 1 7 [] [] [] [] [])] [] [] []) ⟨fa, fc, la, lc, pa, pc⟩) : Calls Try.prog 27 #[.agg #[.int .i64 3, .int .u64 0, .string (strB []), .slice fa 1 fc, .string (strB []), .slice la 0 lc, .slice pa 0 pc], .int .i64 1] w fun e w' => ∃ (fa la pa : Option Addr) (fc lc pc : Nat), e = .returned (.agg #[.int .i64 1, .int .u64 7, .string (strB []), .slice fa 0 fc, .string (strB []), .slice la 0 lc, .slice pa 0 pc]) ∧ Rep (fun _ => True) w' (.mk 1 7 [] [] [] [] []) ⟨fa, fc, la, lc, pa, pc⟩ ∧ Below w.heap.size w w' := by
  have h := get_any 1 hr al_right (by simp)
  rw [al_get] at h
  exact h.mono fun e w' h => ValP.lit h
set_option maxRecDepth 100000 in
theorem al_E {fa la pa : Option Addr} {fc lc pc : Nat} (hr : Rep S w (.mk 1 7 [] [] [] [] []) ⟨fa, fc, la, lc, pa, pc⟩) : Calls Try.prog 23 #[.agg #[.int .i64 1, .int .u64 7, .string (strB []), .slice fa 0 fc, .string (strB []), .slice la 0 lc, .slice pa 0 pc], .agg #[.int .i64 1, .int .u64 7, .string ⟨#[]⟩, .slice none 0 0, .string ⟨#[]⟩, .slice none 0 0, .slice none 0 0]] w fun e w' => e = .returned (.bool true) ∧ Below w.heap.size w w' := by
  have h := same_lit hr (al_rep7 w)
  rw [show cmpV (.mk 1 7 [] [] [] [] []) (.mk 1 7 [] [] [] [] []) = 0 from cmpV_self _] at h
  exact h
end
set_option maxRecDepth 100000 in
set_option maxHeartbeats 4000000 in
theorem alive13 (w : World) : Calls Try.prog 12 #[] w fun e w' => e = .returned (.bool true) ∧ Below w.heap.size w w' := by
  go_enter Try.func12, Try.ntmps12
  go_wp2_with fail
  refine (al_num _).mono ?_
  rintro e w1 ⟨rfl, hb1⟩
  go_wp2_with fail
  refine (al_W _).mono ?_
  rintro e w2 hv
  obtain ⟨fa, la, pa, fc, lc, pc, rfl, hr2, hb2⟩ := ValP.lit hv
  have hbe2 : Below w.heap.size w w2 := hb1.trans (hb2.mono hb1.size)
  have HR : Hid (∀ W, Below w2.heap.size w2 W → Rep (fun _ => True) W (.mk 3 0 [] [(1, .mk 1 7 [] [] [] [] [])] [] [] []) ⟨fa, fc, la, lc, pa, pc⟩) := fun W hb => hr2.stays hb
  have HB2 := Lib.hid hbe2
  clear hb1 hb2 hr2 hbe2 hv
  go_wp2_with fail
  have hbA : Below w2.heap.size w2 (w2.alloc (.cells #[.int .i64 3, .int .u64 0, .string (strB []), .slice fa 1 fc, .string (strB []), .slice la 0 lc, .slice pa 0 pc] 27)) := (Below.refl _ _).alloc (Nat.le_refl _) _
  have hcA := CellsAt.new w2 #[.int .i64 3, .int .u64 0, .string (strB []), .slice fa 1 fc, .string (strB []), .slice la 0 lc, .slice pa 0 pc] 27
  have HCA := Lib.hid hcA
  refine (al_R (HR.out _ hbA)).mono ?_
  rintro e w3 ⟨rfl, hb3⟩
  have hcB := HCA.out.stays hb3
  have hbB := hbA.trans (hb3.mono hbA.size)
  have d0 := hcB.cell 0 (v := .int .i64 3) rfl
  have d1 := hcB.cell 1 (v := .int .u64 0) rfl
  have d2 := hcB.cell 2 (v := .string (strB [])) rfl
  have d3 := hcB.cell 3 (v := .slice fa 1 fc) rfl
  have d4 := hcB.cell 4 (v := .string (strB [])) rfl
  have d5 := hcB.cell 5 (v := .slice la 0 lc) rfl
  have d6 := hcB.cell 6 (v := .slice pa 0 pc) rfl
  have HCB := Lib.hid hcB
  have HBB := Lib.hid hbB
  clear hb3 hcB hbB hbA hcA HCA
  go_wp2_with fail
  refine (al_S (HR.out _ HBB.out)).mono ?_
  rintro e w4 ⟨rfl, hb4⟩
  have hcC := HCB.out.stays hb4
  have HBC := Lib.hid (HBB.out.trans (hb4.mono HBB.out.size))
  replace d0 := hcC.cell 0 (v := .int .i64 3) rfl
  replace d1 := hcC.cell 1 (v := .int .u64 0) rfl
  replace d2 := hcC.cell 2 (v := .string (strB [])) rfl
  replace d3 := hcC.cell 3 (v := .slice fa 1 fc) rfl
  replace d4 := hcC.cell 4 (v := .string (strB [])) rfl
  replace d5 := hcC.cell 5 (v := .slice la 0 lc) rfl
  replace d6 := hcC.cell 6 (v := .slice pa 0 pc) rfl
  have HCC := Lib.hid hcC
  clear hb4 hcC HCB HBB
  go_wp2_with fail
  refine (al_D (HR.out _ HBC.out)).mono ?_
  rintro e w5 ⟨rfl, hb5⟩
  have hcD := HCC.out.stays hb5
  have HBD := Lib.hid (HBC.out.trans (hb5.mono HBC.out.size))
  replace d0 := hcD.cell 0 (v := .int .i64 3) rfl
  replace d1 := hcD.cell 1 (v := .int .u64 0) rfl
  replace d2 := hcD.cell 2 (v := .string (strB [])) rfl
  replace d3 := hcD.cell 3 (v := .slice fa 1 fc) rfl
  replace d4 := hcD.cell 4 (v := .string (strB [])) rfl
  replace d5 := hcD.cell 5 (v := .slice la 0 lc) rfl
  replace d6 := hcD.cell 6 (v := .slice pa 0 pc) rfl
  clear hb5 hcD HCC HBC
  go_wp2_with fail
  refine (al_G (HR.out _ HBD.out)).mono ?_
  rintro e w6 ⟨fa', la', pa', fc', lc', pc', rfl, hr6, hb6⟩
  have hbE := HBD.out.trans (hb6.mono HBD.out.size)
  clear d0 d1 d2 d3 d4 d5 d6 hb6 HBD
  go_wp2_with fail
  refine (al_num _).mono ?_
  rintro e w7 ⟨rfl, hb7⟩
  have hr7 := hr6.stays hb7
  have hbF := hbE.trans (hb7.mono hbE.size)
  clear hr6 hb7 hbE
  go_wp2_with fail
  refine (al_E hr7).mono ?_
  rintro e w8 ⟨rfl, hb8⟩
  have HBG := Lib.hid (HB2.out.trans ((hbF.trans (hb8.mono hbF.size)).mono HB2.out.size))
  clear hr7 hbF hb8
  go_wp2_with fail
  go_ret
  exact ⟨rfl, HBG.out⟩
end Go.Proofs.Ytcnjlbbckdmifaa
