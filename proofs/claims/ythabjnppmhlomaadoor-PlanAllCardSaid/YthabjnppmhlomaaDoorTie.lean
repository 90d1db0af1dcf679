/-
  DERIVED. GIVEN WITH THE SEED: THE PROGRAM's TIES (one call each: nine closed facts by the kernel) AND EACH ROW's TIE, after the 31st guide's Derived/Test/Toyas{Tie, Card}.lean. No idea stands in it: it is a product of the set-up. Laid BY PROGRAM, IN A SANDBOX (cutbox-door.mjs). By AI agents, Wed Nov 11 2026. No macro, syntax, notation, axiom, sorry.
-/
import Derived.Test.YthabjnppmhlomaaDoorRows
import Derived.LaidByTextLater
import Derived.SevenTiedAt
import Derived.LaidSub
import Derived.LaidOnce
namespace Go.Proofs.YthabjnppmhlomaaDoor
open Go
set_option maxRecDepth 100000
theorem seatTie1 : Tryd.prog.laidByTextLater [("redline/api.ErrRange", Rows.laid_redline_api_ErrRange), ("redline/api.ErrShort", Rows.laid_redline_api_ErrShort), ("redline/api.ErrLong", Rows.laid_redline_api_ErrLong), ("redline/api.ErrVarint", Rows.laid_redline_api_ErrVarint), ("redline/api.ErrTag", Rows.laid_redline_api_ErrTag), ("redline/api.ErrGroup", Rows.laid_redline_api_ErrGroup), ("redline/api.ErrRune", Rows.laid_redline_api_ErrRune), ("redline/api.ErrDepth", Rows.laid_redline_api_ErrDepth), ("redline/api.ErrForm", Rows.laid_redline_api_ErrForm), ("redline/api.ErrName", Rows.laid_redline_api_ErrName), ("redline/api.ErrDup", Rows.laid_redline_api_ErrDup), ("redline/api.ErrKind", Rows.laid_redline_api_ErrKind), ("redline/api.ErrClash", Rows.laid_redline_api_ErrClash), ("redline/api.ErrNone", Rows.laid_redline_api_ErrNone), ("redline/api.ErrFull", Rows.laid_redline_api_ErrFull), ("redline/api.ErrState", Rows.laid_redline_api_ErrState), ("redline/api.ErrPower", Rows.laid_redline_api_ErrPower), ("redline/api.ErrSum", Rows.laid_redline_api_ErrSum), ("redline/api.ErrConflict", Rows.laid_redline_api_ErrConflict)] [.sentinel, .sentinel, .sentinel, .sentinel, .sentinel, .sentinel, .sentinel, .sentinel, .sentinel, .sentinel, .sentinel, .sentinel, .sentinel, .sentinel, .sentinel, .sentinel, .sentinel, .sentinel, .sentinel] true :=
  Program.laidByTextLater_by_one 370 8 2 (by kernel_rfl) (by kernel_rfl) (by kernel_rfl) (by kernel_rfl) (by kernel_rfl) (by kernel_rfl) (fun _ _ => by kernel_rfl)
theorem noOwnUnsafe : Tryd.pinned.checked.prog.headLifts.contains "ownunsafe" = false := by kernel_rfl
theorem tie : Tryd.prog.laidByTextLater [("redline/api.ErrForm", Rows.laid_redline_api_ErrForm), ("redline/api.ErrNone", Rows.laid_redline_api_ErrNone)] [.sentinel, .sentinel] true :=
  Program.laidByTextLater.sub seatTie1 ["redline/api.ErrForm", "redline/api.ErrNone"] (by kernel_rfl) (by kernel_rfl)
theorem planLeast_row_tie : Rows.planLeastRow.laidByTextAt .later Tryd.pinned [.sentinel, .sentinel] true :=
  OpenClaim.laidByTextAt_later rfl rfl tie noOwnUnsafe
theorem tie2 : Tryd.prog.laidByTextLater [("redline/api.ErrRange", Rows.laid_redline_api_ErrRange), ("redline/api.ErrShort", Rows.laid_redline_api_ErrShort), ("redline/api.ErrLong", Rows.laid_redline_api_ErrLong), ("redline/api.ErrVarint", Rows.laid_redline_api_ErrVarint), ("redline/api.ErrTag", Rows.laid_redline_api_ErrTag), ("redline/api.ErrGroup", Rows.laid_redline_api_ErrGroup), ("redline/api.ErrRune", Rows.laid_redline_api_ErrRune), ("redline/api.ErrDepth", Rows.laid_redline_api_ErrDepth), ("redline/api.ErrForm", Rows.laid_redline_api_ErrForm), ("redline/api.ErrName", Rows.laid_redline_api_ErrName), ("redline/api.ErrDup", Rows.laid_redline_api_ErrDup), ("redline/api.ErrKind", Rows.laid_redline_api_ErrKind), ("redline/api.ErrClash", Rows.laid_redline_api_ErrClash), ("redline/api.ErrNone", Rows.laid_redline_api_ErrNone), ("redline/api.ErrFull", Rows.laid_redline_api_ErrFull), ("redline/api.ErrState", Rows.laid_redline_api_ErrState), ("redline/api.ErrPower", Rows.laid_redline_api_ErrPower), ("redline/api.ErrSum", Rows.laid_redline_api_ErrSum), ("redline/api.ErrConflict", Rows.laid_redline_api_ErrConflict)] [.sentinel, .sentinel, .sentinel, .sentinel, .sentinel, .sentinel, .sentinel, .sentinel, .sentinel, .sentinel, .sentinel, .sentinel, .sentinel, .sentinel, .sentinel, .sentinel, .sentinel, .sentinel, .sentinel] true :=
  Program.laidByTextLater.sub seatTie1 ["redline/api.ErrRange", "redline/api.ErrShort", "redline/api.ErrLong", "redline/api.ErrVarint", "redline/api.ErrTag", "redline/api.ErrGroup", "redline/api.ErrRune", "redline/api.ErrDepth", "redline/api.ErrForm", "redline/api.ErrName", "redline/api.ErrDup", "redline/api.ErrKind", "redline/api.ErrClash", "redline/api.ErrNone", "redline/api.ErrFull", "redline/api.ErrState", "redline/api.ErrPower", "redline/api.ErrSum", "redline/api.ErrConflict"] (by kernel_rfl) (by kernel_rfl)
theorem planWays_row_tie : Rows.planWaysRow.laidByTextAt .later Tryd.pinned [.sentinel, .sentinel, .sentinel, .sentinel, .sentinel, .sentinel, .sentinel, .sentinel, .sentinel, .sentinel, .sentinel, .sentinel, .sentinel, .sentinel, .sentinel, .sentinel, .sentinel, .sentinel, .sentinel] true :=
  OpenClaim.laidByTextAt_later rfl rfl tie2 noOwnUnsafe
theorem planAll_row_tie : Rows.planAllRow.laidByTextAt .later Tryd.pinned [.sentinel, .sentinel, .sentinel, .sentinel, .sentinel, .sentinel, .sentinel, .sentinel, .sentinel, .sentinel, .sentinel, .sentinel, .sentinel, .sentinel, .sentinel, .sentinel, .sentinel, .sentinel, .sentinel] true :=
  OpenClaim.laidByTextAt_later rfl rfl tie2 noOwnUnsafe
theorem planLeastUpto_row_tie : Rows.planLeastUptoRow.laidByTextAt .later Tryd.pinned [.sentinel, .sentinel] true :=
  OpenClaim.laidByTextAt_later rfl rfl tie noOwnUnsafe
theorem planWaysUpto_row_tie : Rows.planWaysUptoRow.laidByTextAt .later Tryd.pinned [.sentinel, .sentinel, .sentinel, .sentinel, .sentinel, .sentinel, .sentinel, .sentinel, .sentinel, .sentinel, .sentinel, .sentinel, .sentinel, .sentinel, .sentinel, .sentinel, .sentinel, .sentinel, .sentinel] true :=
  OpenClaim.laidByTextAt_later rfl rfl tie2 noOwnUnsafe
theorem planAllUpto_row_tie : Rows.planAllUptoRow.laidByTextAt .later Tryd.pinned [.sentinel, .sentinel, .sentinel, .sentinel, .sentinel, .sentinel, .sentinel, .sentinel, .sentinel, .sentinel, .sentinel, .sentinel, .sentinel, .sentinel, .sentinel, .sentinel, .sentinel, .sentinel, .sentinel] true :=
  OpenClaim.laidByTextAt_later rfl rfl tie2 noOwnUnsafe
end Go.Proofs.YthabjnppmhlomaaDoor
