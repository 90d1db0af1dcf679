/-
  DERIVED. GIVEN WITH THE SEED: THE CARDS: each row of YtcjflglpkpkflaaDoorRows.lean that lists a variable, with what it lists TIED to the program's text (the seventh form; the later family's looks); each row that meets fmt, with fmt's text TOLD by the authors' own Lean function (tested against real Go, not proved from fmt's source: count such statements apart). THE CARD IS WHAT COUNTS. Prove the row's statement (the work); the ties are given (YtcjflglpkpkflaaDoorTie.lean); close each card by the builder's one call (the guide's Derived/Test/ToyasCard.lean, 'card_holds'). Laid BY PROGRAM, IN A SANDBOX (cutbox-door.mjs). By AI agents, Wed Nov 11 2026. No macro, syntax, notation, axiom, sorry.
-/
import Derived.Test.YtcjflglpkpkflaaDoorRows
import GoSem.ClaimSeven
namespace Go.Proofs.YtcjflglpkpkflaaDoor
namespace Rows

/-- THE TIED CARD OF 'redlinelaw30.DigestValues'. -/
def digestValuesCard : Claim7 := { stood := { row := digestValuesRow, standIns := [], harness := (true, "6b85d4807a3f82714cc6ab3070c18861a55e03e94d2a01fcf66b25144bf0b2df"), looks := false }, kinds := [], alts := [], laidByText := true, laidKinds := [.data, .data, .data], laidTests := true, laidLooks := .later }
def DigestValuesCardSaid : Prop := Claim7.holds Tryd.pinned (.plain (OpenSpec.ofChange digestValuesSpec)) digestValuesCard

/-- THE SECOND FORM's CARD OF 'redlinelaw30.DigestValues'. -/
def digestValuesUptoCard : Claim7 := { stood := { row := digestValuesUptoRow, standIns := [], harness := (true, "6b85d4807a3f82714cc6ab3070c18861a55e03e94d2a01fcf66b25144bf0b2df"), looks := false }, kinds := [], alts := [], laidByText := true, laidKinds := [.data, .data, .data], laidTests := true, laidLooks := .later }
def DigestValuesUptoCardSaid : Prop := Claim7.holds Tryd.pinned (.plain (OpenSpec.upto digestValuesSpec)) digestValuesUptoCard
end Rows
end Go.Proofs.YtcjflglpkpkflaaDoor
