/-
  DERIVED. GIVEN WITH THE SEED: THE CARDS: each row of YtalebgnnlgcglaaDoorRows.lean that lists a variable, with what it lists TIED to the program's text (the seventh form; the later family's looks); each row that meets fmt, with fmt's text TOLD by the authors' own Lean function (tested against real Go, not proved from fmt's source: count such statements apart). THE CARD IS WHAT COUNTS. Prove the row's statement (the work); the ties are given (YtalebgnnlgcglaaDoorTie.lean); close each card by the builder's one call (the guide's Derived/Test/ToyasCard.lean, 'card_holds'). Laid BY PROGRAM, IN A SANDBOX (cutbox-door.mjs). By AI agents, Wed Nov 11 2026. No macro, syntax, notation, axiom, sorry.
-/
import Derived.Test.YtalebgnnlgcglaaDoorRows
import GoSem.ClaimSeven
namespace Go.Proofs.YtalebgnnlgcglaaDoor
namespace Rows

/-- THE TIED CARD OF 'redlinelaw31.DiskStays'. -/
def diskStaysCard : Claim7 := { stood := { row := diskStaysRow, standIns := [], harness := (true, "4c9ecb8281373c1d145108e6b0bc623795b394ef94b52d8fdded48412010f75e"), looks := true }, kinds := [], alts := [], laidByText := true, laidKinds := [.sentinel, .sentinel, .sentinel], laidTests := true, laidLooks := .later }
def DiskStaysCardSaid : Prop := Claim7.holds Tryd.pinned (.plain (OpenSpec.ofChange diskStaysSpec)) diskStaysCard

/-- THE TIED CARD OF 'redlinelaw31.DiskActs'. -/
def diskActsCard : Claim7 := { stood := { row := diskActsRow, standIns := [], harness := (true, "4c9ecb8281373c1d145108e6b0bc623795b394ef94b52d8fdded48412010f75e"), looks := true }, kinds := [], alts := [], laidByText := true, laidKinds := [.sentinel, .sentinel, .sentinel, .sentinel, .sentinel, .sentinel, .sentinel, .sentinel, .sentinel, .sentinel, .sentinel, .sentinel, .sentinel, .sentinel, .sentinel, .sentinel, .sentinel, .sentinel, .sentinel], laidTests := true, laidLooks := .later }
def DiskActsCardSaid : Prop := Claim7.holds Tryd.pinned (.plain (OpenSpec.ofChange diskActsSpec)) diskActsCard

/-- THE SECOND FORM's CARD OF 'redlinelaw31.DiskStays'. -/
def diskStaysUptoCard : Claim7 := { stood := { row := diskStaysUptoRow, standIns := [], harness := (true, "4c9ecb8281373c1d145108e6b0bc623795b394ef94b52d8fdded48412010f75e"), looks := true }, kinds := [], alts := [], laidByText := true, laidKinds := [.sentinel, .sentinel, .sentinel], laidTests := true, laidLooks := .later }
def DiskStaysUptoCardSaid : Prop := Claim7.holds Tryd.pinned (.plain (OpenSpec.upto diskStaysSpec)) diskStaysUptoCard

/-- THE SECOND FORM's CARD OF 'redlinelaw31.DiskActs'. -/
def diskActsUptoCard : Claim7 := { stood := { row := diskActsUptoRow, standIns := [], harness := (true, "4c9ecb8281373c1d145108e6b0bc623795b394ef94b52d8fdded48412010f75e"), looks := true }, kinds := [], alts := [], laidByText := true, laidKinds := [.sentinel, .sentinel, .sentinel, .sentinel, .sentinel, .sentinel, .sentinel, .sentinel, .sentinel, .sentinel, .sentinel, .sentinel, .sentinel, .sentinel, .sentinel, .sentinel, .sentinel, .sentinel, .sentinel], laidTests := true, laidLooks := .later }
def DiskActsUptoCardSaid : Prop := Claim7.holds Tryd.pinned (.plain (OpenSpec.upto diskActsSpec)) diskActsUptoCard
end Rows
end Go.Proofs.YtalebgnnlgcglaaDoor
