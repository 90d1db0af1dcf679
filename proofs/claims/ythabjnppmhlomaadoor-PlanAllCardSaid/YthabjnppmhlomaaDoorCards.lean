/-
  DERIVED. GIVEN WITH THE SEED: THE CARDS: each row of YthabjnppmhlomaaDoorRows.lean that lists a variable, with what it lists TIED to the program's text (the seventh form; the later family's looks); each row that meets fmt, with fmt's text TOLD by the authors' own Lean function (tested against real Go, not proved from fmt's source: count such statements apart). THE CARD IS WHAT COUNTS. Prove the row's statement (the work); the ties are given (YthabjnppmhlomaaDoorTie.lean); close each card by the builder's one call (the guide's Derived/Test/ToyasCard.lean, 'card_holds'). Laid BY PROGRAM, IN A SANDBOX (cutbox-door.mjs). By AI agents, Wed Nov 11 2026. No macro, syntax, notation, axiom, sorry.
-/
import Derived.Test.YthabjnppmhlomaaDoorRows
import GoSem.ClaimSeven
namespace Go.Proofs.YthabjnppmhlomaaDoor
namespace Rows

/-- THE TIED CARD OF 'redlinelaw35.PlanLeast'. -/
def planLeastCard : Claim7 := { stood := { row := planLeastRow, standIns := [], harness := (true, "6de53fe7d4a3aed340dfc938135d3024181cc82882c1e060c7d5f7b1b73f8965"), looks := true }, kinds := [], alts := [], laidByText := true, laidKinds := [.sentinel, .sentinel], laidTests := true, laidLooks := .later }
def PlanLeastCardSaid : Prop := Claim7.holds Tryd.pinned (.plain (OpenSpec.ofChange planLeastSpec)) planLeastCard

/-- THE TIED CARD OF 'redlinelaw35.PlanWays'. -/
def planWaysCard : Claim7 := { stood := { row := planWaysRow, standIns := [], harness := (true, "6de53fe7d4a3aed340dfc938135d3024181cc82882c1e060c7d5f7b1b73f8965"), looks := true }, kinds := [], alts := [], laidByText := true, laidKinds := [.sentinel, .sentinel, .sentinel, .sentinel, .sentinel, .sentinel, .sentinel, .sentinel, .sentinel, .sentinel, .sentinel, .sentinel, .sentinel, .sentinel, .sentinel, .sentinel, .sentinel, .sentinel, .sentinel], laidTests := true, laidLooks := .later }
def PlanWaysCardSaid : Prop := Claim7.holds Tryd.pinned (.plain (OpenSpec.ofChange planWaysSpec)) planWaysCard

/-- THE TIED CARD OF 'redlinelaw35.PlanAll'. -/
def planAllCard : Claim7 := { stood := { row := planAllRow, standIns := [], harness := (true, "6de53fe7d4a3aed340dfc938135d3024181cc82882c1e060c7d5f7b1b73f8965"), looks := true }, kinds := [], alts := [], laidByText := true, laidKinds := [.sentinel, .sentinel, .sentinel, .sentinel, .sentinel, .sentinel, .sentinel, .sentinel, .sentinel, .sentinel, .sentinel, .sentinel, .sentinel, .sentinel, .sentinel, .sentinel, .sentinel, .sentinel, .sentinel], laidTests := true, laidLooks := .later }
def PlanAllCardSaid : Prop := Claim7.holds Tryd.pinned (.plain (OpenSpec.ofChange planAllSpec)) planAllCard

/-- THE SECOND FORM's CARD OF 'redlinelaw35.PlanLeast'. -/
def planLeastUptoCard : Claim7 := { stood := { row := planLeastUptoRow, standIns := [], harness := (true, "6de53fe7d4a3aed340dfc938135d3024181cc82882c1e060c7d5f7b1b73f8965"), looks := true }, kinds := [], alts := [], laidByText := true, laidKinds := [.sentinel, .sentinel], laidTests := true, laidLooks := .later }
def PlanLeastUptoCardSaid : Prop := Claim7.holds Tryd.pinned (.plain (OpenSpec.upto planLeastSpec)) planLeastUptoCard

/-- THE SECOND FORM's CARD OF 'redlinelaw35.PlanWays'. -/
def planWaysUptoCard : Claim7 := { stood := { row := planWaysUptoRow, standIns := [], harness := (true, "6de53fe7d4a3aed340dfc938135d3024181cc82882c1e060c7d5f7b1b73f8965"), looks := true }, kinds := [], alts := [], laidByText := true, laidKinds := [.sentinel, .sentinel, .sentinel, .sentinel, .sentinel, .sentinel, .sentinel, .sentinel, .sentinel, .sentinel, .sentinel, .sentinel, .sentinel, .sentinel, .sentinel, .sentinel, .sentinel, .sentinel, .sentinel], laidTests := true, laidLooks := .later }
def PlanWaysUptoCardSaid : Prop := Claim7.holds Tryd.pinned (.plain (OpenSpec.upto planWaysSpec)) planWaysUptoCard

/-- THE SECOND FORM's CARD OF 'redlinelaw35.PlanAll'. -/
def planAllUptoCard : Claim7 := { stood := { row := planAllUptoRow, standIns := [], harness := (true, "6de53fe7d4a3aed340dfc938135d3024181cc82882c1e060c7d5f7b1b73f8965"), looks := true }, kinds := [], alts := [], laidByText := true, laidKinds := [.sentinel, .sentinel, .sentinel, .sentinel, .sentinel, .sentinel, .sentinel, .sentinel, .sentinel, .sentinel, .sentinel, .sentinel, .sentinel, .sentinel, .sentinel, .sentinel, .sentinel, .sentinel, .sentinel], laidTests := true, laidLooks := .later }
def PlanAllUptoCardSaid : Prop := Claim7.holds Tryd.pinned (.plain (OpenSpec.upto planAllSpec)) planAllUptoCard
end Rows
end Go.Proofs.YthabjnppmhlomaaDoor
