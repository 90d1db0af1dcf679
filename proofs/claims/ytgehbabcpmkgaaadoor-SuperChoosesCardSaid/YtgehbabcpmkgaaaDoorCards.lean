/-
  DERIVED. GIVEN WITH THE SEED: THE CARDS: each row of YtgehbabcpmkgaaaDoorRows.lean that lists a variable, with what it lists TIED to the program's text (the seventh form; the later family's looks); each row that meets fmt, with fmt's text TOLD by the authors' own Lean function (tested against real Go, not proved from fmt's source: count such statements apart). THE CARD IS WHAT COUNTS. Prove the row's statement (the work); the ties are given (YtgehbabcpmkgaaaDoorTie.lean); close each card by the builder's one call (the guide's Derived/Test/ToyasCard.lean, 'card_holds'). Laid BY PROGRAM, IN A SANDBOX (cutbox-door.mjs). By AI agents, Wed Nov 11 2026. No macro, syntax, notation, axiom, sorry.
-/
import Derived.Test.YtgehbabcpmkgaaaDoorRows
import GoSem.ClaimSeven
namespace Go.Proofs.YtgehbabcpmkgaaaDoor
namespace Rows

/-- THE TIED CARD OF 'redlinelaw32.FrameBytes'. -/
def frameBytesCard : Claim7 := { stood := { row := frameBytesRow, standIns := [], harness := (true, "bc29030ba3e055810de3eb549a130b8e2a7db4ef98c8649bc7c12438824be390"), looks := true }, kinds := [], alts := [], laidByText := true, laidKinds := [.sentinel, .sentinel, .sentinel, .sentinel, .sentinel, .sentinel, .sentinel, .sentinel, .sentinel, .sentinel, .sentinel, .sentinel, .sentinel, .sentinel, .sentinel, .sentinel, .sentinel, .sentinel, .sentinel], laidTests := true, laidLooks := .later }
def FrameBytesCardSaid : Prop := Claim7.holds Tryd.pinned (.plain (OpenSpec.ofChange frameBytesSpec)) frameBytesCard

/-- THE TIED CARD OF 'redlinelaw34.RecBytes'. -/
def recBytesCard : Claim7 := { stood := { row := recBytesRow, standIns := [], harness := (true, "bc29030ba3e055810de3eb549a130b8e2a7db4ef98c8649bc7c12438824be390"), looks := true }, kinds := [], alts := [], laidByText := true, laidKinds := [.sentinel, .sentinel, .sentinel, .sentinel, .sentinel, .sentinel, .sentinel, .sentinel, .sentinel, .sentinel, .sentinel, .sentinel, .sentinel, .sentinel, .sentinel, .sentinel, .sentinel, .sentinel, .sentinel], laidTests := true, laidLooks := .later }
def RecBytesCardSaid : Prop := Claim7.holds Tryd.pinned (.plain (OpenSpec.ofChange recBytesSpec)) recBytesCard

/-- THE TIED CARD OF 'redlinelaw33.SuperBlocks'. -/
def superBlocksCard : Claim7 := { stood := { row := superBlocksRow, standIns := [], harness := (true, "bc29030ba3e055810de3eb549a130b8e2a7db4ef98c8649bc7c12438824be390"), looks := true }, kinds := [], alts := [], laidByText := true, laidKinds := [.sentinel, .sentinel, .sentinel, .sentinel, .sentinel, .sentinel, .sentinel, .sentinel, .sentinel, .sentinel, .sentinel, .sentinel, .sentinel, .sentinel, .sentinel, .sentinel, .sentinel, .sentinel, .sentinel], laidTests := true, laidLooks := .later }
def SuperBlocksCardSaid : Prop := Claim7.holds Tryd.pinned (.plain (OpenSpec.ofChange superBlocksSpec)) superBlocksCard

/-- THE TIED CARD OF 'redlinelaw33.SuperParses'. -/
def superParsesCard : Claim7 := { stood := { row := superParsesRow, standIns := [], harness := (true, "bc29030ba3e055810de3eb549a130b8e2a7db4ef98c8649bc7c12438824be390"), looks := true }, kinds := [], alts := [], laidByText := true, laidKinds := [.sentinel, .sentinel, .sentinel, .sentinel, .sentinel, .sentinel, .sentinel, .sentinel, .sentinel, .sentinel, .sentinel, .sentinel, .sentinel, .sentinel, .sentinel, .sentinel, .sentinel, .sentinel, .sentinel], laidTests := true, laidLooks := .later }
def SuperParsesCardSaid : Prop := Claim7.holds Tryd.pinned (.plain (OpenSpec.ofChange superParsesSpec)) superParsesCard

/-- THE TIED CARD OF 'redlinelaw04.RecordParses'. -/
def recordParsesCard : Claim7 := { stood := { row := recordParsesRow, standIns := [], harness := (true, "bc29030ba3e055810de3eb549a130b8e2a7db4ef98c8649bc7c12438824be390"), looks := true }, kinds := [], alts := [], laidByText := true, laidKinds := [.sentinel, .sentinel, .sentinel, .sentinel, .sentinel, .sentinel, .sentinel, .sentinel, .sentinel, .sentinel, .sentinel, .sentinel, .sentinel, .sentinel, .sentinel, .sentinel, .sentinel, .sentinel, .sentinel], laidTests := true, laidLooks := .later }
def RecordParsesCardSaid : Prop := Claim7.holds Tryd.pinned (.plain (OpenSpec.ofChange recordParsesSpec)) recordParsesCard

/-- THE TIED CARD OF 'redlinelaw32.FrameWrites'. -/
def frameWritesCard : Claim7 := { stood := { row := frameWritesRow, standIns := [], harness := (true, "bc29030ba3e055810de3eb549a130b8e2a7db4ef98c8649bc7c12438824be390"), looks := true }, kinds := [], alts := [], laidByText := true, laidKinds := [.sentinel, .sentinel, .sentinel, .sentinel, .sentinel, .sentinel, .sentinel, .sentinel, .sentinel, .sentinel, .sentinel, .sentinel, .sentinel, .sentinel, .sentinel, .sentinel, .sentinel, .sentinel, .sentinel], laidTests := true, laidLooks := .later }
def FrameWritesCardSaid : Prop := Claim7.holds Tryd.pinned (.plain (OpenSpec.ofChange frameWritesSpec)) frameWritesCard

/-- THE TIED CARD OF 'redlinelaw33.SuperStays'. -/
def superStaysCard : Claim7 := { stood := { row := superStaysRow, standIns := [], harness := (true, "bc29030ba3e055810de3eb549a130b8e2a7db4ef98c8649bc7c12438824be390"), looks := true }, kinds := [], alts := [], laidByText := true, laidKinds := [.sentinel, .sentinel, .sentinel, .sentinel, .sentinel, .sentinel, .sentinel], laidTests := true, laidLooks := .later }
def SuperStaysCardSaid : Prop := Claim7.holds Tryd.pinned (.plain (OpenSpec.ofChange superStaysSpec)) superStaysCard

/-- THE TIED CARD OF 'redlinelaw04.RecordPuts'. -/
def recordPutsCard : Claim7 := { stood := { row := recordPutsRow, standIns := [], harness := (true, "bc29030ba3e055810de3eb549a130b8e2a7db4ef98c8649bc7c12438824be390"), looks := true }, kinds := [], alts := [], laidByText := true, laidKinds := [.sentinel, .sentinel, .sentinel, .sentinel, .sentinel, .sentinel, .sentinel, .sentinel, .sentinel, .sentinel, .sentinel, .sentinel, .sentinel, .sentinel, .sentinel, .sentinel, .sentinel, .sentinel, .sentinel], laidTests := true, laidLooks := .later }
def RecordPutsCardSaid : Prop := Claim7.holds Tryd.pinned (.plain (OpenSpec.ofChange recordPutsSpec)) recordPutsCard

/-- THE TIED CARD OF 'redlinelaw32.FrameReads'. -/
def frameReadsCard : Claim7 := { stood := { row := frameReadsRow, standIns := [], harness := (true, "bc29030ba3e055810de3eb549a130b8e2a7db4ef98c8649bc7c12438824be390"), looks := true }, kinds := [], alts := [], laidByText := true, laidKinds := [.sentinel, .sentinel, .sentinel, .sentinel, .sentinel, .sentinel, .sentinel, .sentinel, .sentinel, .sentinel, .sentinel, .sentinel, .sentinel, .sentinel, .sentinel, .sentinel, .sentinel, .sentinel, .sentinel], laidTests := true, laidLooks := .later }
def FrameReadsCardSaid : Prop := Claim7.holds Tryd.pinned (.plain (OpenSpec.ofChange frameReadsSpec)) frameReadsCard

/-- THE TIED CARD OF 'redlinelaw33.SuperChooses'. -/
def superChoosesCard : Claim7 := { stood := { row := superChoosesRow, standIns := [], harness := (true, "bc29030ba3e055810de3eb549a130b8e2a7db4ef98c8649bc7c12438824be390"), looks := true }, kinds := [], alts := [], laidByText := true, laidKinds := [.sentinel, .sentinel, .sentinel, .sentinel, .sentinel, .sentinel, .sentinel, .sentinel, .sentinel, .sentinel, .sentinel, .sentinel, .sentinel, .sentinel, .sentinel, .sentinel, .sentinel, .sentinel, .sentinel], laidTests := true, laidLooks := .later }
def SuperChoosesCardSaid : Prop := Claim7.holds Tryd.pinned (.plain (OpenSpec.ofChange superChoosesSpec)) superChoosesCard

/-- THE TIED CARD OF 'redlinelaw32.FrameBack'. -/
def frameBackCard : Claim7 := { stood := { row := frameBackRow, standIns := [], harness := (true, "bc29030ba3e055810de3eb549a130b8e2a7db4ef98c8649bc7c12438824be390"), looks := true }, kinds := [], alts := [], laidByText := true, laidKinds := [.sentinel, .sentinel, .sentinel, .sentinel, .sentinel, .sentinel, .sentinel], laidTests := true, laidLooks := .later }
def FrameBackCardSaid : Prop := Claim7.holds Tryd.pinned (.plain (OpenSpec.ofChange frameBackSpec)) frameBackCard

/-- THE TIED CARD OF 'redlinelaw04.RecordRaws'. -/
def recordRawsCard : Claim7 := { stood := { row := recordRawsRow, standIns := [], harness := (true, "bc29030ba3e055810de3eb549a130b8e2a7db4ef98c8649bc7c12438824be390"), looks := true }, kinds := [], alts := [], laidByText := true, laidKinds := [.sentinel, .sentinel, .sentinel, .sentinel, .sentinel, .sentinel, .sentinel, .sentinel, .sentinel, .sentinel, .sentinel, .sentinel, .sentinel, .sentinel, .sentinel, .sentinel, .sentinel, .sentinel, .sentinel], laidTests := true, laidLooks := .later }
def RecordRawsCardSaid : Prop := Claim7.holds Tryd.pinned (.plain (OpenSpec.ofChange recordRawsSpec)) recordRawsCard

/-- THE SECOND FORM's CARD OF 'redlinelaw32.FrameBytes'. -/
def frameBytesUptoCard : Claim7 := { stood := { row := frameBytesUptoRow, standIns := [], harness := (true, "bc29030ba3e055810de3eb549a130b8e2a7db4ef98c8649bc7c12438824be390"), looks := true }, kinds := [], alts := [], laidByText := true, laidKinds := [.sentinel, .sentinel, .sentinel, .sentinel, .sentinel, .sentinel, .sentinel, .sentinel, .sentinel, .sentinel, .sentinel, .sentinel, .sentinel, .sentinel, .sentinel, .sentinel, .sentinel, .sentinel, .sentinel], laidTests := true, laidLooks := .later }
def FrameBytesUptoCardSaid : Prop := Claim7.holds Tryd.pinned (.plain (OpenSpec.upto frameBytesSpec)) frameBytesUptoCard

/-- THE SECOND FORM's CARD OF 'redlinelaw34.RecBytes'. -/
def recBytesUptoCard : Claim7 := { stood := { row := recBytesUptoRow, standIns := [], harness := (true, "bc29030ba3e055810de3eb549a130b8e2a7db4ef98c8649bc7c12438824be390"), looks := true }, kinds := [], alts := [], laidByText := true, laidKinds := [.sentinel, .sentinel, .sentinel, .sentinel, .sentinel, .sentinel, .sentinel, .sentinel, .sentinel, .sentinel, .sentinel, .sentinel, .sentinel, .sentinel, .sentinel, .sentinel, .sentinel, .sentinel, .sentinel], laidTests := true, laidLooks := .later }
def RecBytesUptoCardSaid : Prop := Claim7.holds Tryd.pinned (.plain (OpenSpec.upto recBytesSpec)) recBytesUptoCard

/-- THE SECOND FORM's CARD OF 'redlinelaw33.SuperBlocks'. -/
def superBlocksUptoCard : Claim7 := { stood := { row := superBlocksUptoRow, standIns := [], harness := (true, "bc29030ba3e055810de3eb549a130b8e2a7db4ef98c8649bc7c12438824be390"), looks := true }, kinds := [], alts := [], laidByText := true, laidKinds := [.sentinel, .sentinel, .sentinel, .sentinel, .sentinel, .sentinel, .sentinel, .sentinel, .sentinel, .sentinel, .sentinel, .sentinel, .sentinel, .sentinel, .sentinel, .sentinel, .sentinel, .sentinel, .sentinel], laidTests := true, laidLooks := .later }
def SuperBlocksUptoCardSaid : Prop := Claim7.holds Tryd.pinned (.plain (OpenSpec.upto superBlocksSpec)) superBlocksUptoCard

/-- THE SECOND FORM's CARD OF 'redlinelaw33.SuperParses'. -/
def superParsesUptoCard : Claim7 := { stood := { row := superParsesUptoRow, standIns := [], harness := (true, "bc29030ba3e055810de3eb549a130b8e2a7db4ef98c8649bc7c12438824be390"), looks := true }, kinds := [], alts := [], laidByText := true, laidKinds := [.sentinel, .sentinel, .sentinel, .sentinel, .sentinel, .sentinel, .sentinel, .sentinel, .sentinel, .sentinel, .sentinel, .sentinel, .sentinel, .sentinel, .sentinel, .sentinel, .sentinel, .sentinel, .sentinel], laidTests := true, laidLooks := .later }
def SuperParsesUptoCardSaid : Prop := Claim7.holds Tryd.pinned (.plain (OpenSpec.upto superParsesSpec)) superParsesUptoCard

/-- THE SECOND FORM's CARD OF 'redlinelaw04.RecordParses'. -/
def recordParsesUptoCard : Claim7 := { stood := { row := recordParsesUptoRow, standIns := [], harness := (true, "bc29030ba3e055810de3eb549a130b8e2a7db4ef98c8649bc7c12438824be390"), looks := true }, kinds := [], alts := [], laidByText := true, laidKinds := [.sentinel, .sentinel, .sentinel, .sentinel, .sentinel, .sentinel, .sentinel, .sentinel, .sentinel, .sentinel, .sentinel, .sentinel, .sentinel, .sentinel, .sentinel, .sentinel, .sentinel, .sentinel, .sentinel], laidTests := true, laidLooks := .later }
def RecordParsesUptoCardSaid : Prop := Claim7.holds Tryd.pinned (.plain (OpenSpec.upto recordParsesSpec)) recordParsesUptoCard

/-- THE SECOND FORM's CARD OF 'redlinelaw32.FrameWrites'. -/
def frameWritesUptoCard : Claim7 := { stood := { row := frameWritesUptoRow, standIns := [], harness := (true, "bc29030ba3e055810de3eb549a130b8e2a7db4ef98c8649bc7c12438824be390"), looks := true }, kinds := [], alts := [], laidByText := true, laidKinds := [.sentinel, .sentinel, .sentinel, .sentinel, .sentinel, .sentinel, .sentinel, .sentinel, .sentinel, .sentinel, .sentinel, .sentinel, .sentinel, .sentinel, .sentinel, .sentinel, .sentinel, .sentinel, .sentinel], laidTests := true, laidLooks := .later }
def FrameWritesUptoCardSaid : Prop := Claim7.holds Tryd.pinned (.plain (OpenSpec.upto frameWritesSpec)) frameWritesUptoCard

/-- THE SECOND FORM's CARD OF 'redlinelaw33.SuperStays'. -/
def superStaysUptoCard : Claim7 := { stood := { row := superStaysUptoRow, standIns := [], harness := (true, "bc29030ba3e055810de3eb549a130b8e2a7db4ef98c8649bc7c12438824be390"), looks := true }, kinds := [], alts := [], laidByText := true, laidKinds := [.sentinel, .sentinel, .sentinel, .sentinel, .sentinel, .sentinel, .sentinel], laidTests := true, laidLooks := .later }
def SuperStaysUptoCardSaid : Prop := Claim7.holds Tryd.pinned (.plain (OpenSpec.upto superStaysSpec)) superStaysUptoCard

/-- THE SECOND FORM's CARD OF 'redlinelaw04.RecordPuts'. -/
def recordPutsUptoCard : Claim7 := { stood := { row := recordPutsUptoRow, standIns := [], harness := (true, "bc29030ba3e055810de3eb549a130b8e2a7db4ef98c8649bc7c12438824be390"), looks := true }, kinds := [], alts := [], laidByText := true, laidKinds := [.sentinel, .sentinel, .sentinel, .sentinel, .sentinel, .sentinel, .sentinel, .sentinel, .sentinel, .sentinel, .sentinel, .sentinel, .sentinel, .sentinel, .sentinel, .sentinel, .sentinel, .sentinel, .sentinel], laidTests := true, laidLooks := .later }
def RecordPutsUptoCardSaid : Prop := Claim7.holds Tryd.pinned (.plain (OpenSpec.upto recordPutsSpec)) recordPutsUptoCard

/-- THE SECOND FORM's CARD OF 'redlinelaw32.FrameReads'. -/
def frameReadsUptoCard : Claim7 := { stood := { row := frameReadsUptoRow, standIns := [], harness := (true, "bc29030ba3e055810de3eb549a130b8e2a7db4ef98c8649bc7c12438824be390"), looks := true }, kinds := [], alts := [], laidByText := true, laidKinds := [.sentinel, .sentinel, .sentinel, .sentinel, .sentinel, .sentinel, .sentinel, .sentinel, .sentinel, .sentinel, .sentinel, .sentinel, .sentinel, .sentinel, .sentinel, .sentinel, .sentinel, .sentinel, .sentinel], laidTests := true, laidLooks := .later }
def FrameReadsUptoCardSaid : Prop := Claim7.holds Tryd.pinned (.plain (OpenSpec.upto frameReadsSpec)) frameReadsUptoCard

/-- THE SECOND FORM's CARD OF 'redlinelaw33.SuperChooses'. -/
def superChoosesUptoCard : Claim7 := { stood := { row := superChoosesUptoRow, standIns := [], harness := (true, "bc29030ba3e055810de3eb549a130b8e2a7db4ef98c8649bc7c12438824be390"), looks := true }, kinds := [], alts := [], laidByText := true, laidKinds := [.sentinel, .sentinel, .sentinel, .sentinel, .sentinel, .sentinel, .sentinel, .sentinel, .sentinel, .sentinel, .sentinel, .sentinel, .sentinel, .sentinel, .sentinel, .sentinel, .sentinel, .sentinel, .sentinel], laidTests := true, laidLooks := .later }
def SuperChoosesUptoCardSaid : Prop := Claim7.holds Tryd.pinned (.plain (OpenSpec.upto superChoosesSpec)) superChoosesUptoCard

/-- THE SECOND FORM's CARD OF 'redlinelaw32.FrameBack'. -/
def frameBackUptoCard : Claim7 := { stood := { row := frameBackUptoRow, standIns := [], harness := (true, "bc29030ba3e055810de3eb549a130b8e2a7db4ef98c8649bc7c12438824be390"), looks := true }, kinds := [], alts := [], laidByText := true, laidKinds := [.sentinel, .sentinel, .sentinel, .sentinel, .sentinel, .sentinel, .sentinel], laidTests := true, laidLooks := .later }
def FrameBackUptoCardSaid : Prop := Claim7.holds Tryd.pinned (.plain (OpenSpec.upto frameBackSpec)) frameBackUptoCard

/-- THE SECOND FORM's CARD OF 'redlinelaw04.RecordRaws'. -/
def recordRawsUptoCard : Claim7 := { stood := { row := recordRawsUptoRow, standIns := [], harness := (true, "bc29030ba3e055810de3eb549a130b8e2a7db4ef98c8649bc7c12438824be390"), looks := true }, kinds := [], alts := [], laidByText := true, laidKinds := [.sentinel, .sentinel, .sentinel, .sentinel, .sentinel, .sentinel, .sentinel, .sentinel, .sentinel, .sentinel, .sentinel, .sentinel, .sentinel, .sentinel, .sentinel, .sentinel, .sentinel, .sentinel, .sentinel], laidTests := true, laidLooks := .later }
def RecordRawsUptoCardSaid : Prop := Claim7.holds Tryd.pinned (.plain (OpenSpec.upto recordRawsSpec)) recordRawsUptoCard
end Rows
end Go.Proofs.YtgehbabcpmkgaaaDoor
