/-
  DERIVED. GIVEN WITH THE SEED: THE CARDS: each row of YtjincjgapjekeaaDoorRows.lean that lists a variable, with what it lists TIED to the program's text (the seventh form; the later family's looks); each row that meets fmt, with fmt's text TOLD by the authors' own Lean function (tested against real Go, not proved from fmt's source: count such statements apart). THE CARD IS WHAT COUNTS. Prove the row's statement (the work); the ties are given (YtjincjgapjekeaaDoorTie.lean); close each card by the builder's one call (the guide's Derived/Test/ToyasCard.lean, 'card_holds'). Laid BY PROGRAM, IN A SANDBOX (cutbox-door.mjs). By AI agents, Wed Nov 11 2026. No macro, syntax, notation, axiom, sorry.
-/
import Derived.Test.YtjincjgapjekeaaDoorRows
import GoSem.ClaimSeven
namespace Go.Proofs.YtjincjgapjekeaaDoor
namespace Rows

/-- THE TIED CARD OF 'redlinelaw01.OctetsPuts'. -/
def octetsPutsCard : Claim7 := { stood := { row := octetsPutsRow, standIns := [], harness := (true, "0a48dff21d4eabb504e03c9fc2637da85a64908b92123a5429de9e4f82925f07"), looks := true }, kinds := [], alts := [], laidByText := true, laidKinds := [.sentinel, .sentinel], laidTests := true, laidLooks := .later }
def OctetsPutsCardSaid : Prop := Claim7.holds Tryd.pinned (.plain (OpenSpec.ofChange octetsPutsSpec)) octetsPutsCard

/-- THE TIED CARD OF 'redlinelaw01.OctetsOrder'. -/
def octetsOrderCard : Claim7 := { stood := { row := octetsOrderRow, standIns := [], harness := (true, "0a48dff21d4eabb504e03c9fc2637da85a64908b92123a5429de9e4f82925f07"), looks := true }, kinds := [], alts := [], laidByText := true, laidKinds := [.sentinel, .sentinel], laidTests := true, laidLooks := .later }
def OctetsOrderCardSaid : Prop := Claim7.holds Tryd.pinned (.plain (OpenSpec.ofChange octetsOrderSpec)) octetsOrderCard

/-- THE TIED CARD OF 'redlinelaw05.CrcSums'. -/
def crcSumsCard : Claim7 := { stood := { row := crcSumsRow, standIns := [], harness := (true, "0a48dff21d4eabb504e03c9fc2637da85a64908b92123a5429de9e4f82925f07"), looks := true }, kinds := [], alts := [], laidByText := true, laidKinds := [.sentinel, .sentinel, .sentinel], laidTests := true, laidLooks := .later }
def CrcSumsCardSaid : Prop := Claim7.holds Tryd.pinned (.plain (OpenSpec.ofChange crcSumsSpec)) crcSumsCard

/-- THE TIED CARD OF 'redlinelaw05.CrcSeals'. -/
def crcSealsCard : Claim7 := { stood := { row := crcSealsRow, standIns := [], harness := (true, "0a48dff21d4eabb504e03c9fc2637da85a64908b92123a5429de9e4f82925f07"), looks := true }, kinds := [], alts := [], laidByText := true, laidKinds := [.sentinel, .sentinel, .sentinel], laidTests := true, laidLooks := .later }
def CrcSealsCardSaid : Prop := Claim7.holds Tryd.pinned (.plain (OpenSpec.ofChange crcSealsSpec)) crcSealsCard

/-- THE TIED CARD OF 'redlinelaw05.CrcLinear'. -/
def crcLinearCard : Claim7 := { stood := { row := crcLinearRow, standIns := [], harness := (true, "0a48dff21d4eabb504e03c9fc2637da85a64908b92123a5429de9e4f82925f07"), looks := true }, kinds := [], alts := [], laidByText := true, laidKinds := [.sentinel, .sentinel, .sentinel], laidTests := true, laidLooks := .later }
def CrcLinearCardSaid : Prop := Claim7.holds Tryd.pinned (.plain (OpenSpec.ofChange crcLinearSpec)) crcLinearCard

/-- THE TIED CARD OF 'redlinelaw01.OctetsReads'. -/
def octetsReadsCard : Claim7 := { stood := { row := octetsReadsRow, standIns := [], harness := (true, "0a48dff21d4eabb504e03c9fc2637da85a64908b92123a5429de9e4f82925f07"), looks := true }, kinds := [], alts := [], laidByText := true, laidKinds := [.sentinel, .sentinel, .sentinel, .sentinel, .sentinel, .sentinel, .sentinel, .sentinel, .sentinel, .sentinel, .sentinel, .sentinel, .sentinel, .sentinel, .sentinel, .sentinel, .sentinel, .sentinel, .sentinel], laidTests := true, laidLooks := .later }
def OctetsReadsCardSaid : Prop := Claim7.holds Tryd.pinned (.plain (OpenSpec.ofChange octetsReadsSpec)) octetsReadsCard

/-- THE TIED CARD OF 'redlinelaw05.CrcOpens'. -/
def crcOpensCard : Claim7 := { stood := { row := crcOpensRow, standIns := [], harness := (true, "0a48dff21d4eabb504e03c9fc2637da85a64908b92123a5429de9e4f82925f07"), looks := true }, kinds := [], alts := [], laidByText := true, laidKinds := [.sentinel, .sentinel, .sentinel, .sentinel, .sentinel, .sentinel, .sentinel, .sentinel, .sentinel, .sentinel, .sentinel, .sentinel, .sentinel, .sentinel, .sentinel, .sentinel, .sentinel, .sentinel, .sentinel], laidTests := true, laidLooks := .later }
def CrcOpensCardSaid : Prop := Claim7.holds Tryd.pinned (.plain (OpenSpec.ofChange crcOpensSpec)) crcOpensCard

/-- THE TIED CARD OF 'redlinelaw05.CrcBursts'. -/
def crcBurstsCard : Claim7 := { stood := { row := crcBurstsRow, standIns := [], harness := (true, "0a48dff21d4eabb504e03c9fc2637da85a64908b92123a5429de9e4f82925f07"), looks := true }, kinds := [], alts := [], laidByText := true, laidKinds := [.sentinel, .sentinel, .sentinel, .sentinel, .sentinel, .sentinel, .sentinel, .sentinel, .sentinel, .sentinel, .sentinel, .sentinel, .sentinel, .sentinel, .sentinel, .sentinel, .sentinel, .sentinel, .sentinel], laidTests := true, laidLooks := .later }
def CrcBurstsCardSaid : Prop := Claim7.holds Tryd.pinned (.plain (OpenSpec.ofChange crcBurstsSpec)) crcBurstsCard

/-- THE SECOND FORM's CARD OF 'redlinelaw01.OctetsPuts'. -/
def octetsPutsUptoCard : Claim7 := { stood := { row := octetsPutsUptoRow, standIns := [], harness := (true, "0a48dff21d4eabb504e03c9fc2637da85a64908b92123a5429de9e4f82925f07"), looks := true }, kinds := [], alts := [], laidByText := true, laidKinds := [.sentinel, .sentinel], laidTests := true, laidLooks := .later }
def OctetsPutsUptoCardSaid : Prop := Claim7.holds Tryd.pinned (.plain (OpenSpec.upto octetsPutsSpec)) octetsPutsUptoCard

/-- THE SECOND FORM's CARD OF 'redlinelaw01.OctetsOrder'. -/
def octetsOrderUptoCard : Claim7 := { stood := { row := octetsOrderUptoRow, standIns := [], harness := (true, "0a48dff21d4eabb504e03c9fc2637da85a64908b92123a5429de9e4f82925f07"), looks := true }, kinds := [], alts := [], laidByText := true, laidKinds := [.sentinel, .sentinel], laidTests := true, laidLooks := .later }
def OctetsOrderUptoCardSaid : Prop := Claim7.holds Tryd.pinned (.plain (OpenSpec.upto octetsOrderSpec)) octetsOrderUptoCard

/-- THE SECOND FORM's CARD OF 'redlinelaw05.CrcSums'. -/
def crcSumsUptoCard : Claim7 := { stood := { row := crcSumsUptoRow, standIns := [], harness := (true, "0a48dff21d4eabb504e03c9fc2637da85a64908b92123a5429de9e4f82925f07"), looks := true }, kinds := [], alts := [], laidByText := true, laidKinds := [.sentinel, .sentinel, .sentinel], laidTests := true, laidLooks := .later }
def CrcSumsUptoCardSaid : Prop := Claim7.holds Tryd.pinned (.plain (OpenSpec.upto crcSumsSpec)) crcSumsUptoCard

/-- THE SECOND FORM's CARD OF 'redlinelaw05.CrcSeals'. -/
def crcSealsUptoCard : Claim7 := { stood := { row := crcSealsUptoRow, standIns := [], harness := (true, "0a48dff21d4eabb504e03c9fc2637da85a64908b92123a5429de9e4f82925f07"), looks := true }, kinds := [], alts := [], laidByText := true, laidKinds := [.sentinel, .sentinel, .sentinel], laidTests := true, laidLooks := .later }
def CrcSealsUptoCardSaid : Prop := Claim7.holds Tryd.pinned (.plain (OpenSpec.upto crcSealsSpec)) crcSealsUptoCard

/-- THE SECOND FORM's CARD OF 'redlinelaw05.CrcLinear'. -/
def crcLinearUptoCard : Claim7 := { stood := { row := crcLinearUptoRow, standIns := [], harness := (true, "0a48dff21d4eabb504e03c9fc2637da85a64908b92123a5429de9e4f82925f07"), looks := true }, kinds := [], alts := [], laidByText := true, laidKinds := [.sentinel, .sentinel, .sentinel], laidTests := true, laidLooks := .later }
def CrcLinearUptoCardSaid : Prop := Claim7.holds Tryd.pinned (.plain (OpenSpec.upto crcLinearSpec)) crcLinearUptoCard

/-- THE SECOND FORM's CARD OF 'redlinelaw01.OctetsReads'. -/
def octetsReadsUptoCard : Claim7 := { stood := { row := octetsReadsUptoRow, standIns := [], harness := (true, "0a48dff21d4eabb504e03c9fc2637da85a64908b92123a5429de9e4f82925f07"), looks := true }, kinds := [], alts := [], laidByText := true, laidKinds := [.sentinel, .sentinel, .sentinel, .sentinel, .sentinel, .sentinel, .sentinel, .sentinel, .sentinel, .sentinel, .sentinel, .sentinel, .sentinel, .sentinel, .sentinel, .sentinel, .sentinel, .sentinel, .sentinel], laidTests := true, laidLooks := .later }
def OctetsReadsUptoCardSaid : Prop := Claim7.holds Tryd.pinned (.plain (OpenSpec.upto octetsReadsSpec)) octetsReadsUptoCard

/-- THE SECOND FORM's CARD OF 'redlinelaw05.CrcOpens'. -/
def crcOpensUptoCard : Claim7 := { stood := { row := crcOpensUptoRow, standIns := [], harness := (true, "0a48dff21d4eabb504e03c9fc2637da85a64908b92123a5429de9e4f82925f07"), looks := true }, kinds := [], alts := [], laidByText := true, laidKinds := [.sentinel, .sentinel, .sentinel, .sentinel, .sentinel, .sentinel, .sentinel, .sentinel, .sentinel, .sentinel, .sentinel, .sentinel, .sentinel, .sentinel, .sentinel, .sentinel, .sentinel, .sentinel, .sentinel], laidTests := true, laidLooks := .later }
def CrcOpensUptoCardSaid : Prop := Claim7.holds Tryd.pinned (.plain (OpenSpec.upto crcOpensSpec)) crcOpensUptoCard

/-- THE SECOND FORM's CARD OF 'redlinelaw05.CrcBursts'. -/
def crcBurstsUptoCard : Claim7 := { stood := { row := crcBurstsUptoRow, standIns := [], harness := (true, "0a48dff21d4eabb504e03c9fc2637da85a64908b92123a5429de9e4f82925f07"), looks := true }, kinds := [], alts := [], laidByText := true, laidKinds := [.sentinel, .sentinel, .sentinel, .sentinel, .sentinel, .sentinel, .sentinel, .sentinel, .sentinel, .sentinel, .sentinel, .sentinel, .sentinel, .sentinel, .sentinel, .sentinel, .sentinel, .sentinel, .sentinel], laidTests := true, laidLooks := .later }
def CrcBurstsUptoCardSaid : Prop := Claim7.holds Tryd.pinned (.plain (OpenSpec.upto crcBurstsSpec)) crcBurstsUptoCard
end Rows
end Go.Proofs.YtjincjgapjekeaaDoor
