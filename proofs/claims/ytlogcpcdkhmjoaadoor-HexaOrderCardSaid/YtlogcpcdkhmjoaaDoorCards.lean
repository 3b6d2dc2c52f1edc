/-
  DERIVED. GIVEN WITH THE SEED: THE CARDS: each row of YtlogcpcdkhmjoaaDoorRows.lean that lists a variable, with what it lists TIED to the program's text (the seventh form; the later family's looks); each row that meets fmt, with fmt's text TOLD by the authors' own Lean function (tested against real Go, not proved from fmt's source: count such statements apart). THE CARD IS WHAT COUNTS. Prove the row's statement (the work); the ties are given (YtlogcpcdkhmjoaaDoorTie.lean); close each card by the builder's one call (the guide's Derived/Test/ToyasCard.lean, 'card_holds'). Laid BY PROGRAM, IN A SANDBOX (cutbox-door.mjs). By AI agents, Wed Nov 11 2026. No macro, syntax, notation, axiom, sorry.
-/
import Derived.Test.YtlogcpcdkhmjoaaDoorRows
import GoSem.ClaimSeven
namespace Go.Proofs.YtlogcpcdkhmjoaaDoor
namespace Rows

/-- THE TIED CARD OF 'bindlelaw05.OctalTexts'. -/
def octalTextsCard : Claim7 := { stood := { row := octalTextsRow, standIns := [], harness := (true, "53bb831bd03fc4cdac245c00f4298964b86890342bb23095a55377d2a42c1c86"), looks := true }, kinds := [], alts := [], laidByText := true, laidKinds := [.data, .pinned], laidTests := true, laidLooks := .later }
def OctalTextsCardSaid : Prop := Claim7.holds Tryd.pinned (.plain (OpenSpec.ofChange octalTextsSpec)) octalTextsCard

/-- THE TIED CARD OF 'bindlelaw05.OctalBack'. -/
def octalBackCard : Claim7 := { stood := { row := octalBackRow, standIns := [], harness := (true, "53bb831bd03fc4cdac245c00f4298964b86890342bb23095a55377d2a42c1c86"), looks := true }, kinds := [], alts := [], laidByText := true, laidKinds := [.data, .pinned], laidTests := true, laidLooks := .later }
def OctalBackCardSaid : Prop := Claim7.holds Tryd.pinned (.plain (OpenSpec.ofChange octalBackSpec)) octalBackCard

/-- THE TIED CARD OF 'bindlelaw04.HexaTexts'. -/
def hexaTextsCard : Claim7 := { stood := { row := hexaTextsRow, standIns := [], harness := (true, "53bb831bd03fc4cdac245c00f4298964b86890342bb23095a55377d2a42c1c86"), looks := true }, kinds := [], alts := [], laidByText := true, laidKinds := [.data, .data, .data, .sentinel, .sentinel], laidTests := true, laidLooks := .later }
def HexaTextsCardSaid : Prop := Claim7.holds Tryd.pinned (.plain (OpenSpec.ofChange hexaTextsSpec)) hexaTextsCard

/-- THE TIED CARD OF 'bindlelaw04.HexaNumbers'. -/
def hexaNumbersCard : Claim7 := { stood := { row := hexaNumbersRow, standIns := [], harness := (true, "53bb831bd03fc4cdac245c00f4298964b86890342bb23095a55377d2a42c1c86"), looks := true }, kinds := [], alts := [], laidByText := true, laidKinds := [.data, .data, .data, .sentinel, .sentinel], laidTests := true, laidLooks := .later }
def HexaNumbersCardSaid : Prop := Claim7.holds Tryd.pinned (.plain (OpenSpec.ofChange hexaNumbersSpec)) hexaNumbersCard

/-- THE TIED CARD OF 'bindlelaw04.HexaBack'. -/
def hexaBackCard : Claim7 := { stood := { row := hexaBackRow, standIns := [], harness := (true, "53bb831bd03fc4cdac245c00f4298964b86890342bb23095a55377d2a42c1c86"), looks := true }, kinds := [], alts := [], laidByText := true, laidKinds := [.data, .data, .data, .sentinel, .sentinel], laidTests := true, laidLooks := .later }
def HexaBackCardSaid : Prop := Claim7.holds Tryd.pinned (.plain (OpenSpec.ofChange hexaBackSpec)) hexaBackCard

/-- THE TIED CARD OF 'bindlelaw04.HexaReads'. -/
def hexaReadsCard : Claim7 := { stood := { row := hexaReadsRow, standIns := [], harness := (true, "53bb831bd03fc4cdac245c00f4298964b86890342bb23095a55377d2a42c1c86"), looks := true }, kinds := [], alts := [], laidByText := true, laidKinds := [.data, .data, .data, .sentinel, .sentinel], laidTests := true, laidLooks := .later }
def HexaReadsCardSaid : Prop := Claim7.holds Tryd.pinned (.plain (OpenSpec.ofChange hexaReadsSpec)) hexaReadsCard

/-- THE TIED CARD OF 'bindlelaw04.HexaOrder'. -/
def hexaOrderCard : Claim7 := { stood := { row := hexaOrderRow, standIns := [], harness := (true, "53bb831bd03fc4cdac245c00f4298964b86890342bb23095a55377d2a42c1c86"), looks := true }, kinds := [], alts := [], laidByText := true, laidKinds := [.data, .data, .data, .sentinel, .sentinel], laidTests := true, laidLooks := .later }
def HexaOrderCardSaid : Prop := Claim7.holds Tryd.pinned (.plain (OpenSpec.ofChange hexaOrderSpec)) hexaOrderCard

/-- THE TIED CARD OF 'bindlelaw04.HexaBad'. -/
def hexaBadCard : Claim7 := { stood := { row := hexaBadRow, standIns := [], harness := (true, "53bb831bd03fc4cdac245c00f4298964b86890342bb23095a55377d2a42c1c86"), looks := true }, kinds := [], alts := [], laidByText := true, laidKinds := [.data, .data, .data, .sentinel, .sentinel], laidTests := true, laidLooks := .later }
def HexaBadCardSaid : Prop := Claim7.holds Tryd.pinned (.plain (OpenSpec.ofChange hexaBadSpec)) hexaBadCard

/-- THE SECOND FORM's CARD OF 'bindlelaw05.OctalTexts'. -/
def octalTextsUptoCard : Claim7 := { stood := { row := octalTextsUptoRow, standIns := [], harness := (true, "53bb831bd03fc4cdac245c00f4298964b86890342bb23095a55377d2a42c1c86"), looks := true }, kinds := [], alts := [], laidByText := true, laidKinds := [.data, .pinned], laidTests := true, laidLooks := .later }
def OctalTextsUptoCardSaid : Prop := Claim7.holds Tryd.pinned (.plain (OpenSpec.upto octalTextsSpec)) octalTextsUptoCard

/-- THE SECOND FORM's CARD OF 'bindlelaw05.OctalBack'. -/
def octalBackUptoCard : Claim7 := { stood := { row := octalBackUptoRow, standIns := [], harness := (true, "53bb831bd03fc4cdac245c00f4298964b86890342bb23095a55377d2a42c1c86"), looks := true }, kinds := [], alts := [], laidByText := true, laidKinds := [.data, .pinned], laidTests := true, laidLooks := .later }
def OctalBackUptoCardSaid : Prop := Claim7.holds Tryd.pinned (.plain (OpenSpec.upto octalBackSpec)) octalBackUptoCard

/-- THE SECOND FORM's CARD OF 'bindlelaw04.HexaTexts'. -/
def hexaTextsUptoCard : Claim7 := { stood := { row := hexaTextsUptoRow, standIns := [], harness := (true, "53bb831bd03fc4cdac245c00f4298964b86890342bb23095a55377d2a42c1c86"), looks := true }, kinds := [], alts := [], laidByText := true, laidKinds := [.data, .data, .data, .sentinel, .sentinel], laidTests := true, laidLooks := .later }
def HexaTextsUptoCardSaid : Prop := Claim7.holds Tryd.pinned (.plain (OpenSpec.upto hexaTextsSpec)) hexaTextsUptoCard

/-- THE SECOND FORM's CARD OF 'bindlelaw04.HexaNumbers'. -/
def hexaNumbersUptoCard : Claim7 := { stood := { row := hexaNumbersUptoRow, standIns := [], harness := (true, "53bb831bd03fc4cdac245c00f4298964b86890342bb23095a55377d2a42c1c86"), looks := true }, kinds := [], alts := [], laidByText := true, laidKinds := [.data, .data, .data, .sentinel, .sentinel], laidTests := true, laidLooks := .later }
def HexaNumbersUptoCardSaid : Prop := Claim7.holds Tryd.pinned (.plain (OpenSpec.upto hexaNumbersSpec)) hexaNumbersUptoCard

/-- THE SECOND FORM's CARD OF 'bindlelaw04.HexaBack'. -/
def hexaBackUptoCard : Claim7 := { stood := { row := hexaBackUptoRow, standIns := [], harness := (true, "53bb831bd03fc4cdac245c00f4298964b86890342bb23095a55377d2a42c1c86"), looks := true }, kinds := [], alts := [], laidByText := true, laidKinds := [.data, .data, .data, .sentinel, .sentinel], laidTests := true, laidLooks := .later }
def HexaBackUptoCardSaid : Prop := Claim7.holds Tryd.pinned (.plain (OpenSpec.upto hexaBackSpec)) hexaBackUptoCard

/-- THE SECOND FORM's CARD OF 'bindlelaw04.HexaReads'. -/
def hexaReadsUptoCard : Claim7 := { stood := { row := hexaReadsUptoRow, standIns := [], harness := (true, "53bb831bd03fc4cdac245c00f4298964b86890342bb23095a55377d2a42c1c86"), looks := true }, kinds := [], alts := [], laidByText := true, laidKinds := [.data, .data, .data, .sentinel, .sentinel], laidTests := true, laidLooks := .later }
def HexaReadsUptoCardSaid : Prop := Claim7.holds Tryd.pinned (.plain (OpenSpec.upto hexaReadsSpec)) hexaReadsUptoCard

/-- THE SECOND FORM's CARD OF 'bindlelaw04.HexaOrder'. -/
def hexaOrderUptoCard : Claim7 := { stood := { row := hexaOrderUptoRow, standIns := [], harness := (true, "53bb831bd03fc4cdac245c00f4298964b86890342bb23095a55377d2a42c1c86"), looks := true }, kinds := [], alts := [], laidByText := true, laidKinds := [.data, .data, .data, .sentinel, .sentinel], laidTests := true, laidLooks := .later }
def HexaOrderUptoCardSaid : Prop := Claim7.holds Tryd.pinned (.plain (OpenSpec.upto hexaOrderSpec)) hexaOrderUptoCard

/-- THE SECOND FORM's CARD OF 'bindlelaw04.HexaBad'. -/
def hexaBadUptoCard : Claim7 := { stood := { row := hexaBadUptoRow, standIns := [], harness := (true, "53bb831bd03fc4cdac245c00f4298964b86890342bb23095a55377d2a42c1c86"), looks := true }, kinds := [], alts := [], laidByText := true, laidKinds := [.data, .data, .data, .sentinel, .sentinel], laidTests := true, laidLooks := .later }
def HexaBadUptoCardSaid : Prop := Claim7.holds Tryd.pinned (.plain (OpenSpec.upto hexaBadSpec)) hexaBadUptoCard
end Rows
end Go.Proofs.YtlogcpcdkhmjoaaDoor
