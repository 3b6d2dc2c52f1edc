/-
  DERIVED. GIVEN WITH THE SEED: THE CARDS: each row of YtmohncaoimeneaaDoorRows.lean that lists a variable, with what it lists TIED to the program's text (the seventh form; the later family's looks); each row that meets fmt, with fmt's text TOLD by the authors' own Lean function (tested against real Go, not proved from fmt's source: count such statements apart). THE CARD IS WHAT COUNTS. Prove the row's statement (the work); the ties are given (YtmohncaoimeneaaDoorTie.lean); close each card by the builder's one call (the guide's Derived/Test/ToyasCard.lean, 'card_holds'). Laid BY PROGRAM, IN A SANDBOX (cutbox-door.mjs). By AI agents, Wed Nov 11 2026. No macro, syntax, notation, axiom, sorry.
-/
import Derived.Test.YtmohncaoimeneaaDoorRows
import GoSem.ClaimSeven
namespace Go.Proofs.YtmohncaoimeneaaDoor
namespace Rows

/-- THE TIED CARD OF 'bindlelaw09.DotTexts'. -/
def dotTextsCard : Claim7 := { stood := { row := dotTextsRow, standIns := [], harness := (true, "e1252e4ef6ed5361cd7564aab7221ecc9c8ea552b74423b963182bd226030aad"), looks := true }, kinds := [], alts := [], laidByText := true, laidKinds := [.data, .data, .data, .sentinel, .sentinel], laidTests := true, laidLooks := .later }
def DotTextsCardSaid : Prop := Claim7.holds Tryd.pinned (.plain (OpenSpec.ofChange dotTextsSpec)) dotTextsCard

/-- THE TIED CARD OF 'bindlelaw09.DotBack'. -/
def dotBackCard : Claim7 := { stood := { row := dotBackRow, standIns := [], harness := (true, "e1252e4ef6ed5361cd7564aab7221ecc9c8ea552b74423b963182bd226030aad"), looks := true }, kinds := [], alts := [], laidByText := true, laidKinds := [.data, .data, .data, .sentinel, .sentinel], laidTests := true, laidLooks := .later }
def DotBackCardSaid : Prop := Claim7.holds Tryd.pinned (.plain (OpenSpec.ofChange dotBackSpec)) dotBackCard

/-- THE TIED CARD OF 'bindlelaw09.DotOrders'. -/
def dotOrdersCard : Claim7 := { stood := { row := dotOrdersRow, standIns := [], harness := (true, "e1252e4ef6ed5361cd7564aab7221ecc9c8ea552b74423b963182bd226030aad"), looks := true }, kinds := [], alts := [], laidByText := true, laidKinds := [.data, .data, .data, .sentinel, .sentinel], laidTests := true, laidLooks := .later }
def DotOrdersCardSaid : Prop := Claim7.holds Tryd.pinned (.plain (OpenSpec.ofChange dotOrdersSpec)) dotOrdersCard

/-- THE TIED CARD OF 'bindlelaw09.DotOne'. -/
def dotOneCard : Claim7 := { stood := { row := dotOneRow, standIns := [], harness := (true, "e1252e4ef6ed5361cd7564aab7221ecc9c8ea552b74423b963182bd226030aad"), looks := true }, kinds := [], alts := [], laidByText := true, laidKinds := [.data, .data, .data, .sentinel, .sentinel], laidTests := true, laidLooks := .later }
def DotOneCardSaid : Prop := Claim7.holds Tryd.pinned (.plain (OpenSpec.ofChange dotOneSpec)) dotOneCard

/-- THE TIED CARD OF 'bindlelaw09.DotNext'. -/
def dotNextCard : Claim7 := { stood := { row := dotNextRow, standIns := [], harness := (true, "e1252e4ef6ed5361cd7564aab7221ecc9c8ea552b74423b963182bd226030aad"), looks := true }, kinds := [], alts := [], laidByText := true, laidKinds := [.data, .data, .data, .sentinel, .sentinel], laidTests := true, laidLooks := .later }
def DotNextCardSaid : Prop := Claim7.holds Tryd.pinned (.plain (OpenSpec.ofChange dotNextSpec)) dotNextCard

/-- THE TIED CARD OF 'bindlelaw09.DotChain'. -/
def dotChainCard : Claim7 := { stood := { row := dotChainRow, standIns := [], harness := (true, "e1252e4ef6ed5361cd7564aab7221ecc9c8ea552b74423b963182bd226030aad"), looks := true }, kinds := [], alts := [], laidByText := true, laidKinds := [.data, .data, .data, .sentinel, .sentinel], laidTests := true, laidLooks := .later }
def DotChainCardSaid : Prop := Claim7.holds Tryd.pinned (.plain (OpenSpec.ofChange dotChainSpec)) dotChainCard

/-- THE TIED CARD OF 'bindlelaw10.VecJoins'. -/
def vecJoinsCard : Claim7 := { stood := { row := vecJoinsRow, standIns := [], harness := (true, "e1252e4ef6ed5361cd7564aab7221ecc9c8ea552b74423b963182bd226030aad"), looks := true }, kinds := [], alts := [], laidByText := true, laidKinds := [.data, .data, .data, .data, .sentinel, .sentinel, .pinned], laidTests := true, laidLooks := .later }
def VecJoinsCardSaid : Prop := Claim7.holds Tryd.pinned (.plain (OpenSpec.ofChange vecJoinsSpec)) vecJoinsCard

/-- THE TIED CARD OF 'bindlelaw10.VecLattice'. -/
def vecLatticeCard : Claim7 := { stood := { row := vecLatticeRow, standIns := [], harness := (true, "e1252e4ef6ed5361cd7564aab7221ecc9c8ea552b74423b963182bd226030aad"), looks := true }, kinds := [], alts := [], laidByText := true, laidKinds := [.data, .data, .data, .data, .sentinel, .sentinel, .pinned], laidTests := true, laidLooks := .later }
def VecLatticeCardSaid : Prop := Claim7.holds Tryd.pinned (.plain (OpenSpec.ofChange vecLatticeSpec)) vecLatticeCard

/-- THE TIED CARD OF 'bindlelaw10.VecBack'. -/
def vecBackCard : Claim7 := { stood := { row := vecBackRow, standIns := [], harness := (true, "e1252e4ef6ed5361cd7564aab7221ecc9c8ea552b74423b963182bd226030aad"), looks := true }, kinds := [], alts := [], laidByText := true, laidKinds := [.data, .data, .data, .data, .sentinel, .sentinel, .pinned], laidTests := true, laidLooks := .later }
def VecBackCardSaid : Prop := Claim7.holds Tryd.pinned (.plain (OpenSpec.ofChange vecBackSpec)) vecBackCard

/-- THE TIED CARD OF 'bindlelaw10.VecKnows'. -/
def vecKnowsCard : Claim7 := { stood := { row := vecKnowsRow, standIns := [], harness := (true, "e1252e4ef6ed5361cd7564aab7221ecc9c8ea552b74423b963182bd226030aad"), looks := true }, kinds := [], alts := [], laidByText := true, laidKinds := [.data, .data, .data, .data, .sentinel, .sentinel, .pinned], laidTests := true, laidLooks := .later }
def VecKnowsCardSaid : Prop := Claim7.holds Tryd.pinned (.plain (OpenSpec.ofChange vecKnowsSpec)) vecKnowsCard

/-- THE TIED CARD OF 'bindlelaw10.VecDots'. -/
def vecDotsCard : Claim7 := { stood := { row := vecDotsRow, standIns := [], harness := (true, "e1252e4ef6ed5361cd7564aab7221ecc9c8ea552b74423b963182bd226030aad"), looks := true }, kinds := [], alts := [], laidByText := true, laidKinds := [.data, .data, .data, .data, .sentinel, .sentinel, .pinned], laidTests := true, laidLooks := .later }
def VecDotsCardSaid : Prop := Claim7.holds Tryd.pinned (.plain (OpenSpec.ofChange vecDotsSpec)) vecDotsCard

/-- THE TIED CARD OF 'bindlelaw10.VecRaises'. -/
def vecRaisesCard : Claim7 := { stood := { row := vecRaisesRow, standIns := [], harness := (true, "e1252e4ef6ed5361cd7564aab7221ecc9c8ea552b74423b963182bd226030aad"), looks := true }, kinds := [], alts := [], laidByText := true, laidKinds := [.data, .data, .data, .data, .sentinel, .sentinel, .pinned], laidTests := true, laidLooks := .later }
def VecRaisesCardSaid : Prop := Claim7.holds Tryd.pinned (.plain (OpenSpec.ofChange vecRaisesSpec)) vecRaisesCard

/-- THE SECOND FORM's CARD OF 'bindlelaw09.DotTexts'. -/
def dotTextsUptoCard : Claim7 := { stood := { row := dotTextsUptoRow, standIns := [], harness := (true, "e1252e4ef6ed5361cd7564aab7221ecc9c8ea552b74423b963182bd226030aad"), looks := true }, kinds := [], alts := [], laidByText := true, laidKinds := [.data, .data, .data, .sentinel, .sentinel], laidTests := true, laidLooks := .later }
def DotTextsUptoCardSaid : Prop := Claim7.holds Tryd.pinned (.plain (OpenSpec.upto dotTextsSpec)) dotTextsUptoCard

/-- THE SECOND FORM's CARD OF 'bindlelaw09.DotBack'. -/
def dotBackUptoCard : Claim7 := { stood := { row := dotBackUptoRow, standIns := [], harness := (true, "e1252e4ef6ed5361cd7564aab7221ecc9c8ea552b74423b963182bd226030aad"), looks := true }, kinds := [], alts := [], laidByText := true, laidKinds := [.data, .data, .data, .sentinel, .sentinel], laidTests := true, laidLooks := .later }
def DotBackUptoCardSaid : Prop := Claim7.holds Tryd.pinned (.plain (OpenSpec.upto dotBackSpec)) dotBackUptoCard

/-- THE SECOND FORM's CARD OF 'bindlelaw09.DotOrders'. -/
def dotOrdersUptoCard : Claim7 := { stood := { row := dotOrdersUptoRow, standIns := [], harness := (true, "e1252e4ef6ed5361cd7564aab7221ecc9c8ea552b74423b963182bd226030aad"), looks := true }, kinds := [], alts := [], laidByText := true, laidKinds := [.data, .data, .data, .sentinel, .sentinel], laidTests := true, laidLooks := .later }
def DotOrdersUptoCardSaid : Prop := Claim7.holds Tryd.pinned (.plain (OpenSpec.upto dotOrdersSpec)) dotOrdersUptoCard

/-- THE SECOND FORM's CARD OF 'bindlelaw09.DotOne'. -/
def dotOneUptoCard : Claim7 := { stood := { row := dotOneUptoRow, standIns := [], harness := (true, "e1252e4ef6ed5361cd7564aab7221ecc9c8ea552b74423b963182bd226030aad"), looks := true }, kinds := [], alts := [], laidByText := true, laidKinds := [.data, .data, .data, .sentinel, .sentinel], laidTests := true, laidLooks := .later }
def DotOneUptoCardSaid : Prop := Claim7.holds Tryd.pinned (.plain (OpenSpec.upto dotOneSpec)) dotOneUptoCard

/-- THE SECOND FORM's CARD OF 'bindlelaw09.DotNext'. -/
def dotNextUptoCard : Claim7 := { stood := { row := dotNextUptoRow, standIns := [], harness := (true, "e1252e4ef6ed5361cd7564aab7221ecc9c8ea552b74423b963182bd226030aad"), looks := true }, kinds := [], alts := [], laidByText := true, laidKinds := [.data, .data, .data, .sentinel, .sentinel], laidTests := true, laidLooks := .later }
def DotNextUptoCardSaid : Prop := Claim7.holds Tryd.pinned (.plain (OpenSpec.upto dotNextSpec)) dotNextUptoCard

/-- THE SECOND FORM's CARD OF 'bindlelaw09.DotChain'. -/
def dotChainUptoCard : Claim7 := { stood := { row := dotChainUptoRow, standIns := [], harness := (true, "e1252e4ef6ed5361cd7564aab7221ecc9c8ea552b74423b963182bd226030aad"), looks := true }, kinds := [], alts := [], laidByText := true, laidKinds := [.data, .data, .data, .sentinel, .sentinel], laidTests := true, laidLooks := .later }
def DotChainUptoCardSaid : Prop := Claim7.holds Tryd.pinned (.plain (OpenSpec.upto dotChainSpec)) dotChainUptoCard

/-- THE SECOND FORM's CARD OF 'bindlelaw10.VecJoins'. -/
def vecJoinsUptoCard : Claim7 := { stood := { row := vecJoinsUptoRow, standIns := [], harness := (true, "e1252e4ef6ed5361cd7564aab7221ecc9c8ea552b74423b963182bd226030aad"), looks := true }, kinds := [], alts := [], laidByText := true, laidKinds := [.data, .data, .data, .data, .sentinel, .sentinel, .pinned], laidTests := true, laidLooks := .later }
def VecJoinsUptoCardSaid : Prop := Claim7.holds Tryd.pinned (.plain (OpenSpec.upto vecJoinsSpec)) vecJoinsUptoCard

/-- THE SECOND FORM's CARD OF 'bindlelaw10.VecLattice'. -/
def vecLatticeUptoCard : Claim7 := { stood := { row := vecLatticeUptoRow, standIns := [], harness := (true, "e1252e4ef6ed5361cd7564aab7221ecc9c8ea552b74423b963182bd226030aad"), looks := true }, kinds := [], alts := [], laidByText := true, laidKinds := [.data, .data, .data, .data, .sentinel, .sentinel, .pinned], laidTests := true, laidLooks := .later }
def VecLatticeUptoCardSaid : Prop := Claim7.holds Tryd.pinned (.plain (OpenSpec.upto vecLatticeSpec)) vecLatticeUptoCard

/-- THE SECOND FORM's CARD OF 'bindlelaw10.VecBack'. -/
def vecBackUptoCard : Claim7 := { stood := { row := vecBackUptoRow, standIns := [], harness := (true, "e1252e4ef6ed5361cd7564aab7221ecc9c8ea552b74423b963182bd226030aad"), looks := true }, kinds := [], alts := [], laidByText := true, laidKinds := [.data, .data, .data, .data, .sentinel, .sentinel, .pinned], laidTests := true, laidLooks := .later }
def VecBackUptoCardSaid : Prop := Claim7.holds Tryd.pinned (.plain (OpenSpec.upto vecBackSpec)) vecBackUptoCard

/-- THE SECOND FORM's CARD OF 'bindlelaw10.VecKnows'. -/
def vecKnowsUptoCard : Claim7 := { stood := { row := vecKnowsUptoRow, standIns := [], harness := (true, "e1252e4ef6ed5361cd7564aab7221ecc9c8ea552b74423b963182bd226030aad"), looks := true }, kinds := [], alts := [], laidByText := true, laidKinds := [.data, .data, .data, .data, .sentinel, .sentinel, .pinned], laidTests := true, laidLooks := .later }
def VecKnowsUptoCardSaid : Prop := Claim7.holds Tryd.pinned (.plain (OpenSpec.upto vecKnowsSpec)) vecKnowsUptoCard

/-- THE SECOND FORM's CARD OF 'bindlelaw10.VecDots'. -/
def vecDotsUptoCard : Claim7 := { stood := { row := vecDotsUptoRow, standIns := [], harness := (true, "e1252e4ef6ed5361cd7564aab7221ecc9c8ea552b74423b963182bd226030aad"), looks := true }, kinds := [], alts := [], laidByText := true, laidKinds := [.data, .data, .data, .data, .sentinel, .sentinel, .pinned], laidTests := true, laidLooks := .later }
def VecDotsUptoCardSaid : Prop := Claim7.holds Tryd.pinned (.plain (OpenSpec.upto vecDotsSpec)) vecDotsUptoCard

/-- THE SECOND FORM's CARD OF 'bindlelaw10.VecRaises'. -/
def vecRaisesUptoCard : Claim7 := { stood := { row := vecRaisesUptoRow, standIns := [], harness := (true, "e1252e4ef6ed5361cd7564aab7221ecc9c8ea552b74423b963182bd226030aad"), looks := true }, kinds := [], alts := [], laidByText := true, laidKinds := [.data, .data, .data, .data, .sentinel, .sentinel, .pinned], laidTests := true, laidLooks := .later }
def VecRaisesUptoCardSaid : Prop := Claim7.holds Tryd.pinned (.plain (OpenSpec.upto vecRaisesSpec)) vecRaisesUptoCard
end Rows
end Go.Proofs.YtmohncaoimeneaaDoor
