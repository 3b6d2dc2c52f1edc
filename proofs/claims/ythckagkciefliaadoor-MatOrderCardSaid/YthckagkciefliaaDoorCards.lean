/-
  DERIVED. GIVEN WITH THE SEED: THE CARDS: each row of YthckagkciefliaaDoorRows.lean that lists a variable, with what it lists TIED to the program's text (the seventh form; the later family's looks); each row that meets fmt, with fmt's text TOLD by the authors' own Lean function (tested against real Go, not proved from fmt's source: count such statements apart). THE CARD IS WHAT COUNTS. Prove the row's statement (the work); the ties are given (YthckagkciefliaaDoorTie.lean); close each card by the builder's one call (the guide's Derived/Test/ToyasCard.lean, 'card_holds'). Laid BY PROGRAM, IN A SANDBOX (cutbox-door.mjs). By AI agents, Wed Nov 11 2026. No macro, syntax, notation, axiom, sorry.
-/
import Derived.Test.YthckagkciefliaaDoorRows
import GoSem.ClaimSeven
namespace Go.Proofs.YthckagkciefliaaDoor
namespace Rows

/-- THE TIED CARD OF 'bindlelaw11.MatBack'. -/
def matBackCard : Claim7 := { stood := { row := matBackRow, standIns := [], harness := (true, "05659bc2e2720f69f1bf0f2c7919af1d8aaf61cd3ebbdb162a0ddc3685cb7380"), looks := true }, kinds := [], alts := [], laidByText := true, laidKinds := [.data, .data, .data, .data, .sentinel, .sentinel, .pinned], laidTests := true, laidLooks := .later }
def MatBackCardSaid : Prop := Claim7.holds Tryd.pinned (.plain (OpenSpec.ofChange matBackSpec)) matBackCard

/-- THE TIED CARD OF 'bindlelaw11.MatRaised'. -/
def matRaisedCard : Claim7 := { stood := { row := matRaisedRow, standIns := [], harness := (true, "05659bc2e2720f69f1bf0f2c7919af1d8aaf61cd3ebbdb162a0ddc3685cb7380"), looks := true }, kinds := [], alts := [], laidByText := true, laidKinds := [.data, .data, .data, .data, .sentinel, .sentinel, .pinned], laidTests := true, laidLooks := .later }
def MatRaisedCardSaid : Prop := Claim7.holds Tryd.pinned (.plain (OpenSpec.ofChange matRaisedSpec)) matRaisedCard

/-- THE TIED CARD OF 'bindlelaw11.MatOrder'. -/
def matOrderCard : Claim7 := { stood := { row := matOrderRow, standIns := [], harness := (true, "05659bc2e2720f69f1bf0f2c7919af1d8aaf61cd3ebbdb162a0ddc3685cb7380"), looks := true }, kinds := [], alts := [], laidByText := true, laidKinds := [.data, .data, .data, .data, .sentinel, .sentinel, .pinned], laidTests := true, laidLooks := .later }
def MatOrderCardSaid : Prop := Claim7.holds Tryd.pinned (.plain (OpenSpec.ofChange matOrderSpec)) matOrderCard

/-- THE TIED CARD OF 'bindlelaw11.MatLow'. -/
def matLowCard : Claim7 := { stood := { row := matLowRow, standIns := [], harness := (true, "05659bc2e2720f69f1bf0f2c7919af1d8aaf61cd3ebbdb162a0ddc3685cb7380"), looks := true }, kinds := [], alts := [], laidByText := true, laidKinds := [.data, .data, .data, .data, .sentinel, .sentinel, .pinned], laidTests := true, laidLooks := .later }
def MatLowCardSaid : Prop := Claim7.holds Tryd.pinned (.plain (OpenSpec.ofChange matLowSpec)) matLowCard

/-- THE SECOND FORM's CARD OF 'bindlelaw11.MatBack'. -/
def matBackUptoCard : Claim7 := { stood := { row := matBackUptoRow, standIns := [], harness := (true, "05659bc2e2720f69f1bf0f2c7919af1d8aaf61cd3ebbdb162a0ddc3685cb7380"), looks := true }, kinds := [], alts := [], laidByText := true, laidKinds := [.data, .data, .data, .data, .sentinel, .sentinel, .pinned], laidTests := true, laidLooks := .later }
def MatBackUptoCardSaid : Prop := Claim7.holds Tryd.pinned (.plain (OpenSpec.upto matBackSpec)) matBackUptoCard

/-- THE SECOND FORM's CARD OF 'bindlelaw11.MatRaised'. -/
def matRaisedUptoCard : Claim7 := { stood := { row := matRaisedUptoRow, standIns := [], harness := (true, "05659bc2e2720f69f1bf0f2c7919af1d8aaf61cd3ebbdb162a0ddc3685cb7380"), looks := true }, kinds := [], alts := [], laidByText := true, laidKinds := [.data, .data, .data, .data, .sentinel, .sentinel, .pinned], laidTests := true, laidLooks := .later }
def MatRaisedUptoCardSaid : Prop := Claim7.holds Tryd.pinned (.plain (OpenSpec.upto matRaisedSpec)) matRaisedUptoCard

/-- THE SECOND FORM's CARD OF 'bindlelaw11.MatOrder'. -/
def matOrderUptoCard : Claim7 := { stood := { row := matOrderUptoRow, standIns := [], harness := (true, "05659bc2e2720f69f1bf0f2c7919af1d8aaf61cd3ebbdb162a0ddc3685cb7380"), looks := true }, kinds := [], alts := [], laidByText := true, laidKinds := [.data, .data, .data, .data, .sentinel, .sentinel, .pinned], laidTests := true, laidLooks := .later }
def MatOrderUptoCardSaid : Prop := Claim7.holds Tryd.pinned (.plain (OpenSpec.upto matOrderSpec)) matOrderUptoCard

/-- THE SECOND FORM's CARD OF 'bindlelaw11.MatLow'. -/
def matLowUptoCard : Claim7 := { stood := { row := matLowUptoRow, standIns := [], harness := (true, "05659bc2e2720f69f1bf0f2c7919af1d8aaf61cd3ebbdb162a0ddc3685cb7380"), looks := true }, kinds := [], alts := [], laidByText := true, laidKinds := [.data, .data, .data, .data, .sentinel, .sentinel, .pinned], laidTests := true, laidLooks := .later }
def MatLowUptoCardSaid : Prop := Claim7.holds Tryd.pinned (.plain (OpenSpec.upto matLowSpec)) matLowUptoCard
end Rows
end Go.Proofs.YthckagkciefliaaDoor
