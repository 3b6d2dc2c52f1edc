/-
  DERIVED. GIVEN WITH THE SEED: THE CARDS: each row of YtkchfbnkdpdbkaaDoorRows.lean that lists a variable, with what it lists TIED to the program's text (the seventh form; the later family's looks); each row that meets fmt, with fmt's text TOLD by the authors' own Lean function (tested against real Go, not proved from fmt's source: count such statements apart). THE CARD IS WHAT COUNTS. Prove the row's statement (the work); the ties are given (YtkchfbnkdpdbkaaDoorTie.lean); close each card by the builder's one call (the guide's Derived/Test/ToyasCard.lean, 'card_holds'). Laid BY PROGRAM, IN A SANDBOX (cutbox-door.mjs). By AI agents, Wed Nov 11 2026. No macro, syntax, notation, axiom, sorry.
-/
import Derived.Test.YtkchfbnkdpdbkaaDoorRows
import GoSem.ClaimSeven
namespace Go.Proofs.YtkchfbnkdpdbkaaDoor
namespace Rows

/-- THE TIED CARD OF 'bindlelaw04.HexaBad'. -/
def hexaBadCard : Claim7 := { stood := { row := hexaBadRow, standIns := [], harness := (true, "78d7c5d026655af3200d0d6edd81c281aacf758d82fc9da4542e4754a4a4af9e"), looks := true }, kinds := [], alts := [], laidByText := true, laidKinds := [.data, .data, .data, .sentinel, .sentinel], laidTests := true, laidLooks := .later }
def HexaBadCardSaid : Prop := Claim7.holds Tryd.pinned (.plain (OpenSpec.ofChange hexaBadSpec)) hexaBadCard

/-- THE TIED CARD OF 'bindlelaw07.HeaderPuts'. -/
def headerPutsCard : Claim7 := { stood := { row := headerPutsRow, standIns := [], harness := (true, "78d7c5d026655af3200d0d6edd81c281aacf758d82fc9da4542e4754a4a4af9e"), looks := true }, kinds := [], alts := [], laidByText := true, laidKinds := [.data, .pinned], laidTests := true, laidLooks := .later }
def HeaderPutsCardSaid : Prop := Claim7.holds Tryd.pinned (.plain (OpenSpec.ofChange headerPutsSpec)) headerPutsCard

/-- THE TIED CARD OF 'bindlelaw07.HeaderBack'. -/
def headerBackCard : Claim7 := { stood := { row := headerBackRow, standIns := [], harness := (true, "78d7c5d026655af3200d0d6edd81c281aacf758d82fc9da4542e4754a4a4af9e"), looks := true }, kinds := [], alts := [], laidByText := true, laidKinds := [.data, .pinned], laidTests := true, laidLooks := .later }
def HeaderBackCardSaid : Prop := Claim7.holds Tryd.pinned (.plain (OpenSpec.ofChange headerBackSpec)) headerBackCard

/-- THE TIED CARD OF 'bindlelaw07.HeaderTurned'. -/
def headerTurnedCard : Claim7 := { stood := { row := headerTurnedRow, standIns := [], harness := (true, "78d7c5d026655af3200d0d6edd81c281aacf758d82fc9da4542e4754a4a4af9e"), looks := true }, kinds := [], alts := [], laidByText := true, laidKinds := [.data, .pinned], laidTests := true, laidLooks := .later }
def HeaderTurnedCardSaid : Prop := Claim7.holds Tryd.pinned (.plain (OpenSpec.ofChange headerTurnedSpec)) headerTurnedCard

/-- THE TIED CARD OF 'bindlelaw07.HeaderSums'. -/
def headerSumsCard : Claim7 := { stood := { row := headerSumsRow, standIns := [], harness := (true, "78d7c5d026655af3200d0d6edd81c281aacf758d82fc9da4542e4754a4a4af9e"), looks := true }, kinds := [], alts := [], laidByText := true, laidKinds := [.data, .pinned], laidTests := true, laidLooks := .later }
def HeaderSumsCardSaid : Prop := Claim7.holds Tryd.pinned (.plain (OpenSpec.ofChange headerSumsSpec)) headerSumsCard

/-- THE TIED CARD OF 'bindlelaw07.HeaderApart'. -/
def headerApartCard : Claim7 := { stood := { row := headerApartRow, standIns := [], harness := (true, "78d7c5d026655af3200d0d6edd81c281aacf758d82fc9da4542e4754a4a4af9e"), looks := true }, kinds := [], alts := [], laidByText := true, laidKinds := [.data, .pinned], laidTests := true, laidLooks := .later }
def HeaderApartCardSaid : Prop := Claim7.holds Tryd.pinned (.plain (OpenSpec.ofChange headerApartSpec)) headerApartCard

/-- THE TIED CARD OF 'bindlelaw07.HeaderRounds'. -/
def headerRoundsCard : Claim7 := { stood := { row := headerRoundsRow, standIns := [], harness := (true, "78d7c5d026655af3200d0d6edd81c281aacf758d82fc9da4542e4754a4a4af9e"), looks := true }, kinds := [], alts := [], laidByText := true, laidKinds := [.data, .pinned], laidTests := true, laidLooks := .later }
def HeaderRoundsCardSaid : Prop := Claim7.holds Tryd.pinned (.plain (OpenSpec.ofChange headerRoundsSpec)) headerRoundsCard

/-- THE TIED CARD OF 'bindlelaw08.UstarGets'. -/
def ustarGetsCard : Claim7 := { stood := { row := ustarGetsRow, standIns := [], harness := (true, "78d7c5d026655af3200d0d6edd81c281aacf758d82fc9da4542e4754a4a4af9e"), looks := true }, kinds := [], alts := [], laidByText := true, laidKinds := [.data, .pinned], laidTests := true, laidLooks := .later }
def UstarGetsCardSaid : Prop := Claim7.holds Tryd.pinned (.plain (OpenSpec.ofChange ustarGetsSpec)) ustarGetsCard

/-- THE TIED CARD OF 'bindlelaw08.UstarBack'. -/
def ustarBackCard : Claim7 := { stood := { row := ustarBackRow, standIns := [], harness := (true, "78d7c5d026655af3200d0d6edd81c281aacf758d82fc9da4542e4754a4a4af9e"), looks := true }, kinds := [], alts := [], laidByText := true, laidKinds := [.data, .pinned], laidTests := true, laidLooks := .later }
def UstarBackCardSaid : Prop := Claim7.holds Tryd.pinned (.plain (OpenSpec.ofChange ustarBackSpec)) ustarBackCard

/-- THE TIED CARD OF 'bindlelaw08.UstarOnes'. -/
def ustarOnesCard : Claim7 := { stood := { row := ustarOnesRow, standIns := [], harness := (true, "78d7c5d026655af3200d0d6edd81c281aacf758d82fc9da4542e4754a4a4af9e"), looks := true }, kinds := [], alts := [], laidByText := true, laidKinds := [.data, .pinned], laidTests := true, laidLooks := .later }
def UstarOnesCardSaid : Prop := Claim7.holds Tryd.pinned (.plain (OpenSpec.ofChange ustarOnesSpec)) ustarOnesCard

/-- THE TIED CARD OF 'bindlelaw08.UstarCuts'. -/
def ustarCutsCard : Claim7 := { stood := { row := ustarCutsRow, standIns := [], harness := (true, "78d7c5d026655af3200d0d6edd81c281aacf758d82fc9da4542e4754a4a4af9e"), looks := true }, kinds := [], alts := [], laidByText := true, laidKinds := [.data, .pinned], laidTests := true, laidLooks := .later }
def UstarCutsCardSaid : Prop := Claim7.holds Tryd.pinned (.plain (OpenSpec.ofChange ustarCutsSpec)) ustarCutsCard

/-- THE TIED CARD OF 'bindlelaw08.UstarTurned'. -/
def ustarTurnedCard : Claim7 := { stood := { row := ustarTurnedRow, standIns := [], harness := (true, "78d7c5d026655af3200d0d6edd81c281aacf758d82fc9da4542e4754a4a4af9e"), looks := true }, kinds := [], alts := [], laidByText := true, laidKinds := [.data, .pinned], laidTests := true, laidLooks := .later }
def UstarTurnedCardSaid : Prop := Claim7.holds Tryd.pinned (.plain (OpenSpec.ofChange ustarTurnedSpec)) ustarTurnedCard

/-- THE TIED CARD OF 'bindlelaw08.UstarJoins'. -/
def ustarJoinsCard : Claim7 := { stood := { row := ustarJoinsRow, standIns := [], harness := (true, "78d7c5d026655af3200d0d6edd81c281aacf758d82fc9da4542e4754a4a4af9e"), looks := true }, kinds := [], alts := [], laidByText := true, laidKinds := [.data, .pinned], laidTests := true, laidLooks := .later }
def UstarJoinsCardSaid : Prop := Claim7.holds Tryd.pinned (.plain (OpenSpec.ofChange ustarJoinsSpec)) ustarJoinsCard

/-- THE TIED CARD OF 'bindlelaw08.UstarPuts'. -/
def ustarPutsCard : Claim7 := { stood := { row := ustarPutsRow, standIns := [], harness := (true, "78d7c5d026655af3200d0d6edd81c281aacf758d82fc9da4542e4754a4a4af9e"), looks := true }, kinds := [], alts := [], laidByText := true, laidKinds := [.data, .pinned], laidTests := true, laidLooks := .later }
def UstarPutsCardSaid : Prop := Claim7.holds Tryd.pinned (.plain (OpenSpec.ofChange ustarPutsSpec)) ustarPutsCard

/-- THE SECOND FORM's CARD OF 'bindlelaw04.HexaBad'. -/
def hexaBadUptoCard : Claim7 := { stood := { row := hexaBadUptoRow, standIns := [], harness := (true, "78d7c5d026655af3200d0d6edd81c281aacf758d82fc9da4542e4754a4a4af9e"), looks := true }, kinds := [], alts := [], laidByText := true, laidKinds := [.data, .data, .data, .sentinel, .sentinel], laidTests := true, laidLooks := .later }
def HexaBadUptoCardSaid : Prop := Claim7.holds Tryd.pinned (.plain (OpenSpec.upto hexaBadSpec)) hexaBadUptoCard

/-- THE SECOND FORM's CARD OF 'bindlelaw07.HeaderPuts'. -/
def headerPutsUptoCard : Claim7 := { stood := { row := headerPutsUptoRow, standIns := [], harness := (true, "78d7c5d026655af3200d0d6edd81c281aacf758d82fc9da4542e4754a4a4af9e"), looks := true }, kinds := [], alts := [], laidByText := true, laidKinds := [.data, .pinned], laidTests := true, laidLooks := .later }
def HeaderPutsUptoCardSaid : Prop := Claim7.holds Tryd.pinned (.plain (OpenSpec.upto headerPutsSpec)) headerPutsUptoCard

/-- THE SECOND FORM's CARD OF 'bindlelaw07.HeaderBack'. -/
def headerBackUptoCard : Claim7 := { stood := { row := headerBackUptoRow, standIns := [], harness := (true, "78d7c5d026655af3200d0d6edd81c281aacf758d82fc9da4542e4754a4a4af9e"), looks := true }, kinds := [], alts := [], laidByText := true, laidKinds := [.data, .pinned], laidTests := true, laidLooks := .later }
def HeaderBackUptoCardSaid : Prop := Claim7.holds Tryd.pinned (.plain (OpenSpec.upto headerBackSpec)) headerBackUptoCard

/-- THE SECOND FORM's CARD OF 'bindlelaw07.HeaderTurned'. -/
def headerTurnedUptoCard : Claim7 := { stood := { row := headerTurnedUptoRow, standIns := [], harness := (true, "78d7c5d026655af3200d0d6edd81c281aacf758d82fc9da4542e4754a4a4af9e"), looks := true }, kinds := [], alts := [], laidByText := true, laidKinds := [.data, .pinned], laidTests := true, laidLooks := .later }
def HeaderTurnedUptoCardSaid : Prop := Claim7.holds Tryd.pinned (.plain (OpenSpec.upto headerTurnedSpec)) headerTurnedUptoCard

/-- THE SECOND FORM's CARD OF 'bindlelaw07.HeaderSums'. -/
def headerSumsUptoCard : Claim7 := { stood := { row := headerSumsUptoRow, standIns := [], harness := (true, "78d7c5d026655af3200d0d6edd81c281aacf758d82fc9da4542e4754a4a4af9e"), looks := true }, kinds := [], alts := [], laidByText := true, laidKinds := [.data, .pinned], laidTests := true, laidLooks := .later }
def HeaderSumsUptoCardSaid : Prop := Claim7.holds Tryd.pinned (.plain (OpenSpec.upto headerSumsSpec)) headerSumsUptoCard

/-- THE SECOND FORM's CARD OF 'bindlelaw07.HeaderApart'. -/
def headerApartUptoCard : Claim7 := { stood := { row := headerApartUptoRow, standIns := [], harness := (true, "78d7c5d026655af3200d0d6edd81c281aacf758d82fc9da4542e4754a4a4af9e"), looks := true }, kinds := [], alts := [], laidByText := true, laidKinds := [.data, .pinned], laidTests := true, laidLooks := .later }
def HeaderApartUptoCardSaid : Prop := Claim7.holds Tryd.pinned (.plain (OpenSpec.upto headerApartSpec)) headerApartUptoCard

/-- THE SECOND FORM's CARD OF 'bindlelaw07.HeaderRounds'. -/
def headerRoundsUptoCard : Claim7 := { stood := { row := headerRoundsUptoRow, standIns := [], harness := (true, "78d7c5d026655af3200d0d6edd81c281aacf758d82fc9da4542e4754a4a4af9e"), looks := true }, kinds := [], alts := [], laidByText := true, laidKinds := [.data, .pinned], laidTests := true, laidLooks := .later }
def HeaderRoundsUptoCardSaid : Prop := Claim7.holds Tryd.pinned (.plain (OpenSpec.upto headerRoundsSpec)) headerRoundsUptoCard

/-- THE SECOND FORM's CARD OF 'bindlelaw08.UstarGets'. -/
def ustarGetsUptoCard : Claim7 := { stood := { row := ustarGetsUptoRow, standIns := [], harness := (true, "78d7c5d026655af3200d0d6edd81c281aacf758d82fc9da4542e4754a4a4af9e"), looks := true }, kinds := [], alts := [], laidByText := true, laidKinds := [.data, .pinned], laidTests := true, laidLooks := .later }
def UstarGetsUptoCardSaid : Prop := Claim7.holds Tryd.pinned (.plain (OpenSpec.upto ustarGetsSpec)) ustarGetsUptoCard

/-- THE SECOND FORM's CARD OF 'bindlelaw08.UstarBack'. -/
def ustarBackUptoCard : Claim7 := { stood := { row := ustarBackUptoRow, standIns := [], harness := (true, "78d7c5d026655af3200d0d6edd81c281aacf758d82fc9da4542e4754a4a4af9e"), looks := true }, kinds := [], alts := [], laidByText := true, laidKinds := [.data, .pinned], laidTests := true, laidLooks := .later }
def UstarBackUptoCardSaid : Prop := Claim7.holds Tryd.pinned (.plain (OpenSpec.upto ustarBackSpec)) ustarBackUptoCard

/-- THE SECOND FORM's CARD OF 'bindlelaw08.UstarOnes'. -/
def ustarOnesUptoCard : Claim7 := { stood := { row := ustarOnesUptoRow, standIns := [], harness := (true, "78d7c5d026655af3200d0d6edd81c281aacf758d82fc9da4542e4754a4a4af9e"), looks := true }, kinds := [], alts := [], laidByText := true, laidKinds := [.data, .pinned], laidTests := true, laidLooks := .later }
def UstarOnesUptoCardSaid : Prop := Claim7.holds Tryd.pinned (.plain (OpenSpec.upto ustarOnesSpec)) ustarOnesUptoCard

/-- THE SECOND FORM's CARD OF 'bindlelaw08.UstarCuts'. -/
def ustarCutsUptoCard : Claim7 := { stood := { row := ustarCutsUptoRow, standIns := [], harness := (true, "78d7c5d026655af3200d0d6edd81c281aacf758d82fc9da4542e4754a4a4af9e"), looks := true }, kinds := [], alts := [], laidByText := true, laidKinds := [.data, .pinned], laidTests := true, laidLooks := .later }
def UstarCutsUptoCardSaid : Prop := Claim7.holds Tryd.pinned (.plain (OpenSpec.upto ustarCutsSpec)) ustarCutsUptoCard

/-- THE SECOND FORM's CARD OF 'bindlelaw08.UstarTurned'. -/
def ustarTurnedUptoCard : Claim7 := { stood := { row := ustarTurnedUptoRow, standIns := [], harness := (true, "78d7c5d026655af3200d0d6edd81c281aacf758d82fc9da4542e4754a4a4af9e"), looks := true }, kinds := [], alts := [], laidByText := true, laidKinds := [.data, .pinned], laidTests := true, laidLooks := .later }
def UstarTurnedUptoCardSaid : Prop := Claim7.holds Tryd.pinned (.plain (OpenSpec.upto ustarTurnedSpec)) ustarTurnedUptoCard

/-- THE SECOND FORM's CARD OF 'bindlelaw08.UstarJoins'. -/
def ustarJoinsUptoCard : Claim7 := { stood := { row := ustarJoinsUptoRow, standIns := [], harness := (true, "78d7c5d026655af3200d0d6edd81c281aacf758d82fc9da4542e4754a4a4af9e"), looks := true }, kinds := [], alts := [], laidByText := true, laidKinds := [.data, .pinned], laidTests := true, laidLooks := .later }
def UstarJoinsUptoCardSaid : Prop := Claim7.holds Tryd.pinned (.plain (OpenSpec.upto ustarJoinsSpec)) ustarJoinsUptoCard

/-- THE SECOND FORM's CARD OF 'bindlelaw08.UstarPuts'. -/
def ustarPutsUptoCard : Claim7 := { stood := { row := ustarPutsUptoRow, standIns := [], harness := (true, "78d7c5d026655af3200d0d6edd81c281aacf758d82fc9da4542e4754a4a4af9e"), looks := true }, kinds := [], alts := [], laidByText := true, laidKinds := [.data, .pinned], laidTests := true, laidLooks := .later }
def UstarPutsUptoCardSaid : Prop := Claim7.holds Tryd.pinned (.plain (OpenSpec.upto ustarPutsSpec)) ustarPutsUptoCard
end Rows
end Go.Proofs.YtkchfbnkdpdbkaaDoor
