/-
  DERIVED. GIVEN WITH THE SEED: THE CARDS: each row of YthckagkciefliaaGreatDoorRows.lean that lists a variable, with what it lists TIED to the program's text (the seventh form; the later family's looks); each row that meets fmt, with fmt's text TOLD by the authors' own Lean function (tested against real Go, not proved from fmt's source: count such statements apart). THE CARD IS WHAT COUNTS. Prove the row's statement (the work); the ties are given (YthckagkciefliaaGreatDoorTie.lean); close each card by the builder's one call (the guide's Derived/Test/ToyasCard.lean, 'card_holds'). Laid BY PROGRAM, IN A SANDBOX (cutbox-door.mjs). By AI agents, Wed Nov 11 2026. No macro, syntax, notation, axiom, sorry.
-/
import Derived.Test.YthckagkciefliaaGreatDoorRows
import GoSem.ClaimSeven
namespace Go.Proofs.YthckagkciefliaaGreatDoor
namespace Rows

/-- THE TIED CARD OF 'bindlelaw11.MatJoins'. -/
def matJoinsCard : Claim7 := { stood := { row := matJoinsRow, standIns := [], harness := (true, "0e756b69d0ee9c32a5f58c3c23801db3e9795c9ecd25ff1886763e8c74cfe51c"), looks := true }, kinds := [], alts := [], laidByText := true, laidKinds := [.data, .data, .data, .data, .sentinel, .sentinel, .pinned], laidTests := true, laidLooks := .later }
def MatJoinsCardSaid : Prop := Claim7.holds Tryz.pinned (.plain (OpenSpec.ofChange matJoinsSpec)) matJoinsCard

/-- THE TIED CARD OF 'bindlelaw12.EventLines'. -/
def eventLinesCard : Claim7 := { stood := { row := eventLinesRow, standIns := [], harness := (true, "0e756b69d0ee9c32a5f58c3c23801db3e9795c9ecd25ff1886763e8c74cfe51c"), looks := true }, kinds := [], alts := [], laidByText := true, laidKinds := [.data, .data, .data, .data, .sentinel, .sentinel, .pinned], laidTests := true, laidLooks := .later }
def EventLinesCardSaid : Prop := Claim7.holds Tryz.pinned (.plain (OpenSpec.ofChange eventLinesSpec)) eventLinesCard

/-- THE TIED CARD OF 'bindlelaw12.EventBack'. -/
def eventBackCard : Claim7 := { stood := { row := eventBackRow, standIns := [], harness := (true, "0e756b69d0ee9c32a5f58c3c23801db3e9795c9ecd25ff1886763e8c74cfe51c"), looks := true }, kinds := [], alts := [], laidByText := true, laidKinds := [.data, .data, .data, .data, .sentinel, .sentinel, .pinned], laidTests := true, laidLooks := .later }
def EventBackCardSaid : Prop := Claim7.holds Tryz.pinned (.plain (OpenSpec.ofChange eventBackSpec)) eventBackCard

/-- THE TIED CARD OF 'bindlelaw12.EventHistory'. -/
def eventHistoryCard : Claim7 := { stood := { row := eventHistoryRow, standIns := [], harness := (true, "0e756b69d0ee9c32a5f58c3c23801db3e9795c9ecd25ff1886763e8c74cfe51c"), looks := true }, kinds := [], alts := [], laidByText := true, laidKinds := [.data, .data, .data, .data, .sentinel, .sentinel, .pinned], laidTests := true, laidLooks := .later }
def EventHistoryCardSaid : Prop := Claim7.holds Tryz.pinned (.plain (OpenSpec.ofChange eventHistorySpec)) eventHistoryCard

/-- THE TIED CARD OF 'bindlelaw12.EventBad'. -/
def eventBadCard : Claim7 := { stood := { row := eventBadRow, standIns := [], harness := (true, "0e756b69d0ee9c32a5f58c3c23801db3e9795c9ecd25ff1886763e8c74cfe51c"), looks := true }, kinds := [], alts := [], laidByText := true, laidKinds := [.data, .data, .data, .data, .sentinel, .sentinel, .pinned], laidTests := true, laidLooks := .later }
def EventBadCardSaid : Prop := Claim7.holds Tryz.pinned (.plain (OpenSpec.ofChange eventBadSpec)) eventBadCard

/-- THE TIED CARD OF 'bindlelaw12.EventOrder'. -/
def eventOrderCard : Claim7 := { stood := { row := eventOrderRow, standIns := [], harness := (true, "0e756b69d0ee9c32a5f58c3c23801db3e9795c9ecd25ff1886763e8c74cfe51c"), looks := true }, kinds := [], alts := [], laidByText := true, laidKinds := [.data, .data, .data, .data, .sentinel, .sentinel, .pinned], laidTests := true, laidLooks := .later }
def EventOrderCardSaid : Prop := Claim7.holds Tryz.pinned (.plain (OpenSpec.ofChange eventOrderSpec)) eventOrderCard

/-- THE TIED CARD OF 'bindlelaw12.EventTells'. -/
def eventTellsCard : Claim7 := { stood := { row := eventTellsRow, standIns := [], harness := (true, "0e756b69d0ee9c32a5f58c3c23801db3e9795c9ecd25ff1886763e8c74cfe51c"), looks := true }, kinds := [], alts := [], laidByText := true, laidKinds := [.data, .data, .data, .data, .sentinel, .sentinel, .pinned], laidTests := true, laidLooks := .later }
def EventTellsCardSaid : Prop := Claim7.holds Tryz.pinned (.plain (OpenSpec.ofChange eventTellsSpec)) eventTellsCard

/-- THE SECOND FORM's CARD OF 'bindlelaw11.MatJoins'. -/
def matJoinsUptoCard : Claim7 := { stood := { row := matJoinsUptoRow, standIns := [], harness := (true, "0e756b69d0ee9c32a5f58c3c23801db3e9795c9ecd25ff1886763e8c74cfe51c"), looks := true }, kinds := [], alts := [], laidByText := true, laidKinds := [.data, .data, .data, .data, .sentinel, .sentinel, .pinned], laidTests := true, laidLooks := .later }
def MatJoinsUptoCardSaid : Prop := Claim7.holds Tryz.pinned (.plain (OpenSpec.upto matJoinsSpec)) matJoinsUptoCard

/-- THE SECOND FORM's CARD OF 'bindlelaw12.EventLines'. -/
def eventLinesUptoCard : Claim7 := { stood := { row := eventLinesUptoRow, standIns := [], harness := (true, "0e756b69d0ee9c32a5f58c3c23801db3e9795c9ecd25ff1886763e8c74cfe51c"), looks := true }, kinds := [], alts := [], laidByText := true, laidKinds := [.data, .data, .data, .data, .sentinel, .sentinel, .pinned], laidTests := true, laidLooks := .later }
def EventLinesUptoCardSaid : Prop := Claim7.holds Tryz.pinned (.plain (OpenSpec.upto eventLinesSpec)) eventLinesUptoCard

/-- THE SECOND FORM's CARD OF 'bindlelaw12.EventBack'. -/
def eventBackUptoCard : Claim7 := { stood := { row := eventBackUptoRow, standIns := [], harness := (true, "0e756b69d0ee9c32a5f58c3c23801db3e9795c9ecd25ff1886763e8c74cfe51c"), looks := true }, kinds := [], alts := [], laidByText := true, laidKinds := [.data, .data, .data, .data, .sentinel, .sentinel, .pinned], laidTests := true, laidLooks := .later }
def EventBackUptoCardSaid : Prop := Claim7.holds Tryz.pinned (.plain (OpenSpec.upto eventBackSpec)) eventBackUptoCard

/-- THE SECOND FORM's CARD OF 'bindlelaw12.EventHistory'. -/
def eventHistoryUptoCard : Claim7 := { stood := { row := eventHistoryUptoRow, standIns := [], harness := (true, "0e756b69d0ee9c32a5f58c3c23801db3e9795c9ecd25ff1886763e8c74cfe51c"), looks := true }, kinds := [], alts := [], laidByText := true, laidKinds := [.data, .data, .data, .data, .sentinel, .sentinel, .pinned], laidTests := true, laidLooks := .later }
def EventHistoryUptoCardSaid : Prop := Claim7.holds Tryz.pinned (.plain (OpenSpec.upto eventHistorySpec)) eventHistoryUptoCard

/-- THE SECOND FORM's CARD OF 'bindlelaw12.EventBad'. -/
def eventBadUptoCard : Claim7 := { stood := { row := eventBadUptoRow, standIns := [], harness := (true, "0e756b69d0ee9c32a5f58c3c23801db3e9795c9ecd25ff1886763e8c74cfe51c"), looks := true }, kinds := [], alts := [], laidByText := true, laidKinds := [.data, .data, .data, .data, .sentinel, .sentinel, .pinned], laidTests := true, laidLooks := .later }
def EventBadUptoCardSaid : Prop := Claim7.holds Tryz.pinned (.plain (OpenSpec.upto eventBadSpec)) eventBadUptoCard

/-- THE SECOND FORM's CARD OF 'bindlelaw12.EventOrder'. -/
def eventOrderUptoCard : Claim7 := { stood := { row := eventOrderUptoRow, standIns := [], harness := (true, "0e756b69d0ee9c32a5f58c3c23801db3e9795c9ecd25ff1886763e8c74cfe51c"), looks := true }, kinds := [], alts := [], laidByText := true, laidKinds := [.data, .data, .data, .data, .sentinel, .sentinel, .pinned], laidTests := true, laidLooks := .later }
def EventOrderUptoCardSaid : Prop := Claim7.holds Tryz.pinned (.plain (OpenSpec.upto eventOrderSpec)) eventOrderUptoCard

/-- THE SECOND FORM's CARD OF 'bindlelaw12.EventTells'. -/
def eventTellsUptoCard : Claim7 := { stood := { row := eventTellsUptoRow, standIns := [], harness := (true, "0e756b69d0ee9c32a5f58c3c23801db3e9795c9ecd25ff1886763e8c74cfe51c"), looks := true }, kinds := [], alts := [], laidByText := true, laidKinds := [.data, .data, .data, .data, .sentinel, .sentinel, .pinned], laidTests := true, laidLooks := .later }
def EventTellsUptoCardSaid : Prop := Claim7.holds Tryz.pinned (.plain (OpenSpec.upto eventTellsSpec)) eventTellsUptoCard
end Rows
end Go.Proofs.YthckagkciefliaaGreatDoor
