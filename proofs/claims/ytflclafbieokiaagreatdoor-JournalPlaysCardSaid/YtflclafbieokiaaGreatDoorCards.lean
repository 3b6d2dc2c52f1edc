/-
  DERIVED. GIVEN WITH THE SEED: THE CARDS: each row of YtflclafbieokiaaGreatDoorRows.lean that lists a variable, with what it lists TIED to the program's text (the seventh form; the later family's looks); each row that meets fmt, with fmt's text TOLD by the authors' own Lean function (tested against real Go, not proved from fmt's source: count such statements apart). THE CARD IS WHAT COUNTS. Prove the row's statement (the work); the ties are given (YtflclafbieokiaaGreatDoorTie.lean); close each card by the builder's one call (the guide's Derived/Test/ToyasCard.lean, 'card_holds'). Laid BY PROGRAM, IN A SANDBOX (cutbox-door.mjs). By AI agents, Wed Nov 11 2026. No macro, syntax, notation, axiom, sorry.
-/
import Derived.Test.YtflclafbieokiaaGreatDoorRows
import GoSem.ClaimSeven
namespace Go.Proofs.YtflclafbieokiaaGreatDoor
namespace Rows

/-- THE TIED CARD OF 'bindlelaw21.JournalPlays'. -/
def journalPlaysCard : Claim7 := { stood := { row := journalPlaysRow, standIns := [], harness := (true, "49ad310cadb0cfe2be7a4eabf7189198686663042671b3af792a2e8a8b279423"), looks := true }, kinds := [], alts := [], laidByText := true, laidKinds := [.data, .pinned], laidTests := true, laidLooks := .later }
def JournalPlaysCardSaid : Prop := Claim7.holds Tryz.pinned (.plain (OpenSpec.ofChange journalPlaysSpec)) journalPlaysCard

/-- THE TIED CARD OF 'bindlelaw21.JournalAtomic'. -/
def journalAtomicCard : Claim7 := { stood := { row := journalAtomicRow, standIns := [], harness := (true, "49ad310cadb0cfe2be7a4eabf7189198686663042671b3af792a2e8a8b279423"), looks := true }, kinds := [], alts := [], laidByText := true, laidKinds := [.data, .pinned], laidTests := true, laidLooks := .later }
def JournalAtomicCardSaid : Prop := Claim7.holds Tryz.pinned (.plain (OpenSpec.ofChange journalAtomicSpec)) journalAtomicCard

/-- THE TIED CARD OF 'bindlelaw21.JournalAgain'. -/
def journalAgainCard : Claim7 := { stood := { row := journalAgainRow, standIns := [], harness := (true, "49ad310cadb0cfe2be7a4eabf7189198686663042671b3af792a2e8a8b279423"), looks := true }, kinds := [], alts := [], laidByText := true, laidKinds := [.data, .pinned], laidTests := true, laidLooks := .later }
def JournalAgainCardSaid : Prop := Claim7.holds Tryz.pinned (.plain (OpenSpec.ofChange journalAgainSpec)) journalAgainCard

/-- THE TIED CARD OF 'bindlelaw21.JournalThrough'. -/
def journalThroughCard : Claim7 := { stood := { row := journalThroughRow, standIns := [], harness := (true, "49ad310cadb0cfe2be7a4eabf7189198686663042671b3af792a2e8a8b279423"), looks := true }, kinds := [], alts := [], laidByText := true, laidKinds := [.data, .pinned], laidTests := true, laidLooks := .later }
def JournalThroughCardSaid : Prop := Claim7.holds Tryz.pinned (.plain (OpenSpec.ofChange journalThroughSpec)) journalThroughCard

/-- THE TIED CARD OF 'bindlelaw21.JournalRefuses'. -/
def journalRefusesCard : Claim7 := { stood := { row := journalRefusesRow, standIns := [], harness := (true, "49ad310cadb0cfe2be7a4eabf7189198686663042671b3af792a2e8a8b279423"), looks := true }, kinds := [], alts := [], laidByText := true, laidKinds := [.data, .pinned], laidTests := true, laidLooks := .later }
def JournalRefusesCardSaid : Prop := Claim7.holds Tryz.pinned (.plain (OpenSpec.ofChange journalRefusesSpec)) journalRefusesCard

/-- THE SECOND FORM's CARD OF 'bindlelaw21.JournalPlays'. -/
def journalPlaysUptoCard : Claim7 := { stood := { row := journalPlaysUptoRow, standIns := [], harness := (true, "49ad310cadb0cfe2be7a4eabf7189198686663042671b3af792a2e8a8b279423"), looks := true }, kinds := [], alts := [], laidByText := true, laidKinds := [.data, .pinned], laidTests := true, laidLooks := .later }
def JournalPlaysUptoCardSaid : Prop := Claim7.holds Tryz.pinned (.plain (OpenSpec.upto journalPlaysSpec)) journalPlaysUptoCard

/-- THE SECOND FORM's CARD OF 'bindlelaw21.JournalAtomic'. -/
def journalAtomicUptoCard : Claim7 := { stood := { row := journalAtomicUptoRow, standIns := [], harness := (true, "49ad310cadb0cfe2be7a4eabf7189198686663042671b3af792a2e8a8b279423"), looks := true }, kinds := [], alts := [], laidByText := true, laidKinds := [.data, .pinned], laidTests := true, laidLooks := .later }
def JournalAtomicUptoCardSaid : Prop := Claim7.holds Tryz.pinned (.plain (OpenSpec.upto journalAtomicSpec)) journalAtomicUptoCard

/-- THE SECOND FORM's CARD OF 'bindlelaw21.JournalAgain'. -/
def journalAgainUptoCard : Claim7 := { stood := { row := journalAgainUptoRow, standIns := [], harness := (true, "49ad310cadb0cfe2be7a4eabf7189198686663042671b3af792a2e8a8b279423"), looks := true }, kinds := [], alts := [], laidByText := true, laidKinds := [.data, .pinned], laidTests := true, laidLooks := .later }
def JournalAgainUptoCardSaid : Prop := Claim7.holds Tryz.pinned (.plain (OpenSpec.upto journalAgainSpec)) journalAgainUptoCard

/-- THE SECOND FORM's CARD OF 'bindlelaw21.JournalThrough'. -/
def journalThroughUptoCard : Claim7 := { stood := { row := journalThroughUptoRow, standIns := [], harness := (true, "49ad310cadb0cfe2be7a4eabf7189198686663042671b3af792a2e8a8b279423"), looks := true }, kinds := [], alts := [], laidByText := true, laidKinds := [.data, .pinned], laidTests := true, laidLooks := .later }
def JournalThroughUptoCardSaid : Prop := Claim7.holds Tryz.pinned (.plain (OpenSpec.upto journalThroughSpec)) journalThroughUptoCard

/-- THE SECOND FORM's CARD OF 'bindlelaw21.JournalRefuses'. -/
def journalRefusesUptoCard : Claim7 := { stood := { row := journalRefusesUptoRow, standIns := [], harness := (true, "49ad310cadb0cfe2be7a4eabf7189198686663042671b3af792a2e8a8b279423"), looks := true }, kinds := [], alts := [], laidByText := true, laidKinds := [.data, .pinned], laidTests := true, laidLooks := .later }
def JournalRefusesUptoCardSaid : Prop := Claim7.holds Tryz.pinned (.plain (OpenSpec.upto journalRefusesSpec)) journalRefusesUptoCard
end Rows
end Go.Proofs.YtflclafbieokiaaGreatDoor
