/-
  DERIVED. GIVEN WITH THE SEED: THE CARDS: each row of YtjpdhbalngpdpaaGreatDoorRows.lean that lists a variable, with what it lists TIED to the program's text (the seventh form; the later family's looks); each row that meets fmt, with fmt's text TOLD by the authors' own Lean function (tested against real Go, not proved from fmt's source: count such statements apart). THE CARD IS WHAT COUNTS. Prove the row's statement (the work); the ties are given (YtjpdhbalngpdpaaGreatDoorTie.lean); close each card by the builder's one call (the guide's Derived/Test/ToyasCard.lean, 'card_holds'). Laid BY PROGRAM, IN A SANDBOX (cutbox-door.mjs). By AI agents, Wed Nov 11 2026. No macro, syntax, notation, axiom, sorry.
-/
import Derived.Test.YtjpdhbalngpdpaaGreatDoorRows
import GoSem.ClaimSeven
namespace Go.Proofs.YtjpdhbalngpdpaaGreatDoor
namespace Rows

/-- THE TIED CARD OF 'kinetoscopelaw17.TesterTells'. -/
def testerTellsCard : Claim7 := { stood := { row := testerTellsRow, standIns := [], harness := (true, "60158cdda4f0a6d7fead6b3976c53e1ee4278cd054a356513ba073de5fbed8a9"), looks := true }, kinds := [], alts := [], laidByText := true, laidKinds := [.data, .data, .data, .data, .sentinel, .sentinel, .pinned, .pinned], laidTests := true, laidLooks := .later }
def TesterTellsCardSaid : Prop := Claim7.holds Tryz.pinned (.plain (OpenSpec.ofChange testerTellsSpec)) testerTellsCard

/-- THE TIED CARD OF 'kinetoscopelaw17.TesterTold'. -/
def testerToldCard : Claim7 := { stood := { row := testerToldRow, standIns := [], harness := (true, "60158cdda4f0a6d7fead6b3976c53e1ee4278cd054a356513ba073de5fbed8a9"), looks := true }, kinds := [], alts := [], laidByText := true, laidKinds := [.data, .data, .data, .data, .sentinel, .sentinel, .pinned, .pinned], laidTests := true, laidLooks := .later }
def TesterToldCardSaid : Prop := Claim7.holds Tryz.pinned (.plain (OpenSpec.ofChange testerToldSpec)) testerToldCard

/-- THE TIED CARD OF 'kinetoscopelaw17.TesterTurns'. -/
def testerTurnsCard : Claim7 := { stood := { row := testerTurnsRow, standIns := [], harness := (true, "60158cdda4f0a6d7fead6b3976c53e1ee4278cd054a356513ba073de5fbed8a9"), looks := true }, kinds := [], alts := [], laidByText := true, laidKinds := [.data, .data, .data, .data, .sentinel, .sentinel, .pinned, .pinned], laidTests := true, laidLooks := .later }
def TesterTurnsCardSaid : Prop := Claim7.holds Tryz.pinned (.plain (OpenSpec.ofChange testerTurnsSpec)) testerTurnsCard

/-- THE TIED CARD OF 'kinetoscopelaw17.TesterFiles'. -/
def testerFilesCard : Claim7 := { stood := { row := testerFilesRow, standIns := [], harness := (true, "60158cdda4f0a6d7fead6b3976c53e1ee4278cd054a356513ba073de5fbed8a9"), looks := true }, kinds := [], alts := [], laidByText := true, laidKinds := [.data, .data, .data, .data, .sentinel, .sentinel, .pinned, .pinned], laidTests := true, laidLooks := .later }
def TesterFilesCardSaid : Prop := Claim7.holds Tryz.pinned (.plain (OpenSpec.ofChange testerFilesSpec)) testerFilesCard

/-- THE TIED CARD OF 'kinetoscopelaw10.ArithLaws'. -/
def arithLawsCard : Claim7 := { stood := { row := arithLawsRow, standIns := [], harness := (true, "60158cdda4f0a6d7fead6b3976c53e1ee4278cd054a356513ba073de5fbed8a9"), looks := true }, kinds := [], alts := [], laidByText := true, laidKinds := [.data, .data, .data, .data, .sentinel, .sentinel, .data, .data, .pinned, .pinned], laidTests := true, laidLooks := .later }
def ArithLawsCardSaid : Prop := Claim7.holds Tryz.pinned (.plain (OpenSpec.ofChange arithLawsSpec)) arithLawsCard

/-- THE TIED CARD OF 'kinetoscopelaw10.ArithOrder'. -/
def arithOrderCard : Claim7 := { stood := { row := arithOrderRow, standIns := [], harness := (true, "60158cdda4f0a6d7fead6b3976c53e1ee4278cd054a356513ba073de5fbed8a9"), looks := true }, kinds := [], alts := [], laidByText := true, laidKinds := [.data, .data, .data, .data, .sentinel, .sentinel, .data, .data, .pinned, .pinned], laidTests := true, laidLooks := .later }
def ArithOrderCardSaid : Prop := Claim7.holds Tryz.pinned (.plain (OpenSpec.ofChange arithOrderSpec)) arithOrderCard

/-- THE TIED CARD OF 'kinetoscopelaw10.ArithShort'. -/
def arithShortCard : Claim7 := { stood := { row := arithShortRow, standIns := [], harness := (true, "60158cdda4f0a6d7fead6b3976c53e1ee4278cd054a356513ba073de5fbed8a9"), looks := true }, kinds := [], alts := [], laidByText := true, laidKinds := [.data, .data, .data, .data, .sentinel, .sentinel, .data, .data, .pinned, .pinned], laidTests := true, laidLooks := .later }
def ArithShortCardSaid : Prop := Claim7.holds Tryz.pinned (.plain (OpenSpec.ofChange arithShortSpec)) arithShortCard

/-- THE SECOND FORM's CARD OF 'kinetoscopelaw17.TesterTells'. -/
def testerTellsUptoCard : Claim7 := { stood := { row := testerTellsUptoRow, standIns := [], harness := (true, "60158cdda4f0a6d7fead6b3976c53e1ee4278cd054a356513ba073de5fbed8a9"), looks := true }, kinds := [], alts := [], laidByText := true, laidKinds := [.data, .data, .data, .data, .sentinel, .sentinel, .pinned, .pinned], laidTests := true, laidLooks := .later }
def TesterTellsUptoCardSaid : Prop := Claim7.holds Tryz.pinned (.plain (OpenSpec.upto testerTellsSpec)) testerTellsUptoCard

/-- THE SECOND FORM's CARD OF 'kinetoscopelaw17.TesterTold'. -/
def testerToldUptoCard : Claim7 := { stood := { row := testerToldUptoRow, standIns := [], harness := (true, "60158cdda4f0a6d7fead6b3976c53e1ee4278cd054a356513ba073de5fbed8a9"), looks := true }, kinds := [], alts := [], laidByText := true, laidKinds := [.data, .data, .data, .data, .sentinel, .sentinel, .pinned, .pinned], laidTests := true, laidLooks := .later }
def TesterToldUptoCardSaid : Prop := Claim7.holds Tryz.pinned (.plain (OpenSpec.upto testerToldSpec)) testerToldUptoCard

/-- THE SECOND FORM's CARD OF 'kinetoscopelaw17.TesterTurns'. -/
def testerTurnsUptoCard : Claim7 := { stood := { row := testerTurnsUptoRow, standIns := [], harness := (true, "60158cdda4f0a6d7fead6b3976c53e1ee4278cd054a356513ba073de5fbed8a9"), looks := true }, kinds := [], alts := [], laidByText := true, laidKinds := [.data, .data, .data, .data, .sentinel, .sentinel, .pinned, .pinned], laidTests := true, laidLooks := .later }
def TesterTurnsUptoCardSaid : Prop := Claim7.holds Tryz.pinned (.plain (OpenSpec.upto testerTurnsSpec)) testerTurnsUptoCard

/-- THE SECOND FORM's CARD OF 'kinetoscopelaw17.TesterFiles'. -/
def testerFilesUptoCard : Claim7 := { stood := { row := testerFilesUptoRow, standIns := [], harness := (true, "60158cdda4f0a6d7fead6b3976c53e1ee4278cd054a356513ba073de5fbed8a9"), looks := true }, kinds := [], alts := [], laidByText := true, laidKinds := [.data, .data, .data, .data, .sentinel, .sentinel, .pinned, .pinned], laidTests := true, laidLooks := .later }
def TesterFilesUptoCardSaid : Prop := Claim7.holds Tryz.pinned (.plain (OpenSpec.upto testerFilesSpec)) testerFilesUptoCard

/-- THE SECOND FORM's CARD OF 'kinetoscopelaw10.ArithLaws'. -/
def arithLawsUptoCard : Claim7 := { stood := { row := arithLawsUptoRow, standIns := [], harness := (true, "60158cdda4f0a6d7fead6b3976c53e1ee4278cd054a356513ba073de5fbed8a9"), looks := true }, kinds := [], alts := [], laidByText := true, laidKinds := [.data, .data, .data, .data, .sentinel, .sentinel, .data, .data, .pinned, .pinned], laidTests := true, laidLooks := .later }
def ArithLawsUptoCardSaid : Prop := Claim7.holds Tryz.pinned (.plain (OpenSpec.upto arithLawsSpec)) arithLawsUptoCard

/-- THE SECOND FORM's CARD OF 'kinetoscopelaw10.ArithOrder'. -/
def arithOrderUptoCard : Claim7 := { stood := { row := arithOrderUptoRow, standIns := [], harness := (true, "60158cdda4f0a6d7fead6b3976c53e1ee4278cd054a356513ba073de5fbed8a9"), looks := true }, kinds := [], alts := [], laidByText := true, laidKinds := [.data, .data, .data, .data, .sentinel, .sentinel, .data, .data, .pinned, .pinned], laidTests := true, laidLooks := .later }
def ArithOrderUptoCardSaid : Prop := Claim7.holds Tryz.pinned (.plain (OpenSpec.upto arithOrderSpec)) arithOrderUptoCard

/-- THE SECOND FORM's CARD OF 'kinetoscopelaw10.ArithShort'. -/
def arithShortUptoCard : Claim7 := { stood := { row := arithShortUptoRow, standIns := [], harness := (true, "60158cdda4f0a6d7fead6b3976c53e1ee4278cd054a356513ba073de5fbed8a9"), looks := true }, kinds := [], alts := [], laidByText := true, laidKinds := [.data, .data, .data, .data, .sentinel, .sentinel, .data, .data, .pinned, .pinned], laidTests := true, laidLooks := .later }
def ArithShortUptoCardSaid : Prop := Claim7.holds Tryz.pinned (.plain (OpenSpec.upto arithShortSpec)) arithShortUptoCard
end Rows
end Go.Proofs.YtjpdhbalngpdpaaGreatDoor
