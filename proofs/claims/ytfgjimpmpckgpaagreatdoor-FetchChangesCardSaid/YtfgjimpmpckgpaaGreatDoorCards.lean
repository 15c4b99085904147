/-
  DERIVED. GIVEN WITH THE SEED: THE CARDS: each row of YtfgjimpmpckgpaaGreatDoorRows.lean that lists a variable, with what it lists TIED to the program's text (the seventh form; the later family's looks); each row that meets fmt, with fmt's text TOLD by the authors' own Lean function (tested against real Go, not proved from fmt's source: count such statements apart). THE CARD IS WHAT COUNTS. Prove the row's statement (the work); the ties are given (YtfgjimpmpckgpaaGreatDoorTie.lean); close each card by the builder's one call (the guide's Derived/Test/ToyasCard.lean, 'card_holds'). Laid BY PROGRAM, IN A SANDBOX (cutbox-door.mjs). By AI agents, Wed Nov 11 2026. No macro, syntax, notation, axiom, sorry.
-/
import Derived.Test.YtfgjimpmpckgpaaGreatDoorRows
import GoSem.ClaimSeven
namespace Go.Proofs.YtfgjimpmpckgpaaGreatDoor
namespace Rows

/-- THE TIED CARD OF 'cardboxlaw26.FetchChanges'. -/
def fetchChangesCard : Claim7 := { stood := { row := fetchChangesRow, standIns := [], harness := (true, "046c99146560154cefc063348ffff0811a758b6cfbeaab6d88985de1093d4920"), looks := true }, kinds := [], alts := [], laidByText := true, laidKinds := [.data, .listed, .data, .pinned, .pinned], laidTests := true, laidLooks := .later }
def FetchChangesCardSaid : Prop := Claim7.holds Tryz.pinned (.plain (OpenSpec.ofChange fetchChangesSpec)) fetchChangesCard

/-- THE TIED CARD OF 'cardboxlaw26.FetchSyncs'. -/
def fetchSyncsCard : Claim7 := { stood := { row := fetchSyncsRow, standIns := [], harness := (true, "046c99146560154cefc063348ffff0811a758b6cfbeaab6d88985de1093d4920"), looks := true }, kinds := [], alts := [], laidByText := true, laidKinds := [.data, .listed, .data, .pinned, .pinned], laidTests := true, laidLooks := .later }
def FetchSyncsCardSaid : Prop := Claim7.holds Tryz.pinned (.plain (OpenSpec.ofChange fetchSyncsSpec)) fetchSyncsCard

/-- THE SECOND FORM's CARD OF 'cardboxlaw26.FetchChanges'. -/
def fetchChangesUptoCard : Claim7 := { stood := { row := fetchChangesUptoRow, standIns := [], harness := (true, "046c99146560154cefc063348ffff0811a758b6cfbeaab6d88985de1093d4920"), looks := true }, kinds := [], alts := [], laidByText := true, laidKinds := [.data, .listed, .data, .pinned, .pinned], laidTests := true, laidLooks := .later }
def FetchChangesUptoCardSaid : Prop := Claim7.holds Tryz.pinned (.plain (OpenSpec.upto fetchChangesSpec)) fetchChangesUptoCard

/-- THE SECOND FORM's CARD OF 'cardboxlaw26.FetchSyncs'. -/
def fetchSyncsUptoCard : Claim7 := { stood := { row := fetchSyncsUptoRow, standIns := [], harness := (true, "046c99146560154cefc063348ffff0811a758b6cfbeaab6d88985de1093d4920"), looks := true }, kinds := [], alts := [], laidByText := true, laidKinds := [.data, .listed, .data, .pinned, .pinned], laidTests := true, laidLooks := .later }
def FetchSyncsUptoCardSaid : Prop := Claim7.holds Tryz.pinned (.plain (OpenSpec.upto fetchSyncsSpec)) fetchSyncsUptoCard
end Rows
end Go.Proofs.YtfgjimpmpckgpaaGreatDoor
