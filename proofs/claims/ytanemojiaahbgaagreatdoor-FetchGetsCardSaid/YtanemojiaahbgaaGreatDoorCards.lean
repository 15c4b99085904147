/-
  DERIVED. GIVEN WITH THE SEED: THE CARDS: each row of YtanemojiaahbgaaGreatDoorRows.lean that lists a variable, with what it lists TIED to the program's text (the seventh form; the later family's looks); each row that meets fmt, with fmt's text TOLD by the authors' own Lean function (tested against real Go, not proved from fmt's source: count such statements apart). THE CARD IS WHAT COUNTS. Prove the row's statement (the work); the ties are given (YtanemojiaahbgaaGreatDoorTie.lean); close each card by the builder's one call (the guide's Derived/Test/ToyasCard.lean, 'card_holds'). Laid BY PROGRAM, IN A SANDBOX (cutbox-door.mjs). By AI agents, Wed Nov 11 2026. No macro, syntax, notation, axiom, sorry.
-/
import Derived.Test.YtanemojiaahbgaaGreatDoorRows
import GoSem.ClaimSeven
namespace Go.Proofs.YtanemojiaahbgaaGreatDoor
namespace Rows

/-- THE TIED CARD OF 'cardboxlaw26.FetchGets'. -/
def fetchGetsCard : Claim7 := { stood := { row := fetchGetsRow, standIns := [], harness := (true, "3fa5329eb4d09ab2711ff690fb8af4258d3384bf457e908ddf9bb95b997e57b8"), looks := true }, kinds := [], alts := [], laidByText := true, laidKinds := [.data, .listed, .data, .pinned, .pinned], laidTests := true, laidLooks := .later }
def FetchGetsCardSaid : Prop := Claim7.holds Tryz.pinned (.plain (OpenSpec.ofChange fetchGetsSpec)) fetchGetsCard

/-- THE TIED CARD OF 'cardboxlaw26.FetchShows'. -/
def fetchShowsCard : Claim7 := { stood := { row := fetchShowsRow, standIns := [], harness := (true, "3fa5329eb4d09ab2711ff690fb8af4258d3384bf457e908ddf9bb95b997e57b8"), looks := true }, kinds := [], alts := [], laidByText := true, laidKinds := [.data, .listed, .data, .pinned, .pinned], laidTests := true, laidLooks := .later }
def FetchShowsCardSaid : Prop := Claim7.holds Tryz.pinned (.plain (OpenSpec.ofChange fetchShowsSpec)) fetchShowsCard

/-- THE SECOND FORM's CARD OF 'cardboxlaw26.FetchGets'. -/
def fetchGetsUptoCard : Claim7 := { stood := { row := fetchGetsUptoRow, standIns := [], harness := (true, "3fa5329eb4d09ab2711ff690fb8af4258d3384bf457e908ddf9bb95b997e57b8"), looks := true }, kinds := [], alts := [], laidByText := true, laidKinds := [.data, .listed, .data, .pinned, .pinned], laidTests := true, laidLooks := .later }
def FetchGetsUptoCardSaid : Prop := Claim7.holds Tryz.pinned (.plain (OpenSpec.upto fetchGetsSpec)) fetchGetsUptoCard

/-- THE SECOND FORM's CARD OF 'cardboxlaw26.FetchShows'. -/
def fetchShowsUptoCard : Claim7 := { stood := { row := fetchShowsUptoRow, standIns := [], harness := (true, "3fa5329eb4d09ab2711ff690fb8af4258d3384bf457e908ddf9bb95b997e57b8"), looks := true }, kinds := [], alts := [], laidByText := true, laidKinds := [.data, .listed, .data, .pinned, .pinned], laidTests := true, laidLooks := .later }
def FetchShowsUptoCardSaid : Prop := Claim7.holds Tryz.pinned (.plain (OpenSpec.upto fetchShowsSpec)) fetchShowsUptoCard
end Rows
end Go.Proofs.YtanemojiaahbgaaGreatDoor
