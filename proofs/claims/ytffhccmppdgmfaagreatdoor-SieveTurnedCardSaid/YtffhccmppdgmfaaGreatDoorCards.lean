/-
  DERIVED. GIVEN WITH THE SEED: THE CARDS: each row of YtffhccmppdgmfaaGreatDoorRows.lean that lists a variable, with what it lists TIED to the program's text (the seventh form; the later family's looks); each row that meets fmt, with fmt's text TOLD by the authors' own Lean function (tested against real Go, not proved from fmt's source: count such statements apart). THE CARD IS WHAT COUNTS. Prove the row's statement (the work); the ties are given (YtffhccmppdgmfaaGreatDoorTie.lean); close each card by the builder's one call (the guide's Derived/Test/ToyasCard.lean, 'card_holds'). Laid BY PROGRAM, IN A SANDBOX (cutbox-door.mjs). By AI agents, Wed Nov 11 2026. No macro, syntax, notation, axiom, sorry.
-/
import Derived.Test.YtffhccmppdgmfaaGreatDoorRows
import GoSem.ClaimSeven
namespace Go.Proofs.YtffhccmppdgmfaaGreatDoor
namespace Rows

/-- THE TIED CARD OF 'cardboxlaw21.RankFlips'. -/
def rankFlipsCard : Claim7 := { stood := { row := rankFlipsRow, standIns := [], harness := (true, "04225a07e9287a18faa389eaa45ce801be9c13b8b1d2d069675a8c19862fbc50"), looks := true }, kinds := [], alts := [], laidByText := true, laidKinds := [.data, .widerDeep, .pinned, .pinned], laidTests := true, laidLooks := .later }
def RankFlipsCardSaid : Prop := Claim7.holds Tryz.pinned (.plain (OpenSpec.ofChange rankFlipsSpec)) rankFlipsCard

/-- THE TIED CARD OF 'cardboxlaw20.SieveChecks'. -/
def sieveChecksCard : Claim7 := { stood := { row := sieveChecksRow, standIns := [], harness := (true, "04225a07e9287a18faa389eaa45ce801be9c13b8b1d2d069675a8c19862fbc50"), looks := true }, kinds := [], alts := [], laidByText := true, laidKinds := [.data, .widerDeep, .pinned, .pinned], laidTests := true, laidLooks := .later }
def SieveChecksCardSaid : Prop := Claim7.holds Tryz.pinned (.plain (OpenSpec.ofChange sieveChecksSpec)) sieveChecksCard

/-- THE TIED CARD OF 'cardboxlaw20.SieveHolds'. -/
def sieveHoldsCard : Claim7 := { stood := { row := sieveHoldsRow, standIns := [], harness := (true, "04225a07e9287a18faa389eaa45ce801be9c13b8b1d2d069675a8c19862fbc50"), looks := true }, kinds := [], alts := [], laidByText := true, laidKinds := [.data, .widerDeep, .pinned, .pinned], laidTests := true, laidLooks := .later }
def SieveHoldsCardSaid : Prop := Claim7.holds Tryz.pinned (.plain (OpenSpec.ofChange sieveHoldsSpec)) sieveHoldsCard

/-- THE TIED CARD OF 'cardboxlaw20.SieveLogic'. -/
def sieveLogicCard : Claim7 := { stood := { row := sieveLogicRow, standIns := [], harness := (true, "04225a07e9287a18faa389eaa45ce801be9c13b8b1d2d069675a8c19862fbc50"), looks := true }, kinds := [], alts := [], laidByText := true, laidKinds := [.data, .widerDeep, .pinned, .pinned], laidTests := true, laidLooks := .later }
def SieveLogicCardSaid : Prop := Claim7.holds Tryz.pinned (.plain (OpenSpec.ofChange sieveLogicSpec)) sieveLogicCard

/-- THE TIED CARD OF 'cardboxlaw20.SieveText'. -/
def sieveTextCard : Claim7 := { stood := { row := sieveTextRow, standIns := [], harness := (true, "04225a07e9287a18faa389eaa45ce801be9c13b8b1d2d069675a8c19862fbc50"), looks := true }, kinds := [], alts := [], laidByText := true, laidKinds := [.data, .widerDeep, .pinned, .pinned], laidTests := true, laidLooks := .later }
def SieveTextCardSaid : Prop := Claim7.holds Tryz.pinned (.plain (OpenSpec.ofChange sieveTextSpec)) sieveTextCard

/-- THE TIED CARD OF 'cardboxlaw21.RankKeeps'. -/
def rankKeepsCard : Claim7 := { stood := { row := rankKeepsRow, standIns := [], harness := (true, "04225a07e9287a18faa389eaa45ce801be9c13b8b1d2d069675a8c19862fbc50"), looks := true }, kinds := [], alts := [], laidByText := true, laidKinds := [.data, .widerDeep, .pinned, .pinned], laidTests := true, laidLooks := .later }
def RankKeepsCardSaid : Prop := Claim7.holds Tryz.pinned (.plain (OpenSpec.ofChange rankKeepsSpec)) rankKeepsCard

/-- THE TIED CARD OF 'cardboxlaw20.SieveKeeps'. -/
def sieveKeepsCard : Claim7 := { stood := { row := sieveKeepsRow, standIns := [], harness := (true, "04225a07e9287a18faa389eaa45ce801be9c13b8b1d2d069675a8c19862fbc50"), looks := true }, kinds := [], alts := [], laidByText := true, laidKinds := [.data, .widerDeep, .pinned, .pinned], laidTests := true, laidLooks := .later }
def SieveKeepsCardSaid : Prop := Claim7.holds Tryz.pinned (.plain (OpenSpec.ofChange sieveKeepsSpec)) sieveKeepsCard

/-- THE TIED CARD OF 'cardboxlaw20.SieveTurned'. -/
def sieveTurnedCard : Claim7 := { stood := { row := sieveTurnedRow, standIns := [], harness := (true, "04225a07e9287a18faa389eaa45ce801be9c13b8b1d2d069675a8c19862fbc50"), looks := true }, kinds := [], alts := [], laidByText := true, laidKinds := [.data, .widerDeep, .pinned, .pinned], laidTests := true, laidLooks := .later }
def SieveTurnedCardSaid : Prop := Claim7.holds Tryz.pinned (.plain (OpenSpec.ofChange sieveTurnedSpec)) sieveTurnedCard

/-- THE SECOND FORM's CARD OF 'cardboxlaw21.RankFlips'. -/
def rankFlipsUptoCard : Claim7 := { stood := { row := rankFlipsUptoRow, standIns := [], harness := (true, "04225a07e9287a18faa389eaa45ce801be9c13b8b1d2d069675a8c19862fbc50"), looks := true }, kinds := [], alts := [], laidByText := true, laidKinds := [.data, .widerDeep, .pinned, .pinned], laidTests := true, laidLooks := .later }
def RankFlipsUptoCardSaid : Prop := Claim7.holds Tryz.pinned (.plain (OpenSpec.upto rankFlipsSpec)) rankFlipsUptoCard

/-- THE SECOND FORM's CARD OF 'cardboxlaw20.SieveChecks'. -/
def sieveChecksUptoCard : Claim7 := { stood := { row := sieveChecksUptoRow, standIns := [], harness := (true, "04225a07e9287a18faa389eaa45ce801be9c13b8b1d2d069675a8c19862fbc50"), looks := true }, kinds := [], alts := [], laidByText := true, laidKinds := [.data, .widerDeep, .pinned, .pinned], laidTests := true, laidLooks := .later }
def SieveChecksUptoCardSaid : Prop := Claim7.holds Tryz.pinned (.plain (OpenSpec.upto sieveChecksSpec)) sieveChecksUptoCard

/-- THE SECOND FORM's CARD OF 'cardboxlaw20.SieveHolds'. -/
def sieveHoldsUptoCard : Claim7 := { stood := { row := sieveHoldsUptoRow, standIns := [], harness := (true, "04225a07e9287a18faa389eaa45ce801be9c13b8b1d2d069675a8c19862fbc50"), looks := true }, kinds := [], alts := [], laidByText := true, laidKinds := [.data, .widerDeep, .pinned, .pinned], laidTests := true, laidLooks := .later }
def SieveHoldsUptoCardSaid : Prop := Claim7.holds Tryz.pinned (.plain (OpenSpec.upto sieveHoldsSpec)) sieveHoldsUptoCard

/-- THE SECOND FORM's CARD OF 'cardboxlaw20.SieveLogic'. -/
def sieveLogicUptoCard : Claim7 := { stood := { row := sieveLogicUptoRow, standIns := [], harness := (true, "04225a07e9287a18faa389eaa45ce801be9c13b8b1d2d069675a8c19862fbc50"), looks := true }, kinds := [], alts := [], laidByText := true, laidKinds := [.data, .widerDeep, .pinned, .pinned], laidTests := true, laidLooks := .later }
def SieveLogicUptoCardSaid : Prop := Claim7.holds Tryz.pinned (.plain (OpenSpec.upto sieveLogicSpec)) sieveLogicUptoCard

/-- THE SECOND FORM's CARD OF 'cardboxlaw20.SieveText'. -/
def sieveTextUptoCard : Claim7 := { stood := { row := sieveTextUptoRow, standIns := [], harness := (true, "04225a07e9287a18faa389eaa45ce801be9c13b8b1d2d069675a8c19862fbc50"), looks := true }, kinds := [], alts := [], laidByText := true, laidKinds := [.data, .widerDeep, .pinned, .pinned], laidTests := true, laidLooks := .later }
def SieveTextUptoCardSaid : Prop := Claim7.holds Tryz.pinned (.plain (OpenSpec.upto sieveTextSpec)) sieveTextUptoCard

/-- THE SECOND FORM's CARD OF 'cardboxlaw21.RankKeeps'. -/
def rankKeepsUptoCard : Claim7 := { stood := { row := rankKeepsUptoRow, standIns := [], harness := (true, "04225a07e9287a18faa389eaa45ce801be9c13b8b1d2d069675a8c19862fbc50"), looks := true }, kinds := [], alts := [], laidByText := true, laidKinds := [.data, .widerDeep, .pinned, .pinned], laidTests := true, laidLooks := .later }
def RankKeepsUptoCardSaid : Prop := Claim7.holds Tryz.pinned (.plain (OpenSpec.upto rankKeepsSpec)) rankKeepsUptoCard

/-- THE SECOND FORM's CARD OF 'cardboxlaw20.SieveKeeps'. -/
def sieveKeepsUptoCard : Claim7 := { stood := { row := sieveKeepsUptoRow, standIns := [], harness := (true, "04225a07e9287a18faa389eaa45ce801be9c13b8b1d2d069675a8c19862fbc50"), looks := true }, kinds := [], alts := [], laidByText := true, laidKinds := [.data, .widerDeep, .pinned, .pinned], laidTests := true, laidLooks := .later }
def SieveKeepsUptoCardSaid : Prop := Claim7.holds Tryz.pinned (.plain (OpenSpec.upto sieveKeepsSpec)) sieveKeepsUptoCard

/-- THE SECOND FORM's CARD OF 'cardboxlaw20.SieveTurned'. -/
def sieveTurnedUptoCard : Claim7 := { stood := { row := sieveTurnedUptoRow, standIns := [], harness := (true, "04225a07e9287a18faa389eaa45ce801be9c13b8b1d2d069675a8c19862fbc50"), looks := true }, kinds := [], alts := [], laidByText := true, laidKinds := [.data, .widerDeep, .pinned, .pinned], laidTests := true, laidLooks := .later }
def SieveTurnedUptoCardSaid : Prop := Claim7.holds Tryz.pinned (.plain (OpenSpec.upto sieveTurnedSpec)) sieveTurnedUptoCard
end Rows
end Go.Proofs.YtffhccmppdgmfaaGreatDoor
