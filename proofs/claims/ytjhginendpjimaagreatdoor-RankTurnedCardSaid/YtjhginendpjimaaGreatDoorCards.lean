/-
  DERIVED. GIVEN WITH THE SEED: THE CARDS: each row of YtjhginendpjimaaGreatDoorRows.lean that lists a variable, with what it lists TIED to the program's text (the seventh form; the later family's looks); each row that meets fmt, with fmt's text TOLD by the authors' own Lean function (tested against real Go, not proved from fmt's source: count such statements apart). THE CARD IS WHAT COUNTS. Prove the row's statement (the work); the ties are given (YtjhginendpjimaaGreatDoorTie.lean); close each card by the builder's one call (the guide's Derived/Test/ToyasCard.lean, 'card_holds'). Laid BY PROGRAM, IN A SANDBOX (cutbox-door.mjs). By AI agents, Wed Nov 11 2026. No macro, syntax, notation, axiom, sorry.
-/
import Derived.Test.YtjhginendpjimaaGreatDoorRows
import GoSem.ClaimSeven
namespace Go.Proofs.YtjhginendpjimaaGreatDoor
namespace Rows

/-- THE TIED CARD OF 'cardboxlaw21.RankChecks'. -/
def rankChecksCard : Claim7 := { stood := { row := rankChecksRow, standIns := [], harness := (true, "2d3fd1f3150e072ea5b304ca674ff8aa9d32ffe23d62aa02a97a5cf213581656"), looks := true }, kinds := [], alts := [], laidByText := true, laidKinds := [.data, .widerDeep, .pinned, .pinned], laidTests := true, laidLooks := .later }
def RankChecksCardSaid : Prop := Claim7.holds Tryz.pinned (.plain (OpenSpec.ofChange rankChecksSpec)) rankChecksCard

/-- THE TIED CARD OF 'cardboxlaw21.RankOrders'. -/
def rankOrdersCard : Claim7 := { stood := { row := rankOrdersRow, standIns := [], harness := (true, "2d3fd1f3150e072ea5b304ca674ff8aa9d32ffe23d62aa02a97a5cf213581656"), looks := true }, kinds := [], alts := [], laidByText := true, laidKinds := [.data, .widerDeep, .pinned, .pinned], laidTests := true, laidLooks := .later }
def RankOrdersCardSaid : Prop := Claim7.holds Tryz.pinned (.plain (OpenSpec.ofChange rankOrdersSpec)) rankOrdersCard

/-- THE TIED CARD OF 'cardboxlaw21.RankOrder'. -/
def rankOrderCard : Claim7 := { stood := { row := rankOrderRow, standIns := [], harness := (true, "2d3fd1f3150e072ea5b304ca674ff8aa9d32ffe23d62aa02a97a5cf213581656"), looks := true }, kinds := [], alts := [], laidByText := true, laidKinds := [.data, .widerDeep, .pinned, .pinned], laidTests := true, laidLooks := .later }
def RankOrderCardSaid : Prop := Claim7.holds Tryz.pinned (.plain (OpenSpec.ofChange rankOrderSpec)) rankOrderCard

/-- THE TIED CARD OF 'cardboxlaw21.RankTurned'. -/
def rankTurnedCard : Claim7 := { stood := { row := rankTurnedRow, standIns := [], harness := (true, "2d3fd1f3150e072ea5b304ca674ff8aa9d32ffe23d62aa02a97a5cf213581656"), looks := true }, kinds := [], alts := [], laidByText := true, laidKinds := [.data, .widerDeep, .pinned, .pinned], laidTests := true, laidLooks := .later }
def RankTurnedCardSaid : Prop := Claim7.holds Tryz.pinned (.plain (OpenSpec.ofChange rankTurnedSpec)) rankTurnedCard

/-- THE TIED CARD OF 'cardboxlaw21.RankFlips'. -/
def rankFlipsCard : Claim7 := { stood := { row := rankFlipsRow, standIns := [], harness := (true, "2d3fd1f3150e072ea5b304ca674ff8aa9d32ffe23d62aa02a97a5cf213581656"), looks := true }, kinds := [], alts := [], laidByText := true, laidKinds := [.data, .widerDeep, .pinned, .pinned], laidTests := true, laidLooks := .later }
def RankFlipsCardSaid : Prop := Claim7.holds Tryz.pinned (.plain (OpenSpec.ofChange rankFlipsSpec)) rankFlipsCard

/-- THE TIED CARD OF 'cardboxlaw21.RankKeeps'. -/
def rankKeepsCard : Claim7 := { stood := { row := rankKeepsRow, standIns := [], harness := (true, "2d3fd1f3150e072ea5b304ca674ff8aa9d32ffe23d62aa02a97a5cf213581656"), looks := true }, kinds := [], alts := [], laidByText := true, laidKinds := [.data, .widerDeep, .pinned, .pinned], laidTests := true, laidLooks := .later }
def RankKeepsCardSaid : Prop := Claim7.holds Tryz.pinned (.plain (OpenSpec.ofChange rankKeepsSpec)) rankKeepsCard

/-- THE SECOND FORM's CARD OF 'cardboxlaw21.RankChecks'. -/
def rankChecksUptoCard : Claim7 := { stood := { row := rankChecksUptoRow, standIns := [], harness := (true, "2d3fd1f3150e072ea5b304ca674ff8aa9d32ffe23d62aa02a97a5cf213581656"), looks := true }, kinds := [], alts := [], laidByText := true, laidKinds := [.data, .widerDeep, .pinned, .pinned], laidTests := true, laidLooks := .later }
def RankChecksUptoCardSaid : Prop := Claim7.holds Tryz.pinned (.plain (OpenSpec.upto rankChecksSpec)) rankChecksUptoCard

/-- THE SECOND FORM's CARD OF 'cardboxlaw21.RankOrders'. -/
def rankOrdersUptoCard : Claim7 := { stood := { row := rankOrdersUptoRow, standIns := [], harness := (true, "2d3fd1f3150e072ea5b304ca674ff8aa9d32ffe23d62aa02a97a5cf213581656"), looks := true }, kinds := [], alts := [], laidByText := true, laidKinds := [.data, .widerDeep, .pinned, .pinned], laidTests := true, laidLooks := .later }
def RankOrdersUptoCardSaid : Prop := Claim7.holds Tryz.pinned (.plain (OpenSpec.upto rankOrdersSpec)) rankOrdersUptoCard

/-- THE SECOND FORM's CARD OF 'cardboxlaw21.RankOrder'. -/
def rankOrderUptoCard : Claim7 := { stood := { row := rankOrderUptoRow, standIns := [], harness := (true, "2d3fd1f3150e072ea5b304ca674ff8aa9d32ffe23d62aa02a97a5cf213581656"), looks := true }, kinds := [], alts := [], laidByText := true, laidKinds := [.data, .widerDeep, .pinned, .pinned], laidTests := true, laidLooks := .later }
def RankOrderUptoCardSaid : Prop := Claim7.holds Tryz.pinned (.plain (OpenSpec.upto rankOrderSpec)) rankOrderUptoCard

/-- THE SECOND FORM's CARD OF 'cardboxlaw21.RankTurned'. -/
def rankTurnedUptoCard : Claim7 := { stood := { row := rankTurnedUptoRow, standIns := [], harness := (true, "2d3fd1f3150e072ea5b304ca674ff8aa9d32ffe23d62aa02a97a5cf213581656"), looks := true }, kinds := [], alts := [], laidByText := true, laidKinds := [.data, .widerDeep, .pinned, .pinned], laidTests := true, laidLooks := .later }
def RankTurnedUptoCardSaid : Prop := Claim7.holds Tryz.pinned (.plain (OpenSpec.upto rankTurnedSpec)) rankTurnedUptoCard

/-- THE SECOND FORM's CARD OF 'cardboxlaw21.RankFlips'. -/
def rankFlipsUptoCard : Claim7 := { stood := { row := rankFlipsUptoRow, standIns := [], harness := (true, "2d3fd1f3150e072ea5b304ca674ff8aa9d32ffe23d62aa02a97a5cf213581656"), looks := true }, kinds := [], alts := [], laidByText := true, laidKinds := [.data, .widerDeep, .pinned, .pinned], laidTests := true, laidLooks := .later }
def RankFlipsUptoCardSaid : Prop := Claim7.holds Tryz.pinned (.plain (OpenSpec.upto rankFlipsSpec)) rankFlipsUptoCard

/-- THE SECOND FORM's CARD OF 'cardboxlaw21.RankKeeps'. -/
def rankKeepsUptoCard : Claim7 := { stood := { row := rankKeepsUptoRow, standIns := [], harness := (true, "2d3fd1f3150e072ea5b304ca674ff8aa9d32ffe23d62aa02a97a5cf213581656"), looks := true }, kinds := [], alts := [], laidByText := true, laidKinds := [.data, .widerDeep, .pinned, .pinned], laidTests := true, laidLooks := .later }
def RankKeepsUptoCardSaid : Prop := Claim7.holds Tryz.pinned (.plain (OpenSpec.upto rankKeepsSpec)) rankKeepsUptoCard
end Rows
end Go.Proofs.YtjhginendpjimaaGreatDoor
