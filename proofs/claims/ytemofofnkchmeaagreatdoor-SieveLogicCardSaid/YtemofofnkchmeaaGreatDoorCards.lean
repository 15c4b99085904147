/-
  DERIVED. GIVEN WITH THE SEED: THE CARDS: each row of YtemofofnkchmeaaGreatDoorRows.lean that lists a variable, with what it lists TIED to the program's text (the seventh form; the later family's looks); each row that meets fmt, with fmt's text TOLD by the authors' own Lean function (tested against real Go, not proved from fmt's source: count such statements apart). THE CARD IS WHAT COUNTS. Prove the row's statement (the work); the ties are given (YtemofofnkchmeaaGreatDoorTie.lean); close each card by the builder's one call (the guide's Derived/Test/ToyasCard.lean, 'card_holds'). Laid BY PROGRAM, IN A SANDBOX (cutbox-door.mjs). By AI agents, Wed Nov 11 2026. No macro, syntax, notation, axiom, sorry.
-/
import Derived.Test.YtemofofnkchmeaaGreatDoorRows
import GoSem.ClaimSeven
namespace Go.Proofs.YtemofofnkchmeaaGreatDoor
namespace Rows

/-- THE TIED CARD OF 'cardboxlaw20.SieveLogic'. -/
def sieveLogicCard : Claim7 := { stood := { row := sieveLogicRow, standIns := [], harness := (true, "a32b027adcb0d287dfca56cbf8d7ee3cc5e7e5bfb487879580b62018db903af0"), looks := true }, kinds := [], alts := [], laidByText := true, laidKinds := [.data, .widerDeep, .pinned, .pinned], laidTests := true, laidLooks := .later }
def SieveLogicCardSaid : Prop := Claim7.holds Tryz.pinned (.plain (OpenSpec.ofChange sieveLogicSpec)) sieveLogicCard

/-- THE TIED CARD OF 'cardboxlaw23.AskDeltas'. -/
def askDeltasCard : Claim7 := { stood := { row := askDeltasRow, standIns := [], harness := (true, "a32b027adcb0d287dfca56cbf8d7ee3cc5e7e5bfb487879580b62018db903af0"), looks := true }, kinds := [], alts := [], laidByText := true, laidKinds := [.data, .widerDeep, .pinned], laidTests := true, laidLooks := .later }
def AskDeltasCardSaid : Prop := Claim7.holds Tryz.pinned (.plain (OpenSpec.ofChange askDeltasSpec)) askDeltasCard

/-- THE TIED CARD OF 'cardboxlaw23.AskChanges'. -/
def askChangesCard : Claim7 := { stood := { row := askChangesRow, standIns := [], harness := (true, "a32b027adcb0d287dfca56cbf8d7ee3cc5e7e5bfb487879580b62018db903af0"), looks := true }, kinds := [], alts := [], laidByText := true, laidKinds := [.data, .widerDeep, .pinned], laidTests := true, laidLooks := .later }
def AskChangesCardSaid : Prop := Claim7.holds Tryz.pinned (.plain (OpenSpec.ofChange askChangesSpec)) askChangesCard

/-- THE TIED CARD OF 'cardboxlaw23.AskSplits'. -/
def askSplitsCard : Claim7 := { stood := { row := askSplitsRow, standIns := [], harness := (true, "a32b027adcb0d287dfca56cbf8d7ee3cc5e7e5bfb487879580b62018db903af0"), looks := true }, kinds := [], alts := [], laidByText := true, laidKinds := [.data, .widerDeep, .pinned], laidTests := true, laidLooks := .later }
def AskSplitsCardSaid : Prop := Claim7.holds Tryz.pinned (.plain (OpenSpec.ofChange askSplitsSpec)) askSplitsCard

/-- THE TIED CARD OF 'cardboxlaw23.AskKeeps'. -/
def askKeepsCard : Claim7 := { stood := { row := askKeepsRow, standIns := [], harness := (true, "a32b027adcb0d287dfca56cbf8d7ee3cc5e7e5bfb487879580b62018db903af0"), looks := true }, kinds := [], alts := [], laidByText := true, laidKinds := [.data, .widerDeep, .pinned], laidTests := true, laidLooks := .later }
def AskKeepsCardSaid : Prop := Claim7.holds Tryz.pinned (.plain (OpenSpec.ofChange askKeepsSpec)) askKeepsCard

/-- THE SECOND FORM's CARD OF 'cardboxlaw20.SieveLogic'. -/
def sieveLogicUptoCard : Claim7 := { stood := { row := sieveLogicUptoRow, standIns := [], harness := (true, "a32b027adcb0d287dfca56cbf8d7ee3cc5e7e5bfb487879580b62018db903af0"), looks := true }, kinds := [], alts := [], laidByText := true, laidKinds := [.data, .widerDeep, .pinned, .pinned], laidTests := true, laidLooks := .later }
def SieveLogicUptoCardSaid : Prop := Claim7.holds Tryz.pinned (.plain (OpenSpec.upto sieveLogicSpec)) sieveLogicUptoCard

/-- THE SECOND FORM's CARD OF 'cardboxlaw23.AskDeltas'. -/
def askDeltasUptoCard : Claim7 := { stood := { row := askDeltasUptoRow, standIns := [], harness := (true, "a32b027adcb0d287dfca56cbf8d7ee3cc5e7e5bfb487879580b62018db903af0"), looks := true }, kinds := [], alts := [], laidByText := true, laidKinds := [.data, .widerDeep, .pinned], laidTests := true, laidLooks := .later }
def AskDeltasUptoCardSaid : Prop := Claim7.holds Tryz.pinned (.plain (OpenSpec.upto askDeltasSpec)) askDeltasUptoCard

/-- THE SECOND FORM's CARD OF 'cardboxlaw23.AskChanges'. -/
def askChangesUptoCard : Claim7 := { stood := { row := askChangesUptoRow, standIns := [], harness := (true, "a32b027adcb0d287dfca56cbf8d7ee3cc5e7e5bfb487879580b62018db903af0"), looks := true }, kinds := [], alts := [], laidByText := true, laidKinds := [.data, .widerDeep, .pinned], laidTests := true, laidLooks := .later }
def AskChangesUptoCardSaid : Prop := Claim7.holds Tryz.pinned (.plain (OpenSpec.upto askChangesSpec)) askChangesUptoCard

/-- THE SECOND FORM's CARD OF 'cardboxlaw23.AskSplits'. -/
def askSplitsUptoCard : Claim7 := { stood := { row := askSplitsUptoRow, standIns := [], harness := (true, "a32b027adcb0d287dfca56cbf8d7ee3cc5e7e5bfb487879580b62018db903af0"), looks := true }, kinds := [], alts := [], laidByText := true, laidKinds := [.data, .widerDeep, .pinned], laidTests := true, laidLooks := .later }
def AskSplitsUptoCardSaid : Prop := Claim7.holds Tryz.pinned (.plain (OpenSpec.upto askSplitsSpec)) askSplitsUptoCard

/-- THE SECOND FORM's CARD OF 'cardboxlaw23.AskKeeps'. -/
def askKeepsUptoCard : Claim7 := { stood := { row := askKeepsUptoRow, standIns := [], harness := (true, "a32b027adcb0d287dfca56cbf8d7ee3cc5e7e5bfb487879580b62018db903af0"), looks := true }, kinds := [], alts := [], laidByText := true, laidKinds := [.data, .widerDeep, .pinned], laidTests := true, laidLooks := .later }
def AskKeepsUptoCardSaid : Prop := Claim7.holds Tryz.pinned (.plain (OpenSpec.upto askKeepsSpec)) askKeepsUptoCard
end Rows
end Go.Proofs.YtemofofnkchmeaaGreatDoor
