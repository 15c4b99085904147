/-
  NARROWER THAN 'FOR EVERY INPUT', by the rows' own cells (each row's printed sentence says how): SieveLogic: loops, laid · AskDeltas: loops, laid · AskChanges: loops, laid · AskSplits: loops, laid · AskKeeps: loops, laid.
  DERIVED. THE GIVEN ROWS OF THIS SEAT. 5 by the template 'for every input the law returns true; each argument reads behind the call as it read before'; 0 by the template 'total and deterministic' (their statements: YtemofofnkchmeaaGreatDoorTotals.lean).
  GIVEN WITH THE SEED: the statements are not yours to turn. If you find one false, say at which input.
  Laid BY PROGRAM, IN A SANDBOX (cutbox-rows.mjs): the forced cells as the released guide's own fill.sh prints them over the translation e7e4b7ebbc7dca18… (all of the seat's roots in one cut). By AI agents, Wed Nov 11 2026. No macro, syntax, notation, axiom, sorry.
-/
import Derived.Test.YtemofofnkchmeaaGreatDoorChecked
import GoSem.PinnedTables
import GoSem.Claim
import GoSem.ClaimJoined
import GoSem.ClaimMapViews
import Derived.JoinedTies
import Derived.KernelRfl
namespace Go.Proofs.YtemofofnkchmeaaGreatDoor
/- THE CELL 'sum', in the pinned program and in every row, IS THE sha256 OF THE DUMP (.gsa) THAT YtemofofnkchmeaaGreatDoorProg.lean LOADS. Nothing in Lean hashes anything: it is a label: what it is worth is what the hold of that sum in a sandbox is worth. -/
noncomputable def Tryz.pinned : Pinned := { name := "ytemofofnkchmeaagreatdoor", sum := "e7e4b7ebbc7dca186a0bdccc6bad92c90ade866207524cecb2efccd1dfb33703", checked := Tryz.checked }
namespace Rows
def none {H : Type} : Left H := { results := [], args := [] }

/- WHAT THE LISTED PACKAGE-LEVEL VARIABLES READ AS WHEN THE CALL BEGINS. Each datum BY PROGRAM (the guide's laid-datum.mjs) off the statement by which the dump's own 'gosem.cut.vars' lays the variable. In a bare row this is a premise. The card (YtemofofnkchmeaaGreatDoorCards.lean) ties it to the program's text. -/
def laid_unicode_utf8_acceptRanges {H : Type} : DataW H := .agg [.agg [.lit (.int .u8 128), .lit (.int .u8 191)], .agg [.lit (.int .u8 160), .lit (.int .u8 191)], .agg [.lit (.int .u8 128), .lit (.int .u8 159)], .agg [.lit (.int .u8 144), .lit (.int .u8 191)], .agg [.lit (.int .u8 128), .lit (.int .u8 143)], .agg [.lit (.int .u8 0), .lit (.int .u8 0)], .agg [.lit (.int .u8 0), .lit (.int .u8 0)], .agg [.lit (.int .u8 0), .lit (.int .u8 0)], .agg [.lit (.int .u8 0), .lit (.int .u8 0)], .agg [.lit (.int .u8 0), .lit (.int .u8 0)], .agg [.lit (.int .u8 0), .lit (.int .u8 0)], .agg [.lit (.int .u8 0), .lit (.int .u8 0)], .agg [.lit (.int .u8 0), .lit (.int .u8 0)], .agg [.lit (.int .u8 0), .lit (.int .u8 0)], .agg [.lit (.int .u8 0), .lit (.int .u8 0)], .agg [.lit (.int .u8 0), .lit (.int .u8 0)]]
def laid_cardbox_sieve_all {H : Type} : DataW H := .agg [.lit (.string [110, 97, 109, 101]), .lit (.string [110, 105, 99, 107, 110, 97, 109, 101]), .lit (.string [111, 114, 103, 97, 110, 105, 122, 97, 116, 105, 111, 110]), .lit (.string [101, 109, 97, 105, 108]), .lit (.string [112, 104, 111, 110, 101]), .lit (.string [111, 110, 108, 105, 110, 101, 83, 101, 114, 118, 105, 99, 101]), .lit (.string [97, 100, 100, 114, 101, 115, 115]), .lit (.string [110, 111, 116, 101])]
/-- One of Go's own tables, pinned by name: the form's constant. -/
def laid_unicode_CaseRanges : DataW Unit := Go.Pinned.caseRanges
/-- One of Go's own tables, pinned by name: the form's constant. -/
def laid_unicode_utf8_first : DataW Unit := Go.Pinned.utf8First

/-- 'cardboxlaw20.SieveLogic': WHATEVER THE INPUT: true; the input reads as it did. -/
def sieveLogicSpec : ChangeSpec := { name := "sieveLogic", fn := fun _ => fun
  | [d1, d2, d3] => { results := [.lit (.bool true)], args := [d1, d2, d3] }
  | _ => none }
def sieveLogicRow : OpenClaim := { program := "ytemofofnkchmeaagreatdoor", sum := "e7e4b7ebbc7dca186a0bdccc6bad92c90ade866207524cecb2efccd1dfb33703", func := "cardbox/cardboxlaw20.SieveLogic", spec := "sieveLogic", inPlace := ["internal/bytealg.IndexByteString", "internal/abi.NoEscape", "internal/bytealg.MakeNoZero", "internal/bytealg.IndexString", "internal/bytealg.abigen_runtime_cmpstring", "internal/bytealg.CountString"], unfollowed := true, recurses := true, named := ["unicode/utf8.first", "unicode/utf8.acceptRanges", "unicode.CaseRanges", "internal/bytealg.MaxLen", "cardbox/sieve.all"], loops := true, apart := false, laid := [("unicode/utf8.acceptRanges", laid_unicode_utf8_acceptRanges), ("cardbox/sieve.all", laid_cardbox_sieve_all), ("unicode.CaseRanges", laid_unicode_CaseRanges), ("unicode/utf8.first", laid_unicode_utf8_first)] }
def SieveLogicSaid : Prop := sieveLogicRow.holds Tryz.pinned (OpenSpec.ofChange sieveLogicSpec)

/-- ITS FALSE NEIGHBOUR: 'it returns false'. Refute it at one input. -/
def sieveLogicWrong : ChangeSpec := { name := "sieveLogic", fn := fun _ => fun
  | [d1, d2, d3] => { results := [.lit (.bool false)], args := [d1, d2, d3] }
  | _ => none }
def SieveLogicWrongFalsely : Prop := sieveLogicRow.holds Tryz.pinned (OpenSpec.ofChange sieveLogicWrong)

/-- 'cardboxlaw23.AskDeltas': WHATEVER THE INPUT: true; the input reads as it did. -/
def askDeltasSpec : ChangeSpec := { name := "askDeltas", fn := fun _ => fun
  | [d1, d2, d3, d4, d5] => { results := [.lit (.bool true)], args := [d1, d2, d3, d4, d5] }
  | _ => none }
def askDeltasRow : OpenClaim := { program := "ytemofofnkchmeaagreatdoor", sum := "e7e4b7ebbc7dca186a0bdccc6bad92c90ade866207524cecb2efccd1dfb33703", func := "cardbox/cardboxlaw23.AskDeltas", spec := "askDeltas", inPlace := ["internal/bytealg.abigen_runtime_cmpstring", "slices.overlaps[cardbox/api.Object]", "internal/bytealg.IndexByteString", "internal/bytealg.IndexString", "internal/bytealg.CountString", "internal/abi.NoEscape", "internal/bytealg.MakeNoZero"], unfollowed := true, recurses := true, named := ["unicode/utf8.first", "unicode/utf8.acceptRanges", "internal/bytealg.MaxLen", "cardbox/sieve.all"], loops := true, apart := false, laid := [("unicode/utf8.acceptRanges", laid_unicode_utf8_acceptRanges), ("cardbox/sieve.all", laid_cardbox_sieve_all), ("unicode/utf8.first", laid_unicode_utf8_first)] }
def AskDeltasSaid : Prop := askDeltasRow.holds Tryz.pinned (OpenSpec.ofChange askDeltasSpec)

/-- ITS FALSE NEIGHBOUR: 'it returns false'. Refute it at one input. -/
def askDeltasWrong : ChangeSpec := { name := "askDeltas", fn := fun _ => fun
  | [d1, d2, d3, d4, d5] => { results := [.lit (.bool false)], args := [d1, d2, d3, d4, d5] }
  | _ => none }
def AskDeltasWrongFalsely : Prop := askDeltasRow.holds Tryz.pinned (OpenSpec.ofChange askDeltasWrong)

/-- 'cardboxlaw23.AskChanges': WHATEVER THE INPUT: true; the input reads as it did. -/
def askChangesSpec : ChangeSpec := { name := "askChanges", fn := fun _ => fun
  | [d1, d2, d3, d4, d5] => { results := [.lit (.bool true)], args := [d1, d2, d3, d4, d5] }
  | _ => none }
def askChangesRow : OpenClaim := { program := "ytemofofnkchmeaagreatdoor", sum := "e7e4b7ebbc7dca186a0bdccc6bad92c90ade866207524cecb2efccd1dfb33703", func := "cardbox/cardboxlaw23.AskChanges", spec := "askChanges", inPlace := ["internal/bytealg.abigen_runtime_cmpstring", "slices.overlaps[cardbox/api.Object]", "internal/bytealg.IndexByteString", "internal/bytealg.IndexString", "internal/bytealg.CountString", "internal/abi.NoEscape", "internal/bytealg.MakeNoZero"], unfollowed := true, recurses := true, named := ["unicode/utf8.first", "unicode/utf8.acceptRanges", "internal/bytealg.MaxLen", "cardbox/sieve.all"], loops := true, apart := false, laid := [("unicode/utf8.acceptRanges", laid_unicode_utf8_acceptRanges), ("cardbox/sieve.all", laid_cardbox_sieve_all), ("unicode/utf8.first", laid_unicode_utf8_first)] }
def AskChangesSaid : Prop := askChangesRow.holds Tryz.pinned (OpenSpec.ofChange askChangesSpec)

/-- ITS FALSE NEIGHBOUR: 'it returns false'. Refute it at one input. -/
def askChangesWrong : ChangeSpec := { name := "askChanges", fn := fun _ => fun
  | [d1, d2, d3, d4, d5] => { results := [.lit (.bool false)], args := [d1, d2, d3, d4, d5] }
  | _ => none }
def AskChangesWrongFalsely : Prop := askChangesRow.holds Tryz.pinned (OpenSpec.ofChange askChangesWrong)

/-- 'cardboxlaw23.AskSplits': WHATEVER THE INPUT: true; the input reads as it did. -/
def askSplitsSpec : ChangeSpec := { name := "askSplits", fn := fun _ => fun
  | [d1, d2, d3] => { results := [.lit (.bool true)], args := [d1, d2, d3] }
  | _ => none }
def askSplitsRow : OpenClaim := { program := "ytemofofnkchmeaagreatdoor", sum := "e7e4b7ebbc7dca186a0bdccc6bad92c90ade866207524cecb2efccd1dfb33703", func := "cardbox/cardboxlaw23.AskSplits", spec := "askSplits", inPlace := ["internal/bytealg.abigen_runtime_cmpstring", "slices.overlaps[cardbox/api.Object]", "internal/bytealg.IndexByteString", "internal/bytealg.IndexString", "internal/bytealg.CountString", "internal/abi.NoEscape", "internal/bytealg.MakeNoZero"], unfollowed := true, recurses := true, named := ["unicode/utf8.first", "unicode/utf8.acceptRanges", "internal/bytealg.MaxLen", "cardbox/sieve.all"], loops := true, apart := false, laid := [("unicode/utf8.acceptRanges", laid_unicode_utf8_acceptRanges), ("cardbox/sieve.all", laid_cardbox_sieve_all), ("unicode/utf8.first", laid_unicode_utf8_first)] }
def AskSplitsSaid : Prop := askSplitsRow.holds Tryz.pinned (OpenSpec.ofChange askSplitsSpec)

/-- ITS FALSE NEIGHBOUR: 'it returns false'. Refute it at one input. -/
def askSplitsWrong : ChangeSpec := { name := "askSplits", fn := fun _ => fun
  | [d1, d2, d3] => { results := [.lit (.bool false)], args := [d1, d2, d3] }
  | _ => none }
def AskSplitsWrongFalsely : Prop := askSplitsRow.holds Tryz.pinned (OpenSpec.ofChange askSplitsWrong)

/-- 'cardboxlaw23.AskKeeps': WHATEVER THE INPUT: true; the input reads as it did. -/
def askKeepsSpec : ChangeSpec := { name := "askKeeps", fn := fun _ => fun
  | [d1, d2, d3] => { results := [.lit (.bool true)], args := [d1, d2, d3] }
  | _ => none }
def askKeepsRow : OpenClaim := { program := "ytemofofnkchmeaagreatdoor", sum := "e7e4b7ebbc7dca186a0bdccc6bad92c90ade866207524cecb2efccd1dfb33703", func := "cardbox/cardboxlaw23.AskKeeps", spec := "askKeeps", inPlace := ["internal/bytealg.abigen_runtime_cmpstring", "slices.overlaps[cardbox/api.Object]", "internal/bytealg.IndexByteString", "internal/bytealg.IndexString", "internal/bytealg.CountString", "internal/abi.NoEscape", "internal/bytealg.MakeNoZero"], unfollowed := true, recurses := true, named := ["unicode/utf8.first", "unicode/utf8.acceptRanges", "internal/bytealg.MaxLen", "cardbox/sieve.all"], loops := true, apart := false, laid := [("unicode/utf8.acceptRanges", laid_unicode_utf8_acceptRanges), ("cardbox/sieve.all", laid_cardbox_sieve_all), ("unicode/utf8.first", laid_unicode_utf8_first)] }
def AskKeepsSaid : Prop := askKeepsRow.holds Tryz.pinned (OpenSpec.ofChange askKeepsSpec)

/-- ITS FALSE NEIGHBOUR: 'it returns false'. Refute it at one input. -/
def askKeepsWrong : ChangeSpec := { name := "askKeeps", fn := fun _ => fun
  | [d1, d2, d3] => { results := [.lit (.bool false)], args := [d1, d2, d3] }
  | _ => none }
def AskKeepsWrongFalsely : Prop := askKeepsRow.holds Tryz.pinned (OpenSpec.ofChange askKeepsWrong)

/- THE SECOND FORM. 'bulk': how many values and letters a reading holds, each counted each time it is reached (what is shared counts as often as it is met; a slice's spare places count too). A statement '..UptoSaid' is the law's where the arguments, and the package variables that the reading takes, are together of bulk at most 1048576: NARROWER than '..Said'. Prove '..Said' where nothing that the law and all that it calls make is longer than what came in: it says more and counts as full. Else prove '..UptoSaid'. A law counts once. -/
mutual
def uptoBulk {H : Type} : DataW H → Nat
  | .lit (.string bytes) => bytes.length + 1
  | .lit _ => 1
  | .nil => 1
  | .ptr d => uptoBulk d + 1
  | .slice elems spare => uptoBulkAll elems + uptoBulkAll spare + 1
  | .agg parts => uptoBulkAll parts + 1
  | .iface _ d => uptoBulk d + 1
  | .map entries => uptoBulkEntries entries + 1
  | .held _ => 1
def uptoBulkAll {H : Type} : List (DataW H) → Nat
  | [] => 0
  | d :: r => uptoBulk d + uptoBulkAll r
def uptoBulkEntries {H : Type} : List (Lit × DataW H) → Nat
  | [] => 0
  | x :: r => uptoBulkEntry x + uptoBulkEntries r
def uptoBulkEntry {H : Type} : Lit × DataW H → Nat
  | (.string bytes, d) => bytes.length + uptoBulk d + 1
  | (_, d) => uptoBulk d + 1
 end
def uptoSmall : (H : Type) → List (DataW H) → Bool := fun _ ds => decide (uptoBulkAll ds ≤ 1048576)
def OpenSpec.upto (s : _root_.Go.ChangeSpec) : _root_.Go.OpenSpec := { _root_.Go.OpenSpec.ofChange s with cond := some uptoSmall }

/-- 'cardboxlaw20.SieveLogic', WHERE WHAT IT READS IS OF BULK AT MOST 1048576: true; the input reads as it did. -/
def sieveLogicUptoRow : OpenClaim := { program := "ytemofofnkchmeaagreatdoor", sum := "e7e4b7ebbc7dca186a0bdccc6bad92c90ade866207524cecb2efccd1dfb33703", func := "cardbox/cardboxlaw20.SieveLogic", spec := "sieveLogic", inPlace := ["internal/bytealg.IndexByteString", "internal/abi.NoEscape", "internal/bytealg.MakeNoZero", "internal/bytealg.IndexString", "internal/bytealg.abigen_runtime_cmpstring", "internal/bytealg.CountString"], unfollowed := true, recurses := true, named := ["unicode/utf8.first", "unicode/utf8.acceptRanges", "unicode.CaseRanges", "internal/bytealg.MaxLen", "cardbox/sieve.all"], loops := true, apart := false, laid := [("unicode/utf8.acceptRanges", laid_unicode_utf8_acceptRanges), ("cardbox/sieve.all", laid_cardbox_sieve_all), ("unicode.CaseRanges", laid_unicode_CaseRanges), ("unicode/utf8.first", laid_unicode_utf8_first)], narrowed := true }
def SieveLogicUptoSaid : Prop := sieveLogicUptoRow.holds Tryz.pinned (OpenSpec.upto sieveLogicSpec)

/-- 'cardboxlaw23.AskDeltas', WHERE WHAT IT READS IS OF BULK AT MOST 1048576: true; the input reads as it did. -/
def askDeltasUptoRow : OpenClaim := { program := "ytemofofnkchmeaagreatdoor", sum := "e7e4b7ebbc7dca186a0bdccc6bad92c90ade866207524cecb2efccd1dfb33703", func := "cardbox/cardboxlaw23.AskDeltas", spec := "askDeltas", inPlace := ["internal/bytealg.abigen_runtime_cmpstring", "slices.overlaps[cardbox/api.Object]", "internal/bytealg.IndexByteString", "internal/bytealg.IndexString", "internal/bytealg.CountString", "internal/abi.NoEscape", "internal/bytealg.MakeNoZero"], unfollowed := true, recurses := true, named := ["unicode/utf8.first", "unicode/utf8.acceptRanges", "internal/bytealg.MaxLen", "cardbox/sieve.all"], loops := true, apart := false, laid := [("unicode/utf8.acceptRanges", laid_unicode_utf8_acceptRanges), ("cardbox/sieve.all", laid_cardbox_sieve_all), ("unicode/utf8.first", laid_unicode_utf8_first)], narrowed := true }
def AskDeltasUptoSaid : Prop := askDeltasUptoRow.holds Tryz.pinned (OpenSpec.upto askDeltasSpec)

/-- 'cardboxlaw23.AskChanges', WHERE WHAT IT READS IS OF BULK AT MOST 1048576: true; the input reads as it did. -/
def askChangesUptoRow : OpenClaim := { program := "ytemofofnkchmeaagreatdoor", sum := "e7e4b7ebbc7dca186a0bdccc6bad92c90ade866207524cecb2efccd1dfb33703", func := "cardbox/cardboxlaw23.AskChanges", spec := "askChanges", inPlace := ["internal/bytealg.abigen_runtime_cmpstring", "slices.overlaps[cardbox/api.Object]", "internal/bytealg.IndexByteString", "internal/bytealg.IndexString", "internal/bytealg.CountString", "internal/abi.NoEscape", "internal/bytealg.MakeNoZero"], unfollowed := true, recurses := true, named := ["unicode/utf8.first", "unicode/utf8.acceptRanges", "internal/bytealg.MaxLen", "cardbox/sieve.all"], loops := true, apart := false, laid := [("unicode/utf8.acceptRanges", laid_unicode_utf8_acceptRanges), ("cardbox/sieve.all", laid_cardbox_sieve_all), ("unicode/utf8.first", laid_unicode_utf8_first)], narrowed := true }
def AskChangesUptoSaid : Prop := askChangesUptoRow.holds Tryz.pinned (OpenSpec.upto askChangesSpec)

/-- 'cardboxlaw23.AskSplits', WHERE WHAT IT READS IS OF BULK AT MOST 1048576: true; the input reads as it did. -/
def askSplitsUptoRow : OpenClaim := { program := "ytemofofnkchmeaagreatdoor", sum := "e7e4b7ebbc7dca186a0bdccc6bad92c90ade866207524cecb2efccd1dfb33703", func := "cardbox/cardboxlaw23.AskSplits", spec := "askSplits", inPlace := ["internal/bytealg.abigen_runtime_cmpstring", "slices.overlaps[cardbox/api.Object]", "internal/bytealg.IndexByteString", "internal/bytealg.IndexString", "internal/bytealg.CountString", "internal/abi.NoEscape", "internal/bytealg.MakeNoZero"], unfollowed := true, recurses := true, named := ["unicode/utf8.first", "unicode/utf8.acceptRanges", "internal/bytealg.MaxLen", "cardbox/sieve.all"], loops := true, apart := false, laid := [("unicode/utf8.acceptRanges", laid_unicode_utf8_acceptRanges), ("cardbox/sieve.all", laid_cardbox_sieve_all), ("unicode/utf8.first", laid_unicode_utf8_first)], narrowed := true }
def AskSplitsUptoSaid : Prop := askSplitsUptoRow.holds Tryz.pinned (OpenSpec.upto askSplitsSpec)

/-- 'cardboxlaw23.AskKeeps', WHERE WHAT IT READS IS OF BULK AT MOST 1048576: true; the input reads as it did. -/
def askKeepsUptoRow : OpenClaim := { program := "ytemofofnkchmeaagreatdoor", sum := "e7e4b7ebbc7dca186a0bdccc6bad92c90ade866207524cecb2efccd1dfb33703", func := "cardbox/cardboxlaw23.AskKeeps", spec := "askKeeps", inPlace := ["internal/bytealg.abigen_runtime_cmpstring", "slices.overlaps[cardbox/api.Object]", "internal/bytealg.IndexByteString", "internal/bytealg.IndexString", "internal/bytealg.CountString", "internal/abi.NoEscape", "internal/bytealg.MakeNoZero"], unfollowed := true, recurses := true, named := ["unicode/utf8.first", "unicode/utf8.acceptRanges", "internal/bytealg.MaxLen", "cardbox/sieve.all"], loops := true, apart := false, laid := [("unicode/utf8.acceptRanges", laid_unicode_utf8_acceptRanges), ("cardbox/sieve.all", laid_cardbox_sieve_all), ("unicode/utf8.first", laid_unicode_utf8_first)], narrowed := true }
def AskKeepsUptoSaid : Prop := askKeepsUptoRow.holds Tryz.pinned (OpenSpec.upto askKeepsSpec)

end Rows
end Go.Proofs.YtemofofnkchmeaaGreatDoor
