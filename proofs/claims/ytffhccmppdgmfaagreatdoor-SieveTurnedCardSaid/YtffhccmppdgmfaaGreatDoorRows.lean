/-
  NARROWER THAN 'FOR EVERY INPUT', by the rows' own cells (each row's printed sentence says how): RankFlips: loops, laid · SieveChecks: loops, laid · SieveHolds: loops, laid · SieveLogic: loops, laid · SieveText: loops, laid · RankKeeps: loops, laid · SieveKeeps: loops, laid · SieveTurned: loops, laid.
  DERIVED. THE GIVEN ROWS OF THIS SEAT. 8 by the template 'for every input the law returns true; each argument reads behind the call as it read before'; 0 by the template 'total and deterministic' (their statements: YtffhccmppdgmfaaGreatDoorTotals.lean).
  GIVEN WITH THE SEED: the statements are not yours to turn. If you find one false, say at which input.
  Laid BY PROGRAM, IN A SANDBOX (cutbox-rows.mjs): the forced cells as the released guide's own fill.sh prints them over the translation da0fb2c498f4f6b1… (all of the seat's roots in one cut). By AI agents, Wed Nov 11 2026. No macro, syntax, notation, axiom, sorry.
-/
import Derived.Test.YtffhccmppdgmfaaGreatDoorChecked
import GoSem.PinnedTables
import GoSem.Claim
import GoSem.ClaimJoined
import GoSem.ClaimMapViews
import Derived.JoinedTies
import Derived.KernelRfl
namespace Go.Proofs.YtffhccmppdgmfaaGreatDoor
/- THE CELL 'sum', in the pinned program and in every row, IS THE sha256 OF THE DUMP (.gsa) THAT YtffhccmppdgmfaaGreatDoorProg.lean LOADS. Nothing in Lean hashes anything: it is a label: what it is worth is what the hold of that sum in a sandbox is worth. -/
noncomputable def Tryz.pinned : Pinned := { name := "ytffhccmppdgmfaagreatdoor", sum := "da0fb2c498f4f6b1777fe5119b66e6fb4e9408e84ce95db80567cfc221d16dc5", checked := Tryz.checked }
namespace Rows
def none {H : Type} : Left H := { results := [], args := [] }

/- WHAT THE LISTED PACKAGE-LEVEL VARIABLES READ AS WHEN THE CALL BEGINS. Each datum BY PROGRAM (the guide's laid-datum.mjs) off the statement by which the dump's own 'gosem.cut.vars' lays the variable. In a bare row this is a premise. The card (YtffhccmppdgmfaaGreatDoorCards.lean) ties it to the program's text. -/
def laid_unicode_utf8_acceptRanges {H : Type} : DataW H := .agg [.agg [.lit (.int .u8 128), .lit (.int .u8 191)], .agg [.lit (.int .u8 160), .lit (.int .u8 191)], .agg [.lit (.int .u8 128), .lit (.int .u8 159)], .agg [.lit (.int .u8 144), .lit (.int .u8 191)], .agg [.lit (.int .u8 128), .lit (.int .u8 143)], .agg [.lit (.int .u8 0), .lit (.int .u8 0)], .agg [.lit (.int .u8 0), .lit (.int .u8 0)], .agg [.lit (.int .u8 0), .lit (.int .u8 0)], .agg [.lit (.int .u8 0), .lit (.int .u8 0)], .agg [.lit (.int .u8 0), .lit (.int .u8 0)], .agg [.lit (.int .u8 0), .lit (.int .u8 0)], .agg [.lit (.int .u8 0), .lit (.int .u8 0)], .agg [.lit (.int .u8 0), .lit (.int .u8 0)], .agg [.lit (.int .u8 0), .lit (.int .u8 0)], .agg [.lit (.int .u8 0), .lit (.int .u8 0)], .agg [.lit (.int .u8 0), .lit (.int .u8 0)]]
def laid_cardbox_sieve_all {H : Type} : DataW H := .agg [.lit (.string [110, 97, 109, 101]), .lit (.string [110, 105, 99, 107, 110, 97, 109, 101]), .lit (.string [111, 114, 103, 97, 110, 105, 122, 97, 116, 105, 111, 110]), .lit (.string [101, 109, 97, 105, 108]), .lit (.string [112, 104, 111, 110, 101]), .lit (.string [111, 110, 108, 105, 110, 101, 83, 101, 114, 118, 105, 99, 101]), .lit (.string [97, 100, 100, 114, 101, 115, 115]), .lit (.string [110, 111, 116, 101])]
/-- One of Go's own tables, pinned by name: the form's constant. -/
def laid_unicode_CaseRanges : DataW Unit := Go.Pinned.caseRanges
/-- One of Go's own tables, pinned by name: the form's constant. -/
def laid_unicode_utf8_first : DataW Unit := Go.Pinned.utf8First

/-- 'cardboxlaw21.RankFlips': WHATEVER THE INPUT: true; the input reads as it did. -/
def rankFlipsSpec : ChangeSpec := { name := "rankFlips", fn := fun _ => fun
  | [d1, d2, d3] => { results := [.lit (.bool true)], args := [d1, d2, d3] }
  | _ => none }
def rankFlipsRow : OpenClaim := { program := "ytffhccmppdgmfaagreatdoor", sum := "da0fb2c498f4f6b1777fe5119b66e6fb4e9408e84ce95db80567cfc221d16dc5", func := "cardbox/cardboxlaw21.RankFlips", spec := "rankFlips", inPlace := ["internal/bytealg.IndexByteString", "internal/abi.NoEscape", "internal/bytealg.MakeNoZero", "internal/bytealg.abigen_runtime_cmpstring", "internal/bytealg.IndexString", "internal/bytealg.CountString"], unfollowed := true, recurses := true, named := ["unicode/utf8.first", "unicode/utf8.acceptRanges", "unicode.CaseRanges", "internal/bytealg.MaxLen", "cardbox/sieve.all"], loops := true, apart := false, laid := [("unicode/utf8.acceptRanges", laid_unicode_utf8_acceptRanges), ("cardbox/sieve.all", laid_cardbox_sieve_all), ("unicode.CaseRanges", laid_unicode_CaseRanges), ("unicode/utf8.first", laid_unicode_utf8_first)] }
def RankFlipsSaid : Prop := rankFlipsRow.holds Tryz.pinned (OpenSpec.ofChange rankFlipsSpec)

/-- ITS FALSE NEIGHBOUR: 'it returns false'. Refute it at one input. -/
def rankFlipsWrong : ChangeSpec := { name := "rankFlips", fn := fun _ => fun
  | [d1, d2, d3] => { results := [.lit (.bool false)], args := [d1, d2, d3] }
  | _ => none }
def RankFlipsWrongFalsely : Prop := rankFlipsRow.holds Tryz.pinned (OpenSpec.ofChange rankFlipsWrong)

/-- 'cardboxlaw20.SieveChecks': WHATEVER THE INPUT: true; the input reads as it did. -/
def sieveChecksSpec : ChangeSpec := { name := "sieveChecks", fn := fun _ => fun
  | [d] => { results := [.lit (.bool true)], args := [d] }
  | _ => none }
def sieveChecksRow : OpenClaim := { program := "ytffhccmppdgmfaagreatdoor", sum := "da0fb2c498f4f6b1777fe5119b66e6fb4e9408e84ce95db80567cfc221d16dc5", func := "cardbox/cardboxlaw20.SieveChecks", spec := "sieveChecks", inPlace := ["internal/bytealg.IndexByteString", "internal/abi.NoEscape", "internal/bytealg.MakeNoZero", "internal/bytealg.IndexString", "internal/bytealg.abigen_runtime_cmpstring", "internal/bytealg.CountString"], unfollowed := true, recurses := true, named := ["unicode/utf8.first", "unicode/utf8.acceptRanges", "unicode.CaseRanges", "internal/bytealg.MaxLen", "cardbox/sieve.all"], loops := true, apart := false, laid := [("unicode/utf8.acceptRanges", laid_unicode_utf8_acceptRanges), ("cardbox/sieve.all", laid_cardbox_sieve_all), ("unicode.CaseRanges", laid_unicode_CaseRanges), ("unicode/utf8.first", laid_unicode_utf8_first)] }
def SieveChecksSaid : Prop := sieveChecksRow.holds Tryz.pinned (OpenSpec.ofChange sieveChecksSpec)

/-- ITS FALSE NEIGHBOUR: 'it returns false'. Refute it at one input. -/
def sieveChecksWrong : ChangeSpec := { name := "sieveChecks", fn := fun _ => fun
  | [d] => { results := [.lit (.bool false)], args := [d] }
  | _ => none }
def SieveChecksWrongFalsely : Prop := sieveChecksRow.holds Tryz.pinned (OpenSpec.ofChange sieveChecksWrong)

/-- 'cardboxlaw20.SieveHolds': WHATEVER THE INPUT: true; the input reads as it did. -/
def sieveHoldsSpec : ChangeSpec := { name := "sieveHolds", fn := fun _ => fun
  | [d1, d2, d3] => { results := [.lit (.bool true)], args := [d1, d2, d3] }
  | _ => none }
def sieveHoldsRow : OpenClaim := { program := "ytffhccmppdgmfaagreatdoor", sum := "da0fb2c498f4f6b1777fe5119b66e6fb4e9408e84ce95db80567cfc221d16dc5", func := "cardbox/cardboxlaw20.SieveHolds", spec := "sieveHolds", inPlace := ["internal/bytealg.IndexByteString", "internal/abi.NoEscape", "internal/bytealg.MakeNoZero", "internal/bytealg.IndexString", "internal/bytealg.abigen_runtime_cmpstring", "internal/bytealg.CountString"], unfollowed := true, recurses := true, named := ["unicode/utf8.first", "unicode/utf8.acceptRanges", "unicode.CaseRanges", "internal/bytealg.MaxLen", "cardbox/sieve.all"], loops := true, apart := false, laid := [("unicode/utf8.acceptRanges", laid_unicode_utf8_acceptRanges), ("cardbox/sieve.all", laid_cardbox_sieve_all), ("unicode.CaseRanges", laid_unicode_CaseRanges), ("unicode/utf8.first", laid_unicode_utf8_first)] }
def SieveHoldsSaid : Prop := sieveHoldsRow.holds Tryz.pinned (OpenSpec.ofChange sieveHoldsSpec)

/-- ITS FALSE NEIGHBOUR: 'it returns false'. Refute it at one input. -/
def sieveHoldsWrong : ChangeSpec := { name := "sieveHolds", fn := fun _ => fun
  | [d1, d2, d3] => { results := [.lit (.bool false)], args := [d1, d2, d3] }
  | _ => none }
def SieveHoldsWrongFalsely : Prop := sieveHoldsRow.holds Tryz.pinned (OpenSpec.ofChange sieveHoldsWrong)

/-- 'cardboxlaw20.SieveLogic': WHATEVER THE INPUT: true; the input reads as it did. -/
def sieveLogicSpec : ChangeSpec := { name := "sieveLogic", fn := fun _ => fun
  | [d1, d2, d3] => { results := [.lit (.bool true)], args := [d1, d2, d3] }
  | _ => none }
def sieveLogicRow : OpenClaim := { program := "ytffhccmppdgmfaagreatdoor", sum := "da0fb2c498f4f6b1777fe5119b66e6fb4e9408e84ce95db80567cfc221d16dc5", func := "cardbox/cardboxlaw20.SieveLogic", spec := "sieveLogic", inPlace := ["internal/bytealg.IndexByteString", "internal/abi.NoEscape", "internal/bytealg.MakeNoZero", "internal/bytealg.IndexString", "internal/bytealg.abigen_runtime_cmpstring", "internal/bytealg.CountString"], unfollowed := true, recurses := true, named := ["unicode/utf8.first", "unicode/utf8.acceptRanges", "unicode.CaseRanges", "internal/bytealg.MaxLen", "cardbox/sieve.all"], loops := true, apart := false, laid := [("unicode/utf8.acceptRanges", laid_unicode_utf8_acceptRanges), ("cardbox/sieve.all", laid_cardbox_sieve_all), ("unicode.CaseRanges", laid_unicode_CaseRanges), ("unicode/utf8.first", laid_unicode_utf8_first)] }
def SieveLogicSaid : Prop := sieveLogicRow.holds Tryz.pinned (OpenSpec.ofChange sieveLogicSpec)

/-- ITS FALSE NEIGHBOUR: 'it returns false'. Refute it at one input. -/
def sieveLogicWrong : ChangeSpec := { name := "sieveLogic", fn := fun _ => fun
  | [d1, d2, d3] => { results := [.lit (.bool false)], args := [d1, d2, d3] }
  | _ => none }
def SieveLogicWrongFalsely : Prop := sieveLogicRow.holds Tryz.pinned (OpenSpec.ofChange sieveLogicWrong)

/-- 'cardboxlaw20.SieveText': WHATEVER THE INPUT: true; the input reads as it did. -/
def sieveTextSpec : ChangeSpec := { name := "sieveText", fn := fun _ => fun
  | [d1, d2, d3] => { results := [.lit (.bool true)], args := [d1, d2, d3] }
  | _ => none }
def sieveTextRow : OpenClaim := { program := "ytffhccmppdgmfaagreatdoor", sum := "da0fb2c498f4f6b1777fe5119b66e6fb4e9408e84ce95db80567cfc221d16dc5", func := "cardbox/cardboxlaw20.SieveText", spec := "sieveText", inPlace := ["internal/bytealg.IndexByteString", "internal/abi.NoEscape", "internal/bytealg.MakeNoZero", "internal/bytealg.IndexString", "internal/bytealg.abigen_runtime_cmpstring", "internal/bytealg.CountString"], unfollowed := true, recurses := true, named := ["unicode/utf8.first", "unicode/utf8.acceptRanges", "unicode.CaseRanges", "internal/bytealg.MaxLen", "cardbox/sieve.all"], loops := true, apart := false, laid := [("unicode/utf8.acceptRanges", laid_unicode_utf8_acceptRanges), ("cardbox/sieve.all", laid_cardbox_sieve_all), ("unicode.CaseRanges", laid_unicode_CaseRanges), ("unicode/utf8.first", laid_unicode_utf8_first)] }
def SieveTextSaid : Prop := sieveTextRow.holds Tryz.pinned (OpenSpec.ofChange sieveTextSpec)

/-- ITS FALSE NEIGHBOUR: 'it returns false'. Refute it at one input. -/
def sieveTextWrong : ChangeSpec := { name := "sieveText", fn := fun _ => fun
  | [d1, d2, d3] => { results := [.lit (.bool false)], args := [d1, d2, d3] }
  | _ => none }
def SieveTextWrongFalsely : Prop := sieveTextRow.holds Tryz.pinned (OpenSpec.ofChange sieveTextWrong)

/-- 'cardboxlaw21.RankKeeps': WHATEVER THE INPUT: true; the input reads as it did. -/
def rankKeepsSpec : ChangeSpec := { name := "rankKeeps", fn := fun _ => fun
  | [d1, d2] => { results := [.lit (.bool true)], args := [d1, d2] }
  | _ => none }
def rankKeepsRow : OpenClaim := { program := "ytffhccmppdgmfaagreatdoor", sum := "da0fb2c498f4f6b1777fe5119b66e6fb4e9408e84ce95db80567cfc221d16dc5", func := "cardbox/cardboxlaw21.RankKeeps", spec := "rankKeeps", inPlace := ["internal/bytealg.IndexByteString", "internal/abi.NoEscape", "internal/bytealg.MakeNoZero", "internal/bytealg.abigen_runtime_cmpstring", "internal/bytealg.IndexString", "internal/bytealg.CountString"], unfollowed := true, recurses := true, named := ["unicode/utf8.first", "unicode/utf8.acceptRanges", "unicode.CaseRanges", "internal/bytealg.MaxLen", "cardbox/sieve.all"], loops := true, apart := false, laid := [("unicode/utf8.acceptRanges", laid_unicode_utf8_acceptRanges), ("cardbox/sieve.all", laid_cardbox_sieve_all), ("unicode.CaseRanges", laid_unicode_CaseRanges), ("unicode/utf8.first", laid_unicode_utf8_first)] }
def RankKeepsSaid : Prop := rankKeepsRow.holds Tryz.pinned (OpenSpec.ofChange rankKeepsSpec)

/-- ITS FALSE NEIGHBOUR: 'it returns false'. Refute it at one input. -/
def rankKeepsWrong : ChangeSpec := { name := "rankKeeps", fn := fun _ => fun
  | [d1, d2] => { results := [.lit (.bool false)], args := [d1, d2] }
  | _ => none }
def RankKeepsWrongFalsely : Prop := rankKeepsRow.holds Tryz.pinned (OpenSpec.ofChange rankKeepsWrong)

/-- 'cardboxlaw20.SieveKeeps': WHATEVER THE INPUT: true; the input reads as it did. -/
def sieveKeepsSpec : ChangeSpec := { name := "sieveKeeps", fn := fun _ => fun
  | [d1, d2, d3] => { results := [.lit (.bool true)], args := [d1, d2, d3] }
  | _ => none }
def sieveKeepsRow : OpenClaim := { program := "ytffhccmppdgmfaagreatdoor", sum := "da0fb2c498f4f6b1777fe5119b66e6fb4e9408e84ce95db80567cfc221d16dc5", func := "cardbox/cardboxlaw20.SieveKeeps", spec := "sieveKeeps", inPlace := ["internal/bytealg.IndexByteString", "internal/abi.NoEscape", "internal/bytealg.MakeNoZero", "internal/bytealg.IndexString", "internal/bytealg.abigen_runtime_cmpstring", "internal/bytealg.CountString"], unfollowed := true, recurses := true, named := ["unicode/utf8.first", "unicode/utf8.acceptRanges", "unicode.CaseRanges", "internal/bytealg.MaxLen", "cardbox/sieve.all"], loops := true, apart := false, laid := [("unicode/utf8.acceptRanges", laid_unicode_utf8_acceptRanges), ("cardbox/sieve.all", laid_cardbox_sieve_all), ("unicode.CaseRanges", laid_unicode_CaseRanges), ("unicode/utf8.first", laid_unicode_utf8_first)] }
def SieveKeepsSaid : Prop := sieveKeepsRow.holds Tryz.pinned (OpenSpec.ofChange sieveKeepsSpec)

/-- ITS FALSE NEIGHBOUR: 'it returns false'. Refute it at one input. -/
def sieveKeepsWrong : ChangeSpec := { name := "sieveKeeps", fn := fun _ => fun
  | [d1, d2, d3] => { results := [.lit (.bool false)], args := [d1, d2, d3] }
  | _ => none }
def SieveKeepsWrongFalsely : Prop := sieveKeepsRow.holds Tryz.pinned (OpenSpec.ofChange sieveKeepsWrong)

/-- 'cardboxlaw20.SieveTurned': WHATEVER THE INPUT: true; the input reads as it did. -/
def sieveTurnedSpec : ChangeSpec := { name := "sieveTurned", fn := fun _ => fun
  | [d1, d2, d3] => { results := [.lit (.bool true)], args := [d1, d2, d3] }
  | _ => none }
def sieveTurnedRow : OpenClaim := { program := "ytffhccmppdgmfaagreatdoor", sum := "da0fb2c498f4f6b1777fe5119b66e6fb4e9408e84ce95db80567cfc221d16dc5", func := "cardbox/cardboxlaw20.SieveTurned", spec := "sieveTurned", inPlace := ["internal/bytealg.IndexByteString", "internal/abi.NoEscape", "internal/bytealg.MakeNoZero", "internal/bytealg.IndexString", "internal/bytealg.abigen_runtime_cmpstring", "internal/bytealg.CountString"], unfollowed := true, recurses := true, named := ["unicode/utf8.first", "unicode/utf8.acceptRanges", "unicode.CaseRanges", "internal/bytealg.MaxLen", "cardbox/sieve.all"], loops := true, apart := false, laid := [("unicode/utf8.acceptRanges", laid_unicode_utf8_acceptRanges), ("cardbox/sieve.all", laid_cardbox_sieve_all), ("unicode.CaseRanges", laid_unicode_CaseRanges), ("unicode/utf8.first", laid_unicode_utf8_first)] }
def SieveTurnedSaid : Prop := sieveTurnedRow.holds Tryz.pinned (OpenSpec.ofChange sieveTurnedSpec)

/-- ITS FALSE NEIGHBOUR: 'it returns false'. Refute it at one input. -/
def sieveTurnedWrong : ChangeSpec := { name := "sieveTurned", fn := fun _ => fun
  | [d1, d2, d3] => { results := [.lit (.bool false)], args := [d1, d2, d3] }
  | _ => none }
def SieveTurnedWrongFalsely : Prop := sieveTurnedRow.holds Tryz.pinned (OpenSpec.ofChange sieveTurnedWrong)

/- THE SECOND FORM. 'bulk': how many values and letters a reading holds, each counted each time it is reached (what is shared counts as often as it is met; a slice's spare places count too). A statement '..UptoSaid' is the law's where the arguments, and the package variables that the reading takes, are together of bulk at most 1048576: NARROWER than '..Said'. Prove '..Said' where nothing that the law and all that it calls make is longer than what came in: it says more and counts as full. Else prove '..UptoSaid'. A law counts once. -/
mutual
def uptoBulk {H : Type} : DataW H → Nat
  | .lit (.string bytes) => bytes.length + 1
  | .lit _ => 1
  | .nil => 1
  | .ptr d => uptoBulk d + 1
  | .slice elems spare => uptoBulkAll elems + uptoBulkAll spare + 1
  | .agg parts => uptoBulkAll parts + 1
  | .iface _ d => uptoBulk d + 1
  | .map entries => uptoBulkEntries entries + 1
  | .held _ => 1
def uptoBulkAll {H : Type} : List (DataW H) → Nat
  | [] => 0
  | d :: r => uptoBulk d + uptoBulkAll r
def uptoBulkEntries {H : Type} : List (Lit × DataW H) → Nat
  | [] => 0
  | x :: r => uptoBulkEntry x + uptoBulkEntries r
def uptoBulkEntry {H : Type} : Lit × DataW H → Nat
  | (.string bytes, d) => bytes.length + uptoBulk d + 1
  | (_, d) => uptoBulk d + 1
 end
def uptoSmall : (H : Type) → List (DataW H) → Bool := fun _ ds => decide (uptoBulkAll ds ≤ 1048576)
def OpenSpec.upto (s : _root_.Go.ChangeSpec) : _root_.Go.OpenSpec := { _root_.Go.OpenSpec.ofChange s with cond := some uptoSmall }

/-- 'cardboxlaw21.RankFlips', WHERE WHAT IT READS IS OF BULK AT MOST 1048576: true; the input reads as it did. -/
def rankFlipsUptoRow : OpenClaim := { program := "ytffhccmppdgmfaagreatdoor", sum := "da0fb2c498f4f6b1777fe5119b66e6fb4e9408e84ce95db80567cfc221d16dc5", func := "cardbox/cardboxlaw21.RankFlips", spec := "rankFlips", inPlace := ["internal/bytealg.IndexByteString", "internal/abi.NoEscape", "internal/bytealg.MakeNoZero", "internal/bytealg.abigen_runtime_cmpstring", "internal/bytealg.IndexString", "internal/bytealg.CountString"], unfollowed := true, recurses := true, named := ["unicode/utf8.first", "unicode/utf8.acceptRanges", "unicode.CaseRanges", "internal/bytealg.MaxLen", "cardbox/sieve.all"], loops := true, apart := false, laid := [("unicode/utf8.acceptRanges", laid_unicode_utf8_acceptRanges), ("cardbox/sieve.all", laid_cardbox_sieve_all), ("unicode.CaseRanges", laid_unicode_CaseRanges), ("unicode/utf8.first", laid_unicode_utf8_first)], narrowed := true }
def RankFlipsUptoSaid : Prop := rankFlipsUptoRow.holds Tryz.pinned (OpenSpec.upto rankFlipsSpec)

/-- 'cardboxlaw20.SieveChecks', WHERE WHAT IT READS IS OF BULK AT MOST 1048576: true; the input reads as it did. -/
def sieveChecksUptoRow : OpenClaim := { program := "ytffhccmppdgmfaagreatdoor", sum := "da0fb2c498f4f6b1777fe5119b66e6fb4e9408e84ce95db80567cfc221d16dc5", func := "cardbox/cardboxlaw20.SieveChecks", spec := "sieveChecks", inPlace := ["internal/bytealg.IndexByteString", "internal/abi.NoEscape", "internal/bytealg.MakeNoZero", "internal/bytealg.IndexString", "internal/bytealg.abigen_runtime_cmpstring", "internal/bytealg.CountString"], unfollowed := true, recurses := true, named := ["unicode/utf8.first", "unicode/utf8.acceptRanges", "unicode.CaseRanges", "internal/bytealg.MaxLen", "cardbox/sieve.all"], loops := true, apart := false, laid := [("unicode/utf8.acceptRanges", laid_unicode_utf8_acceptRanges), ("cardbox/sieve.all", laid_cardbox_sieve_all), ("unicode.CaseRanges", laid_unicode_CaseRanges), ("unicode/utf8.first", laid_unicode_utf8_first)], narrowed := true }
def SieveChecksUptoSaid : Prop := sieveChecksUptoRow.holds Tryz.pinned (OpenSpec.upto sieveChecksSpec)

/-- 'cardboxlaw20.SieveHolds', WHERE WHAT IT READS IS OF BULK AT MOST 1048576: true; the input reads as it did. -/
def sieveHoldsUptoRow : OpenClaim := { program := "ytffhccmppdgmfaagreatdoor", sum := "da0fb2c498f4f6b1777fe5119b66e6fb4e9408e84ce95db80567cfc221d16dc5", func := "cardbox/cardboxlaw20.SieveHolds", spec := "sieveHolds", inPlace := ["internal/bytealg.IndexByteString", "internal/abi.NoEscape", "internal/bytealg.MakeNoZero", "internal/bytealg.IndexString", "internal/bytealg.abigen_runtime_cmpstring", "internal/bytealg.CountString"], unfollowed := true, recurses := true, named := ["unicode/utf8.first", "unicode/utf8.acceptRanges", "unicode.CaseRanges", "internal/bytealg.MaxLen", "cardbox/sieve.all"], loops := true, apart := false, laid := [("unicode/utf8.acceptRanges", laid_unicode_utf8_acceptRanges), ("cardbox/sieve.all", laid_cardbox_sieve_all), ("unicode.CaseRanges", laid_unicode_CaseRanges), ("unicode/utf8.first", laid_unicode_utf8_first)], narrowed := true }
def SieveHoldsUptoSaid : Prop := sieveHoldsUptoRow.holds Tryz.pinned (OpenSpec.upto sieveHoldsSpec)

/-- 'cardboxlaw20.SieveLogic', WHERE WHAT IT READS IS OF BULK AT MOST 1048576: true; the input reads as it did. -/
def sieveLogicUptoRow : OpenClaim := { program := "ytffhccmppdgmfaagreatdoor", sum := "da0fb2c498f4f6b1777fe5119b66e6fb4e9408e84ce95db80567cfc221d16dc5", func := "cardbox/cardboxlaw20.SieveLogic", spec := "sieveLogic", inPlace := ["internal/bytealg.IndexByteString", "internal/abi.NoEscape", "internal/bytealg.MakeNoZero", "internal/bytealg.IndexString", "internal/bytealg.abigen_runtime_cmpstring", "internal/bytealg.CountString"], unfollowed := true, recurses := true, named := ["unicode/utf8.first", "unicode/utf8.acceptRanges", "unicode.CaseRanges", "internal/bytealg.MaxLen", "cardbox/sieve.all"], loops := true, apart := false, laid := [("unicode/utf8.acceptRanges", laid_unicode_utf8_acceptRanges), ("cardbox/sieve.all", laid_cardbox_sieve_all), ("unicode.CaseRanges", laid_unicode_CaseRanges), ("unicode/utf8.first", laid_unicode_utf8_first)], narrowed := true }
def SieveLogicUptoSaid : Prop := sieveLogicUptoRow.holds Tryz.pinned (OpenSpec.upto sieveLogicSpec)

/-- 'cardboxlaw20.SieveText', WHERE WHAT IT READS IS OF BULK AT MOST 1048576: true; the input reads as it did. -/
def sieveTextUptoRow : OpenClaim := { program := "ytffhccmppdgmfaagreatdoor", sum := "da0fb2c498f4f6b1777fe5119b66e6fb4e9408e84ce95db80567cfc221d16dc5", func := "cardbox/cardboxlaw20.SieveText", spec := "sieveText", inPlace := ["internal/bytealg.IndexByteString", "internal/abi.NoEscape", "internal/bytealg.MakeNoZero", "internal/bytealg.IndexString", "internal/bytealg.abigen_runtime_cmpstring", "internal/bytealg.CountString"], unfollowed := true, recurses := true, named := ["unicode/utf8.first", "unicode/utf8.acceptRanges", "unicode.CaseRanges", "internal/bytealg.MaxLen", "cardbox/sieve.all"], loops := true, apart := false, laid := [("unicode/utf8.acceptRanges", laid_unicode_utf8_acceptRanges), ("cardbox/sieve.all", laid_cardbox_sieve_all), ("unicode.CaseRanges", laid_unicode_CaseRanges), ("unicode/utf8.first", laid_unicode_utf8_first)], narrowed := true }
def SieveTextUptoSaid : Prop := sieveTextUptoRow.holds Tryz.pinned (OpenSpec.upto sieveTextSpec)

/-- 'cardboxlaw21.RankKeeps', WHERE WHAT IT READS IS OF BULK AT MOST 1048576: true; the input reads as it did. -/
def rankKeepsUptoRow : OpenClaim := { program := "ytffhccmppdgmfaagreatdoor", sum := "da0fb2c498f4f6b1777fe5119b66e6fb4e9408e84ce95db80567cfc221d16dc5", func := "cardbox/cardboxlaw21.RankKeeps", spec := "rankKeeps", inPlace := ["internal/bytealg.IndexByteString", "internal/abi.NoEscape", "internal/bytealg.MakeNoZero", "internal/bytealg.abigen_runtime_cmpstring", "internal/bytealg.IndexString", "internal/bytealg.CountString"], unfollowed := true, recurses := true, named := ["unicode/utf8.first", "unicode/utf8.acceptRanges", "unicode.CaseRanges", "internal/bytealg.MaxLen", "cardbox/sieve.all"], loops := true, apart := false, laid := [("unicode/utf8.acceptRanges", laid_unicode_utf8_acceptRanges), ("cardbox/sieve.all", laid_cardbox_sieve_all), ("unicode.CaseRanges", laid_unicode_CaseRanges), ("unicode/utf8.first", laid_unicode_utf8_first)], narrowed := true }
def RankKeepsUptoSaid : Prop := rankKeepsUptoRow.holds Tryz.pinned (OpenSpec.upto rankKeepsSpec)

/-- 'cardboxlaw20.SieveKeeps', WHERE WHAT IT READS IS OF BULK AT MOST 1048576: true; the input reads as it did. -/
def sieveKeepsUptoRow : OpenClaim := { program := "ytffhccmppdgmfaagreatdoor", sum := "da0fb2c498f4f6b1777fe5119b66e6fb4e9408e84ce95db80567cfc221d16dc5", func := "cardbox/cardboxlaw20.SieveKeeps", spec := "sieveKeeps", inPlace := ["internal/bytealg.IndexByteString", "internal/abi.NoEscape", "internal/bytealg.MakeNoZero", "internal/bytealg.IndexString", "internal/bytealg.abigen_runtime_cmpstring", "internal/bytealg.CountString"], unfollowed := true, recurses := true, named := ["unicode/utf8.first", "unicode/utf8.acceptRanges", "unicode.CaseRanges", "internal/bytealg.MaxLen", "cardbox/sieve.all"], loops := true, apart := false, laid := [("unicode/utf8.acceptRanges", laid_unicode_utf8_acceptRanges), ("cardbox/sieve.all", laid_cardbox_sieve_all), ("unicode.CaseRanges", laid_unicode_CaseRanges), ("unicode/utf8.first", laid_unicode_utf8_first)], narrowed := true }
def SieveKeepsUptoSaid : Prop := sieveKeepsUptoRow.holds Tryz.pinned (OpenSpec.upto sieveKeepsSpec)

/-- 'cardboxlaw20.SieveTurned', WHERE WHAT IT READS IS OF BULK AT MOST 1048576: true; the input reads as it did. -/
def sieveTurnedUptoRow : OpenClaim := { program := "ytffhccmppdgmfaagreatdoor", sum := "da0fb2c498f4f6b1777fe5119b66e6fb4e9408e84ce95db80567cfc221d16dc5", func := "cardbox/cardboxlaw20.SieveTurned", spec := "sieveTurned", inPlace := ["internal/bytealg.IndexByteString", "internal/abi.NoEscape", "internal/bytealg.MakeNoZero", "internal/bytealg.IndexString", "internal/bytealg.abigen_runtime_cmpstring", "internal/bytealg.CountString"], unfollowed := true, recurses := true, named := ["unicode/utf8.first", "unicode/utf8.acceptRanges", "unicode.CaseRanges", "internal/bytealg.MaxLen", "cardbox/sieve.all"], loops := true, apart := false, laid := [("unicode/utf8.acceptRanges", laid_unicode_utf8_acceptRanges), ("cardbox/sieve.all", laid_cardbox_sieve_all), ("unicode.CaseRanges", laid_unicode_CaseRanges), ("unicode/utf8.first", laid_unicode_utf8_first)], narrowed := true }
def SieveTurnedUptoSaid : Prop := sieveTurnedUptoRow.holds Tryz.pinned (OpenSpec.upto sieveTurnedSpec)

end Rows
end Go.Proofs.YtffhccmppdgmfaaGreatDoor
