/-
  NARROWER THAN 'FOR EVERY INPUT', by the rows' own cells (each row's printed sentence says how): RankChecks: loops, laid · RankOrders: loops, laid · RankOrder: loops, laid · RankTurned: loops, laid · RankFlips: loops, laid · RankKeeps: loops, laid.
  DERIVED. THE GIVEN ROWS OF THIS SEAT. 6 by the template 'for every input the law returns true; each argument reads behind the call as it read before'; 0 by the template 'total and deterministic' (their statements: YtjhginendpjimaaGreatDoorTotals.lean).
  GIVEN WITH THE SEED: the statements are not yours to turn. If you find one false, say at which input.
  Laid BY PROGRAM, IN A SANDBOX (cutbox-rows.mjs): the forced cells as the released guide's own fill.sh prints them over the translation 30ad1838af526c54… (all of the seat's roots in one cut). By AI agents, Wed Nov 11 2026. No macro, syntax, notation, axiom, sorry.
-/
import Derived.Test.YtjhginendpjimaaGreatDoorChecked
import GoSem.PinnedTables
import GoSem.Claim
import GoSem.ClaimJoined
import GoSem.ClaimMapViews
import Derived.JoinedTies
import Derived.KernelRfl
namespace Go.Proofs.YtjhginendpjimaaGreatDoor
/- THE CELL 'sum', in the pinned program and in every row, IS THE sha256 OF THE DUMP (.gsa) THAT YtjhginendpjimaaGreatDoorProg.lean LOADS. Nothing in Lean hashes anything: it is a label: what it is worth is what the hold of that sum in a sandbox is worth. -/
noncomputable def Tryz.pinned : Pinned := { name := "ytjhginendpjimaagreatdoor", sum := "30ad1838af526c54e2bf15ad1d4c662413e10253c2432f74791039ae4fa41e84", checked := Tryz.checked }
namespace Rows
def none {H : Type} : Left H := { results := [], args := [] }

/- WHAT THE LISTED PACKAGE-LEVEL VARIABLES READ AS WHEN THE CALL BEGINS. Each datum BY PROGRAM (the guide's laid-datum.mjs) off the statement by which the dump's own 'gosem.cut.vars' lays the variable. In a bare row this is a premise. The card (YtjhginendpjimaaGreatDoorCards.lean) ties it to the program's text. -/
def laid_unicode_utf8_acceptRanges {H : Type} : DataW H := .agg [.agg [.lit (.int .u8 128), .lit (.int .u8 191)], .agg [.lit (.int .u8 160), .lit (.int .u8 191)], .agg [.lit (.int .u8 128), .lit (.int .u8 159)], .agg [.lit (.int .u8 144), .lit (.int .u8 191)], .agg [.lit (.int .u8 128), .lit (.int .u8 143)], .agg [.lit (.int .u8 0), .lit (.int .u8 0)], .agg [.lit (.int .u8 0), .lit (.int .u8 0)], .agg [.lit (.int .u8 0), .lit (.int .u8 0)], .agg [.lit (.int .u8 0), .lit (.int .u8 0)], .agg [.lit (.int .u8 0), .lit (.int .u8 0)], .agg [.lit (.int .u8 0), .lit (.int .u8 0)], .agg [.lit (.int .u8 0), .lit (.int .u8 0)], .agg [.lit (.int .u8 0), .lit (.int .u8 0)], .agg [.lit (.int .u8 0), .lit (.int .u8 0)], .agg [.lit (.int .u8 0), .lit (.int .u8 0)], .agg [.lit (.int .u8 0), .lit (.int .u8 0)]]
def laid_cardbox_sieve_all {H : Type} : DataW H := .agg [.lit (.string [110, 97, 109, 101]), .lit (.string [110, 105, 99, 107, 110, 97, 109, 101]), .lit (.string [111, 114, 103, 97, 110, 105, 122, 97, 116, 105, 111, 110]), .lit (.string [101, 109, 97, 105, 108]), .lit (.string [112, 104, 111, 110, 101]), .lit (.string [111, 110, 108, 105, 110, 101, 83, 101, 114, 118, 105, 99, 101]), .lit (.string [97, 100, 100, 114, 101, 115, 115]), .lit (.string [110, 111, 116, 101])]
/-- One of Go's own tables, pinned by name: the form's constant. -/
def laid_unicode_CaseRanges : DataW Unit := Go.Pinned.caseRanges
/-- One of Go's own tables, pinned by name: the form's constant. -/
def laid_unicode_utf8_first : DataW Unit := Go.Pinned.utf8First

/-- 'cardboxlaw21.RankChecks': WHATEVER THE INPUT: true; the input reads as it did. -/
def rankChecksSpec : ChangeSpec := { name := "rankChecks", fn := fun _ => fun
  | [d] => { results := [.lit (.bool true)], args := [d] }
  | _ => none }
def rankChecksRow : OpenClaim := { program := "ytjhginendpjimaagreatdoor", sum := "30ad1838af526c54e2bf15ad1d4c662413e10253c2432f74791039ae4fa41e84", func := "cardbox/cardboxlaw21.RankChecks", spec := "rankChecks", inPlace := ["internal/bytealg.IndexByteString", "internal/abi.NoEscape", "internal/bytealg.MakeNoZero", "internal/bytealg.abigen_runtime_cmpstring", "internal/bytealg.IndexString", "internal/bytealg.CountString"], unfollowed := true, recurses := true, named := ["unicode/utf8.first", "unicode/utf8.acceptRanges", "unicode.CaseRanges", "internal/bytealg.MaxLen", "cardbox/sieve.all"], loops := true, apart := false, laid := [("unicode/utf8.acceptRanges", laid_unicode_utf8_acceptRanges), ("cardbox/sieve.all", laid_cardbox_sieve_all), ("unicode.CaseRanges", laid_unicode_CaseRanges), ("unicode/utf8.first", laid_unicode_utf8_first)] }
def RankChecksSaid : Prop := rankChecksRow.holds Tryz.pinned (OpenSpec.ofChange rankChecksSpec)

/-- ITS FALSE NEIGHBOUR: 'it returns false'. Refute it at one input. -/
def rankChecksWrong : ChangeSpec := { name := "rankChecks", fn := fun _ => fun
  | [d] => { results := [.lit (.bool false)], args := [d] }
  | _ => none }
def RankChecksWrongFalsely : Prop := rankChecksRow.holds Tryz.pinned (OpenSpec.ofChange rankChecksWrong)

/-- 'cardboxlaw21.RankOrders': WHATEVER THE INPUT: true; the input reads as it did. -/
def rankOrdersSpec : ChangeSpec := { name := "rankOrders", fn := fun _ => fun
  | [d1, d2] => { results := [.lit (.bool true)], args := [d1, d2] }
  | _ => none }
def rankOrdersRow : OpenClaim := { program := "ytjhginendpjimaagreatdoor", sum := "30ad1838af526c54e2bf15ad1d4c662413e10253c2432f74791039ae4fa41e84", func := "cardbox/cardboxlaw21.RankOrders", spec := "rankOrders", inPlace := ["internal/bytealg.IndexByteString", "internal/abi.NoEscape", "internal/bytealg.MakeNoZero", "internal/bytealg.abigen_runtime_cmpstring", "internal/bytealg.IndexString", "internal/bytealg.CountString"], unfollowed := true, recurses := true, named := ["unicode/utf8.first", "unicode/utf8.acceptRanges", "unicode.CaseRanges", "internal/bytealg.MaxLen", "cardbox/sieve.all"], loops := true, apart := false, laid := [("unicode/utf8.acceptRanges", laid_unicode_utf8_acceptRanges), ("cardbox/sieve.all", laid_cardbox_sieve_all), ("unicode.CaseRanges", laid_unicode_CaseRanges), ("unicode/utf8.first", laid_unicode_utf8_first)] }
def RankOrdersSaid : Prop := rankOrdersRow.holds Tryz.pinned (OpenSpec.ofChange rankOrdersSpec)

/-- ITS FALSE NEIGHBOUR: 'it returns false'. Refute it at one input. -/
def rankOrdersWrong : ChangeSpec := { name := "rankOrders", fn := fun _ => fun
  | [d1, d2] => { results := [.lit (.bool false)], args := [d1, d2] }
  | _ => none }
def RankOrdersWrongFalsely : Prop := rankOrdersRow.holds Tryz.pinned (OpenSpec.ofChange rankOrdersWrong)

/-- 'cardboxlaw21.RankOrder': WHATEVER THE INPUT: true; the input reads as it did. -/
def rankOrderSpec : ChangeSpec := { name := "rankOrder", fn := fun _ => fun
  | [d1, d2] => { results := [.lit (.bool true)], args := [d1, d2] }
  | _ => none }
def rankOrderRow : OpenClaim := { program := "ytjhginendpjimaagreatdoor", sum := "30ad1838af526c54e2bf15ad1d4c662413e10253c2432f74791039ae4fa41e84", func := "cardbox/cardboxlaw21.RankOrder", spec := "rankOrder", inPlace := ["internal/bytealg.IndexByteString", "internal/abi.NoEscape", "internal/bytealg.MakeNoZero", "internal/bytealg.abigen_runtime_cmpstring", "internal/bytealg.IndexString", "internal/bytealg.CountString"], unfollowed := true, recurses := true, named := ["unicode/utf8.first", "unicode/utf8.acceptRanges", "unicode.CaseRanges", "internal/bytealg.MaxLen", "cardbox/sieve.all"], loops := true, apart := false, laid := [("unicode/utf8.acceptRanges", laid_unicode_utf8_acceptRanges), ("cardbox/sieve.all", laid_cardbox_sieve_all), ("unicode.CaseRanges", laid_unicode_CaseRanges), ("unicode/utf8.first", laid_unicode_utf8_first)] }
def RankOrderSaid : Prop := rankOrderRow.holds Tryz.pinned (OpenSpec.ofChange rankOrderSpec)

/-- ITS FALSE NEIGHBOUR: 'it returns false'. Refute it at one input. -/
def rankOrderWrong : ChangeSpec := { name := "rankOrder", fn := fun _ => fun
  | [d1, d2] => { results := [.lit (.bool false)], args := [d1, d2] }
  | _ => none }
def RankOrderWrongFalsely : Prop := rankOrderRow.holds Tryz.pinned (OpenSpec.ofChange rankOrderWrong)

/-- 'cardboxlaw21.RankTurned': WHATEVER THE INPUT: true; the input reads as it did. -/
def rankTurnedSpec : ChangeSpec := { name := "rankTurned", fn := fun _ => fun
  | [d1, d2, d3] => { results := [.lit (.bool true)], args := [d1, d2, d3] }
  | _ => none }
def rankTurnedRow : OpenClaim := { program := "ytjhginendpjimaagreatdoor", sum := "30ad1838af526c54e2bf15ad1d4c662413e10253c2432f74791039ae4fa41e84", func := "cardbox/cardboxlaw21.RankTurned", spec := "rankTurned", inPlace := ["internal/bytealg.IndexByteString", "internal/abi.NoEscape", "internal/bytealg.MakeNoZero", "internal/bytealg.abigen_runtime_cmpstring", "internal/bytealg.IndexString", "internal/bytealg.CountString"], unfollowed := true, recurses := true, named := ["unicode/utf8.first", "unicode/utf8.acceptRanges", "unicode.CaseRanges", "internal/bytealg.MaxLen", "cardbox/sieve.all"], loops := true, apart := false, laid := [("unicode/utf8.acceptRanges", laid_unicode_utf8_acceptRanges), ("cardbox/sieve.all", laid_cardbox_sieve_all), ("unicode.CaseRanges", laid_unicode_CaseRanges), ("unicode/utf8.first", laid_unicode_utf8_first)] }
def RankTurnedSaid : Prop := rankTurnedRow.holds Tryz.pinned (OpenSpec.ofChange rankTurnedSpec)

/-- ITS FALSE NEIGHBOUR: 'it returns false'. Refute it at one input. -/
def rankTurnedWrong : ChangeSpec := { name := "rankTurned", fn := fun _ => fun
  | [d1, d2, d3] => { results := [.lit (.bool false)], args := [d1, d2, d3] }
  | _ => none }
def RankTurnedWrongFalsely : Prop := rankTurnedRow.holds Tryz.pinned (OpenSpec.ofChange rankTurnedWrong)

/-- 'cardboxlaw21.RankFlips': WHATEVER THE INPUT: true; the input reads as it did. -/
def rankFlipsSpec : ChangeSpec := { name := "rankFlips", fn := fun _ => fun
  | [d1, d2, d3] => { results := [.lit (.bool true)], args := [d1, d2, d3] }
  | _ => none }
def rankFlipsRow : OpenClaim := { program := "ytjhginendpjimaagreatdoor", sum := "30ad1838af526c54e2bf15ad1d4c662413e10253c2432f74791039ae4fa41e84", func := "cardbox/cardboxlaw21.RankFlips", spec := "rankFlips", inPlace := ["internal/bytealg.IndexByteString", "internal/abi.NoEscape", "internal/bytealg.MakeNoZero", "internal/bytealg.abigen_runtime_cmpstring", "internal/bytealg.IndexString", "internal/bytealg.CountString"], unfollowed := true, recurses := true, named := ["unicode/utf8.first", "unicode/utf8.acceptRanges", "unicode.CaseRanges", "internal/bytealg.MaxLen", "cardbox/sieve.all"], loops := true, apart := false, laid := [("unicode/utf8.acceptRanges", laid_unicode_utf8_acceptRanges), ("cardbox/sieve.all", laid_cardbox_sieve_all), ("unicode.CaseRanges", laid_unicode_CaseRanges), ("unicode/utf8.first", laid_unicode_utf8_first)] }
def RankFlipsSaid : Prop := rankFlipsRow.holds Tryz.pinned (OpenSpec.ofChange rankFlipsSpec)

/-- ITS FALSE NEIGHBOUR: 'it returns false'. Refute it at one input. -/
def rankFlipsWrong : ChangeSpec := { name := "rankFlips", fn := fun _ => fun
  | [d1, d2, d3] => { results := [.lit (.bool false)], args := [d1, d2, d3] }
  | _ => none }
def RankFlipsWrongFalsely : Prop := rankFlipsRow.holds Tryz.pinned (OpenSpec.ofChange rankFlipsWrong)

/-- 'cardboxlaw21.RankKeeps': WHATEVER THE INPUT: true; the input reads as it did. -/
def rankKeepsSpec : ChangeSpec := { name := "rankKeeps", fn := fun _ => fun
  | [d1, d2] => { results := [.lit (.bool true)], args := [d1, d2] }
  | _ => none }
def rankKeepsRow : OpenClaim := { program := "ytjhginendpjimaagreatdoor", sum := "30ad1838af526c54e2bf15ad1d4c662413e10253c2432f74791039ae4fa41e84", func := "cardbox/cardboxlaw21.RankKeeps", spec := "rankKeeps", inPlace := ["internal/bytealg.IndexByteString", "internal/abi.NoEscape", "internal/bytealg.MakeNoZero", "internal/bytealg.abigen_runtime_cmpstring", "internal/bytealg.IndexString", "internal/bytealg.CountString"], unfollowed := true, recurses := true, named := ["unicode/utf8.first", "unicode/utf8.acceptRanges", "unicode.CaseRanges", "internal/bytealg.MaxLen", "cardbox/sieve.all"], loops := true, apart := false, laid := [("unicode/utf8.acceptRanges", laid_unicode_utf8_acceptRanges), ("cardbox/sieve.all", laid_cardbox_sieve_all), ("unicode.CaseRanges", laid_unicode_CaseRanges), ("unicode/utf8.first", laid_unicode_utf8_first)] }
def RankKeepsSaid : Prop := rankKeepsRow.holds Tryz.pinned (OpenSpec.ofChange rankKeepsSpec)

/-- ITS FALSE NEIGHBOUR: 'it returns false'. Refute it at one input. -/
def rankKeepsWrong : ChangeSpec := { name := "rankKeeps", fn := fun _ => fun
  | [d1, d2] => { results := [.lit (.bool false)], args := [d1, d2] }
  | _ => none }
def RankKeepsWrongFalsely : Prop := rankKeepsRow.holds Tryz.pinned (OpenSpec.ofChange rankKeepsWrong)

/- THE SECOND FORM. 'bulk': how many values and letters a reading holds, each counted each time it is reached (what is shared counts as often as it is met; a slice's spare places count too). A statement '..UptoSaid' is the law's where the arguments, and the package variables that the reading takes, are together of bulk at most 1048576: NARROWER than '..Said'. Prove '..Said' where nothing that the law and all that it calls make is longer than what came in: it says more and counts as full. Else prove '..UptoSaid'. A law counts once. -/
mutual
def uptoBulk {H : Type} : DataW H → Nat
  | .lit (.string bytes) => bytes.length + 1
  | .lit _ => 1
  | .nil => 1
  | .ptr d => uptoBulk d + 1
  | .slice elems spare => uptoBulkAll elems + uptoBulkAll spare + 1
  | .agg parts => uptoBulkAll parts + 1
  | .iface _ d => uptoBulk d + 1
  | .map entries => uptoBulkEntries entries + 1
  | .held _ => 1
def uptoBulkAll {H : Type} : List (DataW H) → Nat
  | [] => 0
  | d :: r => uptoBulk d + uptoBulkAll r
def uptoBulkEntries {H : Type} : List (Lit × DataW H) → Nat
  | [] => 0
  | x :: r => uptoBulkEntry x + uptoBulkEntries r
def uptoBulkEntry {H : Type} : Lit × DataW H → Nat
  | (.string bytes, d) => bytes.length + uptoBulk d + 1
  | (_, d) => uptoBulk d + 1
 end
def uptoSmall : (H : Type) → List (DataW H) → Bool := fun _ ds => decide (uptoBulkAll ds ≤ 1048576)
def OpenSpec.upto (s : _root_.Go.ChangeSpec) : _root_.Go.OpenSpec := { _root_.Go.OpenSpec.ofChange s with cond := some uptoSmall }

/-- 'cardboxlaw21.RankChecks', WHERE WHAT IT READS IS OF BULK AT MOST 1048576: true; the input reads as it did. -/
def rankChecksUptoRow : OpenClaim := { program := "ytjhginendpjimaagreatdoor", sum := "30ad1838af526c54e2bf15ad1d4c662413e10253c2432f74791039ae4fa41e84", func := "cardbox/cardboxlaw21.RankChecks", spec := "rankChecks", inPlace := ["internal/bytealg.IndexByteString", "internal/abi.NoEscape", "internal/bytealg.MakeNoZero", "internal/bytealg.abigen_runtime_cmpstring", "internal/bytealg.IndexString", "internal/bytealg.CountString"], unfollowed := true, recurses := true, named := ["unicode/utf8.first", "unicode/utf8.acceptRanges", "unicode.CaseRanges", "internal/bytealg.MaxLen", "cardbox/sieve.all"], loops := true, apart := false, laid := [("unicode/utf8.acceptRanges", laid_unicode_utf8_acceptRanges), ("cardbox/sieve.all", laid_cardbox_sieve_all), ("unicode.CaseRanges", laid_unicode_CaseRanges), ("unicode/utf8.first", laid_unicode_utf8_first)], narrowed := true }
def RankChecksUptoSaid : Prop := rankChecksUptoRow.holds Tryz.pinned (OpenSpec.upto rankChecksSpec)

/-- 'cardboxlaw21.RankOrders', WHERE WHAT IT READS IS OF BULK AT MOST 1048576: true; the input reads as it did. -/
def rankOrdersUptoRow : OpenClaim := { program := "ytjhginendpjimaagreatdoor", sum := "30ad1838af526c54e2bf15ad1d4c662413e10253c2432f74791039ae4fa41e84", func := "cardbox/cardboxlaw21.RankOrders", spec := "rankOrders", inPlace := ["internal/bytealg.IndexByteString", "internal/abi.NoEscape", "internal/bytealg.MakeNoZero", "internal/bytealg.abigen_runtime_cmpstring", "internal/bytealg.IndexString", "internal/bytealg.CountString"], unfollowed := true, recurses := true, named := ["unicode/utf8.first", "unicode/utf8.acceptRanges", "unicode.CaseRanges", "internal/bytealg.MaxLen", "cardbox/sieve.all"], loops := true, apart := false, laid := [("unicode/utf8.acceptRanges", laid_unicode_utf8_acceptRanges), ("cardbox/sieve.all", laid_cardbox_sieve_all), ("unicode.CaseRanges", laid_unicode_CaseRanges), ("unicode/utf8.first", laid_unicode_utf8_first)], narrowed := true }
def RankOrdersUptoSaid : Prop := rankOrdersUptoRow.holds Tryz.pinned (OpenSpec.upto rankOrdersSpec)

/-- 'cardboxlaw21.RankOrder', WHERE WHAT IT READS IS OF BULK AT MOST 1048576: true; the input reads as it did. -/
def rankOrderUptoRow : OpenClaim := { program := "ytjhginendpjimaagreatdoor", sum := "30ad1838af526c54e2bf15ad1d4c662413e10253c2432f74791039ae4fa41e84", func := "cardbox/cardboxlaw21.RankOrder", spec := "rankOrder", inPlace := ["internal/bytealg.IndexByteString", "internal/abi.NoEscape", "internal/bytealg.MakeNoZero", "internal/bytealg.abigen_runtime_cmpstring", "internal/bytealg.IndexString", "internal/bytealg.CountString"], unfollowed := true, recurses := true, named := ["unicode/utf8.first", "unicode/utf8.acceptRanges", "unicode.CaseRanges", "internal/bytealg.MaxLen", "cardbox/sieve.all"], loops := true, apart := false, laid := [("unicode/utf8.acceptRanges", laid_unicode_utf8_acceptRanges), ("cardbox/sieve.all", laid_cardbox_sieve_all), ("unicode.CaseRanges", laid_unicode_CaseRanges), ("unicode/utf8.first", laid_unicode_utf8_first)], narrowed := true }
def RankOrderUptoSaid : Prop := rankOrderUptoRow.holds Tryz.pinned (OpenSpec.upto rankOrderSpec)

/-- 'cardboxlaw21.RankTurned', WHERE WHAT IT READS IS OF BULK AT MOST 1048576: true; the input reads as it did. -/
def rankTurnedUptoRow : OpenClaim := { program := "ytjhginendpjimaagreatdoor", sum := "30ad1838af526c54e2bf15ad1d4c662413e10253c2432f74791039ae4fa41e84", func := "cardbox/cardboxlaw21.RankTurned", spec := "rankTurned", inPlace := ["internal/bytealg.IndexByteString", "internal/abi.NoEscape", "internal/bytealg.MakeNoZero", "internal/bytealg.abigen_runtime_cmpstring", "internal/bytealg.IndexString", "internal/bytealg.CountString"], unfollowed := true, recurses := true, named := ["unicode/utf8.first", "unicode/utf8.acceptRanges", "unicode.CaseRanges", "internal/bytealg.MaxLen", "cardbox/sieve.all"], loops := true, apart := false, laid := [("unicode/utf8.acceptRanges", laid_unicode_utf8_acceptRanges), ("cardbox/sieve.all", laid_cardbox_sieve_all), ("unicode.CaseRanges", laid_unicode_CaseRanges), ("unicode/utf8.first", laid_unicode_utf8_first)], narrowed := true }
def RankTurnedUptoSaid : Prop := rankTurnedUptoRow.holds Tryz.pinned (OpenSpec.upto rankTurnedSpec)

/-- 'cardboxlaw21.RankFlips', WHERE WHAT IT READS IS OF BULK AT MOST 1048576: true; the input reads as it did. -/
def rankFlipsUptoRow : OpenClaim := { program := "ytjhginendpjimaagreatdoor", sum := "30ad1838af526c54e2bf15ad1d4c662413e10253c2432f74791039ae4fa41e84", func := "cardbox/cardboxlaw21.RankFlips", spec := "rankFlips", inPlace := ["internal/bytealg.IndexByteString", "internal/abi.NoEscape", "internal/bytealg.MakeNoZero", "internal/bytealg.abigen_runtime_cmpstring", "internal/bytealg.IndexString", "internal/bytealg.CountString"], unfollowed := true, recurses := true, named := ["unicode/utf8.first", "unicode/utf8.acceptRanges", "unicode.CaseRanges", "internal/bytealg.MaxLen", "cardbox/sieve.all"], loops := true, apart := false, laid := [("unicode/utf8.acceptRanges", laid_unicode_utf8_acceptRanges), ("cardbox/sieve.all", laid_cardbox_sieve_all), ("unicode.CaseRanges", laid_unicode_CaseRanges), ("unicode/utf8.first", laid_unicode_utf8_first)], narrowed := true }
def RankFlipsUptoSaid : Prop := rankFlipsUptoRow.holds Tryz.pinned (OpenSpec.upto rankFlipsSpec)

/-- 'cardboxlaw21.RankKeeps', WHERE WHAT IT READS IS OF BULK AT MOST 1048576: true; the input reads as it did. -/
def rankKeepsUptoRow : OpenClaim := { program := "ytjhginendpjimaagreatdoor", sum := "30ad1838af526c54e2bf15ad1d4c662413e10253c2432f74791039ae4fa41e84", func := "cardbox/cardboxlaw21.RankKeeps", spec := "rankKeeps", inPlace := ["internal/bytealg.IndexByteString", "internal/abi.NoEscape", "internal/bytealg.MakeNoZero", "internal/bytealg.abigen_runtime_cmpstring", "internal/bytealg.IndexString", "internal/bytealg.CountString"], unfollowed := true, recurses := true, named := ["unicode/utf8.first", "unicode/utf8.acceptRanges", "unicode.CaseRanges", "internal/bytealg.MaxLen", "cardbox/sieve.all"], loops := true, apart := false, laid := [("unicode/utf8.acceptRanges", laid_unicode_utf8_acceptRanges), ("cardbox/sieve.all", laid_cardbox_sieve_all), ("unicode.CaseRanges", laid_unicode_CaseRanges), ("unicode/utf8.first", laid_unicode_utf8_first)], narrowed := true }
def RankKeepsUptoSaid : Prop := rankKeepsUptoRow.holds Tryz.pinned (OpenSpec.upto rankKeepsSpec)

end Rows
end Go.Proofs.YtjhginendpjimaaGreatDoor
