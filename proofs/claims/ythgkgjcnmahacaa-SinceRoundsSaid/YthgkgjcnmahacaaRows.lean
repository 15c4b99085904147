/-
  NARROWER THAN 'FOR EVERY INPUT', by the rows' own cells (each row's printed sentence says how): TreeCounts: loops · StoreKeeps: loops · StoreOnes: loops · StoreOrder: loops · TreeSame: loops · TreeKeeps: loops · SinceChanges: loops · SinceNothing: loops · SinceWhole: loops · SinceRounds: loops · SinceKeeps: loops.
  DERIVED. THE GIVEN ROWS OF THIS SEAT. 11 by the template 'for every input the law returns true; each argument reads behind the call as it read before'; 0 by the template 'total and deterministic' (their statements: YthgkgjcnmahacaaTotals.lean).
  GIVEN WITH THE SEED: the statements are not yours to turn. If you find one false, say at which input.
  Laid BY PROGRAM, IN A SANDBOX (cutbox-rows.mjs): the forced cells as the released guide's own fill.sh prints them over the translation 421cf350083849fc… (all of the seat's roots in one cut). By AI agents, Wed Nov 11 2026. No macro, syntax, notation, axiom, sorry.
-/
import Derived.Test.YthgkgjcnmahacaaChecked
import GoSem.Claim
import GoSem.ClaimJoined
import GoSem.ClaimMapViews
import Derived.JoinedTies
import Derived.KernelRfl
namespace Go.Proofs.Ythgkgjcnmahacaa
/- THE CELL 'sum', in the pinned program and in every row, IS THE sha256 OF THE DUMP (.gsa) THAT YthgkgjcnmahacaaProg.lean LOADS. Nothing in Lean hashes anything: it is a label: what it is worth is what the hold of that sum in a sandbox is worth. -/
noncomputable def Try.pinned : Pinned := { name := "ythgkgjcnmahacaa", sum := "421cf350083849fcf7b17ac040040bdab7ad1df0308b64149672d7aaeefe4b06", checked := Try.checked }
namespace Rows
def none {H : Type} : Left H := { results := [], args := [] }

/-- 'cardboxlaw07.TreeCounts': WHATEVER THE INPUT: true; the input reads as it did. -/
def treeCountsSpec : ChangeSpec := { name := "treeCounts", fn := fun _ => fun
  | [d] => { results := [.lit (.bool true)], args := [d] }
  | _ => none }
def treeCountsRow : OpenClaim := { program := "ythgkgjcnmahacaa", sum := "421cf350083849fcf7b17ac040040bdab7ad1df0308b64149672d7aaeefe4b06", func := "cardbox/cardboxlaw07.TreeCounts", spec := "treeCounts", inPlace := ["internal/bytealg.abigen_runtime_cmpstring"], unfollowed := true, recurses := true, loops := true, apart := false }
def TreeCountsSaid : Prop := treeCountsRow.holds Try.pinned (OpenSpec.ofChange treeCountsSpec)

/-- ITS FALSE NEIGHBOUR: 'it returns false'. Refute it at one input. -/
def treeCountsWrong : ChangeSpec := { name := "treeCounts", fn := fun _ => fun
  | [d] => { results := [.lit (.bool false)], args := [d] }
  | _ => none }
def TreeCountsWrongFalsely : Prop := treeCountsRow.holds Try.pinned (OpenSpec.ofChange treeCountsWrong)

/-- 'cardboxlaw18.StoreKeeps': WHATEVER THE INPUT: true; the input reads as it did. -/
def storeKeepsSpec : ChangeSpec := { name := "storeKeeps", fn := fun _ => fun
  | [d1, d2] => { results := [.lit (.bool true)], args := [d1, d2] }
  | _ => none }
def storeKeepsRow : OpenClaim := { program := "ythgkgjcnmahacaa", sum := "421cf350083849fcf7b17ac040040bdab7ad1df0308b64149672d7aaeefe4b06", func := "cardbox/cardboxlaw18.StoreKeeps", spec := "storeKeeps", inPlace := ["internal/bytealg.abigen_runtime_cmpstring", "slices.overlaps[cardbox/api.Object]"], unfollowed := true, recurses := true, loops := true, apart := false }
def StoreKeepsSaid : Prop := storeKeepsRow.holds Try.pinned (OpenSpec.ofChange storeKeepsSpec)

/-- ITS FALSE NEIGHBOUR: 'it returns false'. Refute it at one input. -/
def storeKeepsWrong : ChangeSpec := { name := "storeKeeps", fn := fun _ => fun
  | [d1, d2] => { results := [.lit (.bool false)], args := [d1, d2] }
  | _ => none }
def StoreKeepsWrongFalsely : Prop := storeKeepsRow.holds Try.pinned (OpenSpec.ofChange storeKeepsWrong)

/-- 'cardboxlaw18.StoreOnes': WHATEVER THE INPUT: true; the input reads as it did. -/
def storeOnesSpec : ChangeSpec := { name := "storeOnes", fn := fun _ => fun
  | [d1, d2, d3, d4] => { results := [.lit (.bool true)], args := [d1, d2, d3, d4] }
  | _ => none }
def storeOnesRow : OpenClaim := { program := "ythgkgjcnmahacaa", sum := "421cf350083849fcf7b17ac040040bdab7ad1df0308b64149672d7aaeefe4b06", func := "cardbox/cardboxlaw18.StoreOnes", spec := "storeOnes", inPlace := ["internal/bytealg.abigen_runtime_cmpstring", "slices.overlaps[cardbox/api.Object]"], unfollowed := true, recurses := true, loops := true, apart := false }
def StoreOnesSaid : Prop := storeOnesRow.holds Try.pinned (OpenSpec.ofChange storeOnesSpec)

/-- ITS FALSE NEIGHBOUR: 'it returns false'. Refute it at one input. -/
def storeOnesWrong : ChangeSpec := { name := "storeOnes", fn := fun _ => fun
  | [d1, d2, d3, d4] => { results := [.lit (.bool false)], args := [d1, d2, d3, d4] }
  | _ => none }
def StoreOnesWrongFalsely : Prop := storeOnesRow.holds Try.pinned (OpenSpec.ofChange storeOnesWrong)

/-- 'cardboxlaw18.StoreOrder': WHATEVER THE INPUT: true; the input reads as it did. -/
def storeOrderSpec : ChangeSpec := { name := "storeOrder", fn := fun _ => fun
  | [d1, d2, d3] => { results := [.lit (.bool true)], args := [d1, d2, d3] }
  | _ => none }
def storeOrderRow : OpenClaim := { program := "ythgkgjcnmahacaa", sum := "421cf350083849fcf7b17ac040040bdab7ad1df0308b64149672d7aaeefe4b06", func := "cardbox/cardboxlaw18.StoreOrder", spec := "storeOrder", inPlace := ["internal/bytealg.abigen_runtime_cmpstring", "slices.overlaps[cardbox/api.Object]"], unfollowed := true, recurses := true, loops := true, apart := false }
def StoreOrderSaid : Prop := storeOrderRow.holds Try.pinned (OpenSpec.ofChange storeOrderSpec)

/-- ITS FALSE NEIGHBOUR: 'it returns false'. Refute it at one input. -/
def storeOrderWrong : ChangeSpec := { name := "storeOrder", fn := fun _ => fun
  | [d1, d2, d3] => { results := [.lit (.bool false)], args := [d1, d2, d3] }
  | _ => none }
def StoreOrderWrongFalsely : Prop := storeOrderRow.holds Try.pinned (OpenSpec.ofChange storeOrderWrong)

/-- 'cardboxlaw07.TreeSame': WHATEVER THE INPUT: true; the input reads as it did. -/
def treeSameSpec : ChangeSpec := { name := "treeSame", fn := fun _ => fun
  | [d1, d2] => { results := [.lit (.bool true)], args := [d1, d2] }
  | _ => none }
def treeSameRow : OpenClaim := { program := "ythgkgjcnmahacaa", sum := "421cf350083849fcf7b17ac040040bdab7ad1df0308b64149672d7aaeefe4b06", func := "cardbox/cardboxlaw07.TreeSame", spec := "treeSame", inPlace := ["internal/bytealg.abigen_runtime_cmpstring"], unfollowed := true, recurses := true, loops := true, apart := false }
def TreeSameSaid : Prop := treeSameRow.holds Try.pinned (OpenSpec.ofChange treeSameSpec)

/-- ITS FALSE NEIGHBOUR: 'it returns false'. Refute it at one input. -/
def treeSameWrong : ChangeSpec := { name := "treeSame", fn := fun _ => fun
  | [d1, d2] => { results := [.lit (.bool false)], args := [d1, d2] }
  | _ => none }
def TreeSameWrongFalsely : Prop := treeSameRow.holds Try.pinned (OpenSpec.ofChange treeSameWrong)

/-- 'cardboxlaw07.TreeKeeps': WHATEVER THE INPUT: true; the input reads as it did. -/
def treeKeepsSpec : ChangeSpec := { name := "treeKeeps", fn := fun _ => fun
  | [d1, d2] => { results := [.lit (.bool true)], args := [d1, d2] }
  | _ => none }
def treeKeepsRow : OpenClaim := { program := "ythgkgjcnmahacaa", sum := "421cf350083849fcf7b17ac040040bdab7ad1df0308b64149672d7aaeefe4b06", func := "cardbox/cardboxlaw07.TreeKeeps", spec := "treeKeeps", inPlace := ["internal/bytealg.abigen_runtime_cmpstring"], unfollowed := true, recurses := true, loops := true, apart := false }
def TreeKeepsSaid : Prop := treeKeepsRow.holds Try.pinned (OpenSpec.ofChange treeKeepsSpec)

/-- ITS FALSE NEIGHBOUR: 'it returns false'. Refute it at one input. -/
def treeKeepsWrong : ChangeSpec := { name := "treeKeeps", fn := fun _ => fun
  | [d1, d2] => { results := [.lit (.bool false)], args := [d1, d2] }
  | _ => none }
def TreeKeepsWrongFalsely : Prop := treeKeepsRow.holds Try.pinned (OpenSpec.ofChange treeKeepsWrong)

/-- 'cardboxlaw19.SinceChanges': WHATEVER THE INPUT: true; the input reads as it did. -/
def sinceChangesSpec : ChangeSpec := { name := "sinceChanges", fn := fun _ => fun
  | [d1, d2, d3] => { results := [.lit (.bool true)], args := [d1, d2, d3] }
  | _ => none }
def sinceChangesRow : OpenClaim := { program := "ythgkgjcnmahacaa", sum := "421cf350083849fcf7b17ac040040bdab7ad1df0308b64149672d7aaeefe4b06", func := "cardbox/cardboxlaw19.SinceChanges", spec := "sinceChanges", inPlace := ["internal/bytealg.abigen_runtime_cmpstring", "slices.overlaps[cardbox/api.Object]"], unfollowed := true, recurses := true, loops := true, apart := false }
def SinceChangesSaid : Prop := sinceChangesRow.holds Try.pinned (OpenSpec.ofChange sinceChangesSpec)

/-- ITS FALSE NEIGHBOUR: 'it returns false'. Refute it at one input. -/
def sinceChangesWrong : ChangeSpec := { name := "sinceChanges", fn := fun _ => fun
  | [d1, d2, d3] => { results := [.lit (.bool false)], args := [d1, d2, d3] }
  | _ => none }
def SinceChangesWrongFalsely : Prop := sinceChangesRow.holds Try.pinned (OpenSpec.ofChange sinceChangesWrong)

/-- 'cardboxlaw19.SinceNothing': WHATEVER THE INPUT: true; the input reads as it did. -/
def sinceNothingSpec : ChangeSpec := { name := "sinceNothing", fn := fun _ => fun
  | [d1, d2] => { results := [.lit (.bool true)], args := [d1, d2] }
  | _ => none }
def sinceNothingRow : OpenClaim := { program := "ythgkgjcnmahacaa", sum := "421cf350083849fcf7b17ac040040bdab7ad1df0308b64149672d7aaeefe4b06", func := "cardbox/cardboxlaw19.SinceNothing", spec := "sinceNothing", inPlace := ["internal/bytealg.abigen_runtime_cmpstring", "slices.overlaps[cardbox/api.Object]"], unfollowed := true, recurses := true, loops := true, apart := false }
def SinceNothingSaid : Prop := sinceNothingRow.holds Try.pinned (OpenSpec.ofChange sinceNothingSpec)

/-- ITS FALSE NEIGHBOUR: 'it returns false'. Refute it at one input. -/
def sinceNothingWrong : ChangeSpec := { name := "sinceNothing", fn := fun _ => fun
  | [d1, d2] => { results := [.lit (.bool false)], args := [d1, d2] }
  | _ => none }
def SinceNothingWrongFalsely : Prop := sinceNothingRow.holds Try.pinned (OpenSpec.ofChange sinceNothingWrong)

/-- 'cardboxlaw19.SinceWhole': WHATEVER THE INPUT: true; the input reads as it did. -/
def sinceWholeSpec : ChangeSpec := { name := "sinceWhole", fn := fun _ => fun
  | [d1, d2, d3] => { results := [.lit (.bool true)], args := [d1, d2, d3] }
  | _ => none }
def sinceWholeRow : OpenClaim := { program := "ythgkgjcnmahacaa", sum := "421cf350083849fcf7b17ac040040bdab7ad1df0308b64149672d7aaeefe4b06", func := "cardbox/cardboxlaw19.SinceWhole", spec := "sinceWhole", inPlace := ["internal/bytealg.abigen_runtime_cmpstring", "slices.overlaps[cardbox/api.Object]"], unfollowed := true, recurses := true, loops := true, apart := false }
def SinceWholeSaid : Prop := sinceWholeRow.holds Try.pinned (OpenSpec.ofChange sinceWholeSpec)

/-- ITS FALSE NEIGHBOUR: 'it returns false'. Refute it at one input. -/
def sinceWholeWrong : ChangeSpec := { name := "sinceWhole", fn := fun _ => fun
  | [d1, d2, d3] => { results := [.lit (.bool false)], args := [d1, d2, d3] }
  | _ => none }
def SinceWholeWrongFalsely : Prop := sinceWholeRow.holds Try.pinned (OpenSpec.ofChange sinceWholeWrong)

/-- 'cardboxlaw19.SinceRounds': WHATEVER THE INPUT: true; the input reads as it did. -/
def sinceRoundsSpec : ChangeSpec := { name := "sinceRounds", fn := fun _ => fun
  | [d1, d2, d3] => { results := [.lit (.bool true)], args := [d1, d2, d3] }
  | _ => none }
def sinceRoundsRow : OpenClaim := { program := "ythgkgjcnmahacaa", sum := "421cf350083849fcf7b17ac040040bdab7ad1df0308b64149672d7aaeefe4b06", func := "cardbox/cardboxlaw19.SinceRounds", spec := "sinceRounds", inPlace := ["internal/bytealg.abigen_runtime_cmpstring", "slices.overlaps[cardbox/api.Object]"], unfollowed := true, recurses := true, loops := true, apart := false }
def SinceRoundsSaid : Prop := sinceRoundsRow.holds Try.pinned (OpenSpec.ofChange sinceRoundsSpec)

/-- ITS FALSE NEIGHBOUR: 'it returns false'. Refute it at one input. -/
def sinceRoundsWrong : ChangeSpec := { name := "sinceRounds", fn := fun _ => fun
  | [d1, d2, d3] => { results := [.lit (.bool false)], args := [d1, d2, d3] }
  | _ => none }
def SinceRoundsWrongFalsely : Prop := sinceRoundsRow.holds Try.pinned (OpenSpec.ofChange sinceRoundsWrong)

/-- 'cardboxlaw19.SinceKeeps': WHATEVER THE INPUT: true; the input reads as it did. -/
def sinceKeepsSpec : ChangeSpec := { name := "sinceKeeps", fn := fun _ => fun
  | [d1, d2] => { results := [.lit (.bool true)], args := [d1, d2] }
  | _ => none }
def sinceKeepsRow : OpenClaim := { program := "ythgkgjcnmahacaa", sum := "421cf350083849fcf7b17ac040040bdab7ad1df0308b64149672d7aaeefe4b06", func := "cardbox/cardboxlaw19.SinceKeeps", spec := "sinceKeeps", inPlace := ["internal/bytealg.abigen_runtime_cmpstring", "slices.overlaps[cardbox/api.Object]"], unfollowed := true, recurses := true, loops := true, apart := false }
def SinceKeepsSaid : Prop := sinceKeepsRow.holds Try.pinned (OpenSpec.ofChange sinceKeepsSpec)

/-- ITS FALSE NEIGHBOUR: 'it returns false'. Refute it at one input. -/
def sinceKeepsWrong : ChangeSpec := { name := "sinceKeeps", fn := fun _ => fun
  | [d1, d2] => { results := [.lit (.bool false)], args := [d1, d2] }
  | _ => none }
def SinceKeepsWrongFalsely : Prop := sinceKeepsRow.holds Try.pinned (OpenSpec.ofChange sinceKeepsWrong)

/- THE SECOND FORM. 'bulk': how many values and letters a reading holds, each counted each time it is reached (what is shared counts as often as it is met; a slice's spare places count too). A statement '..UptoSaid' is the law's where the arguments, and the package variables that the reading takes, are together of bulk at most 1048576: NARROWER than '..Said'. Prove '..Said' where nothing that the law and all that it calls make is longer than what came in: it says more and counts as full. Else prove '..UptoSaid'. A law counts once. -/
mutual
def uptoBulk {H : Type} : DataW H → Nat
  | .lit (.string bytes) => bytes.length + 1
  | .lit _ => 1
  | .nil => 1
  | .ptr d => uptoBulk d + 1
  | .slice elems spare => uptoBulkAll elems + uptoBulkAll spare + 1
  | .agg parts => uptoBulkAll parts + 1
  | .iface _ d => uptoBulk d + 1
  | .map entries => uptoBulkEntries entries + 1
  | .held _ => 1
def uptoBulkAll {H : Type} : List (DataW H) → Nat
  | [] => 0
  | d :: r => uptoBulk d + uptoBulkAll r
def uptoBulkEntries {H : Type} : List (Lit × DataW H) → Nat
  | [] => 0
  | x :: r => uptoBulkEntry x + uptoBulkEntries r
def uptoBulkEntry {H : Type} : Lit × DataW H → Nat
  | (.string bytes, d) => bytes.length + uptoBulk d + 1
  | (_, d) => uptoBulk d + 1
 end
def uptoSmall : (H : Type) → List (DataW H) → Bool := fun _ ds => decide (uptoBulkAll ds ≤ 1048576)
def OpenSpec.upto (s : _root_.Go.ChangeSpec) : _root_.Go.OpenSpec := { _root_.Go.OpenSpec.ofChange s with cond := some uptoSmall }

/-- 'cardboxlaw07.TreeCounts', WHERE WHAT IT READS IS OF BULK AT MOST 1048576: true; the input reads as it did. -/
def treeCountsUptoRow : OpenClaim := { program := "ythgkgjcnmahacaa", sum := "421cf350083849fcf7b17ac040040bdab7ad1df0308b64149672d7aaeefe4b06", func := "cardbox/cardboxlaw07.TreeCounts", spec := "treeCounts", inPlace := ["internal/bytealg.abigen_runtime_cmpstring"], unfollowed := true, recurses := true, loops := true, apart := false, narrowed := true }
def TreeCountsUptoSaid : Prop := treeCountsUptoRow.holds Try.pinned (OpenSpec.upto treeCountsSpec)

/-- 'cardboxlaw18.StoreKeeps', WHERE WHAT IT READS IS OF BULK AT MOST 1048576: true; the input reads as it did. -/
def storeKeepsUptoRow : OpenClaim := { program := "ythgkgjcnmahacaa", sum := "421cf350083849fcf7b17ac040040bdab7ad1df0308b64149672d7aaeefe4b06", func := "cardbox/cardboxlaw18.StoreKeeps", spec := "storeKeeps", inPlace := ["internal/bytealg.abigen_runtime_cmpstring", "slices.overlaps[cardbox/api.Object]"], unfollowed := true, recurses := true, loops := true, apart := false, narrowed := true }
def StoreKeepsUptoSaid : Prop := storeKeepsUptoRow.holds Try.pinned (OpenSpec.upto storeKeepsSpec)

/-- 'cardboxlaw18.StoreOnes', WHERE WHAT IT READS IS OF BULK AT MOST 1048576: true; the input reads as it did. -/
def storeOnesUptoRow : OpenClaim := { program := "ythgkgjcnmahacaa", sum := "421cf350083849fcf7b17ac040040bdab7ad1df0308b64149672d7aaeefe4b06", func := "cardbox/cardboxlaw18.StoreOnes", spec := "storeOnes", inPlace := ["internal/bytealg.abigen_runtime_cmpstring", "slices.overlaps[cardbox/api.Object]"], unfollowed := true, recurses := true, loops := true, apart := false, narrowed := true }
def StoreOnesUptoSaid : Prop := storeOnesUptoRow.holds Try.pinned (OpenSpec.upto storeOnesSpec)

/-- 'cardboxlaw18.StoreOrder', WHERE WHAT IT READS IS OF BULK AT MOST 1048576: true; the input reads as it did. -/
def storeOrderUptoRow : OpenClaim := { program := "ythgkgjcnmahacaa", sum := "421cf350083849fcf7b17ac040040bdab7ad1df0308b64149672d7aaeefe4b06", func := "cardbox/cardboxlaw18.StoreOrder", spec := "storeOrder", inPlace := ["internal/bytealg.abigen_runtime_cmpstring", "slices.overlaps[cardbox/api.Object]"], unfollowed := true, recurses := true, loops := true, apart := false, narrowed := true }
def StoreOrderUptoSaid : Prop := storeOrderUptoRow.holds Try.pinned (OpenSpec.upto storeOrderSpec)

/-- 'cardboxlaw07.TreeSame', WHERE WHAT IT READS IS OF BULK AT MOST 1048576: true; the input reads as it did. -/
def treeSameUptoRow : OpenClaim := { program := "ythgkgjcnmahacaa", sum := "421cf350083849fcf7b17ac040040bdab7ad1df0308b64149672d7aaeefe4b06", func := "cardbox/cardboxlaw07.TreeSame", spec := "treeSame", inPlace := ["internal/bytealg.abigen_runtime_cmpstring"], unfollowed := true, recurses := true, loops := true, apart := false, narrowed := true }
def TreeSameUptoSaid : Prop := treeSameUptoRow.holds Try.pinned (OpenSpec.upto treeSameSpec)

/-- 'cardboxlaw07.TreeKeeps', WHERE WHAT IT READS IS OF BULK AT MOST 1048576: true; the input reads as it did. -/
def treeKeepsUptoRow : OpenClaim := { program := "ythgkgjcnmahacaa", sum := "421cf350083849fcf7b17ac040040bdab7ad1df0308b64149672d7aaeefe4b06", func := "cardbox/cardboxlaw07.TreeKeeps", spec := "treeKeeps", inPlace := ["internal/bytealg.abigen_runtime_cmpstring"], unfollowed := true, recurses := true, loops := true, apart := false, narrowed := true }
def TreeKeepsUptoSaid : Prop := treeKeepsUptoRow.holds Try.pinned (OpenSpec.upto treeKeepsSpec)

/-- 'cardboxlaw19.SinceChanges', WHERE WHAT IT READS IS OF BULK AT MOST 1048576: true; the input reads as it did. -/
def sinceChangesUptoRow : OpenClaim := { program := "ythgkgjcnmahacaa", sum := "421cf350083849fcf7b17ac040040bdab7ad1df0308b64149672d7aaeefe4b06", func := "cardbox/cardboxlaw19.SinceChanges", spec := "sinceChanges", inPlace := ["internal/bytealg.abigen_runtime_cmpstring", "slices.overlaps[cardbox/api.Object]"], unfollowed := true, recurses := true, loops := true, apart := false, narrowed := true }
def SinceChangesUptoSaid : Prop := sinceChangesUptoRow.holds Try.pinned (OpenSpec.upto sinceChangesSpec)

/-- 'cardboxlaw19.SinceNothing', WHERE WHAT IT READS IS OF BULK AT MOST 1048576: true; the input reads as it did. -/
def sinceNothingUptoRow : OpenClaim := { program := "ythgkgjcnmahacaa", sum := "421cf350083849fcf7b17ac040040bdab7ad1df0308b64149672d7aaeefe4b06", func := "cardbox/cardboxlaw19.SinceNothing", spec := "sinceNothing", inPlace := ["internal/bytealg.abigen_runtime_cmpstring", "slices.overlaps[cardbox/api.Object]"], unfollowed := true, recurses := true, loops := true, apart := false, narrowed := true }
def SinceNothingUptoSaid : Prop := sinceNothingUptoRow.holds Try.pinned (OpenSpec.upto sinceNothingSpec)

/-- 'cardboxlaw19.SinceWhole', WHERE WHAT IT READS IS OF BULK AT MOST 1048576: true; the input reads as it did. -/
def sinceWholeUptoRow : OpenClaim := { program := "ythgkgjcnmahacaa", sum := "421cf350083849fcf7b17ac040040bdab7ad1df0308b64149672d7aaeefe4b06", func := "cardbox/cardboxlaw19.SinceWhole", spec := "sinceWhole", inPlace := ["internal/bytealg.abigen_runtime_cmpstring", "slices.overlaps[cardbox/api.Object]"], unfollowed := true, recurses := true, loops := true, apart := false, narrowed := true }
def SinceWholeUptoSaid : Prop := sinceWholeUptoRow.holds Try.pinned (OpenSpec.upto sinceWholeSpec)

/-- 'cardboxlaw19.SinceRounds', WHERE WHAT IT READS IS OF BULK AT MOST 1048576: true; the input reads as it did. -/
def sinceRoundsUptoRow : OpenClaim := { program := "ythgkgjcnmahacaa", sum := "421cf350083849fcf7b17ac040040bdab7ad1df0308b64149672d7aaeefe4b06", func := "cardbox/cardboxlaw19.SinceRounds", spec := "sinceRounds", inPlace := ["internal/bytealg.abigen_runtime_cmpstring", "slices.overlaps[cardbox/api.Object]"], unfollowed := true, recurses := true, loops := true, apart := false, narrowed := true }
def SinceRoundsUptoSaid : Prop := sinceRoundsUptoRow.holds Try.pinned (OpenSpec.upto sinceRoundsSpec)

/-- 'cardboxlaw19.SinceKeeps', WHERE WHAT IT READS IS OF BULK AT MOST 1048576: true; the input reads as it did. -/
def sinceKeepsUptoRow : OpenClaim := { program := "ythgkgjcnmahacaa", sum := "421cf350083849fcf7b17ac040040bdab7ad1df0308b64149672d7aaeefe4b06", func := "cardbox/cardboxlaw19.SinceKeeps", spec := "sinceKeeps", inPlace := ["internal/bytealg.abigen_runtime_cmpstring", "slices.overlaps[cardbox/api.Object]"], unfollowed := true, recurses := true, loops := true, apart := false, narrowed := true }
def SinceKeepsUptoSaid : Prop := sinceKeepsUptoRow.holds Try.pinned (OpenSpec.upto sinceKeepsSpec)

end Rows
end Go.Proofs.Ythgkgjcnmahacaa
