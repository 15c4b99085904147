/-
  NARROWER THAN 'FOR EVERY INPUT', by the rows' own cells (each row's printed sentence says how): TreeMembers: loops · TreeGets: loops · TreeCounts: loops.
  DERIVED. THE GIVEN ROWS OF THIS SEAT. 9 by the template 'for every input the law returns true; each argument reads behind the call as it read before'; 0 by the template 'total and deterministic' (their statements: YtfpgkiajggfadaaTotals.lean).
  GIVEN WITH THE SEED: the statements are not yours to turn. If you find one false, say at which input.
  Laid BY PROGRAM, IN A SANDBOX (cutbox-rows.mjs): the forced cells as the released guide's own fill.sh prints them over the translation 1b9513d73ae209d8… (all of the seat's roots in one cut). By AI agents, Wed Nov 11 2026. No macro, syntax, notation, axiom, sorry.
-/
import Derived.Test.YtfpgkiajggfadaaChecked
import GoSem.Claim
import GoSem.ClaimJoined
import GoSem.ClaimMapViews
import Derived.JoinedTies
import Derived.KernelRfl
namespace Go.Proofs.Ytfpgkiajggfadaa
/- THE CELL 'sum', in the pinned program and in every row, IS THE sha256 OF THE DUMP (.gsa) THAT YtfpgkiajggfadaaProg.lean LOADS. Nothing in Lean hashes anything: it is a label: what it is worth is what the hold of that sum in a sandbox is worth. -/
noncomputable def Try.pinned : Pinned := { name := "ytfpgkiajggfadaa", sum := "1b9513d73ae209d88035a22b076dca3df80af0175ddc6c246114e7779310718a", checked := Try.checked }
namespace Rows
def none {H : Type} : Left H := { results := [], args := [] }

/-- 'cardboxlaw17.TrailRights': WHATEVER THE INPUT: true; the input reads as it did. -/
def trailRightsSpec : ChangeSpec := { name := "trailRights", fn := fun _ => fun
  | [d1, d2, d3] => { results := [.lit (.bool true)], args := [d1, d2, d3] }
  | _ => none }
def trailRightsRow : OpenClaim := { program := "ytfpgkiajggfadaa", sum := "1b9513d73ae209d88035a22b076dca3df80af0175ddc6c246114e7779310718a", func := "cardbox/cardboxlaw17.TrailRights", spec := "trailRights", unfollowed := true, recurses := true, apart := false }
def TrailRightsSaid : Prop := trailRightsRow.holds Try.pinned (OpenSpec.ofChange trailRightsSpec)

/-- ITS FALSE NEIGHBOUR: 'it returns false'. Refute it at one input. -/
def trailRightsWrong : ChangeSpec := { name := "trailRights", fn := fun _ => fun
  | [d1, d2, d3] => { results := [.lit (.bool false)], args := [d1, d2, d3] }
  | _ => none }
def TrailRightsWrongFalsely : Prop := trailRightsRow.holds Try.pinned (OpenSpec.ofChange trailRightsWrong)

/-- 'cardboxlaw17.TrailAdds': WHATEVER THE INPUT: true; the input reads as it did. -/
def trailAddsSpec : ChangeSpec := { name := "trailAdds", fn := fun _ => fun
  | [d1, d2, d3, d4] => { results := [.lit (.bool true)], args := [d1, d2, d3, d4] }
  | _ => none }
def trailAddsRow : OpenClaim := { program := "ytfpgkiajggfadaa", sum := "1b9513d73ae209d88035a22b076dca3df80af0175ddc6c246114e7779310718a", func := "cardbox/cardboxlaw17.TrailAdds", spec := "trailAdds", unfollowed := true, recurses := true, apart := false }
def TrailAddsSaid : Prop := trailAddsRow.holds Try.pinned (OpenSpec.ofChange trailAddsSpec)

/-- ITS FALSE NEIGHBOUR: 'it returns false'. Refute it at one input. -/
def trailAddsWrong : ChangeSpec := { name := "trailAdds", fn := fun _ => fun
  | [d1, d2, d3, d4] => { results := [.lit (.bool false)], args := [d1, d2, d3, d4] }
  | _ => none }
def TrailAddsWrongFalsely : Prop := trailAddsRow.holds Try.pinned (OpenSpec.ofChange trailAddsWrong)

/-- 'cardboxlaw17.TrailSinces': WHATEVER THE INPUT: true; the input reads as it did. -/
def trailSincesSpec : ChangeSpec := { name := "trailSinces", fn := fun _ => fun
  | [d1, d2] => { results := [.lit (.bool true)], args := [d1, d2] }
  | _ => none }
def trailSincesRow : OpenClaim := { program := "ytfpgkiajggfadaa", sum := "1b9513d73ae209d88035a22b076dca3df80af0175ddc6c246114e7779310718a", func := "cardbox/cardboxlaw17.TrailSinces", spec := "trailSinces", unfollowed := true, recurses := true, apart := false }
def TrailSincesSaid : Prop := trailSincesRow.holds Try.pinned (OpenSpec.ofChange trailSincesSpec)

/-- ITS FALSE NEIGHBOUR: 'it returns false'. Refute it at one input. -/
def trailSincesWrong : ChangeSpec := { name := "trailSinces", fn := fun _ => fun
  | [d1, d2] => { results := [.lit (.bool false)], args := [d1, d2] }
  | _ => none }
def TrailSincesWrongFalsely : Prop := trailSincesRow.holds Try.pinned (OpenSpec.ofChange trailSincesWrong)

/-- 'cardboxlaw17.TrailPast': WHATEVER THE INPUT: true; the input reads as it did. -/
def trailPastSpec : ChangeSpec := { name := "trailPast", fn := fun _ => fun
  | [d1, d2, d3] => { results := [.lit (.bool true)], args := [d1, d2, d3] }
  | _ => none }
def trailPastRow : OpenClaim := { program := "ytfpgkiajggfadaa", sum := "1b9513d73ae209d88035a22b076dca3df80af0175ddc6c246114e7779310718a", func := "cardbox/cardboxlaw17.TrailPast", spec := "trailPast", unfollowed := true, recurses := true, apart := false }
def TrailPastSaid : Prop := trailPastRow.holds Try.pinned (OpenSpec.ofChange trailPastSpec)

/-- ITS FALSE NEIGHBOUR: 'it returns false'. Refute it at one input. -/
def trailPastWrong : ChangeSpec := { name := "trailPast", fn := fun _ => fun
  | [d1, d2, d3] => { results := [.lit (.bool false)], args := [d1, d2, d3] }
  | _ => none }
def TrailPastWrongFalsely : Prop := trailPastRow.holds Try.pinned (OpenSpec.ofChange trailPastWrong)

/-- 'cardboxlaw17.TrailGoesOn': WHATEVER THE INPUT: true; the input reads as it did. -/
def trailGoesOnSpec : ChangeSpec := { name := "trailGoesOn", fn := fun _ => fun
  | [d1, d2, d3, d4] => { results := [.lit (.bool true)], args := [d1, d2, d3, d4] }
  | _ => none }
def trailGoesOnRow : OpenClaim := { program := "ytfpgkiajggfadaa", sum := "1b9513d73ae209d88035a22b076dca3df80af0175ddc6c246114e7779310718a", func := "cardbox/cardboxlaw17.TrailGoesOn", spec := "trailGoesOn", unfollowed := true, recurses := true, apart := false }
def TrailGoesOnSaid : Prop := trailGoesOnRow.holds Try.pinned (OpenSpec.ofChange trailGoesOnSpec)

/-- ITS FALSE NEIGHBOUR: 'it returns false'. Refute it at one input. -/
def trailGoesOnWrong : ChangeSpec := { name := "trailGoesOn", fn := fun _ => fun
  | [d1, d2, d3, d4] => { results := [.lit (.bool false)], args := [d1, d2, d3, d4] }
  | _ => none }
def TrailGoesOnWrongFalsely : Prop := trailGoesOnRow.holds Try.pinned (OpenSpec.ofChange trailGoesOnWrong)

/-- 'cardboxlaw17.TrailKeeps': WHATEVER THE INPUT: true; the input reads as it did. -/
def trailKeepsSpec : ChangeSpec := { name := "trailKeeps", fn := fun _ => fun
  | [d1, d2, d3] => { results := [.lit (.bool true)], args := [d1, d2, d3] }
  | _ => none }
def trailKeepsRow : OpenClaim := { program := "ytfpgkiajggfadaa", sum := "1b9513d73ae209d88035a22b076dca3df80af0175ddc6c246114e7779310718a", func := "cardbox/cardboxlaw17.TrailKeeps", spec := "trailKeeps", unfollowed := true, recurses := true, apart := false }
def TrailKeepsSaid : Prop := trailKeepsRow.holds Try.pinned (OpenSpec.ofChange trailKeepsSpec)

/-- ITS FALSE NEIGHBOUR: 'it returns false'. Refute it at one input. -/
def trailKeepsWrong : ChangeSpec := { name := "trailKeeps", fn := fun _ => fun
  | [d1, d2, d3] => { results := [.lit (.bool false)], args := [d1, d2, d3] }
  | _ => none }
def TrailKeepsWrongFalsely : Prop := trailKeepsRow.holds Try.pinned (OpenSpec.ofChange trailKeepsWrong)

/-- 'cardboxlaw07.TreeMembers': WHATEVER THE INPUT: true; the input reads as it did. -/
def treeMembersSpec : ChangeSpec := { name := "treeMembers", fn := fun _ => fun
  | [d1, d2, d3] => { results := [.lit (.bool true)], args := [d1, d2, d3] }
  | _ => none }
def treeMembersRow : OpenClaim := { program := "ytfpgkiajggfadaa", sum := "1b9513d73ae209d88035a22b076dca3df80af0175ddc6c246114e7779310718a", func := "cardbox/cardboxlaw07.TreeMembers", spec := "treeMembers", inPlace := ["internal/bytealg.abigen_runtime_cmpstring"], unfollowed := true, recurses := true, loops := true, apart := false }
def TreeMembersSaid : Prop := treeMembersRow.holds Try.pinned (OpenSpec.ofChange treeMembersSpec)

/-- ITS FALSE NEIGHBOUR: 'it returns false'. Refute it at one input. -/
def treeMembersWrong : ChangeSpec := { name := "treeMembers", fn := fun _ => fun
  | [d1, d2, d3] => { results := [.lit (.bool false)], args := [d1, d2, d3] }
  | _ => none }
def TreeMembersWrongFalsely : Prop := treeMembersRow.holds Try.pinned (OpenSpec.ofChange treeMembersWrong)

/-- 'cardboxlaw07.TreeGets': WHATEVER THE INPUT: true; the input reads as it did. -/
def treeGetsSpec : ChangeSpec := { name := "treeGets", fn := fun _ => fun
  | [d1, d2, d3, d4] => { results := [.lit (.bool true)], args := [d1, d2, d3, d4] }
  | _ => none }
def treeGetsRow : OpenClaim := { program := "ytfpgkiajggfadaa", sum := "1b9513d73ae209d88035a22b076dca3df80af0175ddc6c246114e7779310718a", func := "cardbox/cardboxlaw07.TreeGets", spec := "treeGets", inPlace := ["internal/bytealg.abigen_runtime_cmpstring"], unfollowed := true, recurses := true, loops := true, apart := false }
def TreeGetsSaid : Prop := treeGetsRow.holds Try.pinned (OpenSpec.ofChange treeGetsSpec)

/-- ITS FALSE NEIGHBOUR: 'it returns false'. Refute it at one input. -/
def treeGetsWrong : ChangeSpec := { name := "treeGets", fn := fun _ => fun
  | [d1, d2, d3, d4] => { results := [.lit (.bool false)], args := [d1, d2, d3, d4] }
  | _ => none }
def TreeGetsWrongFalsely : Prop := treeGetsRow.holds Try.pinned (OpenSpec.ofChange treeGetsWrong)

/-- 'cardboxlaw07.TreeCounts': WHATEVER THE INPUT: true; the input reads as it did. -/
def treeCountsSpec : ChangeSpec := { name := "treeCounts", fn := fun _ => fun
  | [d] => { results := [.lit (.bool true)], args := [d] }
  | _ => none }
def treeCountsRow : OpenClaim := { program := "ytfpgkiajggfadaa", sum := "1b9513d73ae209d88035a22b076dca3df80af0175ddc6c246114e7779310718a", func := "cardbox/cardboxlaw07.TreeCounts", spec := "treeCounts", inPlace := ["internal/bytealg.abigen_runtime_cmpstring"], unfollowed := true, recurses := true, loops := true, apart := false }
def TreeCountsSaid : Prop := treeCountsRow.holds Try.pinned (OpenSpec.ofChange treeCountsSpec)

/-- ITS FALSE NEIGHBOUR: 'it returns false'. Refute it at one input. -/
def treeCountsWrong : ChangeSpec := { name := "treeCounts", fn := fun _ => fun
  | [d] => { results := [.lit (.bool false)], args := [d] }
  | _ => none }
def TreeCountsWrongFalsely : Prop := treeCountsRow.holds Try.pinned (OpenSpec.ofChange treeCountsWrong)

/- THE SECOND FORM. 'bulk': how many values and letters a reading holds, each counted each time it is reached (what is shared counts as often as it is met; a slice's spare places count too). A statement '..UptoSaid' is the law's where the arguments, and the package variables that the reading takes, are together of bulk at most 1048576: NARROWER than '..Said'. Prove '..Said' where nothing that the law and all that it calls make is longer than what came in: it says more and counts as full. Else prove '..UptoSaid'. A law counts once. -/
mutual
def uptoBulk {H : Type} : DataW H → Nat
  | .lit (.string bytes) => bytes.length + 1
  | .lit _ => 1
  | .nil => 1
  | .ptr d => uptoBulk d + 1
  | .slice elems spare => uptoBulkAll elems + uptoBulkAll spare + 1
  | .agg parts => uptoBulkAll parts + 1
  | .iface _ d => uptoBulk d + 1
  | .map entries => uptoBulkEntries entries + 1
  | .held _ => 1
def uptoBulkAll {H : Type} : List (DataW H) → Nat
  | [] => 0
  | d :: r => uptoBulk d + uptoBulkAll r
def uptoBulkEntries {H : Type} : List (Lit × DataW H) → Nat
  | [] => 0
  | x :: r => uptoBulkEntry x + uptoBulkEntries r
def uptoBulkEntry {H : Type} : Lit × DataW H → Nat
  | (.string bytes, d) => bytes.length + uptoBulk d + 1
  | (_, d) => uptoBulk d + 1
 end
def uptoSmall : (H : Type) → List (DataW H) → Bool := fun _ ds => decide (uptoBulkAll ds ≤ 1048576)
def OpenSpec.upto (s : _root_.Go.ChangeSpec) : _root_.Go.OpenSpec := { _root_.Go.OpenSpec.ofChange s with cond := some uptoSmall }

/-- 'cardboxlaw17.TrailRights', WHERE WHAT IT READS IS OF BULK AT MOST 1048576: true; the input reads as it did. -/
def trailRightsUptoRow : OpenClaim := { program := "ytfpgkiajggfadaa", sum := "1b9513d73ae209d88035a22b076dca3df80af0175ddc6c246114e7779310718a", func := "cardbox/cardboxlaw17.TrailRights", spec := "trailRights", unfollowed := true, recurses := true, apart := false, narrowed := true }
def TrailRightsUptoSaid : Prop := trailRightsUptoRow.holds Try.pinned (OpenSpec.upto trailRightsSpec)

/-- 'cardboxlaw17.TrailAdds', WHERE WHAT IT READS IS OF BULK AT MOST 1048576: true; the input reads as it did. -/
def trailAddsUptoRow : OpenClaim := { program := "ytfpgkiajggfadaa", sum := "1b9513d73ae209d88035a22b076dca3df80af0175ddc6c246114e7779310718a", func := "cardbox/cardboxlaw17.TrailAdds", spec := "trailAdds", unfollowed := true, recurses := true, apart := false, narrowed := true }
def TrailAddsUptoSaid : Prop := trailAddsUptoRow.holds Try.pinned (OpenSpec.upto trailAddsSpec)

/-- 'cardboxlaw17.TrailSinces', WHERE WHAT IT READS IS OF BULK AT MOST 1048576: true; the input reads as it did. -/
def trailSincesUptoRow : OpenClaim := { program := "ytfpgkiajggfadaa", sum := "1b9513d73ae209d88035a22b076dca3df80af0175ddc6c246114e7779310718a", func := "cardbox/cardboxlaw17.TrailSinces", spec := "trailSinces", unfollowed := true, recurses := true, apart := false, narrowed := true }
def TrailSincesUptoSaid : Prop := trailSincesUptoRow.holds Try.pinned (OpenSpec.upto trailSincesSpec)

/-- 'cardboxlaw17.TrailPast', WHERE WHAT IT READS IS OF BULK AT MOST 1048576: true; the input reads as it did. -/
def trailPastUptoRow : OpenClaim := { program := "ytfpgkiajggfadaa", sum := "1b9513d73ae209d88035a22b076dca3df80af0175ddc6c246114e7779310718a", func := "cardbox/cardboxlaw17.TrailPast", spec := "trailPast", unfollowed := true, recurses := true, apart := false, narrowed := true }
def TrailPastUptoSaid : Prop := trailPastUptoRow.holds Try.pinned (OpenSpec.upto trailPastSpec)

/-- 'cardboxlaw17.TrailGoesOn', WHERE WHAT IT READS IS OF BULK AT MOST 1048576: true; the input reads as it did. -/
def trailGoesOnUptoRow : OpenClaim := { program := "ytfpgkiajggfadaa", sum := "1b9513d73ae209d88035a22b076dca3df80af0175ddc6c246114e7779310718a", func := "cardbox/cardboxlaw17.TrailGoesOn", spec := "trailGoesOn", unfollowed := true, recurses := true, apart := false, narrowed := true }
def TrailGoesOnUptoSaid : Prop := trailGoesOnUptoRow.holds Try.pinned (OpenSpec.upto trailGoesOnSpec)

/-- 'cardboxlaw17.TrailKeeps', WHERE WHAT IT READS IS OF BULK AT MOST 1048576: true; the input reads as it did. -/
def trailKeepsUptoRow : OpenClaim := { program := "ytfpgkiajggfadaa", sum := "1b9513d73ae209d88035a22b076dca3df80af0175ddc6c246114e7779310718a", func := "cardbox/cardboxlaw17.TrailKeeps", spec := "trailKeeps", unfollowed := true, recurses := true, apart := false, narrowed := true }
def TrailKeepsUptoSaid : Prop := trailKeepsUptoRow.holds Try.pinned (OpenSpec.upto trailKeepsSpec)

/-- 'cardboxlaw07.TreeMembers', WHERE WHAT IT READS IS OF BULK AT MOST 1048576: true; the input reads as it did. -/
def treeMembersUptoRow : OpenClaim := { program := "ytfpgkiajggfadaa", sum := "1b9513d73ae209d88035a22b076dca3df80af0175ddc6c246114e7779310718a", func := "cardbox/cardboxlaw07.TreeMembers", spec := "treeMembers", inPlace := ["internal/bytealg.abigen_runtime_cmpstring"], unfollowed := true, recurses := true, loops := true, apart := false, narrowed := true }
def TreeMembersUptoSaid : Prop := treeMembersUptoRow.holds Try.pinned (OpenSpec.upto treeMembersSpec)

/-- 'cardboxlaw07.TreeGets', WHERE WHAT IT READS IS OF BULK AT MOST 1048576: true; the input reads as it did. -/
def treeGetsUptoRow : OpenClaim := { program := "ytfpgkiajggfadaa", sum := "1b9513d73ae209d88035a22b076dca3df80af0175ddc6c246114e7779310718a", func := "cardbox/cardboxlaw07.TreeGets", spec := "treeGets", inPlace := ["internal/bytealg.abigen_runtime_cmpstring"], unfollowed := true, recurses := true, loops := true, apart := false, narrowed := true }
def TreeGetsUptoSaid : Prop := treeGetsUptoRow.holds Try.pinned (OpenSpec.upto treeGetsSpec)

/-- 'cardboxlaw07.TreeCounts', WHERE WHAT IT READS IS OF BULK AT MOST 1048576: true; the input reads as it did. -/
def treeCountsUptoRow : OpenClaim := { program := "ytfpgkiajggfadaa", sum := "1b9513d73ae209d88035a22b076dca3df80af0175ddc6c246114e7779310718a", func := "cardbox/cardboxlaw07.TreeCounts", spec := "treeCounts", inPlace := ["internal/bytealg.abigen_runtime_cmpstring"], unfollowed := true, recurses := true, loops := true, apart := false, narrowed := true }
def TreeCountsUptoSaid : Prop := treeCountsUptoRow.holds Try.pinned (OpenSpec.upto treeCountsSpec)

end Rows
end Go.Proofs.Ytfpgkiajggfadaa
