import Derived.Test.YtemofofnkchmeaaGreatDoorCards
import Derived.Test.YtemofofnkchmeaaGreatDoorTie
import Derived.WalkKit
import Derived.ProofKit
import Derived.OpenShut
import Derived.Deep.DeepHandedRow
import Derived.Deep.DeepWitnessRowRef
import Derived.Lay
import Derived.Lib.SmallJoins
import Derived.ChangeMaps5
set_option linter.unusedSimpArgs false
set_option linter.unusedVariables false
set_option maxRecDepth 200000
set_option maxHeartbeats 8000000
namespace Go.Proofs.YtemofofnkchmeaaGreatDoor
section
open Go.Joins Go.ChangeShapes Go.WideShapes Go.ChangeAt Go.RowKit Go.Lib
theorem zrT:Tryz.pinned.checked.prog.funcNamed Rows.askKeepsRow.func=some 7:=by kernel_rfl
theorem zqA:joinedFacts Tryz.pinned.checked.prog 7 Tryz.f7 (OpenSpec.ofChange Rows.askKeepsSpec).bare Rows.askKeepsRow=true:=by kernel_rfl
theorem instC:Tryz.f7.isInstance Tryz.pinned.checked.prog Rows.askKeepsRow.origin Rows.askKeepsRow.targs:=of_decide_eq_true (by kernel_rfl)
theorem wrapC:Tryz.f7.isWrapper Tryz.pinned.checked.prog Rows.askKeepsRow.wrapper Rows.askKeepsRow.mainSum:=by
 unfold Func.isWrapper;first|(rw[if_pos (by decide+kernel)];kernel_rfl)|(rw[if_neg (by decide+kernel)];exact⟨rfl,rfl⟩)
end
end Go.Proofs.YtemofofnkchmeaaGreatDoor
