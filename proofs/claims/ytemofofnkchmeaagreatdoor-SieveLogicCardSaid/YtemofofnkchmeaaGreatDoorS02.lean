import Derived.Test.YtemofofnkchmeaaGreatDoorCards
import Derived.Test.YtemofofnkchmeaaGreatDoorTie
import Derived.WalkKit
import Derived.ProofKit
import Derived.OpenShut
import Derived.Deep.DeepHandedRow
import Derived.Deep.DeepWitnessRowRef
import Derived.Lay
import Derived.Lib.SmallJoins
import Derived.ChangeMaps5
set_option linter.unusedSimpArgs false
set_option linter.unusedVariables false
set_option maxRecDepth 200000
set_option maxHeartbeats 8000000
namespace Go.Proofs.YtemofofnkchmeaaGreatDoor
section
open Go.Joins Go.ChangeShapes Go.WideShapes Go.ChangeAt Go.RowKit Go.Lib
theorem zrT:Tryz.pinned.checked.prog.funcNamed Rows.sieveLogicRow.func=some 3:=by kernel_rfl
theorem zqA:joinedFacts Tryz.pinned.checked.prog 3 Tryz.f3 (OpenSpec.ofChange Rows.sieveLogicSpec).bare Rows.sieveLogicRow=true:=by kernel_rfl
theorem instC:Tryz.f3.isInstance Tryz.pinned.checked.prog Rows.sieveLogicRow.origin Rows.sieveLogicRow.targs:=of_decide_eq_true (by kernel_rfl)
theorem wrapC:Tryz.f3.isWrapper Tryz.pinned.checked.prog Rows.sieveLogicRow.wrapper Rows.sieveLogicRow.mainSum:=by
 unfold Func.isWrapper;first|(rw[if_pos (by decide+kernel)];kernel_rfl)|(rw[if_neg (by decide+kernel)];exact⟨rfl,rfl⟩)
end
end Go.Proofs.YtemofofnkchmeaaGreatDoor
