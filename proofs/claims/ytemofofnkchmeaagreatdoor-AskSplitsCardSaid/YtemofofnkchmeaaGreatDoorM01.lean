import Derived.Test.YtemofofnkchmeaaGreatDoorCards
import Derived.Test.YtemofofnkchmeaaGreatDoorTie
import Derived.WalkKit
import Derived.ProofKit
import Derived.OpenShut
import Derived.Deep.DeepHandedRow
import Derived.Deep.DeepWitnessRowRef
import Derived.Lay
import Derived.Lib.SmallJoins
import Derived.ChangeMaps5
set_option linter.unusedSimpArgs false
set_option linter.unusedVariables false
set_option maxRecDepth 200000
set_option maxHeartbeats 8000000
namespace Go.Proofs.YtemofofnkchmeaaGreatDoor
section
open Go.Joins Go.ChangeShapes Go.WideShapes Go.ChangeAt Go.RowKit Go.Lib
theorem zrT:Tryz.pinned.checked.prog.funcNamed Rows.askSplitsRow.func=some 6:=by kernel_rfl
theorem zqA:joinedFacts Tryz.pinned.checked.prog 6 Tryz.f6 (OpenSpec.ofChange Rows.askSplitsSpec).bare Rows.askSplitsRow=true:=by kernel_rfl
theorem instC:Tryz.f6.isInstance Tryz.pinned.checked.prog Rows.askSplitsRow.origin Rows.askSplitsRow.targs:=of_decide_eq_true (by kernel_rfl)
theorem wrapC:Tryz.f6.isWrapper Tryz.pinned.checked.prog Rows.askSplitsRow.wrapper Rows.askSplitsRow.mainSum:=by
 unfold Func.isWrapper;first|(rw[if_pos (by decide+kernel)];kernel_rfl)|(rw[if_neg (by decide+kernel)];exact⟨rfl,rfl⟩)
end
end Go.Proofs.YtemofofnkchmeaaGreatDoor
