import Derived.Test.YtjhginendpjimaaGreatDoorA12
import Derived.Test.YtjhginendpjimaaGreatDoorA10
set_option linter.unusedSimpArgs false
set_option linter.unusedVariables false
set_option maxRecDepth 200000
set_option maxHeartbeats 8000000
namespace Go.Proofs.YtjhginendpjimaaGreatDoor
section
open Go Go.RowKit Go.OpenShut
theorem sel5 : ∀ a b c d e : Bool, (a = true \/ (a = false /\ b = true) \/ (a = false /\ b = false /\ c = true)) \/ ((a = false /\ b = false /\ c = false /\ d = true) \/ (a = false /\ b = false /\ c = false /\ d = false /\ e = true) \/ (a = false /\ b = false /\ c = false /\ d = false /\ e = false)) := by
 intro a b c d e
 cases a <;> cases b <;> cases c <;> cases d <;> cases e <;> simp
end
end Go.Proofs.YtjhginendpjimaaGreatDoor
