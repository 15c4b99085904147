import Derived.Test.YtemofofnkchmeaaGreatDoorProg
import Derived.WalkKit
import Derived.WalkSpells
import Derived.Lib.Hide
import Derived.Outline
set_option linter.unusedSimpArgs false
set_option linter.unusedVariables false
set_option maxRecDepth 200000
set_option maxHeartbeats 8000000
namespace Go.Proofs.YtemofofnkchmeaaGreatDoor
section
open Go Go.RowKit
theorem zhg(s:ByteArray)(j:Nat)(h:j<s.size):s[j]! =s[j]:=getElem!_pos s j h
end
end Go.Proofs.YtemofofnkchmeaaGreatDoor
