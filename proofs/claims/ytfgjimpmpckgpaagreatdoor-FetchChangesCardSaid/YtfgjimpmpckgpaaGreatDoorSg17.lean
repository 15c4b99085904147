import Derived.Test.YtfgjimpmpckgpaaGreatDoorSg15
set_option linter.unusedSimpArgs false
set_option linter.unusedVariables false
set_option maxRecDepth 200000
set_option maxHeartbeats 8000000
namespace Go.Proofs.YtfgjimpmpckgpaaGreatDoor
section
open Go Go.RowKit Go.OpenShut
def GetRetS (w : World) (B : Nat) (aid : ByteArray) (known card : Bool) (b : BoxD) (t : JV) (e : Ending) (w' : World) : Prop := ∃ r, e = .returned (.tuple #[RV.val r, .string (getWhy known b t)]) /\ TreeS w' (fun k => k < w'.heap.size /\ (k < B \/ w.heap.size <= k)) (getT aid known card b t) r /\ Below w.heap.size w w'
theorem GetRetS.bad {w : World} {B : Nat} {aid : ByteArray} {known card : Bool} {b : BoxD} {t : JV} {w' : World} (h : argsB t ksG = false) (hb : Below w.heap.size w w') : GetRetS w B aid known card b t (.returned (.tuple #[RV.val RV.zero, .string badN])) w' := by
 refine ⟨RV.zero, ?_, ?_, hb⟩
 ·unfold getWhy whyB; rw [h]; rfl
 ·unfold getT; rw [h]; exact TreeS.leaf _ _ 0 0 ⟨#[]⟩
theorem GetRetS.noAcc {w : World} {B : Nat} {aid : ByteArray} {card : Bool} {b : BoxD} {t : JV} {w' : World} (h : argsB t ksG = true) (hb : Below w.heap.size w w') : GetRetS w B aid false card b t (.returned (.tuple #[RV.val RV.zero, .string noAccN])) w' := by
 refine ⟨RV.zero, ?_, ?_, hb⟩
 ·unfold getWhy whyB; rw [h]; rfl
 ·unfold getT; rw [h]; exact TreeS.leaf _ _ 0 0 ⟨#[]⟩
theorem GetRetS.big {w : World} {B : Nat} {aid : ByteArray} {card : Bool} {b : BoxD} {t : JV} {w' : World} (h : argsB t ksG = true) (hg : bigB b (argI t) (argP t) = true) (hb : Below w.heap.size w w') : GetRetS w B aid true card b t (.returned (.tuple #[RV.val RV.zero, .string bigN])) w' := by
 refine ⟨RV.zero, ?_, ?_, hb⟩
 ·unfold getWhy; rw [h, hg]; rfl
 ·unfold getT; rw [h, hg]; exact TreeS.leaf _ _ 0 0 ⟨#[]⟩
theorem GetRetS.ok {w : World} {B : Nat} {aid : ByteArray} {card : Bool} {b : BoxD} {t : JV} {w' : World} {r : RV} (h : argsB t ksG = true) (hg : bigB b (argI t) (argP t) = false) (ht : TreeS w' (fun k => k < w'.heap.size /\ (k < B \/ w.heap.size <= k)) (getJ aid card b (argI t) (argP t)) r) (hb : Below w.heap.size w w') : GetRetS w B aid true card b t (.returned (.tuple #[RV.val r, .string ⟨#[]⟩])) w' := by
 refine ⟨r, ?_, ?_, hb⟩
 ·unfold getWhy; rw [h, hg]; rfl
 ·unfold getT; rw [h, hg]; exact ht
end
end Go.Proofs.YtfgjimpmpckgpaaGreatDoor
