import Derived.Test.YtfgjimpmpckgpaaGreatDoorSg14
import Derived.Test.YtfgjimpmpckgpaaGreatDoorSg05
import Derived.Test.YtfgjimpmpckgpaaGreatDoorSg13
set_option linter.unusedSimpArgs false
set_option linter.unusedVariables false
set_option maxRecDepth 200000
set_option maxHeartbeats 8000000
namespace Go.Proofs.YtfgjimpmpckgpaaGreatDoor
section
open Go Go.RowKit Go.OpenShut
structure AcD where
 id : ByteArray
 cards : BoxD
 books : BoxD
 next : Int
structure AcOf (w : World) (B : Nat) (a : AcD) (r : RAc) : Prop where
 id : a.id = r.id
 cards : BoxOf w B a.cards r.cards
 books : BoxOf w B a.books r.books
theorem AcOf.under {w w' : World} {B B' : Nat} {a : AcD} {r : RAc} (h : AcOf w B a r) (hb : Below B w w') (hB : B <= B') : AcOf w' B' a r := ⟨h.id, h.cards.under hb hB, h.books.under hb hB⟩
def AcD.box (a : AcD) (book : Bool) : BoxD := if book then a.books else a.cards
theorem AcOf.box {w : World} {B : Nat} {a : AcD} {r : RAc} (h : AcOf w B a r) (book : Bool) : BoxOf w B (a.box book) (r.box book) := by
 cases book
 ·exact h.cards
 ·exact h.books
def kindsG : ByteArray := ⟨#[97, 99, 99, 111, 117, 110, 116, 73, 100, 58, 105, 32, 105, 100, 115, 58, 108, 32, 112, 114, 111, 112, 101, 114, 116, 105, 101, 115, 58, 116]⟩
def idsN : ByteArray := ⟨#[105, 100, 115]⟩
def propN : ByteArray := ⟨#[112, 114, 111, 112, 101, 114, 116, 105, 101, 115]⟩
def ksG : List (ByteArray × Nat) := [(accIdN, 105), (idsN, 108), (propN, 116)]
theorem kindsG_ok : Kinds kindsG ksG := ⟨by decide +kernel, by decide +kernel, by decide +kernel, fun j b h => by
 have hj : j < 30 := by have := (List.getElem?_eq_some_iff.1 h).1; simpa [kindsG] using this
 have hall : kindsG.data.toList.all (fun b => decide (b.toNat < 128)) = true := by decide +kernel
 exact of_decide_eq_true (List.all_eq_true.1 hall b (List.mem_of_getElem? h)), by decide +kernel, by decide +kernel, by decide +kernel⟩
def argI (t : JV) : JV := argG t (idsN, 108)
def argP (t : JV) : JV := argG t (propN, 116)
def getWhy (known : Bool) (b : BoxD) (t : JV) : ByteArray := if argsB t ksG && known then (if bigB b (argI t) (argP t) then bigN else ⟨#[]⟩) else whyB known t ksG
def getT (aid : ByteArray) (known card : Bool) (b : BoxD) (t : JV) : JV := if argsB t ksG && known then (if bigB b (argI t) (argP t) then JV.zero else getJ aid card b (argI t) (argP t)) else JV.zero
def GetRet26 (w : World) (aid : ByteArray) (known card : Bool) (b : BoxD) (t : JV) (e : Ending) (w' : World) : Prop := ∃ r, e = .returned (.tuple #[RV.val r, .string (getWhy known b t)]) /\ TreeOf w' w'.heap.size (getT aid known card b t) r /\ Below w.heap.size w w'
theorem GetRet26.bad {w : World} {aid : ByteArray} {known card : Bool} {b : BoxD} {t : JV} {w' : World} (h : argsB t ksG = false) (hb : Below w.heap.size w w') : GetRet26 w aid known card b t (.returned (.tuple #[RV.val RV.zero, .string badN])) w' := by
 refine ⟨RV.zero, ?_, ?_, hb⟩
 ·unfold getWhy whyB; rw [h]; rfl
 ·unfold getT; rw [h]; exact TreeOf.zero _ _
theorem GetRet26.noAcc {w : World} {aid : ByteArray} {card : Bool} {b : BoxD} {t : JV} {w' : World} (h : argsB t ksG = true) (hb : Below w.heap.size w w') : GetRet26 w aid false card b t (.returned (.tuple #[RV.val RV.zero, .string noAccN])) w' := by
 refine ⟨RV.zero, ?_, ?_, hb⟩
 ·unfold getWhy whyB; rw [h]; rfl
 ·unfold getT; rw [h]; exact TreeOf.zero _ _
theorem GetRet26.big {w : World} {aid : ByteArray} {card : Bool} {b : BoxD} {t : JV} {w' : World} (h : argsB t ksG = true) (hg : bigB b (argI t) (argP t) = true) (hb : Below w.heap.size w w') : GetRet26 w aid true card b t (.returned (.tuple #[RV.val RV.zero, .string bigN])) w' := by
 refine ⟨RV.zero, ?_, ?_, hb⟩
 ·unfold getWhy; rw [h, hg]; rfl
 ·unfold getT; rw [h, hg]; exact TreeOf.zero _ _
theorem GetRet26.ok {w : World} {aid : ByteArray} {card : Bool} {b : BoxD} {t : JV} {w' : World} {r : RV} (h : argsB t ksG = true) (hg : bigB b (argI t) (argP t) = false) (ht : TreeOf w' w'.heap.size (getJ aid card b (argI t) (argP t)) r) (hb : Below w.heap.size w w') : GetRet26 w aid true card b t (.returned (.tuple #[RV.val r, .string ⟨#[]⟩])) w' := by
 refine ⟨r, ?_, ?_, hb⟩
 ·unfold getWhy; rw [h, hg]; rfl
 ·unfold getT; rw [h, hg]; exact ht
theorem kb1 {B : Nat} {W w : World} (h : KB B W w) : Below B W w := h.1
end
end Go.Proofs.YtfgjimpmpckgpaaGreatDoor
