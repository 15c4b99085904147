import Derived.Test.YtffhccmppdgmfaaGreatDoorF06
import Derived.OpenShut
import Derived.Deep.RegionHeld3
import Derived.Deep.AppendLies
import Derived.StillTactics
import Derived.Deep.DeepCutAuto
import Derived.Deep.CutRange
set_option linter.unusedSimpArgs false
set_option linter.unusedVariables false
set_option maxRecDepth 200000
set_option maxHeartbeats 8000000
namespace Go.Proofs.YtffhccmppdgmfaaGreatDoor
section
open Go.RowKit Go.OpenShut
def encE (e : En) : List Value := [.int .i64 e.seq, .string e.id, .int .i64 e.what]
theorem rowE {w : World} {b o : Nat} {es : List En} : RowAt w b o encE 3 es ↔ ∀ i, i < es.length -> enAt w b (o + i * 3) es[i]? := by
 constructor
 ·intro h i hi
  have hx : es[i]? = some es[i] := List.getElem?_eq_getElem hi
  have := h i es[i] hx
  exact ⟨es[i], hx, this 0 _ rfl, this 1 _ rfl, this 2 _ rfl⟩
 ·intro h i x hx j u hu
  obtain ⟨y, hy, h0, h1, h2⟩ := h i (List.getElem?_eq_some_iff.1 hx).1
  rw [hx] at hy
  cases hy
  match j, hu with
  | 0, hu => cases hu; exact h0
  | 1, hu => cases hu; exact h1
  | 2, hu => cases hu; exact h2
  | _ + 3, hu => simp [encE] at hu
theorem rdE_iff {w : World} {B : Nat} {v : Value} {es : List En} : RdE w B v es ↔ (∀ e ∈ es, e.ok) /\ Rd w B encE 3 v es := by
 unfold RdE Rd
 simp only [rowE]
end
end Go.Proofs.YtffhccmppdgmfaaGreatDoor
