import Derived.Test.YtffhccmppdgmfaaGreatDoorC09
import Derived.Test.YtffhccmppdgmfaaGreatDoorC08
import Derived.Deep.RegionHeld3
import Derived.Deep.AppendLies
import Derived.StillTactics
import Derived.Deep.DeepCutAuto
import Derived.Deep.CutRange
set_option linter.unusedSimpArgs false
set_option linter.unusedVariables false
set_option maxRecDepth 200000
set_option maxHeartbeats 8000000
namespace Go.Proofs.YtffhccmppdgmfaaGreatDoor
section
open Go.RowKit Go.OpenShut
def encE (e : En) : List Value := [.int .i64 e.seq, .string e.id, .int .i64 e.what]
theorem codecE : Codec encE 3 := ⟨fun _ => rfl, fun x u hu => by
 simp only [encE, List.mem_cons, List.not_mem_nil, or_false] at hu
 rcases hu with rfl | rfl | rfl <;> rfl, by decide⟩
theorem rowE {w : World} {b o : Nat} {es : List En} : RowAt w b o encE 3 es ↔ ∀ i, i < es.length -> enAt w b (o + i * 3) es[i]? := by
 constructor
 ·intro h i hi
  have hx : es[i]? = some es[i] := List.getElem?_eq_getElem hi
  have := h i es[i] hx
  exact ⟨es[i], hx, this 0 _ rfl, this 1 _ rfl, this 2 _ rfl⟩
 ·intro h i x hx j u hu
  obtain ⟨y, hy, h0, h1, h2⟩ := h i (List.getElem?_eq_some_iff.1 hx).1
  rw [hx] at hy
  cases hy
  match j, hu with
  | 0, hu => cases hu; exact h0
  | 1, hu => cases hu; exact h1
  | 2, hu => cases hu; exact h2
  | _ + 3, hu => simp [encE] at hu
theorem rdE_iff {w : World} {B : Nat} {v : Value} {es : List En} : RdE w B v es ↔ (∀ e ∈ es, e.ok) /\ Rd w B encE 3 v es := by
 unfold RdE Rd
 simp only [rowE]
def addGone (n : Nat) (keep : Int) : Nat := n + 1 - keep.toNat
def addL (l : List En) (keep : Int) (e : En) : List En := (l ++ [e]).drop (addGone l.length keep)
def addF (l : List En) (floor keep : Int) (e : En) : Int := if addGone l.length keep = 0 then floor else (((l ++ [e])[addGone l.length keep - 1]?).map En.seq).getD 0
theorem ret_pair {u : Value} {k : IntKind} {a b : Int} (h : a = b) : Ending.returned (.tuple #[u, .int k a]) = .returned (.tuple #[u, .int k b]) := by rw [h]
end
end Go.Proofs.YtffhccmppdgmfaaGreatDoor
