import Derived.Test.YtffhccmppdgmfaaGreatDoorB28
set_option linter.unusedSimpArgs false
set_option linter.unusedVariables false
set_option maxRecDepth 200000
set_option maxHeartbeats 8000000
namespace Go.Proofs.YtffhccmppdgmfaaGreatDoor
section
open Go Go.RowKit Go.ChangeShapes Go.WideShapes Go.Deep
section
variable {H : Type} {enc : TypeId × Value -> H} {W : World} {base b0 : Nat} {spare : Nat -> Bool} {held : Bool}
theorem open_objectC {v : Value} {d : DataW H} {p : List MemPlace} (hval : Value.okWide Tryz.prog W .any b0 27 v) (h : DataW.Trod enc Tryz.prog W base spare held 27 v d p) :
 ∃ id r t, v = (RM.mk id r).val /\ TreeOf W W.heap.size t r /\ ((∀ n ∈ d.weights Tryz.prog 27, n <= 140737488351232) -> id.size <= 140737488351232 /\ t.Ok) := by
 obtain ⟨cs, rfl, hsz⟩ := okWide_struct Tryz.underlying27 hval
 obtain ⟨fuel, hf⟩ := h
 obtain ⟨y0, y1, n, rfl, hx1, hlen, t0, t1⟩ := trodF2 Tryz.underlying27 hf
 rw [cellsObO] at hlen
 have e6 : (Value.agg cs).cells.toList = cs.toList := rfl
 rw [e6] at hlen t0 t1
 obtain ⟨a0, a1, a2, a3, a4, a5, e⟩ : ∃ a0 a1 a2 a3 a4 a5, cs.toList = [a0, a1, a2, a3, a4, a5] := by
  match cs.toList, hlen with
  | [a, b, c, d, e, f], _ => exact ⟨a, b, c, d, e, f, rfl⟩
 dsimp only at t0 t1
 dsimp only at hx1
 rw [e, celStO] at t0
 rw [e, cellsV] at t1
 simp only [List.drop_zero, List.drop_succ_cons, List.take_succ_cons, List.take_zero] at t0 t1
 obtain ⟨s, e0, f0, w0⟩ := DataW.trod_string Tryz.underlying9 t0
 simp only [List.cons.injEq, and_true] at e0
 subst e0 f0
 obtain ⟨r, t, h1, h2, h3⟩ := open_val n _ _ t1
 refine ⟨s, r, t, ?_, h2, fun hw => ?_⟩
 ·have : cs = (Value.string s :: encV r).toArray := by
   apply Array.ext'
   rw [e, h1]
  rw [this]
  rfl
 ·rw [hx1] at hw
  exact ⟨weights_string (weights_struct Tryz.underlying27 hw (i := 0) rfl rfl), h3 (weights_struct Tryz.underlying27 hw (i := 1) rfl rfl)⟩
end
end
end Go.Proofs.YtffhccmppdgmfaaGreatDoor
