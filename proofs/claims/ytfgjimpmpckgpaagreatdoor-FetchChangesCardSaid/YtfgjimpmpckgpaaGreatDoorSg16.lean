import Derived.Test.YtfgjimpmpckgpaaGreatDoorSg11
import Derived.Test.YtfgjimpmpckgpaaGreatDoorSg15
set_option linter.unusedSimpArgs false
set_option linter.unusedVariables false
set_option maxRecDepth 200000
set_option maxHeartbeats 8000000
namespace Go.Proofs.YtfgjimpmpckgpaaGreatDoor
section
open Go Go.RowKit Go.ChangeShapes Go.WideShapes Go.Deep
theorem cellsAcF : Tryz.prog.cellsOf 27 = 12 := by kernel_rfl
section
variable {H : Type} {enc : TypeId × Value -> H} {W : World} {base b0 : Nat} {spare : Nat -> Bool} {held : Bool}
theorem open_accountF {v : Value} {d : DataW H} {p : List MemPlace} (hval : Value.okWide Tryz.prog W .any b0 27 v) (h : DataW.Trod enc Tryz.prog W base spare held 27 v d p) :
 ∃ r a, v = RAc.val r /\ AcOf W W.heap.size a r /\ ((∀ n ∈ d.weights Tryz.prog 27, n <= 140737488351232) -> a.id.size <= 140737488351232 /\ a.cards.Ok /\ a.books.Ok) := by
 obtain ⟨cs, rfl, hsz⟩ := okWide_struct Tryz.underlying27 hval
 obtain ⟨fuel, hf⟩ := h
 obtain ⟨y0, y1, y2, y3, n, rfl, hx1, hlen, t0, t1, t2, t3⟩ := trodF4 Tryz.underlying27 hf
 rw [cellsAcF] at hlen
 have e6 : (Value.agg cs).cells.toList = cs.toList := rfl
 rw [e6] at hlen t0 t1 t2 t3
 obtain ⟨a0, a1, a2, a3, a4, a5, a6, a7, a8, a9, a10, a11, e⟩ : ∃ a0 a1 a2 a3 a4 a5 a6 a7 a8 a9 a10 a11, cs.toList = [a0, a1, a2, a3, a4, a5, a6, a7, a8, a9, a10, a11] := by
  match cs.toList, hlen with
  | [a, b, c, d, e, f, g, h, i, j, k, l], _ => exact ⟨a, b, c, d, e, f, g, h, i, j, k, l, rfl⟩
 dsimp only at t0 t1 t2 t3
 dsimp only at hx1
 rw [e, cellsStrF] at t0
 rw [e, cellsB] at t1 t2
 rw [e, cel1] at t3
 simp only [List.drop_zero, List.drop_succ_cons, List.take_succ_cons, List.take_zero] at t0 t1 t2 t3
 obtain ⟨s, e0, f0, w0⟩ := DataW.trod_string Tryz.underlying9 t0
 obtain ⟨rc, bc, h1, h2, h3⟩ := open_box_cells t1
 obtain ⟨rb, bb, k1, k2, k3⟩ := open_box_cells t2
 obtain ⟨nx, e3, f3, w3⟩ := DataW.trod_int Tryz.underlying2 t3
 simp only [List.cons.injEq, and_true] at e0 e3
 subst e0 e3
 refine ⟨⟨s, rc, rb, nx⟩, ⟨s, bc, bb, nx⟩, ?_, ⟨rfl, h2, k2⟩, fun hw => ?_⟩
 ·have : cs = (Value.string s :: (encB rc ++ encB rb ++ [Value.int .i64 nx])).toArray := by
   apply Array.ext'
   rw [e, <- h1, <- k1]
   rfl
  rw [this]
  rfl
 ·rw [hx1, f0] at hw
  exact ⟨weights_string (weights_struct Tryz.underlying27 hw (i := 0) rfl rfl), h3 (weights_struct Tryz.underlying27 hw (i := 1) rfl rfl), k3 (weights_struct Tryz.underlying27 hw (i := 2) rfl rfl)⟩
end
end
end Go.Proofs.YtfgjimpmpckgpaaGreatDoor
