import Derived.Test.YtffhccmppdgmfaaGreatDoorG00
import Derived.Test.YtffhccmppdgmfaaGreatDoorG22
set_option linter.unusedSimpArgs false
set_option linter.unusedVariables false
set_option maxRecDepth 200000
set_option maxHeartbeats 8000000
namespace Go.Proofs.YtffhccmppdgmfaaGreatDoor
section
open Go Go.RowKit Go.ChangeShapes Go.WideShapes Go.Deep
theorem cellsIntO : Tryz.prog.cellsOf 3 = 1 := by kernel_rfl
section
variable {H : Type} {enc : TypeId × Value -> H} {W : World} {base b0 : Nat} {spare : Nat -> Bool} {held : Bool}
theorem open_intsC {v : Value} {d : DataW H} {p : List MemPlace} (hval : Value.okWide Tryz.prog W .any b0 57 v) (h : DataW.Trod enc Tryz.prog W base spare held 57 v d p) :
 ∃ q n c l, v = .slice q n c /\ Rd W W.heap.size encN 1 (.slice q n c) l := by
 obtain ⟨fuel, hf⟩ := h
 obtain ⟨a, len, cap, rfl⟩ := okWide_slice Tryz.underlying57 hval
 obtain ⟨q, n, c, l, e, hr, hd⟩ := open_list (Q := fun (s : Int) (d : DataW H) => True) Tryz.underlying57 cellsIntO codecN hf (fun m _ cs y hy => by
  obtain ⟨s, e0, f0, w0⟩ := DataW.trod_int Tryz.underlying3 hy
  exact ⟨s, e0, trivial⟩)
 have hcs : (Value.slice a len cap).cells.toList = [.slice a len cap] := rfl
 rw [hcs] at e
 simp only [List.cons.injEq, Value.slice.injEq, and_true] at e
 obtain ⟨rfl, rfl, rfl⟩ := e
 exact ⟨_, _, _, l, rfl, hr⟩
end
end
end Go.Proofs.YtffhccmppdgmfaaGreatDoor
