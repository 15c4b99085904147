import Derived.Test.YtfgjimpmpckgpaaGreatDoorSg17
import Derived.Test.YtfgjimpmpckgpaaGreatDoorSg13
set_option linter.unusedSimpArgs false
set_option linter.unusedVariables false
set_option maxRecDepth 200000
set_option maxHeartbeats 8000000
namespace Go.Proofs.YtfgjimpmpckgpaaGreatDoor
section
open Go Go.RowKit Go.OpenShut
structure GtR (w0 : World) (T : JV) (g : Nat) (rv : RV) (w : World) : Prop where
 at' : VAt w g rv
 tree : TreeOf w w.heap.size T rv
 below : Below w0.heap.size w0 w
theorem GtR.fresh {w0 w : World} {T : JV} {rv : RV} {S : Nat -> Prop} (ht : TreeS w (fun k => k < w.heap.size /\ S k) T rv) (hb : Below w0.heap.size w0 w) : GtR w0 T w.heap.size rv (w.alloc rv.obj) :=
 ⟨heap_alloc_at rfl, (ht.same (fun k e => Below.heap_alloc w _ k e.1)).tree (fun k e => by have := e.1; simp; omega), hb.alloc hb.size _⟩
theorem GtR.stored {w0 w : World} {T : JV} {g B s : Nat} {rv : RV} (ht : TreeS w (fun k => k < w.heap.size /\ (k < B \/ s <= k)) T rv) (hBg : B <= g) (hgs : g < s) (hg : w0.heap.size <= g) (hz : VAt w g RV.zero) (hb : Below w0.heap.size w0 w) : GtR w0 T g rv (((((w.setCell ⟨g, 0, none⟩ (.int .i64 rv.k)).setCell ⟨g, 1, none⟩ (.int .i64 rv.n)).setCell ⟨g, 2, none⟩ (.string rv.s)).setCell ⟨g, 3, none⟩ (.slice rv.pl rv.nl rv.cl)).setCell ⟨g, 4, none⟩ (.slice rv.pm rv.nm rv.cm)) := by
 have hgb := grownBy_set5 w g rv
 exact ⟨hz.stored rv, (ht.same (fun k e => hgb.block k e.1 (fun e2 => by injection e2 with e2; rcases e.2 with h | h <;> omega))).tree (fun k e => Nat.lt_of_lt_of_le e.1 hgb.size), Below.stored hb hg rv⟩
theorem GtR.step {w0 w w' : World} {T : JV} {g : Nat} {rv : RV} (h : GtR w0 T g rv w) (hb : Below w.heap.size w w') : GtR w0 T g rv w' := ⟨h.at'.under hb h.at'.lt, h.tree.under hb hb.size, h.below.trans (hb.mono h.below.size)⟩
end
end Go.Proofs.YtfgjimpmpckgpaaGreatDoor
