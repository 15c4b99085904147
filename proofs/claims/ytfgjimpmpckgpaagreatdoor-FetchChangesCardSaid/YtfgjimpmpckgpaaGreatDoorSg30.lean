import Derived.Test.YtfgjimpmpckgpaaGreatDoorSg26
import Derived.Test.YtfgjimpmpckgpaaGreatDoorSg28
import Derived.Test.YtfgjimpmpckgpaaGreatDoorSg29
set_option linter.unusedSimpArgs false
set_option linter.unusedVariables false
set_option maxRecDepth 200000
set_option maxHeartbeats 8000000
namespace Go.Proofs.YtfgjimpmpckgpaaGreatDoor
section
open Go Go.RowKit Go.OpenShut
theorem Below.storedC {B g : Nat} {w W : World} (h : Below B w W) (hg : B <= g) (q : RC) : Below B w (((((W.setCell ⟨g, 0, none⟩ (.slice q.pa q.na q.ca)).setCell ⟨g, 1, none⟩ (.slice q.pb q.nb q.cb)).setCell ⟨g, 2, none⟩ (.slice q.pc q.nc q.cc)).setCell ⟨g, 3, none⟩ (.int .i64 q.toN)).setCell ⟨g, 4, none⟩ (.bool q.more)) :=
 ((((h.setCell (p := ⟨g, 0, none⟩) hg _).setCell (p := ⟨g, 1, none⟩) hg _).setCell (p := ⟨g, 2, none⟩) hg _).setCell (p := ⟨g, 3, none⟩) hg _).setCell (p := ⟨g, 4, none⟩) hg _
theorem kt_setC {W W' : World} (h : KB W.heap.size W W') (g : Nat) (q : RC) (hg : W.heap.size <= g) : Below W.heap.size W (((((W'.setCell ⟨g, 0, none⟩ (.slice q.pa q.na q.ca)).setCell ⟨g, 1, none⟩ (.slice q.pb q.nb q.cb)).setCell ⟨g, 2, none⟩ (.slice q.pc q.nc q.cc)).setCell ⟨g, 3, none⟩ (.int .i64 q.toN)).setCell ⟨g, 4, none⟩ (.bool q.more)) /\ ∀ b o, b < W.heap.size -> World.cell? (((((W'.setCell ⟨g, 0, none⟩ (.slice q.pa q.na q.ca)).setCell ⟨g, 1, none⟩ (.slice q.pb q.nb q.cb)).setCell ⟨g, 2, none⟩ (.slice q.pc q.nc q.cc)).setCell ⟨g, 3, none⟩ (.int .i64 q.toN)).setCell ⟨g, 4, none⟩ (.bool q.more)) ⟨b, o, none⟩ = W.cell? ⟨b, o, none⟩ := (KB.mk (Below.storedC h.1 hg q) : KB W.heap.size W _)
theorem Own.keptS {α : Type} {enc : α -> List Value} {sz : Nat} {w w' : World} {base g : Nat} {e : TypeId} {v : Value} {xs : List α} (h : Own w base e enc sz v xs) (hg : w.grownBy w' (some g)) (hlt : g < base) : Own w' base e enc sz v xs := by
 refine h.kept hg ?_
 cases hob : v.ownBlock with
 | none => exact .inl rfl
 | some k =>
   refine .inr (fun e => ?_)
   injection e with e
   have := (h.lt k hob).1
   omega
theorem NewChg.keptS {w w' : World} {base g : Nat} {d : ChD} {r : RC} (h : NewChg w base d r) (hg : w.grownBy w' (some g)) (hlt : g < base) : NewChg w' base d r :=
 ⟨h.made.keptS hg hlt, h.chgd.keptS hg hlt, h.gone.keptS hg hlt, h.toN, h.more⟩
theorem NewChg.mono {w : World} {base base' : Nat} {d : ChD} {r : RC} (h : NewChg w base d r) (hb : base' <= base) : NewChg w base' d r :=
 ⟨h.made.mono hb, h.chgd.mono hb, h.gone.mono hb, h.toN, h.more⟩
structure CgR (w0 : World) (d : ChD) (g : Nat) (rc : RC) (w : World) : Prop where
 at' : ChAt w g rc
 new : NewChg w w0.heap.size d rc
 ge : w0.heap.size <= g
 below : Below w0.heap.size w0 w
theorem CgR.fresh {w0 w : World} {s : Nat} {d : ChD} {rc : RC} (hn : NewChg w s d rc) (hs : w0.heap.size <= s) (hb : Below w0.heap.size w0 w) : CgR w0 d w.heap.size rc (w.alloc rc.obj) :=
 ⟨heap_alloc_at rfl, (hn.mono hs).below ((Below.refl _ _).alloc (Nat.le_refl _) _), hb.size, hb.alloc hb.size _⟩
theorem CgR.stored {w0 w : World} {s g : Nat} {d : ChD} {rc : RC} (hn : NewChg w s d rc) (hgs : g < s) (hg : w0.heap.size <= g) (hz : ChAt w g RC.zero) (hb : Below w0.heap.size w0 w) : CgR w0 d g rc (((((w.setCell ⟨g, 0, none⟩ (.slice rc.pa rc.na rc.ca)).setCell ⟨g, 1, none⟩ (.slice rc.pb rc.nb rc.cb)).setCell ⟨g, 2, none⟩ (.slice rc.pc rc.nc rc.cc)).setCell ⟨g, 3, none⟩ (.int .i64 rc.toN)).setCell ⟨g, 4, none⟩ (.bool rc.more)) :=
 ⟨hz.stored rc, (hn.keptS (grown_cells w g _ _ _ _ _) hgs).mono (by omega), hg, Below.storedC hb hg rc⟩
theorem CgR.step {w0 w w' : World} {d : ChD} {g : Nat} {rc : RC} (h : CgR w0 d g rc w) (hb : Below w.heap.size w w') : CgR w0 d g rc w' :=
 ⟨h.at'.under hb h.at'.lt, h.new.below hb, h.ge, h.below.trans (hb.mono h.below.size)⟩
end
end Go.Proofs.YtfgjimpmpckgpaaGreatDoor
