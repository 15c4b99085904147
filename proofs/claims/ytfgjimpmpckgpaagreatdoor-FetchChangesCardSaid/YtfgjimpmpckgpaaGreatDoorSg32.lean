import Derived.Test.YtfgjimpmpckgpaaGreatDoorSg30
import Derived.Test.YtfgjimpmpckgpaaGreatDoorSg05
set_option linter.unusedSimpArgs false
set_option linter.unusedVariables false
set_option maxRecDepth 200000
set_option maxHeartbeats 8000000
namespace Go.Proofs.YtfgjimpmpckgpaaGreatDoor
section
open Go Go.RowKit Go.OpenShut
structure AddS (W0 : World) (B g : Nat) (W : World) (p : Option Addr) (n c : Nat) (ms : List (ByteArray × JV)) (rms : List RM) : Prop where
 at' : VAt W g ⟨6, 0, ⟨#[]⟩, none, 0, 0, p, n, c⟩
 own : Own W W0.heap.size 81 encM 6 (.slice p n c) rms
 off : ∀ k, (Value.slice p n c).ownBlock = some k -> k ≠ g
 below : Below W0.heap.size W0 W
 ge : W0.heap.size <= g
 hB : B <= W0.heap.size
 len : ms.length = rms.length
 part : ∀ (i : Nat) y q, ms[i]? = some y -> rms[i]? = some q -> y.1 = q.name /\ TreeS W (fun k => k < W.heap.size /\ k ≠ g /\ (k < B \/ W0.heap.size <= k)) y.2 q.v
theorem AddS.start {W0 W : World} {B s : Nat} {p : Option Addr} {n c : Nat} {name : ByteArray} {t : JV} {x : RV} (hB : B <= W0.heap.size) (hb : Below W0.heap.size W0 W) (ho : Own W s 81 encM 6 (.slice p n c) [⟨name, x⟩]) (hs : W0.heap.size <= s) (ht : TreeS W (fun k => k < W.heap.size /\ (k < B \/ W0.heap.size <= k)) t x) :
 AddS W0 B W.heap.size (W.alloc (.cells #[.int .i64 6, .int .i64 0, .string ⟨#[]⟩, .slice none 0 0, .slice p n c] 31)) p n c [(name, t)] [⟨name, x⟩] := by
 have hal : Below W.heap.size W (W.alloc (.cells #[.int .i64 6, .int .i64 0, .string ⟨#[]⟩, .slice none 0 0, .slice p n c] 31)) := (Below.refl _ _).alloc (Nat.le_refl _) _
 refine ⟨heap_alloc_at rfl, (ho.below hal (Nat.le_refl _)).mono hs, fun k e => ?_, hb.trans (hal.mono hb.size), hb.size, hB, rfl, fun i y q a b => ?_⟩
 ·have := (ho.lt k e).2; omega
 ·rcases i with _ | i
  ·cases a; cases b
   exact ⟨rfl, (ht.same (fun k e => hal.block k e.1)).mono (fun k e => ⟨Nat.lt_of_lt_of_le e.1 hal.size, by omega, e.2⟩)⟩
  ·simp at a
theorem AddS.step {W0 W W' : World} {B g : Nat} {p : Option Addr} {n c : Nat} {ms : List (ByteArray × JV)} {rms : List RM} (h : AddS W0 B g W p n c ms rms) (hb : Below W.heap.size W W') : AddS W0 B g W' p n c ms rms :=
 ⟨h.at'.under hb h.at'.lt, h.own.below hb (Nat.le_refl _), h.off, h.below.trans (hb.mono h.below.size), h.ge, h.hB, h.len, fun i y q a b => ⟨(h.part i y q a b).1, ((h.part i y q a b).2.same (fun k e => hb.block k e.1)).mono (fun k e => ⟨Nat.lt_of_lt_of_le e.1 hb.size, e.2⟩)⟩⟩
theorem AddS.next {W0 W W2 : World} {B g s : Nat} {p p2 : Option Addr} {n c n2 c2 : Nat} {ms : List (ByteArray × JV)} {rms : List RM} {name : ByteArray} {t : JV} {x : RV} (h : AddS W0 B g W p n c ms rms) (hb : Below W.heap.size W W2) (ho : Own W2 s 81 encM 6 (.slice p2 n2 c2) (rms ++ [⟨name, x⟩])) (hs : W.heap.size <= s)
 (ht : TreeS W2 (fun k => k < W2.heap.size /\ k ≠ g /\ (k < B \/ W0.heap.size <= k)) t x) : AddS W0 B g (((((W2.setCell ⟨g, 0, none⟩ (.int .i64 (⟨6, 0, ⟨#[]⟩, none, 0, 0, p2, n2, c2⟩ : RV).k)).setCell ⟨g, 1, none⟩ (.int .i64 (⟨6, 0, ⟨#[]⟩, none, 0, 0, p2, n2, c2⟩ : RV).n)).setCell ⟨g, 2, none⟩ (.string (⟨6, 0, ⟨#[]⟩, none, 0, 0, p2, n2, c2⟩ : RV).s)).setCell ⟨g, 3, none⟩ (.slice (⟨6, 0, ⟨#[]⟩, none, 0, 0, p2, n2, c2⟩ : RV).pl (⟨6, 0, ⟨#[]⟩, none, 0, 0, p2, n2, c2⟩ : RV).nl (⟨6, 0, ⟨#[]⟩, none, 0, 0, p2, n2, c2⟩ : RV).cl)).setCell ⟨g, 4, none⟩ (.slice (⟨6, 0, ⟨#[]⟩, none, 0, 0, p2, n2, c2⟩ : RV).pm (⟨6, 0, ⟨#[]⟩, none, 0, 0, p2, n2, c2⟩ : RV).nm (⟨6, 0, ⟨#[]⟩, none, 0, 0, p2, n2, c2⟩ : RV).cm)) p2 n2 c2 (ms ++ [(name, t)]) (rms ++ [⟨name, x⟩]) := by
 have h2 := h.step hb
 have hg := grownBy_set5 W2 g ⟨6, 0, ⟨#[]⟩, none, 0, 0, p2, n2, c2⟩
 have hat := h2.at'.stored ⟨6, 0, ⟨#[]⟩, none, 0, 0, p2, n2, c2⟩
 have hbs := Below.stored h2.below h.ge ⟨6, 0, ⟨#[]⟩, none, 0, 0, p2, n2, c2⟩
 have hgl := h.at'.lt
 obtain ⟨W3, hW3⟩ : ∃ W3, (((((W2.setCell ⟨g, 0, none⟩ (.int .i64 (⟨6, 0, ⟨#[]⟩, none, 0, 0, p2, n2, c2⟩ : RV).k)).setCell ⟨g, 1, none⟩ (.int .i64 (⟨6, 0, ⟨#[]⟩, none, 0, 0, p2, n2, c2⟩ : RV).n)).setCell ⟨g, 2, none⟩ (.string (⟨6, 0, ⟨#[]⟩, none, 0, 0, p2, n2, c2⟩ : RV).s)).setCell ⟨g, 3, none⟩ (.slice (⟨6, 0, ⟨#[]⟩, none, 0, 0, p2, n2, c2⟩ : RV).pl (⟨6, 0, ⟨#[]⟩, none, 0, 0, p2, n2, c2⟩ : RV).nl (⟨6, 0, ⟨#[]⟩, none, 0, 0, p2, n2, c2⟩ : RV).cl)).setCell ⟨g, 4, none⟩ (.slice (⟨6, 0, ⟨#[]⟩, none, 0, 0, p2, n2, c2⟩ : RV).pm (⟨6, 0, ⟨#[]⟩, none, 0, 0, p2, n2, c2⟩ : RV).nm (⟨6, 0, ⟨#[]⟩, none, 0, 0, p2, n2, c2⟩ : RV).cm)) = W3 := ⟨_, rfl⟩
 rw [hW3] at hg hat hbs
 rw [hW3]
 clear hW3
 have hsz := hg.size
 have key : ∀ t q, TreeS W2 (fun k => k < W2.heap.size /\ k ≠ g /\ (k < B \/ W0.heap.size <= k)) t q -> TreeS W3 (fun k => k < W3.heap.size /\ k ≠ g /\ (k < B \/ W0.heap.size <= k)) t q := fun t q h =>
  (h.same (fun k e => hg.block k e.1 (fun e2 => e.2.1 (by injection e2)))).mono (fun k e => ⟨Nat.lt_of_lt_of_le e.1 hsz, e.2⟩)
 have hw := h.below.size
 refine ⟨hat, (ho.keptS hg (by omega)).mono (by omega), fun k e => ?_, hbs, h.ge, h.hB, by simp [h.len], fun i y q a b => ?_⟩
 ·have := (ho.lt k e).1; omega
 ·rcases snoc_get a with ⟨ha, a⟩ | ⟨ha, rfl⟩
  ·rcases snoc_get b with ⟨hb2, b⟩ | ⟨hb2, _⟩
   ·exact ⟨(h2.part i y q a b).1, key _ _ (h2.part i y q a b).2⟩
   ·have := h.len; omega
  ·rcases snoc_get b with ⟨hb2, b⟩ | ⟨hb2, rfl⟩
   ·have := h.len; omega
   ·exact ⟨rfl, key _ _ ht⟩
theorem AddS.fin {W0 W W2 : World} {B g s : Nat} {p p2 : Option Addr} {n c n2 c2 : Nat} {ms : List (ByteArray × JV)} {rms : List RM} {name : ByteArray} {t : JV} {x : RV} (h : AddS W0 B g W p n c ms rms) (hb : Below W.heap.size W W2) (ho : Own W2 s 81 encM 6 (.slice p2 n2 c2) (rms ++ [⟨name, x⟩])) (hs : W.heap.size <= s)
 (ht : TreeS W2 (fun k => k < W2.heap.size /\ (k < B \/ W0.heap.size <= k)) t x) : TreeS W2 (fun k => k < W2.heap.size /\ (k < B \/ W0.heap.size <= k)) (objJ (ms ++ [(name, t)])) ⟨6, 0, ⟨#[]⟩, none, 0, 0, p2, n2, c2⟩ := by
 have h2 := h.step hb
 have hw := h.below.size
 refine .mk (r := ⟨6, 0, ⟨#[]⟩, none, 0, 0, p2, n2, c2⟩) (rs := []) (RdI.nil _ _) rfl (fun i t q h => by simp at h) (ho.rdI codecM (fun k e => ⟨(ho.lt k e).2, .inr (by have := (ho.lt k e).1; omega)⟩)) (by simp [h.len]) (fun i y q a b => ?_) (fun i y q a b => ?_)
 ·rcases snoc_get a with ⟨ha, a⟩ | ⟨ha, rfl⟩
  ·rcases snoc_get b with ⟨hb2, b⟩ | ⟨hb2, _⟩
   ·exact (h2.part i y q a b).1
   ·have := h.len; omega
  ·rcases snoc_get b with ⟨hb2, b⟩ | ⟨hb2, rfl⟩
   ·have := h.len; omega
   ·rfl
 ·rcases snoc_get a with ⟨ha, a⟩ | ⟨ha, rfl⟩
  ·rcases snoc_get b with ⟨hb2, b⟩ | ⟨hb2, _⟩
   ·exact (h2.part i y q a b).2.mono (fun k e => ⟨e.1, e.2.2⟩)
   ·have := h.len; omega
  ·rcases snoc_get b with ⟨hb2, b⟩ | ⟨hb2, rfl⟩
   ·have := h.len; omega
   ·exact ht
end
end Go.Proofs.YtfgjimpmpckgpaaGreatDoor
