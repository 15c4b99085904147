/- A call's own boxes and what is known of trees, carried from world to world. -/
import Derived.Test.YthgkgjcnmahacaaTree6
set_option linter.unusedSimpArgs false
set_option linter.unusedVariables false
namespace Go.Proofs.Ythgkgjcnmahacaa
open Go.RowKit Go.OpenShut

/-- Below B the world is as W was. -/
def KB (B : Nat) (W w : World) : Prop := Below B W w ∧ ∀ b o, b < B → w.cell? ⟨b, o, none⟩ = W.cell? ⟨b, o, none⟩
theorem KB.mk {B : Nat} {W w : World} (h : Below B W w) : KB B W w := ⟨h, fun b o hb => h.cell (p := ⟨b, o, none⟩) hb⟩
theorem KB.fin {b B : Nat} {w W w' : World} (hk : KB B W w') (h : Below b w W) (hb : b ≤ B) : Below b w w' := h.trans (hk.1.mono hb)
theorem KB.refl (W : World) : KB W.heap.size W W := KB.mk (Below.refl _ _)
theorem KB.step {W w w' : World} (hk : KB W.heap.size W w) (h : Below w.heap.size w w') : KB W.heap.size W w' := KB.mk (hk.1.trans (h.mono hk.1.size))
theorem KB.drew (W : World) : KB W.heap.size W W.drew := KB.mk (Below.refl _ _).drew

/-- A value in a box of its own. -/
abbrev RV.obj (r : RV) : Obj := .cells #[.int .i64 r.k, .int .i64 r.n, .string r.s, .slice r.pl r.nl r.cl, .slice r.pm r.nm r.cm] 25

/-- What a walk knows at the world W: the boxes L, the trees T. -/
structure Ctx (b : Nat) (w0 W : World) (L : List (Nat × RV)) (T : List (JV × RV)) : Prop where
  below : Below b w0 W
  le : b ≤ W.heap.size
  loc : ∀ (i g : Nat) (r : RV), L[i]? = some (g, r) → g < W.heap.size ∧ VAt W g r
  tree : ∀ (i : Nat) (t : JV) (r : RV), T[i]? = some (t, r) → TreeOf W W.heap.size t r
theorem Ctx.nil (w : World) : Ctx w.heap.size w w [] [] := ⟨Below.refl _ _, Nat.le_refl _, fun i g r h => by simp at h, fun i t r h => by simp at h⟩
section
variable {b : Nat} {w0 W w : World} {L : List (Nat × RV)} {T : List (JV × RV)} (h : Ctx b w0 W L T)
include h
theorem Ctx.go (hb : Below W.heap.size W w) : Ctx b w0 w L T :=
  ⟨h.below.trans (hb.mono h.le), Nat.le_trans h.le hb.size, fun i g r hi => ⟨Nat.lt_of_lt_of_le (h.loc i g r hi).1 hb.size, (h.loc i g r hi).2.under hb (h.loc i g r hi).1⟩, fun i t r hi => (h.tree i t r hi).under hb hb.size⟩
theorem Ctx.alloc (x : RV) : Ctx b w0 (W.alloc x.obj) ((W.heap.size, x) :: L) T := by
  have g := h.go ((Below.refl _ _).alloc (Nat.le_refl _) x.obj)
  refine ⟨g.below, g.le, fun i k r hi => ?_, g.tree⟩
  cases i with
  | zero =>
    cases hi
    exact ⟨by simp, heap_alloc_at rfl⟩
  | succ i => exact g.loc i k r hi
theorem Ctx.know {t : JV} {x : RV} (hx : TreeOf W W.heap.size t x) : Ctx b w0 W L ((t, x) :: T) := by
  refine ⟨h.below, h.le, h.loc, fun i u r hi => ?_⟩
  cases i with
  | zero => cases hi; exact hx
  | succ i => exact h.tree i u r hi
theorem Ctx.box (hk : KB W.heap.size W w) {t : JV} {x : RV} (hx : TreeOf w w.heap.size t x) : Ctx b w0 (w.alloc x.obj) ((w.heap.size, x) :: L) ((t, x) :: T) :=
  ((h.go hk.1).know hx).alloc x
theorem Ctx.tk (hk : KB W.heap.size W w) (i : Nat) {t : JV} {r : RV} (hi : T[i]? = some (t, r)) : TreeOf w w.heap.size t r := (h.tree i t r hi).under hk.1 hk.1.size
theorem Ctx.lt (i : Nat) {g : Nat} {r : RV} (hi : L[i]? = some (g, r)) : g < W.heap.size := (h.loc i g r hi).1
theorem Ctx.at (i : Nat) {g : Nat} {r : RV} (hi : L[i]? = some (g, r)) : VAt W g r := (h.loc i g r hi).2
theorem Ctx.fin (hk : KB W.heap.size W w) : Below b w0 w := h.below.trans (hk.1.mono h.le)
end
end Go.Proofs.Ythgkgjcnmahacaa
