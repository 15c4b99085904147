import Derived.Test.YtjhginendpjimaaGreatDoorA00
import Derived.Deep.RegionHeld3
import Derived.Deep.DeepCutAuto
import Derived.Deep.CutRange
import Derived.BigQuiet
import Derived.Deep.QuietTactic
import Derived.Outline
import Derived.OpenShut
set_option linter.unusedSimpArgs false
set_option linter.unusedVariables false
set_option maxRecDepth 200000
set_option maxHeartbeats 8000000
namespace Go.Proofs.YtjhginendpjimaaGreatDoor
section
open Go.RowKit Go.OpenShut
def Said (w : World) (p : Prop) (e : Ending) (w' : World) : Prop := ∃ b : Bool, e = .returned (.bool b) /\ (b = true ↔ p) /\ Below w.heap.size w w'
theorem below2 (w : World) (o o' : Obj) : Below w.heap.size w ((w.alloc o).alloc o') := ((Below.refl _ _).alloc (Nat.le_refl _) _).alloc (by simp) _
theorem str_beq (a b : ByteArray) : (a.toList == b.toList) = decide (a = b) := by
 rw [ByteArray.toList_eq, ByteArray.toList_eq]
 obtain ⟨⟨x⟩⟩ := a
 obtain ⟨⟨y⟩⟩ := b
 by_cases h : x = y
 ·simp [h]
 ·simp [h]
theorem Said.no {w : World} {p : Prop} {e : Ending} {w' : World} (h : Said w p e w') (hp : ¬ p) : e = .returned (.bool false) /\ Below w.heap.size w w' := by
 obtain ⟨b, rfl, hb, h⟩ := h
 cases b with
 | true => exact absurd (hb.1 rfl) hp
 | false => exact ⟨rfl, h⟩
def VAt (W : World) (g : Nat) (r : RV) : Prop := W.heap[g]? = some (.cells #[.int .i64 r.k, .int .i64 r.n, .string r.s, .slice r.pl r.nl r.cl, .slice r.pm r.nm r.cm] 25 (0, 0))
theorem VAt.cell {W : World} {g : Nat} {r : RV} (h : VAt W g r) (j : Nat) {u : Value} (hu : (encV r)[j]? = some u) : W.cell? ⟨g, j, none⟩ = some u := by
 unfold VAt at h
 rw [cell_of_row W g j _ _ _ h, <- Array.getElem?_toList]
 exact hu
theorem VAt.cells5 {W : World} {g : Nat} {r : RV} (h : VAt W g r) : W.cell? ⟨g, 0, none⟩ = some (.int .i64 r.k) /\ W.cell? ⟨g, 1, none⟩ = some (.int .i64 r.n) /\ W.cell? ⟨g, 2, none⟩ = some (.string r.s) /\ W.cell? ⟨g, 3, none⟩ = some (.slice r.pl r.nl r.cl) /\ W.cell? ⟨g, 4, none⟩ = some (.slice r.pm r.nm r.cm) := ⟨h.cell 0 rfl, h.cell 1 rfl, h.cell 2 rfl, h.cell 3 rfl, h.cell 4 rfl⟩
theorem VAt.under {W W' : World} {g B : Nat} {r : RV} (h : VAt W g r) (hb : Below B W W') (hg : g < B) : VAt W' g r := (hb.block g hg).trans h
theorem VAt.lt {W : World} {g : Nat} {r : RV} (h : VAt W g r) : g < W.heap.size := (Array.getElem?_eq_some_iff.1 h).1
theorem rd_nlen {α : Type} {enc : α -> List Value} {sz B n c : Nat} {p : Option Addr} {w : World} {xs : List α} (h : Rd w B enc sz (.slice p n c) xs) : n = xs.length := by
 obtain ⟨_, _, e, _⟩ := h
 simp only [Value.slice.injEq] at e; exact e.2.1
theorem rd_at' {α : Type} {enc : α -> List Value} {sz n cap k B : Nat} {w : World} {p : Option Addr} {xs : List α} (h : Rd w B enc sz (.slice p n cap) xs) {x : α} (hx : xs[k]? = some x) :
 ∃ b o, p = some ⟨b, o, none⟩ /\ b < B /\ ∀ j u, (enc x)[j]? = some u -> w.cell? ⟨b, o + k * sz + j, none⟩ = some u := by
 obtain ⟨p', cap', he, h1, h2, h3, h4⟩ := h
 simp only [Value.slice.injEq] at he
 obtain ⟨rfl, rfl, rfl⟩ := he
 have hk := (List.getElem?_eq_some_iff.1 hx).1
 cases p with
 | none => have := h3 rfl; omega
 | some a =>
   obtain ⟨b, o, rfl, hb, hr⟩ := h4 a rfl (by omega)
   exact ⟨b, o, rfl, hb, hr k x hx⟩
end
end Go.Proofs.YtjhginendpjimaaGreatDoor
