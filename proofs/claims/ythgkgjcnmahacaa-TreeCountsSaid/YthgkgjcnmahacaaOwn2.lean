/- Slices of the call's own: reading one element, storing one cell, reslicing. Plain laws over any program. -/
import Derived.Test.YthgkgjcnmahacaaApp
set_option linter.unusedSimpArgs false
set_option linter.unusedVariables false
namespace Go.Proofs.Ythgkgjcnmahacaa
open Go Go.RowKit

section
variable {P : Program} {α : Type} {enc : α → List Value} {sz bytes : Nat} {t e : TypeId}
/-- An element of a slice of the call's own. -/
theorem Own.at (C : Codec enc sz) {w : World} {base : Nat} {p : Option Addr} {n cap : Nat} {xs : List α} (h : Own w base e enc sz (.slice p n cap) xs) {k : Nat} {x : α} (hx : xs[k]? = some x) :
    ∃ g, p = some ⟨g, 0, none⟩ ∧ n = xs.length ∧ base ≤ g ∧ g < w.heap.size ∧ (∀ j u, (enc x)[j]? = some u → w.cell? ⟨g, k * sz + j, none⟩ = some u) ∧ ∀ j, w.frozen? ⟨g, j, none⟩ = false := by
  have hlt := h.lt
  have hk := (List.getElem?_eq_some_iff.1 hx).1
  have h' := h
  obtain ⟨hl, h0⟩ := h
  rcases h0 with ⟨hv, hn⟩ | ⟨g, cap', cur, hv, hg, hh, hnc, hcm, hcs, ht⟩
  · omega
  · simp only [Value.slice.injEq] at hv
    obtain ⟨rfl, rfl, rfl⟩ := hv
    refine ⟨g, rfl, rfl, hg, (hlt g rfl).2, fun j u hu => ?_, fun j => World.ownsRow.frozenAt h' j⟩
    have hj : j < sz := by rw [← C.len x]; exact (List.getElem?_eq_some_iff.1 hu).1
    have h1 := cellsOf_get C xs k x hx j hj
    rw [hu] at h1
    have hb : k * sz + j < xs.length * sz := by
      have := (List.getElem?_eq_some_iff.1 h1).1
      rw [cellsOf_len C] at this
      exact this
    rw [World.ownsRow.cellAt h' _ hb, h1]

theorem cellsOf_set (C : Codec enc sz) : ∀ (xs : List α) (k j : Nat) (x y : α) (u : Value), xs[k]? = some x → j < sz → (enc x).set j u = enc y → (cellsOf enc xs).set (k * sz + j) u = cellsOf enc (xs.set k y)
  | [], k, j, x, y, u, h, _, _ => by simp at h
  | a :: xs, 0, j, x, y, u, h, hj, hy => by
    simp only [List.getElem?_cons_zero, Option.some.injEq] at h
    subst h
    simp only [cellsOf, List.flatMap_cons, Nat.zero_mul, Nat.zero_add, List.set_cons_zero]
    rw [List.set_append_left _ _ (by rw [C.len]; exact hj), hy]
  | a :: xs, k + 1, j, x, y, u, h, hj, hy => by
    have ih := cellsOf_set C xs k j x y u (by simpa using h) hj hy
    simp only [cellsOf, List.flatMap_cons, List.set_cons_succ] at ih ⊢
    rw [List.set_append_right _ _ (by rw [C.len, Nat.add_mul]; omega), C.len, ← ih]
    congr 2
    rw [Nat.add_mul]; omega

/-- A store of one cell into an element of a slice of the call's own. -/
theorem Own.storedAt (C : Codec enc sz) {w : World} {base : Nat} {g n cap : Nat} {xs : List α} (h : Own w base e enc sz (.slice (some ⟨g, 0, none⟩) n cap) xs) {k j : Nat} {x y : α} {u : Value} (hx : xs[k]? = some x) (hj : j < sz) (hy : (enc x).set j u = enc y) :
    Own (w.setCell ⟨g, k * sz + j, none⟩ u) base e enc sz (.slice (some ⟨g, 0, none⟩) n cap) (xs.set k y) ∧ w.grownBy (w.setCell ⟨g, k * sz + j, none⟩ u) (some g) := by
  have hn : n = xs.length := by
    obtain ⟨_, _, hn, _⟩ := Own.at C h hx
    exact hn
  subst hn
  have h1 := World.ownsRow.stored h (k * sz + j) u
  rw [cellsOf_set C xs k j x y u hx hj hy] at h1
  unfold Own
  rw [List.length_set]
  exact h1

theorem Rd.take {w : World} {B : Nat} {a : Option Addr} {n cap : Nat} {xs : List α} (h : Rd w B enc sz (.slice a n cap) xs) (m : Nat) (hm : m ≤ n) : Rd w B enc sz (.slice a m cap) (xs.take m) := by
  obtain ⟨p, c, hv, h1, h2, h3, h4⟩ := h
  simp only [Value.slice.injEq] at hv
  obtain ⟨rfl, rfl, rfl⟩ := hv
  refine ⟨a, cap, by rw [List.length_take, Nat.min_eq_left hm], by rw [List.length_take]; omega, h2, h3, fun ad ha h0 => ?_⟩
  rw [List.length_take] at h0
  obtain ⟨b, o, e1, hb, hr⟩ := h4 ad ha (by omega)
  exact ⟨b, o, e1, hb, hr.take m⟩
/-- A slice expression of both bounds, or of one. -/
theorem slice_lh (S : SlT P t e sz bytes) {w : World} {B : Nat} {a : Option Addr} {n cap : Nat} {xs : List α} (h : Rd w B enc sz (.slice a n cap) xs) (l m : Nat) (hl : l ≤ m) (hm : m ≤ n) :
    ∃ v, (∀ W, (Instr.sliceAt t (.slice a n cap) (some (.int .i64 l)) (some (.int .i64 m)) none).run P W = .ok v W) ∧ Rd w B enc sz v ((xs.take m).drop l) := by
  obtain ⟨ht, i, z, hi, hz, hs1, hs2, hzs⟩ := S
  have hcap : n ≤ cap := by
    obtain ⟨p, c, hv, h1, _⟩ := h
    simp only [Value.slice.injEq] at hv
    omega
  refine ⟨_, fun W => ?_, (h.take m hm).sliced l hl⟩
  have he : P.elem t = e := by simp [Program.elem, ht]
  have ht' : P.underlying t = some (.slice (P.elem t)) := by rw [he]; exact ht
  rw [run_sliceAt_slice _ _ _ _ _ _ ht', run_slice_lh W t a n cap ht' .i64 .i64 l m (by omega) (by omega) (by omega), he]
  simp [sizeOf, typeInfo, hi, hs1, Result.andThen]
theorem slice_h (S : SlT P t e sz bytes) {w : World} {B : Nat} {a : Option Addr} {n cap : Nat} {xs : List α} (h : Rd w B enc sz (.slice a n cap) xs) (m : Nat) (hm : m ≤ n) :
    ∃ v, (∀ W, (Instr.sliceAt t (.slice a n cap) none (some (.int .i64 m)) none).run P W = .ok v W) ∧ Rd w B enc sz v (xs.take m) := by
  obtain ⟨ht, i, z, hi, hz, hs1, hs2, hzs⟩ := S
  have hcap : n ≤ cap := by
    obtain ⟨p, c, hv, h1, _⟩ := h
    simp only [Value.slice.injEq] at hv
    omega
  refine ⟨_, fun W => ?_, (by have := (h.take m hm).sliced 0 (Nat.zero_le _); rw [List.drop_zero] at this; exact this)⟩
  have he : P.elem t = e := by simp [Program.elem, ht]
  have ht' : P.underlying t = some (.slice (P.elem t)) := by rw [he]; exact ht
  rw [run_sliceAt_slice _ _ _ _ _ _ ht', run_slice_h W t a n cap ht' .i64 m (by omega) (by omega), he]
  simp [sizeOf, typeInfo, hi, hs1, Result.andThen]
theorem slice_l (S : SlT P t e sz bytes) {w : World} {B : Nat} {a : Option Addr} {n cap : Nat} {xs : List α} (h : Rd w B enc sz (.slice a n cap) xs) (l : Nat) (hl : l ≤ n) :
    ∃ v, (∀ W, (Instr.sliceAt t (.slice a n cap) (some (.int .i64 l)) none none).run P W = .ok v W) ∧ Rd w B enc sz v (xs.drop l) := by
  obtain ⟨ht, i, z, hi, hz, hs1, hs2, hzs⟩ := S
  exact slice_from ht hi hs1 h l hl
end
end Go.Proofs.Ythgkgjcnmahacaa
