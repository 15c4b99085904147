/- Slices of elements that lie in a fixed number of cells each, as lists: read anywhere, or owned by the call. Plain laws over any program. -/
import Derived.WalkKit
import Derived.Deep.Draws
set_option linter.unusedSimpArgs false
set_option linter.unusedVariables false
namespace Go.Proofs.Ythgkgjcnmahacaa
open Go Go.RowKit

theorem add_eq (b o j : Nat) : (⟨b, o, none⟩ : Addr).add j = ⟨b, o + j, none⟩ := by
  unfold Addr.add
  split <;> simp_all

theorem bcs {B : Nat} {w w' : World} {b o : Nat} {v : Value} (hb : Below B w w') (hB : b < B) (h : w.cell? ⟨b, o, none⟩ = some v) : w'.cell? ⟨b, o, none⟩ = some v := (hb.cell (p := ⟨b, o, none⟩) hB).trans h

theorem bdn {B : Nat} {w w' : World} (h : Below B w w') (n : Nat) : Below B w (w'.drewN n) := ⟨h.os, h.tape, h.output, h.size, h.block⟩
/-- The cells of a list of elements. -/
def cellsOf {α : Type} (enc : α → List Value) (xs : List α) : List Value := xs.flatMap enc

structure Codec {α : Type} (enc : α → List Value) (sz : Nat) : Prop where
  len : ∀ x, (enc x).length = sz
  one : ∀ x, ∀ u ∈ enc x, u.oneCell' = true
  pos : 0 < sz

section
variable {α : Type} {enc : α → List Value} {sz : Nat}
theorem cellsOf_len (C : Codec enc sz) (xs : List α) : (cellsOf enc xs).length = xs.length * sz := by
  induction xs with
  | nil => simp [cellsOf]
  | cons x xs ih => simp only [cellsOf, List.flatMap_cons, List.length_append, C.len, List.length_cons] at ih ⊢; rw [ih, Nat.add_mul]; omega
theorem cellsOf_one (C : Codec enc sz) (xs : List α) : ∀ u ∈ cellsOf enc xs, u.oneCell' = true := by
  intro u hu
  obtain ⟨x, _, hx⟩ := List.mem_flatMap.1 hu
  exact C.one x u hx
theorem cellsOf_append (xs ys : List α) : cellsOf enc (xs ++ ys) = cellsOf enc xs ++ cellsOf enc ys := by simp [cellsOf]
theorem cellsOf_single (x : α) : cellsOf enc [x] = enc x := by simp [cellsOf]
theorem cellsOf_get (C : Codec enc sz) (xs : List α) : ∀ (i : Nat) (x : α), xs[i]? = some x → ∀ j, j < sz → (cellsOf enc xs)[i * sz + j]? = (enc x)[j]? := by
  induction xs with
  | nil => intro i x h; simp at h
  | cons y xs ih =>
    intro i x h j hj
    cases i with
    | zero =>
      simp only [List.getElem?_cons_zero, Option.some.injEq] at h
      subst h
      simp only [cellsOf, List.flatMap_cons, Nat.zero_mul, Nat.zero_add]
      exact List.getElem?_append_left (by rw [C.len]; exact hj)
    | succ i =>
      simp only [List.getElem?_cons_succ] at h
      have := ih i x h j hj
      rw [← this]
      simp only [cellsOf, List.flatMap_cons]
      rw [List.getElem?_append_right (by rw [C.len, Nat.add_mul]; omega), C.len]
      congr 1
      rw [Nat.add_mul]; omega
theorem cellsOf_inv (C : Codec enc sz) (xs : List α) (k : Nat) (u : Value) (h : (cellsOf enc xs)[k]? = some u) : ∃ x, xs[k / sz]? = some x ∧ (enc x)[k % sz]? = some u := by
  have hk : k < xs.length * sz := by rw [← cellsOf_len C]; exact (List.getElem?_eq_some_iff.1 h).1
  have h1 : k / sz < xs.length := (Nat.div_lt_iff_lt_mul C.pos).2 hk
  have h2 : k / sz * sz + k % sz = k := by rw [Nat.mul_comm]; exact Nat.div_add_mod k sz
  refine ⟨xs[k / sz], List.getElem?_eq_getElem h1, ?_⟩
  rw [← cellsOf_get C xs _ _ (List.getElem?_eq_getElem h1) _ (Nat.mod_lt _ C.pos), h2, h]

/-- The row of a list lies at block b from offset o on. -/
def RowAt (w : World) (b o : Nat) (enc : α → List Value) (sz : Nat) (xs : List α) : Prop :=
  ∀ i x, xs[i]? = some x → ∀ j u, (enc x)[j]? = some u → w.cell? ⟨b, o + i * sz + j, none⟩ = some u

/-- The value v is a slice below block B that reads as the list xs. -/
def Rd (w : World) (B : Nat) (enc : α → List Value) (sz : Nat) (v : Value) (xs : List α) : Prop :=
  ∃ (p : Option Addr) (cap : Nat), v = .slice p xs.length cap ∧ xs.length ≤ cap ∧ cap ≤ maxLen ∧ (p = none → cap = 0) ∧
    ∀ a, p = some a → 0 < xs.length → ∃ b o, a = ⟨b, o, none⟩ ∧ b < B ∧ RowAt w b o enc sz xs

/-- The call's own slice, from block base on. -/
def Own (w : World) (base : Nat) (e : TypeId) (enc : α → List Value) (sz : Nat) (v : Value) (xs : List α) : Prop :=
  w.ownsRow base e sz v xs.length (cellsOf enc xs)

theorem RowAt.below {w w' : World} {B b o : Nat} {xs : List α} (h : RowAt w b o enc sz xs) (hb : Below B w w') (hB : b < B) : RowAt w' b o enc sz xs :=
  fun i x hx j u hu => (hb.cell (p := ⟨b, _, none⟩) hB).trans (h i x hx j u hu)

theorem Rd.below {w w' : World} {B B' : Nat} {v : Value} {xs : List α} (h : Rd w B enc sz v xs) (hb : Below B w w') (hB : B ≤ B') : Rd w' B' enc sz v xs := by
  obtain ⟨p, cap, h1, h2, h3, h4, h5⟩ := h
  refine ⟨p, cap, h1, h2, h3, h4, fun a ha h0 => ?_⟩
  obtain ⟨b, o, e, hb', hr⟩ := h5 a ha h0
  exact ⟨b, o, e, by omega, hr.below hb hb'⟩
theorem Rd.drewN {w : World} {B : Nat} {v : Value} {xs : List α} (h : Rd w B enc sz v xs) (n : Nat) : Rd (w.drewN n) B enc sz v xs := h
theorem Rd.nil (w : World) (B : Nat) : Rd w B enc sz (.slice none 0 0) ([] : List α) := ⟨none, 0, rfl, Nat.le_refl _, Nat.zero_le _, fun _ => rfl, fun a h _ => by cases h⟩
theorem Rd.mono {w : World} {B B' : Nat} {v : Value} {xs : List α} (h : Rd w B enc sz v xs) (hB : B ≤ B') : Rd w B' enc sz v xs := by
  obtain ⟨p, cap, h1, h2, h3, h4, h5⟩ := h
  refine ⟨p, cap, h1, h2, h3, h4, fun a ha h0 => ?_⟩
  obtain ⟨b, o, e, hb', hr⟩ := h5 a ha h0
  exact ⟨b, o, e, by omega, hr⟩

theorem Own.nil (w : World) (base : Nat) (e : TypeId) : Own w base e enc sz (.slice none 0 0) ([] : List α) := World.ownsRow_nil w base e sz
theorem Own.lt {w : World} {base : Nat} {e : TypeId} {v : Value} {xs : List α} (h : Own w base e enc sz v xs) : ∀ k, v.ownBlock = some k → base ≤ k ∧ k < w.heap.size := World.ownsRow.lt h

/-- What is owned can be read. -/
theorem Own.rd (C : Codec enc sz) {w : World} {base : Nat} {e : TypeId} {v : Value} {xs : List α} (h : Own w base e enc sz v xs) : Rd w w.heap.size enc sz v xs := by
  have hlt := h.lt
  obtain ⟨hl, h⟩ := h
  rcases h with ⟨rfl, hn⟩ | ⟨g, cap, cur, rfl, hg, hh, hnc, hcm, hcs, ht⟩
  · have : xs = [] := List.eq_nil_of_length_eq_zero hn
    subst this
    exact Rd.nil w _
  · refine ⟨_, cap, rfl, hnc, hcm, (fun e => by cases e), fun a ha _ => ?_⟩
    cases ha
    refine ⟨g, 0, rfl, (hlt g rfl).2, fun i x hx j u hu => ?_⟩
    have hj : j < sz := by rw [← C.len x]; exact (List.getElem?_eq_some_iff.1 hu).1
    have h1 := cellsOf_get C xs i x hx j hj
    have h2 : w.cell? ((⟨g, 0, none⟩ : Addr).add (i * sz + j)) = some u :=
      World.ownsRow.cells (w := w) (base := base) (e := e) (size := sz) (n := xs.length) (xs := cellsOf enc xs) ⟨hl, .inr ⟨g, cap, cur, rfl, hg, hh, hnc, hcm, hcs, ht⟩⟩ rfl _ u (h1.trans hu)
    rw [add_eq] at h2
    simpa [Nat.add_assoc] using h2
theorem Own.below {w w' : World} {base B : Nat} {e : TypeId} {v : Value} {xs : List α} (h : Own w base e enc sz v xs) (hb : Below B w w') (hB : w.heap.size ≤ B) : Own w' base e enc sz v xs := by
  have hlt := h.lt
  obtain ⟨hl, h⟩ := h
  refine ⟨hl, ?_⟩
  rcases h with h | ⟨g, cap, cur, rfl, hg, hh, r⟩
  · exact .inl h
  · exact .inr ⟨g, cap, cur, rfl, hg, (hb.block g (by have := (hlt g rfl).2; omega)).trans hh, r⟩
theorem Own.kept {w w' : World} {base : Nat} {e : TypeId} {v : Value} {xs : List α} {row : Option Nat} (h : Own w base e enc sz v xs) (hg : w.grownBy w' row) (hne : v.ownBlock = none ∨ v.ownBlock ≠ row) : Own w' base e enc sz v xs := World.ownsRow.kept h hg hne
theorem Own.alloc {w : World} {base : Nat} {e : TypeId} {v : Value} {xs : List α} (h : Own w base e enc sz v xs) (o : Obj) : Own (w.alloc o) base e enc sz v xs := World.ownsRow.alloc h o
theorem Own.mono {w : World} {base base' : Nat} {e : TypeId} {v : Value} {xs : List α} (h : Own w base e enc sz v xs) (hb : base' ≤ base) : Own w base' e enc sz v xs := by
  obtain ⟨hl, h⟩ := h
  refine ⟨hl, ?_⟩
  rcases h with h | ⟨g, cap, cur, rfl, hg, r⟩
  · exact .inl h
  · exact .inr ⟨g, cap, cur, rfl, by omega, r⟩
theorem Own.len {w : World} {base : Nat} {e : TypeId} {v : Value} {xs : List α} (h : Own w base e enc sz v xs) : ∃ p cap, v = .slice p xs.length cap ∧ xs.length ≤ cap ∧ cap ≤ maxLen := by
  obtain ⟨_, h⟩ := h
  rcases h with ⟨rfl, hn⟩ | ⟨g, cap, cur, rfl, hg, hh, hnc, hcm, _⟩
  · exact ⟨none, 0, by rw [hn], by omega, Nat.zero_le _⟩
  · exact ⟨_, cap, rfl, hnc, hcm⟩

/-- What an append wants of its source. -/
theorem RowAt.news {w : World} {b o : Nat} {xs : List α} (C : Codec enc sz) (h : RowAt w b o enc sz xs) : ∀ j u, (cellsOf enc xs)[j]? = some u → w.cell? ((⟨b, o, none⟩ : Addr).add j) = some u := by
  intro j u hu
  obtain ⟨x, hx, hj⟩ := cellsOf_inv C xs j u hu
  have := h _ x hx _ u hj
  rw [Nat.add_assoc, show j / sz * sz + j % sz = j from by rw [Nat.mul_comm]; exact Nat.div_add_mod j sz] at this
  rw [add_eq]
  exact this
theorem RowAt.drop {w : World} {b o : Nat} {xs : List α} (h : RowAt w b o enc sz xs) (k : Nat) : RowAt w b (o + k * sz) enc sz (xs.drop k) := by
  intro i x hx j u hu
  rw [List.getElem?_drop] at hx
  have := h _ x hx j u hu
  rw [Nat.add_mul] at this
  rw [Nat.add_assoc o]
  exact this
theorem RowAt.take {w : World} {b o : Nat} {xs : List α} (h : RowAt w b o enc sz xs) (k : Nat) : RowAt w b o enc sz (xs.take k) := by
  intro i x hx j u hu
  rw [List.getElem?_take] at hx
  split at hx
  · exact h i x hx j u hu
  · cases hx
/-- A slice of a slice. -/
theorem Rd.sliced {w : World} {B : Nat} {a : Option Addr} {n cap : Nat} {xs : List α} (h : Rd w B enc sz (.slice a n cap) xs) (l : Nat) (hl : l ≤ n) : Rd w B enc sz (sliced a l n cap sz) (xs.drop l) := by
  obtain ⟨p, c, hv, h1, h2, h3, h4⟩ := h
  simp only [Value.slice.injEq] at hv
  obtain ⟨rfl, rfl, rfl⟩ := hv
  refine ⟨if cap = l then a else a.map (·.add (l * sz)), cap - l, by simp [Go.sliced, List.length_drop], by simp only [List.length_drop]; omega, by omega, fun hn => ?_, fun ad ha h0 => ?_⟩
  · have hp : a = none := by
      split at hn
      · exact hn
      · simpa using hn
    have := h3 hp
    omega
  · split at ha
    · rename_i e
      rw [List.length_drop] at h0
      obtain ⟨b, o, rfl, hb, hr⟩ := h4 ad ha (by omega)
      refine ⟨b, o, rfl, hb, fun i x hx j u hu => ?_⟩
      have := (List.getElem?_eq_some_iff.1 hx).1
      simp only [List.length_drop] at this
      omega
    · cases a with
      | none => simp at ha
      | some a' =>
        rw [List.length_drop] at h0
        obtain ⟨b, o, rfl, hb, hr⟩ := h4 a' rfl (by omega)
        simp only [Option.map_some, Option.some.injEq, add_eq] at ha
        exact ⟨b, o + l * sz, ha.symm, hb, hr.drop l⟩

theorem slice_from {P : Program} {t e : TypeId} {i : TypeInfo} (ht : P.underlying t = some (.slice e)) (hi : P.info? e = some i) (hsz : i.size = sz) {w : World} {B : Nat} {a : Option Addr} {n cap : Nat} {xs : List α} (h : Rd w B enc sz (.slice a n cap) xs) (l : Nat) (hl : l ≤ n) :
    ∃ v, (∀ W, (Instr.sliceAt t (.slice a n cap) (some (.int .i64 l)) none none).run P W = .ok v W) ∧ Rd w B enc sz v (xs.drop l) := by
  refine ⟨_, fun W => ?_, h.sliced l hl⟩
  have he : P.elem t = e := by simp [Program.elem, ht]
  have ht' : P.underlying t = some (.slice (P.elem t)) := by rw [he]; exact ht
  rw [run_sliceAt_slice _ _ _ _ _ _ ht', run_slice_l W t a n cap ht' .i64 l (by omega) (by omega), he]
  simp [sizeOf, typeInfo, hi, hsz, Result.andThen]
end
end Go.Proofs.Ythgkgjcnmahacaa
