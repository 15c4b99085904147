import Derived.Test.YthgkgjcnmahacaaSk02
import Derived.Test.YthgkgjcnmahacaaSk00
import Derived.Deep.RegionLaw
import Derived.Test.YthgkgjcnmahacaaSk01
import Derived.Test.YthgkgjcnmahacaaSk03
section
/- Trees that lie in the call's own memory, each part by itself. -/
set_option linter.unusedSimpArgs false
set_option linter.unusedVariables false
namespace Go.Proofs.Ythgkgjcnmahacaa
open Go.RowKit Go.OpenShut

section
variable {α : Type} {e : TypeId} {enc : α → List Value} {sz : Nat}
theorem Own.same {w w' : World} {base : Nat} {v : Value} {xs : List α} (h : Own w base e enc sz v xs) (hk : ∀ k, v.ownBlock = some k → w'.heap[k]? = w.heap[k]?) : Own w' base e enc sz v xs := by
  obtain ⟨hl, h⟩ := h
  refine ⟨hl, ?_⟩
  rcases h with h | ⟨g, cap, cur, rfl, hg, hh, r⟩
  · exact .inl h
  · exact .inr ⟨g, cap, cur, rfl, hg, (hk g rfl).trans hh, r⟩
end

/-- A whole value stored into a list of the call's own. -/
theorem Own.storedL {w : World} {base : Nat} {g n cap : Nat} {xs : List RV} (h : Own w base 25 encV 5 (.slice (some ⟨g, 0, none⟩) n cap) xs) {k : Nat} {x : RV} (hx : xs[k]? = some x) (q : RV) :
    Own (((((w.setCell ⟨g, k * 5, none⟩ (.int .i64 q.k)).setCell ⟨g, k * 5 + 1, none⟩ (.int .i64 q.n)).setCell ⟨g, k * 5 + 2, none⟩ (.string q.s)).setCell ⟨g, k * 5 + 3, none⟩ (.slice q.pl q.nl q.cl)).setCell ⟨g, k * 5 + 4, none⟩ (.slice q.pm q.nm q.cm)) base 25 encV 5 (.slice (some ⟨g, 0, none⟩) n cap) (xs.set k q) ∧
    w.grownBy (((((w.setCell ⟨g, k * 5, none⟩ (.int .i64 q.k)).setCell ⟨g, k * 5 + 1, none⟩ (.int .i64 q.n)).setCell ⟨g, k * 5 + 2, none⟩ (.string q.s)).setCell ⟨g, k * 5 + 3, none⟩ (.slice q.pl q.nl q.cl)).setCell ⟨g, k * 5 + 4, none⟩ (.slice q.pm q.nm q.cm)) (some g) := by
  have hk := (List.getElem?_eq_some_iff.1 hx).1
  have gs : ∀ (ys : List RV) (y : RV), k < ys.length → (ys.set k y)[k]? = some y := fun ys y hy => by simp [List.getElem?_set, hy]
  have s1 := Own.storedAt codecV h (j := 0) (y := { x with k := q.k }) (u := .int .i64 q.k) hx (by decide) rfl
  have s2 := Own.storedAt codecV s1.1 (j := 1) (y := { x with k := q.k, n := q.n }) (u := .int .i64 q.n) (gs _ _ hk) (by decide) rfl
  have s3 := Own.storedAt codecV s2.1 (j := 2) (y := { x with k := q.k, n := q.n, s := q.s }) (u := .string q.s) (gs _ _ (by simpa using hk)) (by decide) rfl
  have s4 := Own.storedAt codecV s3.1 (j := 3) (y := { x with k := q.k, n := q.n, s := q.s, pl := q.pl, nl := q.nl, cl := q.cl }) (u := .slice q.pl q.nl q.cl) (gs _ _ (by simpa using hk)) (by decide) rfl
  have s5 := Own.storedAt codecV s4.1 (j := 4) (y := q) (u := .slice q.pm q.nm q.cm) (gs _ _ (by simpa using hk)) (by decide) rfl
  simp only [List.set_set, Nat.add_zero] at s5 s4 s3 s2 s1
  exact ⟨s5.1, (((s1.2.trans s2.2).trans s3.2).trans s4.2).trans s5.2⟩

/-- The cells r read as the tree t; its lists are the call's own, each in a block of its own; all blocks are among S. -/
inductive LoneV (w : World) : (Nat → Prop) → JV → RV → Prop
  | mk {S : Nat → Prop} {r : RV} {l : List JV} {m : List (ByteArray × JV)} {rs : List RV} {rms : List RM} (F : Nat ⊕ Nat → Nat → Prop)
      (hl : Own w 0 25 encV 5 (.slice r.pl r.nl r.cl) rs) (hm : Own w 0 90 encM 6 (.slice r.pm r.nm r.cm) rms)
      (sl : ∀ k, (Value.slice r.pl r.nl r.cl).ownBlock = some k → S k) (sm : ∀ k, (Value.slice r.pm r.nm r.cm).ownBlock = some k → S k)
      (dr : ∀ k, (Value.slice r.pl r.nl r.cl).ownBlock = some k → (Value.slice r.pm r.nm r.cm).ownBlock ≠ some k)
      (el : l.length = rs.length) (em : m.length = rms.length)
      (cn : ∀ (i : Nat) (p : ByteArray × JV) (q : RM), m[i]? = some p → rms[i]? = some q → p.1 = q.name)
      (cl : ∀ (i : Nat) (t : JV) (q : RV), l[i]? = some t → rs[i]? = some q → LoneV w (F (.inl i)) t q)
      (cm : ∀ (i : Nat) (p : ByteArray × JV) (q : RM), m[i]? = some p → rms[i]? = some q → LoneV w (F (.inr i)) p.2 q.v)
      (ff : ∀ a k, F a k → S k ∧ (Value.slice r.pl r.nl r.cl).ownBlock ≠ some k ∧ (Value.slice r.pm r.nm r.cm).ownBlock ≠ some k)
      (dd : ∀ a b k, F a k → F b k → a = b) : LoneV w S (.mk r.k r.n r.s l m) r

theorem LoneV.same {w w' : World} {S : Nat → Prop} {t : JV} {r : RV} (h : LoneV w S t r) (hk : ∀ k, S k → w'.heap[k]? = w.heap[k]?) : LoneV w' S t r := by
  induction h with
  | mk F hl hm sl sm dr el em cn cl cm ff dd ih1 ih2 =>
    exact .mk F (hl.same fun k e => hk k (sl k e)) (hm.same fun k e => hk k (sm k e)) sl sm dr el em cn
      (fun i t q h1 h2 => ih1 i t q h1 h2 fun k hf => hk k (ff _ k hf).1) (fun i p q h1 h2 => ih2 i p q h1 h2 fun k hf => hk k (ff _ k hf).1) ff dd
theorem LoneV.mono {w : World} {S S' : Nat → Prop} {t : JV} {r : RV} (h : LoneV w S t r) (hs : ∀ k, S k → S' k) : LoneV w S' t r := by
  cases h with
  | mk F hl hm sl sm dr el em cn cl cm ff dd =>
    exact .mk F hl hm (fun k e => hs k (sl k e)) (fun k e => hs k (sm k e)) dr el em cn cl cm (fun a k hf => ⟨hs k (ff a k hf).1, (ff a k hf).2⟩) dd
theorem LoneV.under {w w' : World} {S : Nat → Prop} {B : Nat} {t : JV} {r : RV} (h : LoneV w S t r) (hb : Below B w w') (hs : ∀ k, S k → k < B) : LoneV w' S t r := h.same fun k hk => hb.block k (hs k hk)
theorem LoneV.tree {w : World} {S : Nat → Prop} {t : JV} {r : RV} (h : LoneV w S t r) : TreeOf w w.heap.size t r := by
  induction h with
  | mk F hl hm sl sm dr el em cn cl cm ff dd ih1 ih2 => exact .mk (hl.rd codecV) el ih1 (hm.rd codecM) em cn ih2
/-- Blocks that are new behind the call. -/
def Fresh (w w' : World) (k : Nat) : Prop := w.heap.size ≤ k ∧ k < w'.heap.size

/-- A value in a box, its lists the call's own, its parts in blocks of their own. -/
structure Parts (W : World) (b0 g : Nat) (D : Nat ⊕ Nat → Prop) (l : List JV) (m : List (ByteArray × JV)) (ds : List RV) (dms : List RM) (r : RV) (F : Nat ⊕ Nat → Nat → Prop) : Prop where
  box : VAt W g r
  ownL : Own W b0 25 encV 5 (.slice r.pl r.nl r.cl) ds
  ownM : Own W b0 90 encM 6 (.slice r.pm r.nm r.cm) dms
  bL : ∀ k, (Value.slice r.pl r.nl r.cl).ownBlock = some k → k ≠ g
  bM : ∀ k, (Value.slice r.pm r.nm r.cm).ownBlock = some k → k ≠ g
  dr : ∀ k, (Value.slice r.pl r.nl r.cl).ownBlock = some k → (Value.slice r.pm r.nm r.cm).ownBlock ≠ some k
  los : b0 ≤ W.heap.size
  el : l.length = ds.length
  em : m.length = dms.length
  cn : ∀ (i : Nat) (p : ByteArray × JV) (q : RM), m[i]? = some p → dms[i]? = some q → p.1 = q.name
  cl : ∀ (i : Nat) (t : JV) (q : RV), D (.inl i) → l[i]? = some t → ds[i]? = some q → LoneV W (F (.inl i)) t q
  cm : ∀ (i : Nat) (p : ByteArray × JV) (q : RM), D (.inr i) → m[i]? = some p → dms[i]? = some q → LoneV W (F (.inr i)) p.2 q.v
  ff : ∀ a k, F a k → (b0 ≤ k ∧ k < W.heap.size) ∧ k ≠ g ∧ (Value.slice r.pl r.nl r.cl).ownBlock ≠ some k ∧ (Value.slice r.pm r.nm r.cm).ownBlock ≠ some k
  dd : ∀ a b k, F a k → F b k → a = b

theorem Parts.drewN {W : World} {b0 g : Nat} {D : Nat ⊕ Nat → Prop} {l : List JV} {m : List (ByteArray × JV)} {ds : List RV} {dms : List RM} {r : RV} {F : Nat ⊕ Nat → Nat → Prop} (h : Parts W b0 g D l m ds dms r F) (n : Nat) : Parts (W.drewN n) b0 g D l m ds dms r F :=
  ⟨h.box, h.ownL, h.ownM, h.bL, h.bM, h.dr, h.los, h.el, h.em, h.cn, fun i t q h1 h2 h3 => (h.cl i t q h1 h2 h3).same fun _ _ => rfl, fun i t q h1 h2 h3 => (h.cm i t q h1 h2 h3).same fun _ _ => rfl, h.ff, h.dd⟩

/-- Behind a call that changed nothing. -/
theorem Parts.below {W W' : World} {b0 g : Nat} {D : Nat ⊕ Nat → Prop} {l : List JV} {m : List (ByteArray × JV)} {ds : List RV} {dms : List RM} {r : RV} {F : Nat ⊕ Nat → Nat → Prop} (h : Parts W b0 g D l m ds dms r F) (hb : Below W.heap.size W W') : Parts W' b0 g D l m ds dms r F :=
  have hs := hb.size
  ⟨h.box.under hb h.box.lt, h.ownL.below hb (Nat.le_refl _), h.ownM.below hb (Nat.le_refl _), h.bL, h.bM, h.dr, Nat.le_trans h.los hs, h.el, h.em, h.cn, fun i t q h1 h2 h3 => (h.cl i t q h1 h2 h3).under hb fun k hk => (h.ff _ k hk).1.2, fun i t q h1 h2 h3 => (h.cm i t q h1 h2 h3).under hb fun k hk => (h.ff _ k hk).1.2, fun a k hk => ⟨⟨(h.ff a k hk).1.1, Nat.lt_of_lt_of_le (h.ff a k hk).1.2 hs⟩, (h.ff a k hk).2⟩, h.dd⟩

theorem get_set_ne {α : Type} (l : List α) {i j : Nat} (x : α) (h : i ≠ j) : (l.set j x)[i]? = l[i]? := by rw [List.getElem?_set_ne (fun e => h e.symm)]

/-- The tree of a part, new, laid into the list of values. -/
theorem Parts.setL {W W1 W2 : World} {b0 g : Nat} {D : Nat ⊕ Nat → Prop} {l : List JV} {m : List (ByteArray × JV)} {ds : List RV} {dms : List RM} {r : RV} {F : Nat ⊕ Nat → Nat → Prop} (h : Parts W b0 g D l m ds dms r F) (hb : Below W.heap.size W W1) {u : JV} {q : RV} (hu : LoneV W1 (Fresh W W1) u q) {j g2 : Nat}
    (hg2 : (Value.slice r.pl r.nl r.cl).ownBlock = some g2) (ho : Own W2 b0 25 encV 5 (.slice r.pl r.nl r.cl) (ds.set j q)) (hg : W1.grownBy W2 (some g2)) (hj : j < ds.length) :
    Parts W2 b0 g (fun a => D a ∨ a = .inl j) (l.set j u) m (ds.set j q) dms r (fun a k => if a = .inl j then Fresh W W1 k else F a k) := by
  have h1 := h.below hb
  have hs := hg.size
  have hbs := hb.size
  have h4 := h.bL g2 hg2
  have h5 := (h.ownL.lt g2 hg2).2
  have h6 := h.box.lt
  have h7 := h.ownL.lt
  have h8 := h.ownM.lt
  have h9 := h.los
  have hsame : ∀ k, k ≠ g2 → k < W1.heap.size → W2.heap[k]? = W1.heap[k]? := fun k hk hk1 => hg.block k hk1 (fun e => hk (by cases e; rfl))
  have hF : ∀ a k, F a k → W2.heap[k]? = W1.heap[k]? := fun a k hk => hsame k (fun e => (h.ff a k hk).2.2.1 (by rw [hg2, e])) (h1.ff a k hk).1.2
  have hQ : ∀ k, Fresh W W1 k → W2.heap[k]? = W1.heap[k]? := fun k hk => hsame k (fun e => by have := hk.1; omega) hk.2
  refine ⟨(hsame g (fun e => h4 e.symm) h1.box.lt).trans h1.box, ho, h1.ownM.same fun k e => hsame k (fun e' => h.dr g2 hg2 (by rw [← e', e])) (h1.ownM.lt k e).2, h.bL, h.bM, h.dr, Nat.le_trans h1.los hs, by rw [List.length_set, List.length_set]; exact h.el, h.em, h.cn, ?_, ?_, ?_, ?_⟩
  · intro i t x hd ht hx
    by_cases hij : i = j
    · subst hij
      rw [List.getElem?_set_self (by rw [h.el]; exact hj)] at ht
      rw [List.getElem?_set_self hj] at hx
      cases ht; cases hx
      simp only [if_true]
      exact hu.same hQ
    · rw [get_set_ne _ _ hij] at ht hx
      have hne : (Sum.inl i : Nat ⊕ Nat) ≠ .inl j := fun e => hij (Sum.inl.inj e)
      simp only [if_neg hne]
      exact (h1.cl i t x (hd.resolve_right hne) ht hx).same (hF _)
  · intro i p x hd ht hx
    have hne : (Sum.inr i : Nat ⊕ Nat) ≠ .inl j := fun e => by cases e
    simp only [if_neg hne]
    exact (h1.cm i p x (hd.resolve_right hne) ht hx).same (hF _)
  · intro a k hk
    split at hk
    · exact ⟨⟨Nat.le_trans h.los hk.1, Nat.lt_of_lt_of_le hk.2 hs⟩, fun e => by have := hk.1; omega, fun e => by have := hk.1; have := (h7 k e).2; omega, fun e => by have := hk.1; have := (h8 k e).2; omega⟩
    · exact ⟨⟨(h1.ff a k hk).1.1, Nat.lt_of_lt_of_le (h1.ff a k hk).1.2 hs⟩, (h1.ff a k hk).2⟩
  · intro a b k ha hb'
    split at ha <;> split at hb'
    · rename_i e1 e2; rw [e1, e2]
    · exact absurd (h.ff b k hb').1.2 (by have := ha.1; omega)
    · exact absurd (h.ff a k ha).1.2 (by have := hb'.1; omega)
    · exact h.dd a b k ha hb'

/-- The tree of a part, new, laid into the list of members. -/
theorem Parts.setM {W W1 W2 : World} {b0 g : Nat} {D : Nat ⊕ Nat → Prop} {l : List JV} {m : List (ByteArray × JV)} {ds : List RV} {dms : List RM} {r : RV} {F : Nat ⊕ Nat → Nat → Prop} (h : Parts W b0 g D l m ds dms r F) (hb : Below W.heap.size W W1) {u : JV} {q : RV} (hu : LoneV W1 (Fresh W W1) u q) {j g2 : Nat} {p : ByteArray × JV} {x : RM}
    (hg2 : (Value.slice r.pm r.nm r.cm).ownBlock = some g2) (hp : m[j]? = some p) (hx : dms[j]? = some x) (ho : Own W2 b0 90 encM 6 (.slice r.pm r.nm r.cm) (dms.set j ⟨x.name, q⟩)) (hg : W1.grownBy W2 (some g2)) :
    Parts W2 b0 g (fun a => D a ∨ a = .inr j) l (m.set j (p.1, u)) ds (dms.set j ⟨x.name, q⟩) r (fun a k => if a = .inr j then Fresh W W1 k else F a k) := by
  have h1 := h.below hb
  have hs := hg.size
  have hbs := hb.size
  have hj : j < dms.length := (List.getElem?_eq_some_iff.1 hx).1
  have h4 := h.bM g2 hg2
  have h5 := (h.ownM.lt g2 hg2).2
  have h6 := h.box.lt
  have h7 := h.ownL.lt
  have h8 := h.ownM.lt
  have h9 := h.los
  have hsame : ∀ k, k ≠ g2 → k < W1.heap.size → W2.heap[k]? = W1.heap[k]? := fun k hk hk1 => hg.block k hk1 (fun e => hk (by cases e; rfl))
  have hF : ∀ a k, F a k → W2.heap[k]? = W1.heap[k]? := fun a k hk => hsame k (fun e => (h.ff a k hk).2.2.2 (by rw [hg2, e])) (h1.ff a k hk).1.2
  have hQ : ∀ k, Fresh W W1 k → W2.heap[k]? = W1.heap[k]? := fun k hk => hsame k (fun e => by have := hk.1; omega) hk.2
  refine ⟨(hsame g (fun e => h4 e.symm) h1.box.lt).trans h1.box, h1.ownL.same fun k e => hsame k (fun e' => h.dr k e (by rw [e', hg2])) (h1.ownL.lt k e).2, ho, h.bL, h.bM, h.dr, Nat.le_trans h1.los hs, h.el, by rw [List.length_set, List.length_set]; exact h.em, ?_, ?_, ?_, ?_, ?_⟩
  · intro i p' x' ht hx'
    by_cases hij : i = j
    · subst hij
      rw [List.getElem?_set_self (by rw [h.em]; exact hj)] at ht
      rw [List.getElem?_set_self hj] at hx'
      cases ht; cases hx'
      exact h.cn i p x hp hx
    · rw [get_set_ne _ _ hij] at ht hx'
      exact h.cn i p' x' ht hx'
  · intro i t x' hd ht hx'
    have hne : (Sum.inl i : Nat ⊕ Nat) ≠ .inr j := fun e => by cases e
    simp only [if_neg hne]
    exact (h1.cl i t x' (hd.resolve_right hne) ht hx').same (hF _)
  · intro i p' x' hd ht hx'
    by_cases hij : i = j
    · subst hij
      rw [List.getElem?_set_self (by rw [h.em]; exact hj)] at ht
      rw [List.getElem?_set_self hj] at hx'
      cases ht; cases hx'
      simp only [if_true]
      exact hu.same hQ
    · rw [get_set_ne _ _ hij] at ht hx'
      have hne : (Sum.inr i : Nat ⊕ Nat) ≠ .inr j := fun e => hij (Sum.inr.inj e)
      simp only [if_neg hne]
      exact (h1.cm i p' x' (hd.resolve_right hne) ht hx').same (hF _)
  · intro a k hk
    split at hk
    · exact ⟨⟨Nat.le_trans h.los hk.1, Nat.lt_of_lt_of_le hk.2 hs⟩, fun e => by have := hk.1; omega, fun e => by have := hk.1; have := (h7 k e).2; omega, fun e => by have := hk.1; have := (h8 k e).2; omega⟩
    · exact ⟨⟨(h1.ff a k hk).1.1, Nat.lt_of_lt_of_le (h1.ff a k hk).1.2 hs⟩, (h1.ff a k hk).2⟩
  · intro a b k ha hb'
    split at ha <;> split at hb'
    · rename_i e1 e2; rw [e1, e2]
    · exact absurd (h.ff b k hb').1.2 (by have := ha.1; omega)
    · exact absurd (h.ff a k ha).1.2 (by have := hb'.1; omega)
    · exact h.dd a b k ha hb'

/-- A value all of whose parts are the call's own. -/
theorem Parts.whole {W : World} {b0 g : Nat} {D : Nat ⊕ Nat → Prop} {l : List JV} {m : List (ByteArray × JV)} {ds : List RV} {dms : List RM} {r : RV} {F : Nat ⊕ Nat → Nat → Prop} (h : Parts W b0 g D l m ds dms r F) (hD : ∀ i, (i < l.length → D (.inl i)) ∧ (i < m.length → D (.inr i))) : LoneV W (fun k => b0 ≤ k ∧ k < W.heap.size) (.mk r.k r.n r.s l m) r :=
  .mk F (h.ownL.mono (Nat.zero_le _)) (h.ownM.mono (Nat.zero_le _)) (fun k e => h.ownL.lt k e) (fun k e => h.ownM.lt k e) h.dr h.el h.em h.cn
    (fun i t q h1 h2 => h.cl i t q ((hD i).1 (List.getElem?_eq_some_iff.1 h1).1) h1 h2) (fun i p q h1 h2 => h.cm i p q ((hD i).2 (List.getElem?_eq_some_iff.1 h1).1) h1 h2)
    (fun a k hk => ⟨(h.ff a k hk).1, (h.ff a k hk).2.2⟩) h.dd
end Go.Proofs.Ythgkgjcnmahacaa
end

section
/- slices.Clone at api.Value, walked: a slice of the call's own with the same elements. -/
set_option linter.unusedSimpArgs false
set_option linter.unusedVariables false
namespace Go.Proofs.Ythgkgjcnmahacaa
open Go.RowKit

set_option maxRecDepth 100000 in
set_option maxHeartbeats 400000 in
theorem cloneV_any {α : Type} {enc : α → List Value} (C : Codec enc 5) (w : World) (p : Option Addr) (n c : Nat) (xs : List α) (hv : Rd w w.heap.size enc 5 (.slice p n c) xs) (hsz : xs.length * 80 ≤ 140737488355328) :
    Calls Try.prog 75 #[.slice p n c] w fun e w' => ∃ p' c', e = .returned (.slice p' n c') ∧ (p = none ↔ p' = none) ∧ Own w' w.heap.size 25 enc 5 (.slice p' n c') xs ∧ Below w.heap.size w w' := by
  have hn : n = xs.length := by
    obtain ⟨_, _, e, _⟩ := hv
    simp only [Value.slice.injEq] at e; exact e.2.1
  subst hn
  have HS := Lib.hid hsz
  have HV := Lib.hid hv
  cases p with
  | none =>
    have h0 : xs.length = 0 ∧ c = 0 := by
      obtain ⟨p', cap, he, hlc, hcm, hp0, hp⟩ := hv
      simp only [Value.slice.injEq] at he
      obtain ⟨rfl, h1, rfl⟩ := he
      have := hp0 rfl
      omega
    obtain ⟨h0, rfl⟩ := h0
    obtain rfl := List.eq_nil_of_length_eq_zero h0
    have hnil : ∀ W, (Go.binOp .eql 22 (.slice none 0 0) (.slice none 0 0)).run Try.prog W = .ok (.bool true) W := fun W => Lib.run_eql_slice_nil W 22 25 none 0 0 0 0 Try.underlying22
    clear hv
    go_enter Try.func75, Try.ntmps75
    go_wp2
    go_ret
    exact ⟨none, 0, rfl, by simp, Own.nil w _ _, Below.refl _ _⟩
  | some a =>
    have hnil : ∀ W, (Go.binOp .eql 22 (.slice (some a) xs.length c) (.slice none 0 0)).run Try.prog W = .ok (.bool false) W := fun W => Lib.run_eql_slice_nil W 22 25 (some a) xs.length c 0 0 Try.underlying22
    have hO : Own (w.alloc (.cells #[] 25)) w.heap.size 25 enc 5 (.slice (some ⟨w.heap.size, 0, none⟩) 0 0) ([] : List α) := Own.made (Nat.le_refl _)
    have hB0 : Below w.heap.size w (w.alloc (.cells #[] 25)) := (Below.refl _ _).alloc (Nat.le_refl _) _
    have HR := Lib.hid (HV.out.below hB0 (Nat.le_refl _))
    clear hv
    go_enter Try.func75, Try.ntmps75
    go_wp2_with (at_builtin; refine wpList_append_rd slV C (w.alloc (.cells #[] 25)) rfl (.tmp 5) (.tmp 6) rfl (v := .slice (some ⟨w.heap.size, 0, none⟩) 0 0) rfl rfl hO HR.out (by have := HS.out; simp; unfold maxLen; omega) (by have := HS.out; simp; omega) (by simp) ?_; intro v1 w1 ho1 hg1 hat1)
    have hb1 : Below w.heap.size w w1 := Below.appended hB0 hg1 hO (by simp)
    rw [List.nil_append] at ho1
    obtain ⟨p1, c1, rfl, _, _⟩ := ho1.len
    have hp1 : p1 ≠ none := by
      rintro rfl
      rcases hat1 with h | h <;> simp [Value.ownBlock] at h
    go_ret
    refine ⟨p1, c1, rfl, ⟨(fun h => by cases h), (fun h => absurd h hp1)⟩, ho1, hb1⟩
end Go.Proofs.Ythgkgjcnmahacaa
end

section
/- tree.Copy: the same tree, in memory of its own. -/
set_option linter.unusedSimpArgs false
set_option linter.unusedVariables false
namespace Go.Proofs.Ythgkgjcnmahacaa
open Go.RowKit Go.OpenShut

/-- The tree t is answered, in new memory. -/
def NewTree (w : World) (t : JV) (e : Ending) (w' : World) : Prop := ∃ q : RV, e = .returned q.val ∧ LoneV w' (Fresh w w') t q ∧ Below w.heap.size w w'

theorem set_getE {α : Type} {l : List α} {j : Nat} {x : α} (h : l[j]? = some x) : l.set j x = l := by
  apply List.ext_getElem?
  intro i
  by_cases hij : i = j
  · subst hij
    rw [List.getElem?_set_self (List.getElem?_eq_some_iff.1 h).1, h]
  · rw [get_set_ne _ _ hij]
theorem Parts.less {W : World} {b0 g : Nat} {D D' : Nat ⊕ Nat → Prop} {l : List JV} {m : List (ByteArray × JV)} {ds : List RV} {dms : List RM} {r : RV} {F : Nat ⊕ Nat → Nat → Prop} (h : Parts W b0 g D l m ds dms r F) (hD : ∀ a, D' a → D a) : Parts W b0 g D' l m ds dms r F :=
  ⟨h.box, h.ownL, h.ownM, h.bL, h.bM, h.dr, h.los, h.el, h.em, h.cn, fun i t q hd => h.cl i t q (hD _ hd), fun i t q hd => h.cm i t q (hD _ hd), h.ff, h.dd⟩

/-- Copying: the first jl values and the first jm members are copied. -/
structure CopyS (w W : World) (jl jm : Nat) (l : List JV) (m : List (ByteArray × JV)) (rs : List RV) (rms : List RM) (ds : List RV) (dms : List RM) (r : RV) (F : Nat ⊕ Nat → Nat → Prop) : Prop where
  parts : Parts W (w.heap.size + 1 + 1) w.heap.size (fun a => (∃ i, a = .inl i ∧ i < jl) ∨ ∃ i, a = .inr i ∧ i < jm) l m ds dms r F
  rl : ∀ i, jl ≤ i → ds[i]? = rs[i]?
  rm : ∀ i, jm ≤ i → dms[i]? = rms[i]?
  below : Below w.heap.size w W
  out : VAt W (w.heap.size + 1) RV.zero

theorem Parts.drew {W : World} {b0 g : Nat} {D : Nat ⊕ Nat → Prop} {l : List JV} {m : List (ByteArray × JV)} {ds : List RV} {dms : List RM} {r : RV} {F : Nat ⊕ Nat → Nat → Prop} (h : Parts W b0 g D l m ds dms r F) : Parts W.drew b0 g D l m ds dms r F :=
  ⟨h.box, h.ownL, h.ownM, h.bL, h.bM, h.dr, h.los, h.el, h.em, h.cn, fun i t q h1 h2 h3 => (h.cl i t q h1 h2 h3).same fun _ _ => rfl, fun i t q h1 h2 h3 => (h.cm i t q h1 h2 h3).same fun _ _ => rfl, h.ff, h.dd⟩
theorem VAt.set3 {W : World} {g : Nat} {r : RV} (h : VAt W g r) (p : Option Addr) (n c : Nat) : VAt (W.setCell ⟨g, 3, none⟩ (.slice p n c)) g { r with pl := p, nl := n, cl := c } := by
  unfold VAt at h ⊢
  simp [World.setCell, Array.getElem?_modify, h]

theorem CopyS.start {w w1 w2 : World} {b1 : Nat} {k n : Int} {s : ByteArray} {pl pm p' p2 : Option Addr} {nl cl nm cm c' c2 : Nat} {l : List JV} {m : List (ByteArray × JV)} {rs : List RV} {rms : List RM}
    (hA : VAt w2 w.heap.size ⟨k, n, s, pl, nl, cl, pm, nm, cm⟩) (hZ : VAt w2 (w.heap.size + 1) RV.zero) (ho1 : Own w1 b1 25 encV 5 (.slice p' nl c') rs) (hb1 : w.heap.size + 1 + 1 ≤ b1) (ho2 : Own w2 w1.heap.size 90 encM 6 (.slice p2 nm c2) rms)
    (hb2 : Below w1.heap.size w1 w2) (hb : Below w.heap.size w w2) (hw : w.heap.size + 1 + 1 ≤ w1.heap.size) (el : l.length = rs.length) (em : m.length = rms.length) (cn : ∀ (i : Nat) (p : ByteArray × JV) (q : RM), m[i]? = some p → rms[i]? = some q → p.1 = q.name) :
    CopyS w ((w2.setCell ⟨w.heap.size, 3, none⟩ (.slice p' nl c')).setCell ⟨w.heap.size, 4, none⟩ (.slice p2 nm c2)) 0 0 l m rs rms rs rms ⟨k, n, s, p', nl, c', p2, nm, c2⟩ (fun _ _ => False) := by
  have hg : w2.grownBy ((w2.setCell ⟨w.heap.size, 3, none⟩ (.slice p' nl c')).setCell ⟨w.heap.size, 4, none⟩ (.slice p2 nm c2)) (some w.heap.size) := (grownBy_set w2 w.heap.size 3 _).trans (grownBy_set _ w.heap.size 4 _)
  have hsz : ((w2.setCell ⟨w.heap.size, 3, none⟩ (.slice p' nl c')).setCell ⟨w.heap.size, 4, none⟩ (.slice p2 nm c2)).heap.size = w2.heap.size := by simp
  have hs2 := hb2.size
  have l1 := ho1.lt
  have l2 := ho2.lt
  refine ⟨⟨(hA.set3 p' nl c').set4 p2 nm c2, ((ho1.mono hb1).below hb2 (Nat.le_refl _)).kept hg ?_, (ho2.mono hw).kept hg ?_, ?_, ?_, ?_, by omega, el, em, cn, ?_, ?_, ?_, ?_⟩, fun _ _ => rfl, fun _ _ => rfl, ?_, ?_⟩
  · cases h : (Value.slice p' nl c').ownBlock with
    | none => exact .inl rfl
    | some j => exact .inr (fun e => by have := (l1 j h).1; cases e; omega)
  · cases h : (Value.slice p2 nm c2).ownBlock with
    | none => exact .inl rfl
    | some j => exact .inr (fun e => by have := (l2 j h).1; cases e; omega)
  · intro k h; have := l1 k h; omega
  · intro k h; have := l2 k h; omega
  · intro k h h'; have := l1 k h; have := l2 k h'; omega
  · rintro i t q (⟨_, _, h⟩ | ⟨_, _, h⟩) <;> omega
  · rintro i t q (⟨_, _, h⟩ | ⟨_, _, h⟩) <;> omega
  · intro a k h; exact h.elim
  · intro a b k h; exact h.elim
  · exact (hb.setCell (p := ⟨w.heap.size, 3, none⟩) (Nat.le_refl _) _).setCell (p := ⟨w.heap.size, 4, none⟩) (Nat.le_refl _) _
  · exact (hg.block (w.heap.size + 1) (by omega) (fun e => by injection e with e; omega)).trans hZ

theorem CopyS.stepL {w W w1 W2 : World} {j jm : Nat} {l : List JV} {m : List (ByteArray × JV)} {rs ds : List RV} {rms dms : List RM} {r : RV} {F : Nat ⊕ Nat → Nat → Prop} (h : CopyS w W j jm l m rs rms ds dms r F) (hb : Below W.drew.heap.size W.drew w1) {t : JV} {x q : RV} (hq : LoneV w1 (Fresh W.drew w1) t q) (ht : l[j]? = some t) (hx : ds[j]? = some x)
    {g2 : Nat} (hg2 : r.pl = some ⟨g2, 0, none⟩) (ho : Own W2 (w.heap.size + 1 + 1) 25 encV 5 (.slice r.pl r.nl r.cl) (ds.set j q)) (hg : w1.grownBy W2 (some g2)) :
    CopyS w W2 (j + 1) jm l m rs rms (ds.set j q) dms r (fun a k => if a = .inl j then Fresh W.drew w1 k else F a k) := by
  have hob : (Value.slice r.pl r.nl r.cl).ownBlock = some g2 := by rw [hg2]; rfl
  have hp := Parts.setL h.parts.drew hb hq hob ho hg (List.getElem?_eq_some_iff.1 hx).1
  rw [set_getE ht] at hp
  have hg2b := (h.parts.ownL.lt g2 hob).1
  have hsz : W.drew.heap.size = W.heap.size := rfl
  have hbs := hb.size
  have hg2s := (h.parts.ownL.lt g2 hob).2
  refine ⟨hp.less ?_, ?_, h.rm, ?_, ?_⟩
  · rintro a (⟨i, rfl, hi⟩ | hi)
    · rcases Nat.lt_or_ge i j with h1 | h1
      · exact .inl (.inl ⟨i, rfl, h1⟩)
      · exact .inr (by rw [show i = j by omega])
    · exact .inl (.inr hi)
  · intro i hi
    rw [get_set_ne _ _ (by omega)]
    exact h.rl i (by omega)
  · exact (h.below.drew.trans (hb.mono h.below.size)).trans ((Below.refl _ _).grown hg (Nat.le_trans h.below.size hbs) (fun k e => by cases e; omega))
  · have h1 : VAt w1 (w.heap.size + 1) RV.zero := VAt.under (W := W.drew) h.out hb (by have := h.out.lt; omega)
    exact (hg.block (w.heap.size + 1) h1.lt (fun e => by injection e with e; omega)).trans h1

theorem CopyS.stepM {w W w1 W2 : World} {j jl : Nat} {l : List JV} {m : List (ByteArray × JV)} {rs ds : List RV} {rms dms : List RM} {r : RV} {F : Nat ⊕ Nat → Nat → Prop} (h : CopyS w W jl j l m rs rms ds dms r F) (hb : Below W.drew.heap.size W.drew w1) {p : ByteArray × JV} {x : RM} {q : RV} (hq : LoneV w1 (Fresh W.drew w1) p.2 q) (ht : m[j]? = some p) (hx : dms[j]? = some x)
    {g2 : Nat} (hg2 : r.pm = some ⟨g2, 0, none⟩) (ho : Own W2 (w.heap.size + 1 + 1) 90 encM 6 (.slice r.pm r.nm r.cm) (dms.set j ⟨x.name, q⟩)) (hg : w1.grownBy W2 (some g2)) :
    CopyS w W2 jl (j + 1) l m rs rms ds (dms.set j ⟨x.name, q⟩) r (fun a k => if a = .inr j then Fresh W.drew w1 k else F a k) := by
  have hob : (Value.slice r.pm r.nm r.cm).ownBlock = some g2 := by rw [hg2]; rfl
  have hp := Parts.setM h.parts.drew hb hq hob ht hx ho hg
  rw [show (p.1, p.2) = p from rfl, set_getE ht] at hp
  have hg2b := (h.parts.ownM.lt g2 hob).1
  have hsz : W.drew.heap.size = W.heap.size := rfl
  have hbs := hb.size
  have hg2s := (h.parts.ownM.lt g2 hob).2
  refine ⟨hp.less ?_, h.rl, ?_, ?_, ?_⟩
  · rintro a (hi | ⟨i, rfl, hi⟩)
    · exact .inl (.inl hi)
    · rcases Nat.lt_or_ge i j with h1 | h1
      · exact .inl (.inr ⟨i, rfl, h1⟩)
      · exact .inr (by rw [show i = j by omega])
  · intro i hi
    rw [get_set_ne _ _ (by omega)]
    exact h.rm i (by omega)
  · exact (h.below.drew.trans (hb.mono h.below.size)).trans ((Below.refl _ _).grown hg (Nat.le_trans h.below.size hbs) (fun k e => by cases e; omega))
  · have h1 : VAt w1 (w.heap.size + 1) RV.zero := VAt.under (W := W.drew) h.out hb (by have := h.out.lt; omega)
    exact (hg.block (w.heap.size + 1) h1.lt (fun e => by injection e with e; omega)).trans h1

theorem Parts.fin {w W : World} {l : List JV} {m : List (ByteArray × JV)} {ds : List RV} {dms : List RM} {r : RV} {D : Nat ⊕ Nat → Prop} {F : Nat ⊕ Nat → Nat → Prop} (h : Parts W (w.heap.size + 1 + 1) w.heap.size D l m ds dms r F) (hD : ∀ i, (i < l.length → D (.inl i)) ∧ (i < m.length → D (.inr i))) (hb : Below w.heap.size w W) :
    NewTree w (.mk r.k r.n r.s l m) (.returned r.val) (((((W.setCell ⟨w.heap.size + 1, 0, none⟩ (.int .i64 r.k)).setCell ⟨w.heap.size + 1, 1, none⟩ (.int .i64 r.n)).setCell ⟨w.heap.size + 1, 2, none⟩ (.string r.s)).setCell ⟨w.heap.size + 1, 3, none⟩ (.slice r.pl r.nl r.cl)).setCell ⟨w.heap.size + 1, 4, none⟩ (.slice r.pm r.nm r.cm)) := by
  have hg := grownBy_set5 W (w.heap.size + 1) r
  have h1 := h.whole hD
  refine ⟨r, rfl, (h1.same fun k hk => hg.block k hk.2 (fun e => by have := hk.1; injection e with e; omega)).mono fun k hk => ⟨by omega, Nat.lt_of_lt_of_le hk.2 hg.size⟩, Below.stored hb (by omega) r⟩

set_option maxRecDepth 100000 in
set_option maxHeartbeats 4000000 in
theorem copy_any (N : Nat) : ∀ (t : JV) (r : RV) (w : World), SizeOf.sizeOf t ≤ N → TreeOf w w.heap.size t r → t.Ok →
    Calls Try.prog 36 #[r.val] w (NewTree w t) := by
  induction N with
  | zero => intro t r w hN; cases t; simp at hN
  | succ N ih =>
    intro t r w hN ht ot
    cases ht with
    | @mk _ l m rs rms hl el hcl hm em hcn hcm =>
    obtain ⟨k, n, s, pl, nl, cl, pm, nm, cm⟩ := r
    cases ot with
    | mk _ _ _ bl bm okl oks okm =>
    dsimp only [RV.val] at *
    have eL := rd_nlen hl
    have eM := rd_nlen hm
    have HT : Hid (∀ (i : Nat) t q, l[i]? = some t → rs[i]? = some q → ∀ W, Below w.heap.size w W → Calls Try.prog 36 #[q.val] W (NewTree W t)) :=
      fun i t q h1 h2 W hb => ih t q W (by have := JV.lt_l (k := k) (n := n) (s := s) (m := m) h1; omega) ((hcl i t q h1 h2).under hb hb.size) (okl i t h1)
    have HS : Hid (∀ (i : Nat) p q, m[i]? = some p → rms[i]? = some q → ∀ W, Below w.heap.size w W → Calls Try.prog 36 #[q.v.val] W (NewTree W p.2)) :=
      fun i p q h1 h2 W hb => ih p.2 q.v W (by have := JV.lt_m (k := k) (n := n) (s := s) (l := l) h1; omega) ((hcm i p q h1 h2).under hb hb.size) (okm i p h1)
    have HL := Lib.hid hl
    have HM := Lib.hid hm
    have HCN := Lib.hid hcn
    have E1 : Hid (l.length = nl ∧ rs.length = nl) := ⟨by omega, by omega⟩
    have E2 : Hid (m.length = nm ∧ rms.length = nm) := ⟨by omega, by omega⟩
    have hnl : nl ≤ 1759218604390 := by omega
    have hnm : nm ≤ 1466015503658 := by omega
    have hA0 : VAt ((w.alloc (.cells #[.int .i64 k, .int .i64 n, .string s, .slice pl nl cl, .slice pm nm cm] 25)).alloc (.cells #[.int .i64 0, .int .i64 0, .string ⟨#[]⟩, .slice none 0 0, .slice none 0 0] 25)) w.heap.size ⟨k, n, s, pl, nl, cl, pm, nm, cm⟩ := heap_alloc_lt (by simp) (heap_alloc_at rfl)
    have hA1 : VAt ((w.alloc (.cells #[.int .i64 k, .int .i64 n, .string s, .slice pl nl cl, .slice pm nm cm] 25)).alloc (.cells #[.int .i64 0, .int .i64 0, .string ⟨#[]⟩, .slice none 0 0, .slice none 0 0] 25)) (w.heap.size + 1) RV.zero := heap_alloc_at (by simp)
    have hB0 := below2 w (.cells #[.int .i64 k, .int .i64 n, .string s, .slice pl nl cl, .slice pm nm cm] 25) (.cells #[.int .i64 0, .int .i64 0, .string ⟨#[]⟩, .slice none 0 0, .slice none 0 0] 25)
    clear ih hcl hcn hcm hl hm okl oks okm el em bl bm eL eM hN
    go_enter Try.func36, Try.ntmps36
    go_upto_region 1 with fail
    have hws : ((w.alloc (.cells #[.int .i64 k, .int .i64 n, .string s, .slice pl nl cl, .slice pm nm cm] 25)).alloc (.cells #[.int .i64 0, .int .i64 0, .string ⟨#[]⟩, .slice none 0 0, .slice none 0 0] 25)).heap.size = w.heap.size + 1 + 1 := by simp
    obtain ⟨W0, hW0⟩ : ∃ W0, ((w.alloc (.cells #[.int .i64 k, .int .i64 n, .string s, .slice pl nl cl, .slice pm nm cm] 25)).alloc (.cells #[.int .i64 0, .int .i64 0, .string ⟨#[]⟩, .slice none 0 0, .slice none 0 0] 25)) = W0 := ⟨_, rfl⟩
    rw [hW0] at hA0 hA1 hB0 hws ⊢
    clear hW0
    have HWS := Lib.hid hws
    have c3 := hA0.cell 3 rfl
    have c4 := hA0.cell 4 rfl
    dsimp only at c3 c4
    have hz := hA0.lt
    have HA0 := Lib.hid hA0
    have HA1 := Lib.hid hA1
    have HB0 := Lib.hid hB0
    have HAD : Hid (VAt W0.drew w.heap.size ⟨k, n, s, pl, nl, cl, pm, nm, cm⟩) := hA0
    have HZD : Hid (VAt W0.drew (w.heap.size + 1) RV.zero) := hA1
    clear hA0 hA1 hB0 hws
    go_cut [12] from 5 to 12 (fun v wr => v = .pointer (some ⟨w.heap.size, 4, none⟩) ∧ ∃ p' c' p2 c2, Hid (CopyS w wr 0 0 l m rs rms rs rms ⟨k, n, s, p', nl, c', p2, nm, c2⟩ (fun _ _ => False)))
    case first =>
      go_region_law (first
        | (go_simp; go_at_call 75; refine (cloneV_any codecV _ pl nl cl rs (HL.out.below HB0.out.drew HB0.out.size) (by have := E1.out; omega)).mono ?_; rintro e w1 ⟨p', c', rfl, hpn1, ho1, hb1⟩; (have c3' := bcs hb1 hz c3); (have c4' := bcs hb1 hz c4))
        | (go_simp; go_at_call 76; refine (cloneM_any codecM _ pm nm cm rms (HM.out.below (HB0.out.drew.trans (hb1.mono HB0.out.size)) (HB0.out.drew.trans (hb1.mono HB0.out.size)).size) (by have := E2.out; omega)).mono ?_; rintro e w2 ⟨p2, c2, rfl, hpn2, ho2, hb2⟩; (have hA2 := (HAD.out.under hb1 hz).under hb2 (Nat.lt_of_lt_of_le hz hb1.size)); (have d3 := hA2.cell 3 rfl); (have d4 := hA2.cell 4 rfl); (have x3 := hA2.frozen 3); (have x4 := hA2.frozen 4)))
      all_goals go_wp2_with fail
      all_goals (
        go_meet
        exact ⟨rfl, p', c', p2, c2, CopyS.start hA2 (VAt.under (VAt.under (W := W0.drew) HZD.out hb1 HZD.out.lt) hb2 (Nat.lt_of_lt_of_le HZD.out.lt hb1.size)) ho1 (by have := HWS.out; simp; omega) ho2 hb2 ((HB0.out.drew.trans (hb1.mono HB0.out.size)).trans (hb2.mono (Nat.le_trans HB0.out.size hb1.size))) (by have := HWS.out; have := hb1.size; simp at this; omega) (by have := E1.out; omega) (by have := E2.out; omega) HCN.out⟩)
    case rest =>
    obtain ⟨rfl, p', c', p2, c2, hC0⟩ := hcut
    have HC0 := hC0
    have hC0 := HC0.out
    have c3 := hC0.parts.box.cell 3 rfl
    dsimp only at c3
    clear hC0 HA0 HA1 HB0 HAD HZD HWS c4
    go_wp2_with fail
    go_loopw [16] (fun i wr => ∃ (j : Nat) (ds : List RV) (F : Nat ⊕ Nat → Nat → Prop), j ≤ nl ∧ i = .int .i64 j ∧ Hid (CopyS w wr j 0 l m rs rms ds rms ⟨k, n, s, p', nl, c', p2, nm, c2⟩ F)) (fun i _ => nl - (intOf i).toNat)
    case atStart => exact ⟨0, rs, _, Nat.zero_le _, rfl, HC0⟩
    case round =>
      obtain ⟨j, ds, F, hj, rfl, HC⟩ := hrel
      have hbr := HC.out.below
      by_cases hlt : j < nl
      · obtain ⟨tx, htx⟩ : ∃ x, l[j]? = some x := ⟨_, List.getElem?_eq_getElem (by have := E1.out; omega)⟩
        obtain ⟨x, hx⟩ : ∃ x, rs[j]? = some x := ⟨_, List.getElem?_eq_getElem (by have := E1.out; omega)⟩
        have hds : ds[j]? = some x := (HC.out.rl j (Nat.le_refl _)).trans hx
        obtain ⟨g2, e2, e3, hg1, hg2, hcell, hfr⟩ := Own.at codecV HC.out.parts.ownL hds
        dsimp only at e2
        subst e2
        have c3 := HC.out.parts.box.cell 3 rfl
        dsimp only at c3
        have hgb := HC.out.parts.box.lt
        have f0 := hcell 0 _ rfl
        have f1 := hcell 1 _ rfl
        have f2 := hcell 2 _ rfl
        have f3 := hcell 3 _ rfl
        have f4 := hcell 4 _ rfl
        rw [Nat.add_zero] at f0
        have HR := Lib.hid (HT.out j tx x htx hx)
        have hk0 : (0 : Int) ≤ (j : Int) := Int.natCast_nonneg _
        have hk1 : (j : Int) < (nl : Int) := by omega
        have HTX := Lib.hid htx
        have HDS := Lib.hid hds
        have HG1 := Lib.hid hg1
        clear hcell hfr htx hx hds e3 hg1
        go_wp2_with fail
        go_region_law (first
          | (go_simp; go_at_call 36; refine (HR.out _ hbr.drew).mono ?_; rintro e w1 ⟨q, rfl, hq, hb1⟩; (have HP1 := Lib.hid (HC.out.parts.drew.below hb1)); (have c3' := HP1.out.box.cell 3 rfl); dsimp only at c3'; obtain ⟨g3, e4, e5, hg3, hg4, hcell1, hfr1⟩ := Own.at codecV HP1.out.ownL HDS.out; dsimp only at e4; cases e4; (have k0 := hcell1 0 _ rfl); (have k1 := hcell1 1 _ rfl); (have k2 := hcell1 2 _ rfl); (have k3 := hcell1 3 _ rfl); (have k4 := hcell1 4 _ rfl); (have y0 := hfr1 (j * 5)); (have y1 := hfr1 (j * 5 + 1)); (have y2 := hfr1 (j * 5 + 2)); (have y3 := hfr1 (j * 5 + 3)); (have y4 := hfr1 (j * 5 + 4)); rw [Nat.add_zero] at k0; (have HQ := Lib.hid hq); clear hcell1 hfr1 e5 hg3 hg4 hq))
        all_goals (have HS := Lib.hid (Own.storedL HP1.out.ownL HDS.out q))
        all_goals (have HN := Lib.hid (HC.out.stepL hb1 HQ.out HTX.out HDS.out rfl HS.out.1 HS.out.2))
        all_goals go_wp2_with fail
        all_goals (
          go_roundw
          case rel => exact ⟨j + 1, _, _, by omega, by go_num, HN⟩
          case measure => simp [intOf]; omega)
      · obtain rfl : j = nl := by omega
        have c4 := HC.out.parts.box.cell 4 rfl
        dsimp only at c4
        clear HT hbr c3 HC0
        go_wp2_with fail
        go_loopw [33] (fun i wr => ∃ (i2 : Nat) (dms : List RM) (F : Nat ⊕ Nat → Nat → Prop), i2 ≤ nm ∧ i = .int .i64 i2 ∧ Hid (CopyS w wr j i2 l m rs rms ds dms ⟨k, n, s, p', j, c', p2, nm, c2⟩ F)) (fun i _ => nm - (intOf i).toNat)
        case atStart => exact ⟨0, rms, F, Nat.zero_le _, rfl, HC⟩
        case round =>
          obtain ⟨i2, dms, F, hi2, rfl, HC⟩ := hrel
          have hbr := HC.out.below
          by_cases hlt2 : i2 < nm
          · obtain ⟨tx, htx⟩ : ∃ x, m[i2]? = some x := ⟨_, List.getElem?_eq_getElem (by have := E2.out; omega)⟩
            obtain ⟨x, hx⟩ : ∃ x, rms[i2]? = some x := ⟨_, List.getElem?_eq_getElem (by have := E2.out; omega)⟩
            have hds : dms[i2]? = some x := (HC.out.rm i2 (Nat.le_refl _)).trans hx
            obtain ⟨g2, e2, e3, hg1, hg2, hcell, hfr⟩ := Own.at codecM HC.out.parts.ownM hds
            dsimp only at e2
            subst e2
            have c4 := HC.out.parts.box.cell 4 rfl
            dsimp only at c4
            have hgb := HC.out.parts.box.lt
            have f0 := hcell 0 _ rfl
            have f1 := hcell 1 _ rfl
            have f2 := hcell 2 _ rfl
            have f3 := hcell 3 _ rfl
            have f4 := hcell 4 _ rfl
            have f5 := hcell 5 _ rfl
            rw [Nat.add_zero] at f0
            have HR := Lib.hid (HS.out i2 tx x htx hx)
            have hk0 : (0 : Int) ≤ (i2 : Int) := Int.natCast_nonneg _
            have hk1 : (i2 : Int) < (nm : Int) := by omega
            have HTX := Lib.hid htx
            have HDS := Lib.hid hds
            clear hcell hfr htx hx hds e3 hg1
            go_wp2_with fail
            go_region_law (first
              | (go_simp; go_at_call 36; refine (HR.out _ hbr.drew).mono ?_; rintro e w1 ⟨q, rfl, hq, hb1⟩; (have HP1 := Lib.hid (HC.out.parts.drew.below hb1)); (have c4' := HP1.out.box.cell 4 rfl); dsimp only at c4'; obtain ⟨g3, e4, e5, hg3, hg4, hcell1, hfr1⟩ := Own.at codecM HP1.out.ownM HDS.out; dsimp only at e4; cases e4; (have k0 := hcell1 1 _ rfl); (have k1 := hcell1 2 _ rfl); (have k2 := hcell1 3 _ rfl); (have k3 := hcell1 4 _ rfl); (have k4 := hcell1 5 _ rfl); (have y0 := hfr1 (i2 * 6 + 1)); (have y1 := hfr1 (i2 * 6 + 2)); (have y2 := hfr1 (i2 * 6 + 3)); (have y3 := hfr1 (i2 * 6 + 4)); (have y4 := hfr1 (i2 * 6 + 5)); (have HQ := Lib.hid hq); clear hcell1 hfr1 e5 hg3 hg4 hq))
            all_goals (have HST := Lib.hid (Own.storedV HP1.out.ownM HDS.out q))
            all_goals (have HN := Lib.hid (HC.out.stepM hb1 HQ.out HTX.out HDS.out rfl HST.out.1 HST.out.2))
            all_goals go_wp2_with fail
            all_goals (
              go_roundw
              case rel => exact ⟨i2 + 1, _, _, by omega, by go_num, HN⟩
              case measure => simp [intOf]; omega)
          · obtain rfl : i2 = nm := by omega
            have HZ := HC.out.out
            have b0 := HC.out.parts.box.cell 0 rfl
            have b1 := HC.out.parts.box.cell 1 rfl
            have b2 := HC.out.parts.box.cell 2 rfl
            have b3 := HC.out.parts.box.cell 3 rfl
            have b4 := HC.out.parts.box.cell 4 rfl
            have z0 := HZ.cell 0 rfl
            have z1 := HZ.cell 1 rfl
            have z2 := HZ.cell 2 rfl
            have z3 := HZ.cell 3 rfl
            have z4 := HZ.cell 4 rfl
            dsimp only [RV.zero] at b0 b1 b2 b3 b4 z0 z1 z2 z3 z4
            have y0 := HZ.frozen 0
            have y1 := HZ.frozen 1
            have y2 := HZ.frozen 2
            have y3 := HZ.frozen 3
            have y4 := HZ.frozen 4
            have HFI := Lib.hid (HC.out.parts.fin (fun a => ⟨fun h => .inl ⟨a, rfl, by have := E1.out; omega⟩, fun h => .inr ⟨a, rfl, by have := E2.out; omega⟩⟩) HC.out.below)
            have HZZ := Lib.hid (HC.out.out.stored ⟨k, n, s, p', j, c', p2, i2, c2⟩)
            clear HZ HC HS
            go_wp2_with fail
            have q0 := HZZ.out.cell 0 rfl
            have q1 := HZZ.out.cell 1 rfl
            have q2 := HZZ.out.cell 2 rfl
            have q3 := HZZ.out.cell 3 rfl
            have q4 := HZZ.out.cell 4 rfl
            refine bodyPost_ret (v := RV.val ⟨k, n, s, p', j, c', p2, i2, c2⟩) (by simp [results, Try.results36, go_sem, q0, q1, q2, q3, q4]) rfl HFI.out
end Go.Proofs.Ythgkgjcnmahacaa
end

section
/- What sorting a tree means, and a list of members sorted in memory. -/
set_option linter.unusedSimpArgs false
set_option linter.unusedVariables false
namespace Go.Proofs.Ythgkgjcnmahacaa
open Go.RowKit Go.OpenShut

/-- u is t with its members sorted, at every depth. -/
inductive SortOf : JV → JV → Prop
  | mk {k n : Int} {s : ByteArray} {l l' : List JV} {m mm m' : List (ByteArray × JV)} (el : l'.length = l.length) (cl : ∀ (i : Nat) (t u : JV), l[i]? = some t → l'[i]? = some u → SortOf t u)
      (em : mm.length = m.length) (cn : ∀ (i : Nat) (p q : ByteArray × JV), m[i]? = some p → mm[i]? = some q → p.1 = q.1) (cm : ∀ (i : Nat) (p q : ByteArray × JV), m[i]? = some p → mm[i]? = some q → SortOf p.2 q.2)
      (st : IsStable cfJ mm m') : SortOf (.mk k n s l m) (.mk k n s l' m')

theorem LoneV.parts {w : World} {S : Nat → Prop} {t : JV} {r : RV} {b0 : Nat} (h : LoneV w S t r) (hb : ∀ k, S k → b0 ≤ k ∧ k < w.heap.size) (h0 : b0 ≤ w.heap.size) :
    ∃ ds dms F, Parts (w.alloc (.cells #[.int .i64 r.k, .int .i64 r.n, .string r.s, .slice r.pl r.nl r.cl, .slice r.pm r.nm r.cm] 25)) b0 w.heap.size (fun _ => True) t.l t.m ds dms r F ∧ t.k = r.k ∧ t.n = r.n ∧ t.s = r.s := by
  cases h with
  | @mk _ _ l m rs rms F hl hm sl sm dr el em cn cl cm ff dd =>
  have hal : ∀ k, k < w.heap.size → (w.alloc (.cells #[.int .i64 r.k, .int .i64 r.n, .string r.s, .slice r.pl r.nl r.cl, .slice r.pm r.nm r.cm] 25)).heap[k]? = w.heap[k]? := fun k hk => Below.heap_alloc w _ k hk
  have reb : ∀ {α : Type} {e : TypeId} {enc : α → List Value} {sz : Nat} {v : Value} {xs : List α}, Own w 0 e enc sz v xs → (∀ k, v.ownBlock = some k → S k) → Own w b0 e enc sz v xs := by
    intro α e enc sz v xs ho hs
    obtain ⟨hx, ho⟩ := ho
    refine ⟨hx, ?_⟩
    rcases ho with ho | ⟨g, cap, cur, rfl, hg, r⟩
    · exact .inl ho
    · exact .inr ⟨g, cap, cur, rfl, (hb g (hs g rfl)).1, r⟩
  refine ⟨rs, rms, F, ⟨heap_alloc_at rfl, (reb hl sl).alloc _, (reb hm sm).alloc _, fun k e => by have := (hb k (sl k e)).2; omega, fun k e => by have := (hb k (sm k e)).2; omega, dr, by simp; omega, el, em, cn, ?_, ?_, ?_, dd⟩, rfl, rfl, rfl⟩
  · intro i t q _ h1 h2
    exact (cl i t q h1 h2).same fun k hk => hal k (hb k (ff _ k hk).1).2
  · intro i t q _ h1 h2
    exact (cm i t q h1 h2).same fun k hk => hal k (hb k (ff _ k hk).1).2
  · intro a k hk
    have := hb k (ff a k hk).1
    exact ⟨⟨this.1, by simp; omega⟩, by omega, (ff a k hk).2⟩

theorem stable_names {m : List (ByteArray × JV)} {dms ys : List RM} (hs : IsStable cfM dms ys) (em : m.length = dms.length) (cn : ∀ (i : Nat) (p : ByteArray × JV) (q : RM), m[i]? = some p → dms[i]? = some q → p.1 = q.name) :
    ∃ (m' : List (ByteArray × JV)) (σ : List Nat), IsStable cfJ m m' ∧ m'.length = ys.length ∧ σ.Nodup ∧ ∀ (j : Nat) (p : ByteArray × JV) (q : RM), m'[j]? = some p → ys[j]? = some q → ∃ i : Nat, σ[j]? = some i ∧ m[i]? = some p ∧ dms[i]? = some q := by
  obtain ⟨ts, hp, hw, rfl⟩ := hs
  have hmem : ∀ a ∈ ts, dms[a.2]? = some a.1 := fun a ha => by
    have := List.mem_zipIdx' (hp.mem_iff.1 ha)
    exact (List.getElem?_eq_getElem this.1).trans (congrArg some this.2.symm)
  have hmm : ∀ a ∈ ts, ∃ p, m[a.2]? = some p ∧ p.1 = a.1.name := fun a ha => by
    have h1 := hmem a ha
    have h2 : a.2 < m.length := by rw [em]; exact (List.getElem?_eq_some_iff.1 h1).1
    exact ⟨m[a.2], List.getElem?_eq_getElem h2, cn _ _ _ (List.getElem?_eq_getElem h2) h1⟩
  let f : RM × Nat → (ByteArray × JV) × Nat := fun a => ((m[a.2]?).getD (ByteArray.empty, JV.zero), a.2)
  have hz : dms.zipIdx.map f = m.zipIdx := by
    apply List.ext_getElem
    · simp [em]
    · intro i h1 h2
      have h3 : i < m.length := by simpa using h2
      simp [f, h3]
  refine ⟨(ts.map f).map (·.1), ts.map (·.2), ⟨ts.map f, hz ▸ hp.map f, ?_, rfl⟩, by simp, ?_, ?_⟩
  · rw [List.pairwise_map]
    refine hw.imp_of_mem fun {a b} ha hb h => ?_
    obtain ⟨p, h1, h2⟩ := hmm a ha
    obtain ⟨q, h3, h4⟩ := hmm b hb
    have e : ∀ x y : ByteArray × JV, ∀ z v : RM, x.1 = z.name → y.1 = v.name → cfJ x y = cfM z v := fun x y z v h h' => by unfold cfJ cfM; rw [h, h']
    show tlt cfJ (f a) (f b) = true
    unfold tlt at h ⊢
    simp only [f, h1, h3, Option.getD_some]
    rw [e _ _ _ _ h2 h4, e _ _ _ _ h4 h2]
    exact h
  · have h1 : (ts.map (·.2)).Perm (dms.zipIdx.map (·.2)) := hp.map _
    rw [List.zipIdx_map_snd] at h1
    exact h1.nodup_iff.2 (List.nodup_range' ..)
  · intro j p q h1 h2
    rw [List.map_map, List.getElem?_map] at h1
    rw [List.getElem?_map] at h2
    cases ht : ts[j]? with
    | none => rw [ht] at h2; cases h2
    | some a =>
      rw [ht] at h1 h2
      obtain ⟨p', h3, h4⟩ := hmm a (List.mem_of_getElem? ht)
      simp only [Option.map_some, Function.comp, f, h3, Option.getD_some, Option.some.injEq] at h1 h2
      subst h1 h2
      exact ⟨a.2, by rw [List.getElem?_map, ht]; rfl, h3, hmem a (List.mem_of_getElem? ht)⟩

theorem Parts.sorted {W W2 : World} {b0 g : Nat} {D : Nat ⊕ Nat → Prop} {l : List JV} {m : List (ByteArray × JV)} {ds : List RV} {dms ys : List RM} {r : RV} {F : Nat ⊕ Nat → Nat → Prop} (h : Parts W b0 g (fun _ => True) l m ds dms r F) (hs : IsStable cfM dms ys)
    (ho : Own W2 b0 90 encM 6 (.slice r.pm r.nm r.cm) ys) (hg : W.grownBy W2 (Value.slice r.pm r.nm r.cm).ownBlock) : ∃ m' F', IsStable cfJ m m' ∧ Parts W2 b0 g (fun _ => True) l m' ds ys r F' := by
  obtain ⟨m', σ, h1, h2, h3, h4⟩ := stable_names hs h.em h.cn
  have hsz := hg.size
  have hsame : ∀ k, k < W.heap.size → (Value.slice r.pm r.nm r.cm).ownBlock ≠ some k → W2.heap[k]? = W.heap[k]? := fun k hk hk1 => hg.block k hk (fun e => hk1 e.symm)
  have hF : ∀ a k, F a k → W2.heap[k]? = W.heap[k]? := fun a k hk => hsame k (h.ff a k hk).1.2 (h.ff a k hk).2.2.2
  refine ⟨m', fun a k => match a with | .inl i => F (.inl i) k | .inr j => ∃ i : Nat, σ[j]? = some i ∧ F (.inr i) k, h1, ⟨(hsame g h.box.lt (fun e => h.bM g e rfl)).trans h.box, h.ownL.same fun k e => hsame k (h.ownL.lt k e).2 (h.dr k e), ho, h.bL, h.bM, h.dr, Nat.le_trans h.los hsz, h.el, h2, ?_, ?_, ?_, ?_, ?_⟩⟩
  · intro i p q hp hq
    obtain ⟨i', _, e1, e2⟩ := h4 i p q hp hq
    exact h.cn i' p q e1 e2
  · intro i t q hd ht hq
    exact (h.cl i t q hd ht hq).same (hF _)
  · intro i p q hd hp hq
    obtain ⟨i', e0, e1, e2⟩ := h4 i p q hp hq
    exact ((h.cm i' p q trivial e1 e2).same (hF _)).mono fun k hk => ⟨i', e0, hk⟩
  · intro a k hk
    cases a with
    | inl i => exact ⟨⟨(h.ff _ k hk).1.1, Nat.lt_of_lt_of_le (h.ff _ k hk).1.2 hsz⟩, (h.ff _ k hk).2⟩
    | inr j =>
      obtain ⟨i, _, hk⟩ := hk
      exact ⟨⟨(h.ff _ k hk).1.1, Nat.lt_of_lt_of_le (h.ff _ k hk).1.2 hsz⟩, (h.ff _ k hk).2⟩
  · intro a b k ha hb
    cases a with
    | inl i =>
      cases b with
      | inl i' => exact h.dd _ _ k ha hb
      | inr j =>
        obtain ⟨i', _, hb⟩ := hb
        cases h.dd _ _ k ha hb
    | inr j =>
      obtain ⟨i1, e1, ha⟩ := ha
      cases b with
      | inl i' => cases h.dd _ _ k ha hb
      | inr j' =>
        obtain ⟨i2, e2, hb⟩ := hb
        cases h.dd _ _ k ha hb
        obtain ⟨l1, e1⟩ := List.getElem?_eq_some_iff.1 e1
        obtain ⟨l2, e2⟩ := List.getElem?_eq_some_iff.1 e2
        have hjj : j = j' := by
          rcases Nat.lt_trichotomy j j' with hlt | he | hlt
          · exact absurd (e1.trans e2.symm) (List.pairwise_iff_getElem.1 h3 j j' l1 l2 hlt)
          · exact he
          · exact absurd (e2.trans e1.symm) (List.pairwise_iff_getElem.1 h3 j' j l2 l1 hlt)
        rw [hjj]
end Go.Proofs.Ythgkgjcnmahacaa
end

section
/- tree.Sort: the tree with its members sorted, in memory of its own. -/
set_option linter.unusedSimpArgs false
set_option linter.unusedVariables false
namespace Go.Proofs.Ythgkgjcnmahacaa
open Go.RowKit Go.OpenShut Go.Lib Go.Sort

instance : Inhabited RM := ⟨⟨⟨#[]⟩, RV.zero⟩⟩
/-- Sorting: the first jl values and the first jm members are sorted. -/
structure SortS (w W : World) (g jl jm : Nat) (l0 : List JV) (m0 : List (ByteArray × JV)) (l : List JV) (m : List (ByteArray × JV)) (ds : List RV) (dms : List RM) (r : RV) (F : Nat ⊕ Nat → Nat → Prop) : Prop where
  parts : Parts W (w.heap.size + 1 + 1) g (fun _ => True) l m ds dms r F
  ll : l.length = l0.length
  lm : m.length = m0.length
  dl : ∀ (i : Nat) (t u : JV), i < jl → l0[i]? = some t → l[i]? = some u → SortOf t u
  rl : ∀ i, jl ≤ i → l[i]? = l0[i]?
  nm : ∀ (i : Nat) (p q : ByteArray × JV), m0[i]? = some p → m[i]? = some q → p.1 = q.1
  dm : ∀ (i : Nat) (p q : ByteArray × JV), i < jm → m0[i]? = some p → m[i]? = some q → SortOf p.2 q.2
  rm : ∀ i, jm ≤ i → m[i]? = m0[i]?
  below : Below w.heap.size w W
  out : VAt W (w.heap.size + 1) RV.zero
  hg : w.heap.size + 1 < g

theorem SortS.stepL {w W w1 W2 : World} {g j jm : Nat} {l0 l : List JV} {m0 m : List (ByteArray × JV)} {ds : List RV} {dms : List RM} {r : RV} {F : Nat ⊕ Nat → Nat → Prop} (h : SortS w W g j jm l0 m0 l m ds dms r F) (hb : Below W.drew.heap.size W.drew w1) {t u : JV} {x q : RV} (hq : LoneV w1 (Fresh W.drew w1) u q) (hu : SortOf t u) (ht : l0[j]? = some t) (hx : ds[j]? = some x)
    {g2 : Nat} (hg2 : r.pl = some ⟨g2, 0, none⟩) (ho : Own W2 (w.heap.size + 1 + 1) 25 encV 5 (.slice r.pl r.nl r.cl) (ds.set j q)) (hg : w1.grownBy W2 (some g2)) :
    SortS w W2 g (j + 1) jm l0 m0 (l.set j u) m (ds.set j q) dms r (fun a k => if a = .inl j then Fresh W.drew w1 k else F a k) := by
  have hob : (Value.slice r.pl r.nl r.cl).ownBlock = some g2 := by rw [hg2]; rfl
  have hjd := (List.getElem?_eq_some_iff.1 hx).1
  have hp := Parts.setL h.parts.drew hb hq hob ho hg hjd
  have hg2b := (h.parts.ownL.lt g2 hob).1
  have hsz : W.drew.heap.size = W.heap.size := rfl
  have hbs := hb.size
  have hg2s := (h.parts.ownL.lt g2 hob).2
  have hjl : j < l.length := by rw [h.parts.el]; exact hjd
  refine ⟨hp.less fun _ _ => .inl trivial, by rw [List.length_set]; exact h.ll, h.lm, ?_, ?_, h.nm, h.dm, h.rm, ?_, ?_, h.hg⟩
  · intro i t' u' hi h1 h2
    by_cases hij : i = j
    · subst hij
      rw [List.getElem?_set_self hjl] at h2
      rw [ht] at h1
      cases h1; cases h2
      exact hu
    · rw [get_set_ne _ _ hij] at h2
      exact h.dl i t' u' (by omega) h1 h2
  · intro i hi
    rw [get_set_ne _ _ (by omega)]
    exact h.rl i (by omega)
  · exact (h.below.drew.trans (hb.mono h.below.size)).trans ((Below.refl _ _).grown hg (Nat.le_trans h.below.size hbs) (fun k e => by cases e; omega))
  · have h1 : VAt w1 (w.heap.size + 1) RV.zero := VAt.under (W := W.drew) h.out hb (by have := h.out.lt; omega)
    exact (hg.block (w.heap.size + 1) h1.lt (fun e => by injection e with e; omega)).trans h1

theorem SortS.stepM {w W w1 W2 : World} {g j jl : Nat} {l0 l : List JV} {m0 m : List (ByteArray × JV)} {ds : List RV} {dms : List RM} {r : RV} {F : Nat ⊕ Nat → Nat → Prop} (h : SortS w W g jl j l0 m0 l m ds dms r F) (hb : Below W.drew.heap.size W.drew w1) {p : ByteArray × JV} {u : JV} {x : RM} {q : RV} (hq : LoneV w1 (Fresh W.drew w1) u q) (hu : SortOf p.2 u) (ht : m0[j]? = some p) (hx : dms[j]? = some x)
    {g2 : Nat} (hg2 : r.pm = some ⟨g2, 0, none⟩) (ho : Own W2 (w.heap.size + 1 + 1) 90 encM 6 (.slice r.pm r.nm r.cm) (dms.set j ⟨x.name, q⟩)) (hg : w1.grownBy W2 (some g2)) :
    SortS w W2 g jl (j + 1) l0 m0 l (m.set j (p.1, u)) ds (dms.set j ⟨x.name, q⟩) r (fun a k => if a = .inr j then Fresh W.drew w1 k else F a k) := by
  have hob : (Value.slice r.pm r.nm r.cm).ownBlock = some g2 := by rw [hg2]; rfl
  have hjd := (List.getElem?_eq_some_iff.1 hx).1
  have hmj : m[j]? = some p := (h.rm j (Nat.le_refl _)).trans ht
  have hp := Parts.setM h.parts.drew hb hq hob hmj hx ho hg
  have hg2b := (h.parts.ownM.lt g2 hob).1
  have hsz : W.drew.heap.size = W.heap.size := rfl
  have hbs := hb.size
  have hg2s := (h.parts.ownM.lt g2 hob).2
  have hjl : j < m.length := by rw [h.parts.em]; exact hjd
  refine ⟨hp.less fun _ _ => .inl trivial, h.ll, by rw [List.length_set]; exact h.lm, h.dl, h.rl, ?_, ?_, ?_, ?_, ?_, h.hg⟩
  · intro i p' q' h1 h2
    by_cases hij : i = j
    · subst hij
      rw [List.getElem?_set_self hjl] at h2
      rw [ht] at h1
      cases h1; cases h2
      rfl
    · rw [get_set_ne _ _ hij] at h2
      exact h.nm i p' q' h1 h2
  · intro i p' q' hi h1 h2
    by_cases hij : i = j
    · subst hij
      rw [List.getElem?_set_self hjl] at h2
      rw [ht] at h1
      cases h1; cases h2
      exact hu
    · rw [get_set_ne _ _ hij] at h2
      exact h.dm i p' q' (by omega) h1 h2
  · intro i hi
    rw [get_set_ne _ _ (by omega)]
    exact h.rm i (by omega)
  · exact (h.below.drew.trans (hb.mono h.below.size)).trans ((Below.refl _ _).grown hg (Nat.le_trans h.below.size hbs) (fun k e => by cases e; omega))
  · have h1 : VAt w1 (w.heap.size + 1) RV.zero := VAt.under (W := W.drew) h.out hb (by have := h.out.lt; omega)
    exact (hg.block (w.heap.size + 1) h1.lt (fun e => by injection e with e; omega)).trans h1

theorem Parts.finG {w W : World} {g : Nat} {l : List JV} {m : List (ByteArray × JV)} {ds : List RV} {dms : List RM} {r : RV} {D : Nat ⊕ Nat → Prop} {F : Nat ⊕ Nat → Nat → Prop} (h : Parts W (w.heap.size + 1 + 1) g D l m ds dms r F) (hD : ∀ i, (i < l.length → D (.inl i)) ∧ (i < m.length → D (.inr i))) (hb : Below w.heap.size w W) :
    NewTree w (.mk r.k r.n r.s l m) (.returned r.val) (((((W.setCell ⟨w.heap.size + 1, 0, none⟩ (.int .i64 r.k)).setCell ⟨w.heap.size + 1, 1, none⟩ (.int .i64 r.n)).setCell ⟨w.heap.size + 1, 2, none⟩ (.string r.s)).setCell ⟨w.heap.size + 1, 3, none⟩ (.slice r.pl r.nl r.cl)).setCell ⟨w.heap.size + 1, 4, none⟩ (.slice r.pm r.nm r.cm)) := by
  have hg := grownBy_set5 W (w.heap.size + 1) r
  have h1 := h.whole hD
  refine ⟨r, rfl, (h1.same fun k hk => hg.block k hk.2 (fun e => by have := hk.1; injection e with e; omega)).mono fun k hk => ⟨by omega, Nat.lt_of_lt_of_le hk.2 hg.size⟩, Below.stored hb (by omega) r⟩

/-- The sorted tree is answered, in new memory. -/
def SortRet (w : World) (t : JV) (e : Ending) (w' : World) : Prop := ∃ u, SortOf t u ∧ NewTree w u e w'

/-- The list of members sorted: done. -/
theorem SortS.fin {w W W2 : World} {g : Nat} {l0 l : List JV} {m0 m : List (ByteArray × JV)} {ds : List RV} {dms ys : List RM} {r : RV} {F : Nat ⊕ Nat → Nat → Prop} (h : SortS w W g l0.length m0.length l0 m0 l m ds dms r F) (hs : IsStable cfM dms ys)
    (ho : Own W2 (w.heap.size + 1 + 1) 90 encM 6 (.slice r.pm r.nm r.cm) ys) (hg : W.grownBy W2 (Value.slice r.pm r.nm r.cm).ownBlock) :
    VAt W2 g r ∧ VAt W2 (w.heap.size + 1) RV.zero ∧ SortRet w (.mk r.k r.n r.s l0 m0) (.returned r.val) (((((W2.setCell ⟨w.heap.size + 1, 0, none⟩ (.int .i64 r.k)).setCell ⟨w.heap.size + 1, 1, none⟩ (.int .i64 r.n)).setCell ⟨w.heap.size + 1, 2, none⟩ (.string r.s)).setCell ⟨w.heap.size + 1, 3, none⟩ (.slice r.pl r.nl r.cl)).setCell ⟨w.heap.size + 1, 4, none⟩ (.slice r.pm r.nm r.cm)) := by
  obtain ⟨m', F', h1, hp⟩ := h.parts.sorted (D := fun _ => True) hs ho hg
  have hlt := h.parts.ownM.lt
  have hbw := h.below.size
  have hb2 : Below w.heap.size w W2 := h.below.trans ((Below.refl _ _).grown hg hbw (fun k e => by have := (hlt k e).1; omega))
  refine ⟨hp.box, (hg.block (w.heap.size + 1) h.out.lt (fun e => by have := (hlt _ e.symm).1; omega)).trans h.out, .mk r.k r.n r.s l m', ?_, hp.finG (fun _ => ⟨fun _ => trivial, fun _ => trivial⟩) hb2⟩
  exact .mk h.ll (fun i t u h1 h2 => h.dl i t u (List.getElem?_eq_some_iff.1 h1).1 h1 h2) h.lm h.nm (fun i p q h1 h2 => h.dm i p q (List.getElem?_eq_some_iff.1 h1).1 h1 h2) h1

set_option maxRecDepth 100000 in
set_option maxHeartbeats 4000000 in
theorem sort_any (N : Nat) : ∀ (t : JV) (r : RV) (w : World), SizeOf.sizeOf t ≤ N → TreeOf w w.heap.size t r → t.Ok →
    Calls Try.prog 17 #[r.val] w (SortRet w t) := by
  induction N with
  | zero => intro t r w hN; cases t; simp at hN
  | succ N ih =>
    intro t r w hN ht ot
    obtain ⟨tk, tn, ts, l, m⟩ := t
    have ot' := ot
    have ht' := ht
    have HCP : Hid (∀ W, Below w.heap.size w W → Calls Try.prog 36 #[r.val] W (NewTree W (.mk tk tn ts l m))) := fun W hb => copy_any _ _ r W (Nat.le_refl _) (ht.under hb hb.size) ot
    cases ht' with
    | @mk _ _ _ rs rms hl el hcl hm em hcn hcm =>
    obtain ⟨k, n, s, pl, nl, cl, pm, nm, cm⟩ := r
    cases ot' with
    | mk _ _ _ bl bm okl oks okm =>
    dsimp only [RV.val] at *
    have eL := rd_nlen hl
    have eM := rd_nlen hm
    have HT : Hid (∀ (i : Nat) t, l[i]? = some t → ∀ (q : RV) (W : World), TreeOf W W.heap.size t q → Calls Try.prog 17 #[q.val] W (SortRet W t)) :=
      fun i t h1 q W hq => ih t q W (by have := JV.lt_l (k := k) (n := n) (s := s) (m := m) h1; omega) hq (okl i t h1)
    have HS : Hid (∀ (i : Nat) p, m[i]? = some p → ∀ (q : RV) (W : World), TreeOf W W.heap.size p.2 q → Calls Try.prog 17 #[q.val] W (SortRet W p.2)) :=
      fun i p h1 q W hq => ih p.2 q W (by have := JV.lt_m (k := k) (n := n) (s := s) (l := l) h1; omega) hq (okm i p h1)
    have HB1 : Hid (l.length ≤ 1759218604390 ∧ m.length ≤ 1466015503658) := ⟨bl, bm⟩
    have hA0 : VAt ((w.alloc (.cells #[.int .i64 k, .int .i64 n, .string s, .slice pl nl cl, .slice pm nm cm] 25)).alloc (.cells #[.int .i64 0, .int .i64 0, .string ⟨#[]⟩, .slice none 0 0, .slice none 0 0] 25)) w.heap.size ⟨k, n, s, pl, nl, cl, pm, nm, cm⟩ := heap_alloc_lt (by simp) (heap_alloc_at rfl)
    have hA1 : VAt ((w.alloc (.cells #[.int .i64 k, .int .i64 n, .string s, .slice pl nl cl, .slice pm nm cm] 25)).alloc (.cells #[.int .i64 0, .int .i64 0, .string ⟨#[]⟩, .slice none 0 0, .slice none 0 0] 25)) (w.heap.size + 1) RV.zero := heap_alloc_at (by simp)
    have hB0 := below2 w (.cells #[.int .i64 k, .int .i64 n, .string s, .slice pl nl cl, .slice pm nm cm] 25) (.cells #[.int .i64 0, .int .i64 0, .string ⟨#[]⟩, .slice none 0 0, .slice none 0 0] 25)
    clear ih hcl hcn hcm hl hm okl oks okm el em bl bm eL eM hN ht ot
    go_enter Try.func17, Try.ntmps17
    go_upto_region 1 with fail
    have hws : ((w.alloc (.cells #[.int .i64 k, .int .i64 n, .string s, .slice pl nl cl, .slice pm nm cm] 25)).alloc (.cells #[.int .i64 0, .int .i64 0, .string ⟨#[]⟩, .slice none 0 0, .slice none 0 0] 25)).heap.size = w.heap.size + 1 + 1 := by simp
    obtain ⟨W0, hW0⟩ : ∃ W0, ((w.alloc (.cells #[.int .i64 k, .int .i64 n, .string s, .slice pl nl cl, .slice pm nm cm] 25)).alloc (.cells #[.int .i64 0, .int .i64 0, .string ⟨#[]⟩, .slice none 0 0, .slice none 0 0] 25)) = W0 := ⟨_, rfl⟩
    rw [hW0] at hA0 hA1 hB0 hws ⊢
    clear hW0
    have c0 := hA0.cell 0 rfl
    have c1 := hA0.cell 1 rfl
    have c2 := hA0.cell 2 rfl
    have c3 := hA0.cell 3 rfl
    have c4 := hA0.cell 4 rfl
    dsimp only at c0 c1 c2 c3 c4
    have HWS := Lib.hid hws
    have HA1 := Lib.hid hA1
    have HB0 := Lib.hid hB0
    clear hA0 hA1 hB0 hws
    go_upto_region 2 with (go_at_call 36; refine (HCP.out _ HB0.out).mono ?_; rintro e w1 ⟨q, rfl, hq, hb1⟩)
    obtain ⟨ds, dms, F, hP, e1, e2, e3⟩ := hq.parts (b0 := w.heap.size + 1 + 1) (fun a ha => ⟨by have := ha.1; have := HWS.out; omega, ha.2⟩) (by have := hb1.size; have := HWS.out; omega)
    obtain ⟨k3, n3, s3, pl3, nl3, cl3, pm3, nm3, cm3⟩ := q
    dsimp only [JV.k, JV.n, JV.s, JV.l, JV.m] at e1 e2 e3 hP
    subst e1 e2 e3
    have hSS : SortS w (w1.alloc (.cells #[.int .i64 k, .int .i64 n, .string s, .slice pl3 nl3 cl3, .slice pm3 nm3 cm3] 25)) w1.heap.size 0 0 l m l m ds dms ⟨k, n, s, pl3, nl3, cl3, pm3, nm3, cm3⟩ F :=
      ⟨hP, rfl, rfl, fun i t u h => by omega, fun _ _ => rfl, fun i p q h1 h2 => by rw [h1] at h2; cases h2; rfl, fun i p q h => by omega, fun _ _ => rfl, (HB0.out.trans (hb1.mono HB0.out.size)).alloc (by have := hb1.size; have := HB0.out.size; omega) _,
        heap_alloc_lt (by have := hb1.size; have := HWS.out; omega) (VAt.under HA1.out hb1 HA1.out.lt), by have := hb1.size; have := HWS.out; omega⟩
    dsimp only
    obtain ⟨g, hg⟩ : ∃ g, w1.heap.size = g := ⟨_, rfl⟩
    obtain ⟨W1, hW1⟩ : ∃ W1, w1.alloc (.cells #[.int .i64 k, .int .i64 n, .string s, .slice pl3 nl3 cl3, .slice pm3 nm3 cm3] 25) = W1 := ⟨_, rfl⟩
    rw [hW1, hg] at hSS
    rw [hW1, hg]
    obtain ⟨_, _, e4, _, _⟩ := hSS.parts.ownL.len
    obtain ⟨_, _, e5, _, _⟩ := hSS.parts.ownM.len
    simp only [Value.slice.injEq] at e4 e5
    have E1 : Hid (nl3 = l.length ∧ nm3 = m.length) := ⟨by rw [hSS.parts.el]; exact e4.2.1, by rw [hSS.parts.em]; exact e5.2.1⟩
    have hnl : nl3 ≤ 1759218604390 := by have := HB1.out.1; have := E1.out.1; omega
    have hnm : nm3 ≤ 1466015503658 := by have := HB1.out.2; have := E1.out.2; omega
    have c3 := hSS.parts.box.cell 3 rfl
    dsimp only at c3
    have HSS := Lib.hid hSS
    clear hSS hP hq HCP HA1 HB0 HWS hW1 hg e4 e5 hb1 c0 c1 c2 c4 HB1
    go_wp2_with fail
    go_loopw [11] (fun i wr => ∃ (j : Nat) (l' : List JV) (ds : List RV) (F : Nat ⊕ Nat → Nat → Prop), j ≤ nl3 ∧ i = .int .i64 j ∧ Hid (SortS w wr g j 0 l m l' m ds dms ⟨k, n, s, pl3, nl3, cl3, pm3, nm3, cm3⟩ F)) (fun i _ => nl3 - (intOf i).toNat)
    case atStart => exact ⟨0, l, ds, F, Nat.zero_le _, rfl, HSS⟩
    case round =>
      obtain ⟨j, l', ds, F, hj, rfl, HC⟩ := hrel
      by_cases hlt : j < nl3
      · obtain ⟨tx, htx⟩ : ∃ x, l[j]? = some x := ⟨_, List.getElem?_eq_getElem (by have := E1.out.1; omega)⟩
        obtain ⟨x, hds⟩ : ∃ x, ds[j]? = some x := ⟨_, List.getElem?_eq_getElem (by have h1 := HC.out.parts.el; have h2 := HC.out.ll; have := E1.out.1; omega)⟩
        have hl' : l'[j]? = some tx := (HC.out.rl j (Nat.le_refl _)).trans htx
        obtain ⟨g2, e2, e3, hg1, hg2, hcell, hfr⟩ := Own.at codecV HC.out.parts.ownL hds
        dsimp only at e2
        subst e2
        have c3 := HC.out.parts.box.cell 3 rfl
        dsimp only at c3
        have hgb := HC.out.parts.box.lt
        have f0 := hcell 0 _ rfl
        have f1 := hcell 1 _ rfl
        have f2 := hcell 2 _ rfl
        have f3 := hcell 3 _ rfl
        have f4 := hcell 4 _ rfl
        rw [Nat.add_zero] at f0
        have HR := Lib.hid (HT.out j tx htx x wr.drew (HC.out.parts.drew.cl j tx x trivial hl' hds).tree)
        have hk0 : (0 : Int) ≤ (j : Int) := Int.natCast_nonneg _
        have hk1 : (j : Int) < (nl3 : Int) := by omega
        have HTX := Lib.hid htx
        have HDS := Lib.hid hds
        clear hcell hfr htx hds hl' e3 hg1
        go_wp2_with fail
        go_region_law (first
          | (go_simp; go_at_call 17; refine HR.out.mono ?_; rintro e w2 ⟨u, hu, q, rfl, hq, hb1⟩; (have HP1 := Lib.hid (HC.out.parts.drew.below hb1)); (have c3' := HP1.out.box.cell 3 rfl); dsimp only at c3'; obtain ⟨g3, e4, e5, hg3, hg4, hcell1, hfr1⟩ := Own.at codecV HP1.out.ownL HDS.out; dsimp only at e4; cases e4; (have k0 := hcell1 0 _ rfl); (have k1 := hcell1 1 _ rfl); (have k2 := hcell1 2 _ rfl); (have k3 := hcell1 3 _ rfl); (have k4 := hcell1 4 _ rfl); (have y0 := hfr1 (j * 5)); (have y1 := hfr1 (j * 5 + 1)); (have y2 := hfr1 (j * 5 + 2)); (have y3 := hfr1 (j * 5 + 3)); (have y4 := hfr1 (j * 5 + 4)); rw [Nat.add_zero] at k0; (have HQ := Lib.hid hq); (have HU := Lib.hid hu); clear hcell1 hfr1 e5 hg3 hg4 hq hu))
        all_goals (have HST := Lib.hid (Own.storedL HP1.out.ownL HDS.out q))
        all_goals (have HN := Lib.hid (HC.out.stepL hb1 HQ.out HU.out HTX.out HDS.out rfl HST.out.1 HST.out.2))
        all_goals go_wp2_with fail
        all_goals (
          go_roundw
          case rel => exact ⟨j + 1, _, _, _, by omega, by go_num, HN⟩
          case measure => simp [intOf]; omega)
      · obtain rfl : j = nl3 := by omega
        have c4 := HC.out.parts.box.cell 4 rfl
        dsimp only at c4
        clear HT c3 HSS
        go_wp2_with fail
        go_loopw [28] (fun i wr => ∃ (i2 : Nat) (m' : List (ByteArray × JV)) (dms : List RM) (F : Nat ⊕ Nat → Nat → Prop), i2 ≤ nm3 ∧ i = .int .i64 i2 ∧ Hid (SortS w wr g j i2 l m l' m' ds dms ⟨k, n, s, pl3, j, cl3, pm3, nm3, cm3⟩ F)) (fun i _ => nm3 - (intOf i).toNat)
        case atStart => exact ⟨0, m, dms, F, Nat.zero_le _, rfl, HC⟩
        case round =>
          obtain ⟨i2, m', dms, F, hi2, rfl, HC⟩ := hrel
          by_cases hlt2 : i2 < nm3
          · obtain ⟨tx, htx⟩ : ∃ x, m[i2]? = some x := ⟨_, List.getElem?_eq_getElem (by have := E1.out.2; omega)⟩
            obtain ⟨x, hds⟩ : ∃ x, dms[i2]? = some x := ⟨_, List.getElem?_eq_getElem (by have h1 := HC.out.parts.em; have h2 := HC.out.lm; have := E1.out.2; omega)⟩
            have hl' : m'[i2]? = some tx := (HC.out.rm i2 (Nat.le_refl _)).trans htx
            obtain ⟨g2, e2, e3, hg1, hg2, hcell, hfr⟩ := Own.at codecM HC.out.parts.ownM hds
            dsimp only at e2
            subst e2
            have c4 := HC.out.parts.box.cell 4 rfl
            dsimp only at c4
            have hgb := HC.out.parts.box.lt
            have f0 := hcell 0 _ rfl
            have f1 := hcell 1 _ rfl
            have f2 := hcell 2 _ rfl
            have f3 := hcell 3 _ rfl
            have f4 := hcell 4 _ rfl
            have f5 := hcell 5 _ rfl
            rw [Nat.add_zero] at f0
            have HR := Lib.hid (HS.out i2 tx htx x.v wr.drew (HC.out.parts.drew.cm i2 tx x trivial hl' hds).tree)
            have hk0 : (0 : Int) ≤ (i2 : Int) := Int.natCast_nonneg _
            have hk1 : (i2 : Int) < (nm3 : Int) := by omega
            have HTX := Lib.hid htx
            have HDS := Lib.hid hds
            clear hcell hfr htx hds hl' e3 hg1
            go_wp2_with fail
            go_region_law (first
              | (go_simp; go_at_call 17; refine HR.out.mono ?_; rintro e w2 ⟨u, hu, q, rfl, hq, hb1⟩; (have HP1 := Lib.hid (HC.out.parts.drew.below hb1)); (have c4' := HP1.out.box.cell 4 rfl); dsimp only at c4'; obtain ⟨g3, e4, e5, hg3, hg4, hcell1, hfr1⟩ := Own.at codecM HP1.out.ownM HDS.out; dsimp only at e4; cases e4; (have k0 := hcell1 1 _ rfl); (have k1 := hcell1 2 _ rfl); (have k2 := hcell1 3 _ rfl); (have k3 := hcell1 4 _ rfl); (have k4 := hcell1 5 _ rfl); (have y0 := hfr1 (i2 * 6 + 1)); (have y1 := hfr1 (i2 * 6 + 2)); (have y2 := hfr1 (i2 * 6 + 3)); (have y3 := hfr1 (i2 * 6 + 4)); (have y4 := hfr1 (i2 * 6 + 5)); (have HQ := Lib.hid hq); (have HU := Lib.hid hu); clear hcell1 hfr1 e5 hg3 hg4 hq hu))
            all_goals (have HST := Lib.hid (Own.storedV HP1.out.ownM HDS.out q))
            all_goals (have HN := Lib.hid (HC.out.stepM hb1 HQ.out HU.out HTX.out HDS.out rfl HST.out.1 HST.out.2))
            all_goals go_wp2_with fail
            all_goals (
              go_roundw
              case rel => exact ⟨i2 + 1, _, _, _, by omega, by go_num, HN⟩
              case measure => simp [intOf]; omega)
          · obtain rfl : i2 = nm3 := by omega
            have hcon : Calls Try.prog 53 #[.slice pm3 i2 cm3, .func (.func 54) #[] #[]] wr (SM.SortPost wr (w.heap.size + 1 + 1) encM cfM (.slice pm3 i2 cm3) dms) :=
              SM.top_any encM codecM cfM cmpM 54 #[] wr (w.heap.size + 1 + 1) (.slice pm3 i2 cm3) dms (enters_of Try.func54 (by kernel_rfl) rfl) cmpM_any HC.out.parts.ownM (by have h1 := HC.out.parts.em; have h2 := HC.out.lm; have := E1.out.2; omega)
            have HCON := Lib.hid hcon
            have c4 := HC.out.parts.box.cell 4 rfl
            dsimp only at c4
            clear hcon HS
            go_upto_region 13 with (go_at_call 53; refine HCON.out.mono ?_; rintro e w3 ⟨rfl, ys, hst, ho3, hg3⟩)
            obtain ⟨hbx, hzz, hfi⟩ := SortS.fin (r := ⟨k, n, s, pl3, j, cl3, pm3, i2, cm3⟩) (W2 := w3) (by rw [← E1.out.1, ← E1.out.2]; exact HC.out) hst ho3 hg3
            have HFI := Lib.hid hfi
            have HZZ := Lib.hid (hzz.stored ⟨k, n, s, pl3, j, cl3, pm3, i2, cm3⟩)
            have b0 := hbx.cell 0 rfl
            have b1 := hbx.cell 1 rfl
            have b2 := hbx.cell 2 rfl
            have b3 := hbx.cell 3 rfl
            have b4 := hbx.cell 4 rfl
            have z0 := hzz.cell 0 rfl
            have z1 := hzz.cell 1 rfl
            have z2 := hzz.cell 2 rfl
            have z3 := hzz.cell 3 rfl
            have z4 := hzz.cell 4 rfl
            dsimp only [RV.zero] at b0 b1 b2 b3 b4 z0 z1 z2 z3 z4
            have y0 := hzz.frozen 0
            have y1 := hzz.frozen 1
            have y2 := hzz.frozen 2
            have y3 := hzz.frozen 3
            have y4 := hzz.frozen 4
            clear hfi hbx hzz HC hst ho3 hg3 HCON
            go_wp2_with fail
            have q0 := HZZ.out.cell 0 rfl
            have q1 := HZZ.out.cell 1 rfl
            have q2 := HZZ.out.cell 2 rfl
            have q3 := HZZ.out.cell 3 rfl
            have q4 := HZZ.out.cell 4 rfl
            refine bodyPost_ret (v := RV.val ⟨k, n, s, pl3, j, cl3, pm3, i2, cm3⟩) (by simp [results, Try.results17, go_sem, q0, q1, q2, q3, q4]) rfl HFI.out
end Go.Proofs.Ythgkgjcnmahacaa
end

section
/- tree.Count: how many values a tree has. -/
set_option linter.unusedSimpArgs false
set_option linter.unusedVariables false
namespace Go.Proofs.Ythgkgjcnmahacaa
open Go.RowKit Go.OpenShut

mutual
/-- How many values a tree has. -/
def countT : JV → Nat
  | .mk _ _ _ l m => 1 + countL l + countM m
def countL : List JV → Nat
  | [] => 0
  | t :: l => countT t + countL l
def countM : List (ByteArray × JV) → Nat
  | [] => 0
  | (_, t) :: m => countT t + countM m
end
theorem countL_take {l : List JV} {j : Nat} {t : JV} (h : l[j]? = some t) : countL (l.take (j + 1)) = countL (l.take j) + countT t := by
  induction l generalizing j with
  | nil => simp at h
  | cons a l ih =>
    cases j with
    | zero =>
      simp at h
      subst h
      simp [countL]
    | succ j =>
      rw [List.getElem?_cons_succ] at h
      rw [List.take_succ_cons, List.take_succ_cons]
      unfold countL
      rw [ih h]
      omega
theorem countM_take {m : List (ByteArray × JV)} {j : Nat} {p : ByteArray × JV} (h : m[j]? = some p) : countM (m.take (j + 1)) = countM (m.take j) + countT p.2 := by
  induction m generalizing j with
  | nil => simp at h
  | cons a m ih =>
    obtain ⟨a, b⟩ := a
    cases j with
    | zero =>
      simp at h
      subst h
      simp [countM]
    | succ j =>
      rw [List.getElem?_cons_succ] at h
      rw [List.take_succ_cons, List.take_succ_cons]
      unfold countM
      rw [ih h]
      omega

/-- The count is answered, as an int holds it. -/
def CountRet (w : World) (t : JV) (e : Ending) (w' : World) : Prop := e = .returned (.int .i64 (IntKind.i64.wrap (countT t))) ∧ Below w.heap.size w w'
theorem wrap_step (a b c : Int) (h : a + b = c) : wrap64 (IntKind.i64.wrap a + wrap64 b) = IntKind.i64.wrap c := by
  subst h
  rw [IntKind.wrap_i64, IntKind.wrap_i64]
  unfold wrap64
  omega

set_option maxRecDepth 100000 in
set_option maxHeartbeats 2000000 in
theorem countT_any (N : Nat) : ∀ (t : JV) (r : RV) (w : World), SizeOf.sizeOf t ≤ N → TreeOf w w.heap.size t r → t.Ok →
    Calls Try.prog 16 #[r.val] w (CountRet w t) := by
  induction N with
  | zero => intro t r w hN; cases t; simp at hN
  | succ N ih =>
    intro t r w hN ht ot
    cases ht with
    | @mk _ l m rs rms hl el hcl hm em hcn hcm =>
    obtain ⟨k, n, s, pl, nl, cl, pm, nm, cm⟩ := r
    cases ot with
    | mk _ _ _ bl bm okl oks okm =>
    dsimp only [RV.val] at *
    have eL := rd_nlen hl
    have eM := rd_nlen hm
    have HT : Hid (∀ (i : Nat) t q, l[i]? = some t → rs[i]? = some q → ∀ W, Below w.heap.size w W → Calls Try.prog 16 #[q.val] W (CountRet W t)) :=
      fun i t q h1 h2 W hb => ih t q W (by have := JV.lt_l (k := k) (n := n) (s := s) (m := m) h1; omega) ((hcl i t q h1 h2).under hb hb.size) (okl i t h1)
    have HS : Hid (∀ (i : Nat) p q, m[i]? = some p → rms[i]? = some q → ∀ W, Below w.heap.size w W → Calls Try.prog 16 #[q.v.val] W (CountRet W p.2)) :=
      fun i p q h1 h2 W hb => ih p.2 q.v W (by have := JV.lt_m (k := k) (n := n) (s := s) (l := l) h1; omega) ((hcm i p q h1 h2).under hb hb.size) (okm i p h1)
    have HL := Lib.hid hl
    have HM := Lib.hid hm
    have E1 : Hid (l.length = nl ∧ rs.length = nl) := ⟨by omega, by omega⟩
    have E2 : Hid (m.length = nm ∧ rms.length = nm) := ⟨by omega, by omega⟩
    have hnl : nl ≤ 1759218604390 := by omega
    have hnm : nm ≤ 1466015503658 := by omega
    have hA0 : VAt (w.alloc (.cells #[.int .i64 k, .int .i64 n, .string s, .slice pl nl cl, .slice pm nm cm] 25)) w.heap.size ⟨k, n, s, pl, nl, cl, pm, nm, cm⟩ := heap_alloc_at rfl
    have hB0 : Below w.heap.size w (w.alloc (.cells #[.int .i64 k, .int .i64 n, .string s, .slice pl nl cl, .slice pm nm cm] 25)) := (Below.refl _ _).alloc (Nat.le_refl _) _
    clear ih hcl hcn hcm hl hm okl oks okm el em bl bm eL eM hN
    go_enter Try.func16, Try.ntmps16
    go_upto_region 1 with fail
    obtain ⟨W0, hW0⟩ : ∃ W0, (w.alloc (.cells #[.int .i64 k, .int .i64 n, .string s, .slice pl nl cl, .slice pm nm cm] 25)) = W0 := ⟨_, rfl⟩
    rw [hW0] at hA0 hB0 ⊢
    clear hW0
    have hz := hA0.lt
    have c3 := hA0.cell 3 rfl
    have c4 := hA0.cell 4 rfl
    dsimp only at c3 c4
    clear hA0
    go_wp2_with fail
    go_loopw [3, 11] (fun a i wr => ∃ (g : Int) (j : Nat), j ≤ nl ∧ a = .int .i64 g ∧ i = .int .i64 j ∧ Hid (g = IntKind.i64.wrap ((1 + countL (l.take j) : Nat) : Int)) ∧ Below W0.heap.size W0 wr) (fun _ i _ => nl - (intOf i).toNat)
    case atStart => exact ⟨1, 0, Nat.zero_le _, rfl, rfl, by unfold Hid; simp [countL]; decide, Below.refl _ _⟩
    case round =>
      obtain ⟨g, j, hj, rfl, rfl, hg, hbr⟩ := hrel
      have hbw : Below w.heap.size w wr := hB0.trans (hbr.mono hB0.size)
      by_cases hlt : j < nl
      · obtain ⟨tx, htx⟩ : ∃ x, l[j]? = some x := ⟨_, List.getElem?_eq_getElem (by have := E1.out; omega)⟩
        obtain ⟨x, hx⟩ : ∃ x, rs[j]? = some x := ⟨_, List.getElem?_eq_getElem (by have := E1.out; omega)⟩
        obtain ⟨b1, o1, rfl, hb1, hc1⟩ := rd_at' (HL.out.below hbw (Nat.le_refl _)) hx
        have f0 := hc1 0 _ rfl
        have f1 := hc1 1 _ rfl
        have f2 := hc1 2 _ rfl
        have f3 := hc1 3 _ rfl
        have f4 := hc1 4 _ rfl
        rw [Nat.add_zero] at f0
        have HC := Lib.hid (HT.out j tx x htx hx)
        have HTX := Lib.hid (countL_take htx)
        have hk0 : (0 : Int) ≤ (j : Int) := Int.natCast_nonneg _
        have hk1 : (j : Int) < (nl : Int) := by omega
        have HBR := Lib.hid hbr
        have hbx : Below w.heap.size w (wr.alloc (.cells #[.int .i64 x.k, .int .i64 x.n, .string x.s, .slice x.pl x.nl x.cl, .slice x.pm x.nm x.cm] 25)) := hbw.alloc hbw.size _
        have HBX := Lib.hid hbx
        clear hc1 htx hx hbr hbx
        go_wp2_with (go_at_call 16; refine (HC.out _ HBX.out).mono ?_; rintro e w1 ⟨rfl, hb1'⟩)
        go_roundw
        case rel =>
          refine ⟨_, j + 1, by omega, rfl, by go_num, ?_, (HBR.out.alloc HBR.out.size _).trans (hb1'.mono (by have := HBR.out.size; simp; omega))⟩
          unfold Hid
          rw [HTX.out, hg.out]
          exact wrap_step _ _ _ (by omega)
        case measure => simp [intOf]; omega
      · obtain rfl : j = nl := by omega
        have c4 := bcs hbr hz c4
        have hsz : W0.heap.size ≤ wr.heap.size := hbr.size
        have hg2 : Hid (g = IntKind.i64.wrap ((1 + countL l : Nat) : Int)) := by
          have h := hg.out
          rw [List.take_of_length_le (by have := E1.out; omega)] at h
          exact h
        clear HT HL E1 hbr hg c3
        obtain ⟨wo, rfl⟩ : ∃ wo : World, wo = wr := ⟨_, rfl⟩
        go_wp2_with fail
        go_loopw [3, 23] (fun a i wr => ∃ (g : Int) (j : Nat), j ≤ nm ∧ a = .int .i64 g ∧ i = .int .i64 j ∧ Hid (g = IntKind.i64.wrap ((1 + countL l + countM (m.take j) : Nat) : Int)) ∧ Below wo.heap.size wo wr) (fun _ i _ => nm - (intOf i).toNat)
        case atStart => exact ⟨g, 0, Nat.zero_le _, rfl, rfl, by unfold Hid; simpa [countM] using hg2.out, Below.refl _ _⟩
        case round =>
          obtain ⟨g, j, hj, rfl, rfl, hg, hbr⟩ := hrel
          have hbw2 : Below w.heap.size w wr := hbw.trans (hbr.mono (by omega))
          by_cases hlt : j < nm
          · obtain ⟨tx, htx⟩ : ∃ x, m[j]? = some x := ⟨_, List.getElem?_eq_getElem (by have := E2.out; omega)⟩
            obtain ⟨x, hx⟩ : ∃ x, rms[j]? = some x := ⟨_, List.getElem?_eq_getElem (by have := E2.out; omega)⟩
            obtain ⟨b1, o1, rfl, hb1, hc1⟩ := rd_at' (HM.out.below hbw2 (Nat.le_refl _)) hx
            have f0 := hc1 0 _ rfl
            have f1 := hc1 1 _ rfl
            have f2 := hc1 2 _ rfl
            have f3 := hc1 3 _ rfl
            have f4 := hc1 4 _ rfl
            have f5 := hc1 5 _ rfl
            rw [Nat.add_zero] at f0
            have HC := Lib.hid (HS.out j tx x htx hx)
            have HTX := Lib.hid (countM_take htx)
            have hk0 : (0 : Int) ≤ (j : Int) := Int.natCast_nonneg _
            have hk1 : (j : Int) < (nm : Int) := by omega
            have HBR := Lib.hid hbr
            have hbx : Below w.heap.size w (wr.alloc (.cells #[.string x.name, .int .i64 x.v.k, .int .i64 x.v.n, .string x.v.s, .slice x.v.pl x.v.nl x.v.cl, .slice x.v.pm x.v.nm x.v.cm] 90)) := hbw2.alloc hbw2.size _
            have HBX := Lib.hid hbx
            clear hc1 htx hx hbr hbx
            go_wp2_with (go_at_call 16; refine (HC.out _ HBX.out).mono ?_; rintro e w1 ⟨rfl, hb1'⟩)
            go_roundw
            case rel =>
              refine ⟨_, j + 1, by omega, rfl, by go_num, ?_, (HBR.out.alloc HBR.out.size _).trans (hb1'.mono (by have := HBR.out.size; simp; omega))⟩
              unfold Hid
              rw [HTX.out, hg.out]
              exact wrap_step _ _ _ (by omega)
            case measure => simp [intOf]; omega
          · obtain rfl : j = nm := by omega
            go_wp2_with fail
            go_ret
            refine ⟨?_, hbw2⟩
            have h := hg.out
            rw [List.take_of_length_le (by have := E2.out; omega)] at h
            show Ending.returned (.int .i64 g) = _
            rw [h]
            unfold countT
            rfl
end Go.Proofs.Ythgkgjcnmahacaa
end

section
/- tree.Without, walked. -/
set_option linter.unusedSimpArgs false
set_option linter.unusedVariables false
namespace Go.Proofs.Ythgkgjcnmahacaa
open Go.RowKit Go.OpenShut

theorem MemsOf.uncons {w : World} {B : Nat} {p : ByteArray × JV} {q : RM} {ms : List (ByteArray × JV)} {rms : List RM} (h : MemsOf w B (p :: ms) (q :: rms)) : p.1 = q.name ∧ TreeOf w B p.2 q.v ∧ MemsOf w B ms rms :=
  ⟨h.name 0 p q rfl rfl, h.val 0 p q rfl rfl, ⟨by have := h.len; simpa using this, fun i a b h1 h2 => h.name (i + 1) a b (by simpa using h1) (by simpa using h2), fun i a b h1 h2 => h.val (i + 1) a b (by simpa using h1) (by simpa using h2)⟩⟩
theorem MemsOf.cons {w : World} {B : Nat} {p : ByteArray × JV} {q : RM} {ms : List (ByteArray × JV)} {rms : List RM} (hn : p.1 = q.name) (ht : TreeOf w B p.2 q.v) (h : MemsOf w B ms rms) : MemsOf w B (p :: ms) (q :: rms) := by
  refine ⟨by simp [h.len], fun i a b h1 h2 => ?_, fun i a b h1 h2 => ?_⟩
  · cases i with
    | zero => simp at h1 h2; subst h1 h2; exact hn
    | succ i => exact h.name i a b (by simpa using h1) (by simpa using h2)
  · cases i with
    | zero => simp at h1 h2; subst h1 h2; exact ht
    | succ i => exact h.val i a b (by simpa using h1) (by simpa using h2)
theorem MemsOf.filter {w : World} {B : Nat} {f : ByteArray × JV → Bool} {g : RM → Bool} (hfg : ∀ p q, p.1 = q.name → f p = g q) : ∀ {ms : List (ByteArray × JV)} {rms : List RM}, MemsOf w B ms rms → MemsOf w B (ms.filter f) (rms.filter g)
  | [], [], h => MemsOf.nil _ _
  | [], q :: rms, h => by have := h.len; simp at this
  | p :: ms, [], h => by have := h.len; simp at this
  | p :: ms, q :: rms, h => by
    obtain ⟨h1, h2, h3⟩ := h.uncons
    have ih := MemsOf.filter hfg h3
    rw [List.filter_cons, List.filter_cons, hfg p q h1]
    split
    · exact ih.cons h1 h2
    · exact ih
/-- What a map without a name has. -/
def cutM (ms : List (ByteArray × JV)) (name : ByteArray) : List (ByteArray × JV) := ms.filter (fun p => !decide (p.1 = name))

/-- The last step: the map is laid into its result. -/
theorem MapRet.fin {w W0 W : World} {B g : Nat} {pm : Option Addr} {nm cm : Nat} {rms : List RM} {ms : List (ByteArray × JV)} (hBw : B ≤ w.heap.size) (hg : w.heap.size ≤ g) (hg0 : g < W0.heap.size) (hb0 : w.heap.size ≤ W0.heap.size) (hb : Below w.heap.size w W) (ho : Own W W0.heap.size 90 encM 6 (.slice pm nm cm) rms) (hm : MemsOf W B ms rms) :
    MapRet w B ms (.returned (RV.val ⟨6, 0, ⟨#[]⟩, none, 0, 0, pm, nm, cm⟩)) (((((W.setCell ⟨g, 0, none⟩ (.int .i64 6)).setCell ⟨g, 1, none⟩ (.int .i64 0)).setCell ⟨g, 2, none⟩ (.string ⟨#[]⟩)).setCell ⟨g, 3, none⟩ (.slice none 0 0)).setCell ⟨g, 4, none⟩ (.slice pm nm cm)) := by
  have hlt := ho.lt
  refine ⟨pm, nm, cm, rms, rfl, ?_, hm.under (Below.stored (Below.refl _ _) (by omega) ⟨6, 0, ⟨#[]⟩, none, 0, 0, pm, nm, cm⟩) (Nat.le_refl _), Below.stored hb hg ⟨6, 0, ⟨#[]⟩, none, 0, 0, pm, nm, cm⟩⟩
  refine (ho.mono hb0).kept (grownBy_set5 W g ⟨6, 0, ⟨#[]⟩, none, 0, 0, pm, nm, cm⟩) ?_
  cases hob : (Value.slice pm nm cm).ownBlock with
  | none => exact .inl rfl
  | some j =>
    refine .inr (fun h => ?_)
    have := (hlt j hob).1
    injection h with h
    omega

set_option maxRecDepth 100000 in
set_option maxHeartbeats 2000000 in
theorem without_any (t : JV) (r : RV) (name : ByteArray) (w : World) (B : Nat) (hBw : B ≤ w.heap.size) (ht : TreeOf w B t r) (ot : t.Ok) (hlen : t.mem.length ≤ 1466015503658) :
    Calls Try.prog 38 #[r.val, .string name] w (MapRet w B (cutM t.mem name)) := by
  obtain ⟨k, n, s, pl, nl, cl, pm, nm, cm⟩ := r
  dsimp only [RV.val] at *
  have HT := Lib.hid ht
  have HO := Lib.hid ot
  have HL := Lib.hid hlen
  have hA0 : VAt (((w.alloc (.cells #[.int .i64 k, .int .i64 n, .string s, .slice pl nl cl, .slice pm nm cm] 25)).alloc (.cells #[.string name] 9)).alloc (.cells #[.int .i64 0, .int .i64 0, .string ⟨#[]⟩, .slice none 0 0, .slice none 0 0] 25)) w.heap.size ⟨k, n, s, pl, nl, cl, pm, nm, cm⟩ := heap_alloc_lt (by simp; omega) (heap_alloc_lt (by simp) (heap_alloc_at rfl))
  have hA1 : (((w.alloc (.cells #[.int .i64 k, .int .i64 n, .string s, .slice pl nl cl, .slice pm nm cm] 25)).alloc (.cells #[.string name] 9)).alloc (.cells #[.int .i64 0, .int .i64 0, .string ⟨#[]⟩, .slice none 0 0, .slice none 0 0] 25)).heap[w.heap.size + 1]? = some (.cells #[.string name] 9 (0, 0)) := heap_alloc_lt (by simp) (heap_alloc_at (by simp))
  have hA2 : VAt (((w.alloc (.cells #[.int .i64 k, .int .i64 n, .string s, .slice pl nl cl, .slice pm nm cm] 25)).alloc (.cells #[.string name] 9)).alloc (.cells #[.int .i64 0, .int .i64 0, .string ⟨#[]⟩, .slice none 0 0, .slice none 0 0] 25)) (w.heap.size + 1 + 1) RV.zero := heap_alloc_at (by simp)
  have hB0 := (below2 w (.cells #[.int .i64 k, .int .i64 n, .string s, .slice pl nl cl, .slice pm nm cm] 25) (.cells #[.string name] 9)).alloc (by simp; omega) (.cells #[.int .i64 0, .int .i64 0, .string ⟨#[]⟩, .slice none 0 0, .slice none 0 0] 25)
  clear ht ot hlen
  go_enter Try.func38, Try.ntmps38
  go_upto_region 1 with fail
  obtain ⟨W0, hW0⟩ : ∃ W0, (((w.alloc (.cells #[.int .i64 k, .int .i64 n, .string s, .slice pl nl cl, .slice pm nm cm] 25)).alloc (.cells #[.string name] 9)).alloc (.cells #[.int .i64 0, .int .i64 0, .string ⟨#[]⟩, .slice none 0 0, .slice none 0 0] 25)) = W0 := ⟨_, rfl⟩
  rw [hW0] at hA0 hA1 hA2 hB0 ⊢
  clear hW0
  have p0 := hA0.cell 0 rfl
  have p1 := hA0.cell 1 rfl
  have p2 := hA0.cell 2 rfl
  have p3 := hA0.cell 3 rfl
  have p4 := hA0.cell 4 rfl
  have hzz : w.heap.size + 1 + 1 < W0.heap.size := hA2.lt
  have hnm0 : W0.cell? ⟨w.heap.size + 1, 0, none⟩ = some (.string name) := by rw [cell_of_row W0 _ 0 _ _ _ hA1]; rfl
  have HNM := Lib.hid hnm0
  clear hnm0 hA1
  go_upto_region 2 with (first
    | (go_at_call 77; refine (members_any t ⟨k, n, s, pl, nl, cl, pm, nm, cm⟩ _ B (Nat.le_trans hBw hB0.size) (HT.out.under (hB0.mono hBw) (Nat.le_refl _)) HO.out).mono ?_; rintro e w1 ⟨pp, pn, pc, rms, rfl, ho1, hms1, hb1⟩)
    | (go_at_call 79; refine (deleteFunc_any _ W0.heap.size pp pn pc rms ho1 hb1.size (w.heap.size + 1) name (bcs hb1 (by omega) HNM.out) (by omega) (by have := hms1.len; have := HL.out; omega)).mono ?_; rintro e w2 ⟨m, rfl, ho2, hb2⟩))
  have HB1 : Below w.heap.size w w2 := hB0.trans ((hb1.mono hB0.size).trans (hb2.mono hB0.size))
  have HZ : VAt w2 (w.heap.size + 1 + 1) RV.zero := hA2.under (hb1.trans hb2) (by omega)
  have z0 := HZ.cell 0 rfl
  have z1 := HZ.cell 1 rfl
  have z2 := HZ.cell 2 rfl
  have z3 := HZ.cell 3 rfl
  have z4 := HZ.cell 4 rfl
  dsimp only [RV.zero] at z0 z1 z2 z3 z4
  have y0 := HZ.frozen 0
  have y1 := HZ.frozen 1
  have y2 := HZ.frozen 2
  have y3 := HZ.frozen 3
  have y4 := HZ.frozen 4
  have HM2 := Lib.hid ((hms1.filter (f := fun p => !decide (p.1 = name)) (g := fun x => !nameB name x) (fun p q h => by unfold nameB; rw [h])).under (hb2.mono (Nat.le_trans hBw hB0.size)) (Nat.le_refl _))
  have HO2 := Lib.hid ho2
  clear p0 p1 p2 p3 p4 hA0 hA2 ho1 hms1 hb1 hb2 ho2
  go_wp2_with fail
  exact bodyPost_ret (v := RV.val ⟨6, 0, ⟨#[]⟩, none, 0, 0, pp, m, pc⟩) (by simp [results, Try.results38, go_sem, z0, z1, z2, z3, z4]) rfl (MapRet.fin hBw (by omega) hzz hB0.size HB1 HO2.out HM2.out)
end Go.Proofs.Ythgkgjcnmahacaa
end

section
/- The law's two maps of two members: plain facts. -/
set_option linter.unusedSimpArgs false
set_option linter.unusedVariables false
namespace Go.Proofs.Ythgkgjcnmahacaa
open Go.RowKit Go.OpenShut

def nA : ByteArray := ⟨#[97]⟩
def nB : ByteArray := ⟨#[98]⟩
def nC : ByteArray := ⟨#[99]⟩
def tvM : List (ByteArray × JV) := [(nB, numT 1), (nA, numT 2)]
def twM : List (ByteArray × JV) := [(nA, numT 2), (nB, numT 1)]
def tvT : JV := .mk 6 0 ⟨#[]⟩ [] tvM
def twT : JV := .mk 6 0 ⟨#[]⟩ [] twM
theorem num_ok (n : Int) (h : (Lit.int .i64 n).wf = true) : (numT n).Ok := .mk (by decide) h (by decide) (by decide) (by decide) (fun i x h => by simp at h) (fun i p h => by simp at h) (fun i p h => by simp at h)
theorem tv_ok : tvT.Ok := .mk (by decide) (by decide) (by decide) (by decide) (by simp [tvM]) (fun i x h => by simp at h)
  (fun i p h => by
    match i with
    | 0 => cases h; decide
    | 1 => cases h; decide
    | i + 2 => simp [tvM] at h)
  (fun i p h => by
    match i with
    | 0 => cases h; exact num_ok _ (by decide)
    | 1 => cases h; exact num_ok _ (by decide)
    | i + 2 => simp [tvM] at h)
theorem tw_ok : twT.Ok := .mk (by decide) (by decide) (by decide) (by decide) (by simp [twM]) (fun i x h => by simp at h)
  (fun i p h => by
    match i with
    | 0 => cases h; decide
    | 1 => cases h; decide
    | i + 2 => simp [twM] at h)
  (fun i p h => by
    match i with
    | 0 => cases h; exact num_ok _ (by decide)
    | 1 => cases h; exact num_ok _ (by decide)
    | i + 2 => simp [twM] at h)
theorem tv_a : tvT.get nA = some (numT 2) := rfl
theorem tv_c : tvT.get nC = none := rfl
theorem tv_count : countT tvT = 3 := by simp [tvT, tvM, numT, countT, countL, countM]
theorem tv_with (x : JV) : (putM (tvT.place nC) tvT.mem nC x).length = 3 := rfl
theorem tv_without : (cutM tvT.mem nA).length = 1 := rfl
theorem num_sort {n : Int} {u : JV} (h : SortOf (numT n) u) : u = numT n := by
  unfold numT at h
  cases h with
  | mk el cl em cn cm st =>
    have h1 := List.eq_nil_of_length_eq_zero el
    have h2 := List.eq_nil_of_length_eq_zero em
    subst h1 h2
    have h3 := st.perm.eq_nil
    subst h3
    rfl
theorem tv_sort {u : JV} (h : SortOf tvT u) : u = twT := by
  unfold tvT at h
  cases h with
  | @mk _ _ _ _ l' _ mm m' el cl em cn cm st =>
    have h1 := List.eq_nil_of_length_eq_zero el
    subst h1
    have hmm : mm = tvM := by
      match mm, em with
      | [p, q], _ =>
        have a1 := cn 0 _ p rfl rfl
        have a2 := num_sort (cm 0 _ p rfl rfl)
        have b1 := cn 1 _ q rfl rfl
        have b2 := num_sort (cm 1 _ q rfl rfl)
        obtain ⟨p1, p2⟩ := p
        obtain ⟨q1, q2⟩ := q
        simp only at a1 a2 b1 b2
        subst a1 a2 b1 b2
        rfl
    subst hmm
    have hst : IsStable cfJ tvM twM := ⟨[((nA, numT 2), 1), ((nB, numT 1), 0)], by simpa [tvM] using List.Perm.swap _ _ _, by
      rw [List.pairwise_cons]
      refine ⟨fun a ha => ?_, List.pairwise_singleton _ _⟩
      rw [List.mem_singleton] at ha
      subst ha
      exact by decide, rfl⟩
    rw [st.unique cmpJ hst]
    rfl
theorem tv_same : SameT tvT twT := by
  refine .mk rfl rfl (fun i t u h => by simp at h) (fun i p h => ?_) (fun i j p q h1 h2 h3 => ?_)
  · match i with
    | 0 => cases h; exact by decide
    | 1 => cases h; exact by decide
    | i + 2 => simp [tvM] at h
  · match i with
    | 0 =>
      cases h1
      have : twM.findIdx? (fun q => decide (q.1 = nB)) = some 1 := rfl
      rw [this] at h2
      cases h2; cases h3
      exact .mk rfl rfl (fun i t u h => by simp at h) (fun i p h => by simp at h) (fun i j p q h => by simp at h)
    | 1 =>
      cases h1
      have : twM.findIdx? (fun q => decide (q.1 = nA)) = some 0 := rfl
      rw [this] at h2
      cases h2; cases h3
      exact .mk rfl rfl (fun i t u h => by simp at h) (fun i p h => by simp at h) (fun i j p q h => by simp at h)
    | i + 2 => simp [tvM] at h1
end Go.Proofs.Ythgkgjcnmahacaa
end

section
/- The boxes of the law's example: plain facts. -/
set_option linter.unusedSimpArgs false
set_option linter.unusedVariables false
namespace Go.Proofs.Ythgkgjcnmahacaa
open Go.RowKit Go.OpenShut

def b18_1 : BoxD := ⟨[(nA, numT 1)], [⟨1, nA, 1⟩], 1, 0, 2⟩
def b18_2 : BoxD := ⟨[(nA, numT 1), (nB, numT 2)], [⟨1, nA, 1⟩, ⟨2, nB, 1⟩], 2, 0, 2⟩
def b18_3 : BoxD := ⟨[(nB, numT 2)], [⟨2, nB, 1⟩, ⟨3, nA, 3⟩], 3, 1, 2⟩
theorem num_same (n : Int) : SameT (numT n) (numT n) := .mk rfl rfl (fun i t u h => by simp at h) (fun i p h => by simp at h) (fun i j p q h => by simp at h)
theorem new_02 : newB 0 2 = ⟨[], [], 0, 0, 2⟩ := rfl
theorem put18_1 : putB ⟨[], [], 0, 0, 2⟩ nA (numT 1) = (b18_1, 0) := by
  unfold putB
  rw [if_neg (by decide), if_neg (by decide), if_neg (by decide)]
  rfl
theorem put18_2 : putB b18_1 nB (numT 2) = (b18_2, 0) := by
  unfold putB
  rw [if_neg (by decide), if_neg (by decide), if_neg (by decide)]
  rfl
theorem put18_3 : putB b18_2 nA (numT 1) = (b18_2, 0) := by
  unfold putB
  have h : oldV b18_2.objs nA = numT 1 := rfl
  rw [if_pos (by decide), h, if_pos (num_same 1)]
theorem drop18_4 : dropB b18_2 nA = (b18_3, 0) := by
  unfold dropB
  rw [if_neg (by decide), if_neg (by decide)]
  rfl
theorem drop18_5 : dropB b18_3 nA = (BoxD.zero, 81) := by
  unfold dropB
  rw [if_pos (by decide)]
theorem right18 : RightBx b18_3 := ⟨fun i j p q h h1 h2 => by
    have := (List.getElem?_eq_some_iff.1 h2).1
    simp [b18_3] at this
    omega, by decide, by decide, by decide, by decide, by decide⟩

/-- Its values have no lists. -/
def Plain (os : List (ByteArray × JV)) : Prop := ∀ p ∈ os, ∃ n, p.2 = numT n
theorem bare_tree {w w' : World} {B : Nat} {t : JV} {r : RV} (h : TreeOf w B t r) (hl : t.l = []) (hm : t.m = []) : TreeOf w' 0 t r := by
  cases h with
  | @mk _ l m rs rms ha el cl hb em cn cm =>
  have e1 : l = [] := hl
  have e2 : m = [] := hm
  subst e1 e2
  have h1 := List.eq_nil_of_length_eq_zero el.symm
  have h2 := List.eq_nil_of_length_eq_zero em.symm
  subst h1 h2
  obtain ⟨p1, c1, e1, a1, a2, a3, a4⟩ := ha
  obtain ⟨p2, c2, e2, d1, d2, d3, d4⟩ := hb
  exact TreeOf.mk (r := r) (rs := []) (rms := []) ⟨p1, c1, e1, a1, a2, a3, fun a _ h => by simp at h⟩ rfl (fun i t q h => by simp at h) ⟨p2, c2, e2, d1, d2, d3, fun a _ h => by simp at h⟩ rfl (fun i p q h => by simp at h) (fun i p q h => by simp at h)
theorem plain_tree {w w' : World} {B : Nat} {n : Int} {r : RV} (h : TreeOf w B (numT n) r) : TreeOf w' 0 (numT n) r := bare_tree h rfl rfl
theorem NewBox.plain {W : World} {base B : Nat} {b : BoxD} {r : RB} (h : NewBox W base B b r) (hp : Plain b.objs) : NewBox W base 0 b r := by
  obtain ⟨ros, h1, h2⟩ := h.objs
  refine ⟨⟨ros, h1, h2.len, h2.name, fun i p q a c => ?_⟩, h.trail, h.ok, h.seq, h.floor, h.keep⟩
  obtain ⟨n, hn⟩ := hp p (List.mem_of_getElem? a)
  have := h2.val i p q a c
  rw [hn] at this ⊢
  exact plain_tree this
theorem num_tree (w : World) (n : Int) : TreeOf w 0 (numT n) ⟨3, n, ⟨#[]⟩, none, 0, 0, none, 0, 0⟩ :=
  TreeOf.mk (r := ⟨3, n, ⟨#[]⟩, none, 0, 0, none, 0, 0⟩) (rs := []) (rms := []) (Rd.nil _ _) rfl (fun i t q h => by simp at h) (Rd.nil _ _) rfl (fun i p q h => by simp at h) (fun i p q h => by simp at h)
theorem b18_ok1 : b18_1.Ok := ⟨by decide, fun p h => by simp [b18_1] at h; subst h; exact ⟨by decide, num_ok _ (by decide)⟩, by decide, by decide, by decide, by decide⟩
theorem b18_ok2 : b18_2.Ok := ⟨by decide, fun p h => by simp [b18_2] at h; rcases h with rfl | rfl <;> exact ⟨by decide, num_ok _ (by decide)⟩, by decide, by decide, by decide, by decide⟩
theorem b18_ok3 : b18_3.Ok := ⟨by decide, fun p h => by simp [b18_3] at h; subst h; exact ⟨by decide, num_ok _ (by decide)⟩, by decide, by decide, by decide, by decide⟩
theorem b18_ok0 : (⟨[], [], 0, 0, 2⟩ : BoxD).Ok := ⟨by decide, fun p h => by simp at h, by decide, by decide, by decide, by decide⟩
theorem rise0 : Rising [] := fun i j p q h h1 h2 => by simp at h1
theorem rise1 (p : ByteArray × JV) : Rising [p] := fun i j a b h h1 h2 => by
  have := (List.getElem?_eq_some_iff.1 h2).1
  simp at this
  omega
theorem rise2 : Rising b18_2.objs := fun i j a b h h1 h2 => by
  have := (List.getElem?_eq_some_iff.1 h2).1
  simp [b18_2] at this
  obtain rfl : i = 0 := by omega
  obtain rfl : j = 1 := by omega
  cases h1; cases h2
  decide
theorem plain0 : Plain [] := fun p h => by simp at h
theorem plain1 : Plain b18_1.objs := fun p h => by simp [b18_1] at h; exact ⟨1, by rw [h]⟩
theorem plain2 : Plain b18_2.objs := fun p h => by simp [b18_2] at h; rcases h with rfl | rfl; exact ⟨1, rfl⟩; exact ⟨2, rfl⟩
theorem plain3 : Plain b18_3.objs := fun p h => by simp [b18_3] at h; exact ⟨2, by rw [h]⟩
end Go.Proofs.Ythgkgjcnmahacaa
end

section
/- The law's example of a box: true. -/
set_option linter.unusedSimpArgs false
set_option linter.unusedVariables false
namespace Go.Proofs.Ythgkgjcnmahacaa
open Go.RowKit Go.OpenShut

/-- The example's box: in block g, its lists behind it. -/
structure AwS (w W : World) (g : Nat) (b : BoxD) (r : RB) : Prop where
  box : BoxAt W g r
  new : ∃ base, g < base ∧ base ≤ W.heap.size ∧ NewBox W base 0 b r
  below : Below w.heap.size w W
  ge : w.heap.size ≤ g
section
variable {w W W' : World} {g : Nat} {b : BoxD} {r : RB} (h : AwS w W g b r)
include h
theorem AwS.go (hb : Below W.heap.size W W') : AwS w W' g b r := by
  obtain ⟨base, h1, h2, h3⟩ := h.new
  exact ⟨h.box.under hb h.box.lt, ⟨base, h1, Nat.le_trans h2 hb.size, h3.below hb (Nat.zero_le _)⟩, h.below.trans (hb.mono h.below.size), h.ge⟩
theorem AwS.of : BoxOf W W.heap.size b r := by
  obtain ⟨base, h1, h2, h3⟩ := h.new
  exact h3.box (Nat.zero_le _)
theorem AwS.store {base B : Nat} {b' : BoxD} {q : RB} (hg : g < base) (hb : base ≤ W.heap.size) (hn : NewBox W base B b' q) (hp : Plain b'.objs) : AwS w (((((W.setCell ⟨g, 0, none⟩ (.slice q.po q.no q.co)).setCell ⟨g, 1, none⟩ (.slice q.pt q.nt q.ct)).setCell ⟨g, 2, none⟩ (.int .i64 q.sq)).setCell ⟨g, 3, none⟩ (.int .i64 q.fl)).setCell ⟨g, 4, none⟩ (.int .i64 q.kp)) g b' q := by
  have hne := hn.ne hg
  refine ⟨h.box.stored q, ⟨base, hg, by simpa using hb, (hn.plain hp).kept (grownBy_setB W g q) hne.1 hne.2 (Nat.zero_le _) (Nat.zero_le _)⟩, h.below.grown (grownBy_setB W g q) h.below.size (fun a e => by cases e; exact h.ge), h.ge⟩
theorem AwS.put (hr : Rising b.objs) (ob : b.Ok) {id : ByteArray} {n : Int} (hn : (Lit.int .i64 n).wf = true) (hid : id.size ≤ 140737488351232) {b' : BoxD} (he : putB b id (numT n) = (b', 0)) (hp : Plain b'.objs) :
    Calls Try.prog 22 #[r.val, .string id, .agg #[.int .i64 3, .int .i64 n, .string ⟨#[]⟩, .slice none 0 0, .slice none 0 0]] W fun e w' => ∃ q, e = .returned (.tuple #[RB.val q, .int .i64 0]) ∧ AwS w w' g b r ∧ AwS w (((((w'.setCell ⟨g, 0, none⟩ (.slice q.po q.no q.co)).setCell ⟨g, 1, none⟩ (.slice q.pt q.nt q.ct)).setCell ⟨g, 2, none⟩ (.int .i64 q.sq)).setCell ⟨g, 3, none⟩ (.int .i64 q.fl)).setCell ⟨g, 4, none⟩ (.int .i64 q.kp)) g b' q :=
  (put_any b r id (numT n) ⟨3, n, ⟨#[]⟩, none, 0, 0, none, 0, 0⟩ W h.of hr ob ((num_tree W n).mono (Nat.zero_le _)) (num_ok n hn) hid).mono fun e w' hq => by
    obtain ⟨q, rfl, h1, h2⟩ := hq
    rw [he] at h1 ⊢
    have h3 := h.go h2
    exact ⟨q, rfl, h3, h3.store (base := W.heap.size) h.box.lt h2.size h1 hp⟩
theorem AwS.drop (hr : Rising b.objs) (ob : b.Ok) {id : ByteArray} (hid : id.size ≤ 140737488351232) {b' : BoxD} (he : dropB b id = (b', 0)) (hp : Plain b'.objs) :
    Calls Try.prog 23 #[r.val, .string id] W fun e w' => ∃ q, e = .returned (.tuple #[RB.val q, .int .i64 0]) ∧ AwS w w' g b r ∧ AwS w (((((w'.setCell ⟨g, 0, none⟩ (.slice q.po q.no q.co)).setCell ⟨g, 1, none⟩ (.slice q.pt q.nt q.ct)).setCell ⟨g, 2, none⟩ (.int .i64 q.sq)).setCell ⟨g, 3, none⟩ (.int .i64 q.fl)).setCell ⟨g, 4, none⟩ (.int .i64 q.kp)) g b' q :=
  (drop_any b r id W h.of hr ob hid).mono fun e w' hq => by
    obtain ⟨q, rfl, h1, h2⟩ := hq
    rw [he] at h1 ⊢
    have h3 := h.go h2
    exact ⟨q, rfl, h3, h3.store (base := W.heap.size) h.box.lt h2.size h1 hp⟩
end

set_option maxRecDepth 200000 in
set_option maxHeartbeats 8000000 in
theorem awake18_any (w : World) : Calls Try.prog 18 #[] w fun e w' => e = .returned (.bool true) ∧ Below w.heap.size w w' := by
  go_enter Try.func18, Try.ntmps18
  go_upto_region 2 with (go_at_call 29; refine (new_any 0 2 _).mono ?_; rintro e w1 ⟨rfl, hb1⟩)
  have hS0 : AwS w (w1.alloc (.cells #[.slice (newR 0 2).po (newR 0 2).no (newR 0 2).co, .slice (newR 0 2).pt (newR 0 2).nt (newR 0 2).ct, .int .i64 (newR 0 2).sq, .int .i64 (newR 0 2).fl, .int .i64 (newR 0 2).kp] 35)) w1.heap.size ⟨[], [], 0, 0, 2⟩ (newR 0 2) :=
    ⟨heap_alloc_at rfl, ⟨w1.heap.size + 1, by omega, by simp, ⟨⟨[], Own.nil _ _ _, MemsOf.nil _ _⟩, Own.nil _ _ _, fun e h => by simp at h, rfl, rfl, rfl⟩⟩, hb1.alloc hb1.size _, hb1.size⟩
  obtain ⟨W0, hW0⟩ : ∃ W0, (w1.alloc (.cells #[.slice (newR 0 2).po (newR 0 2).no (newR 0 2).co, .slice (newR 0 2).pt (newR 0 2).nt (newR 0 2).ct, .int .i64 (newR 0 2).sq, .int .i64 (newR 0 2).fl, .int .i64 (newR 0 2).kp] 35)) = W0 := ⟨_, rfl⟩
  obtain ⟨g, hg⟩ : ∃ g, w1.heap.size = g := ⟨_, rfl⟩
  obtain ⟨r0, hr0⟩ : ∃ r, newR 0 2 = r := ⟨_, rfl⟩
  rw [hr0] at hW0 hS0
  rw [hr0, hW0, hg]
  rw [hW0, hg] at hS0
  clear hW0 hg hr0 hb1
  have HSD := Lib.hid (hS0.go (Below.refl _ _).drew)
  have hzg := hS0.box.lt
  have c0 := hS0.box.cell 0 rfl
  have c1 := hS0.box.cell 1 rfl
  have c2 := hS0.box.cell 2 rfl
  have c3 := hS0.box.cell 3 rfl
  have c4 := hS0.box.cell 4 rfl
  clear hS0
  go_cut [2] from 9 to 15 (fun v wr => v = .int .i64 0 ∧ ∃ q, AwS w wr g b18_1 q)
  case first =>
    go_region_law (first
      | (go_simp; go_at_call 56; refine (num_any _ _).mono ?_; rintro e w1 ⟨rfl, hb1⟩; (have HS1 := Lib.hid (HSD.out.go hb1)); (have d0 := HS1.out.box.cell 0 rfl); (have d1 := HS1.out.box.cell 1 rfl); (have d2 := HS1.out.box.cell 2 rfl); (have d3 := HS1.out.box.cell 3 rfl); (have d4 := HS1.out.box.cell 4 rfl))
      | (go_simp; go_at_call 22; refine (HS1.out.put rise0 b18_ok0 (by decide) (by decide) put18_1 plain1).mono ?_; rintro e w2 ⟨q, rfl, h2, h3⟩; (have HS2 := Lib.hid h2); (have HS3 := Lib.hid h3); clear h2 h3; (have f0 := HS2.out.box.cell 0 rfl); (have f1 := HS2.out.box.cell 1 rfl); (have f2 := HS2.out.box.cell 2 rfl); (have f3 := HS2.out.box.cell 3 rfl); (have f4 := HS2.out.box.cell 4 rfl); (have x0 := HS2.out.box.frozen 0); (have x1 := HS2.out.box.frozen 1); (have x2 := HS2.out.box.frozen 2); (have x3 := HS2.out.box.frozen 3); (have x4 := HS2.out.box.frozen 4)))
    all_goals go_wp2_with fail
    all_goals (
      go_meet
      exact ⟨rfl, q, HS3.out⟩)
  case rest =>
  obtain ⟨rfl, r1, hS1⟩ := hcut
  clear HSD hzg c0 c1 c2 c3 c4
  go_upto_region 3 with fail
  have HSD := Lib.hid (hS1.go (Below.refl _ _).drew)
  have hzg := hS1.box.lt
  have c0 := hS1.box.cell 0 rfl
  have c1 := hS1.box.cell 1 rfl
  have c2 := hS1.box.cell 2 rfl
  have c3 := hS1.box.cell 3 rfl
  have c4 := hS1.box.cell 4 rfl
  clear hS1
  go_cut [3] from 15 to 21 (fun v wr => v = .int .i64 0 ∧ ∃ q, AwS w wr g b18_2 q)
  case first =>
    go_region_law (first
      | (go_simp; go_at_call 56; refine (num_any _ _).mono ?_; rintro e w1 ⟨rfl, hb1⟩; (have HS1 := Lib.hid (HSD.out.go hb1)); (have d0 := HS1.out.box.cell 0 rfl); (have d1 := HS1.out.box.cell 1 rfl); (have d2 := HS1.out.box.cell 2 rfl); (have d3 := HS1.out.box.cell 3 rfl); (have d4 := HS1.out.box.cell 4 rfl))
      | (go_simp; go_at_call 22; refine (HS1.out.put (rise1 _) b18_ok1 (by decide) (by decide) put18_2 plain2).mono ?_; rintro e w2 ⟨q, rfl, h2, h3⟩; (have HS2 := Lib.hid h2); (have HS3 := Lib.hid h3); clear h2 h3; (have f0 := HS2.out.box.cell 0 rfl); (have f1 := HS2.out.box.cell 1 rfl); (have f2 := HS2.out.box.cell 2 rfl); (have f3 := HS2.out.box.cell 3 rfl); (have f4 := HS2.out.box.cell 4 rfl); (have x0 := HS2.out.box.frozen 0); (have x1 := HS2.out.box.frozen 1); (have x2 := HS2.out.box.frozen 2); (have x3 := HS2.out.box.frozen 3); (have x4 := HS2.out.box.frozen 4)))
    all_goals go_wp2_with fail
    all_goals (
      go_meet
      exact ⟨rfl, q, HS3.out⟩)
  case rest =>
  obtain ⟨rfl, r2, hS2⟩ := hcut
  clear HSD hzg c0 c1 c2 c3 c4
  go_upto_region 4 with fail
  have HSD := Lib.hid (hS2.go (Below.refl _ _).drew)
  have hzg := hS2.box.lt
  have c0 := hS2.box.cell 0 rfl
  have c1 := hS2.box.cell 1 rfl
  have c2 := hS2.box.cell 2 rfl
  have c3 := hS2.box.cell 3 rfl
  have c4 := hS2.box.cell 4 rfl
  clear hS2
  go_cut [4] from 21 to 27 (fun v wr => v = .int .i64 0 ∧ ∃ q, AwS w wr g b18_2 q)
  case first =>
    go_region_law (first
      | (go_simp; go_at_call 56; refine (num_any _ _).mono ?_; rintro e w1 ⟨rfl, hb1⟩; (have HS1 := Lib.hid (HSD.out.go hb1)); (have d0 := HS1.out.box.cell 0 rfl); (have d1 := HS1.out.box.cell 1 rfl); (have d2 := HS1.out.box.cell 2 rfl); (have d3 := HS1.out.box.cell 3 rfl); (have d4 := HS1.out.box.cell 4 rfl))
      | (go_simp; go_at_call 22; refine (HS1.out.put rise2 b18_ok2 (by decide) (by decide) put18_3 plain2).mono ?_; rintro e w2 ⟨q, rfl, h2, h3⟩; (have HS2 := Lib.hid h2); (have HS3 := Lib.hid h3); clear h2 h3; (have f0 := HS2.out.box.cell 0 rfl); (have f1 := HS2.out.box.cell 1 rfl); (have f2 := HS2.out.box.cell 2 rfl); (have f3 := HS2.out.box.cell 3 rfl); (have f4 := HS2.out.box.cell 4 rfl); (have x0 := HS2.out.box.frozen 0); (have x1 := HS2.out.box.frozen 1); (have x2 := HS2.out.box.frozen 2); (have x3 := HS2.out.box.frozen 3); (have x4 := HS2.out.box.frozen 4)))
    all_goals go_wp2_with fail
    all_goals (
      go_meet
      exact ⟨rfl, q, HS3.out⟩)
  case rest =>
  obtain ⟨rfl, r3, hS3⟩ := hcut
  clear HSD hzg c0 c1 c2 c3 c4
  go_upto_region 5 with fail
  have hzg := hS3.box.lt
  have c0 := hS3.box.cell 0 rfl
  have c1 := hS3.box.cell 1 rfl
  have c2 := hS3.box.cell 2 rfl
  have c3 := hS3.box.cell 3 rfl
  have c4 := hS3.box.cell 4 rfl
  have HD := Lib.hid (hS3.drop rise2 b18_ok2 (by decide) drop18_4 plain3)
  clear hS3
  go_upto_region 6 with (go_at_call 23; refine HD.out.mono ?_; rintro e w2 ⟨r4, rfl, h2, h3⟩; clear c0 c1 c2 c3 c4; (have HS2 := Lib.hid h2); (have HS3 := Lib.hid h3); clear h2 h3; (have c0 := HS2.out.box.cell 0 rfl); (have c1 := HS2.out.box.cell 1 rfl); (have c2 := HS2.out.box.cell 2 rfl); (have c3 := HS2.out.box.cell 3 rfl); (have c4 := HS2.out.box.cell 4 rfl); (have x0 := HS2.out.box.frozen 0); (have x1 := HS2.out.box.frozen 1); (have x2 := HS2.out.box.frozen 2); (have x3 := HS2.out.box.frozen 3); (have x4 := HS2.out.box.frozen 4))
  obtain ⟨W4, hW4⟩ : ∃ W4, (((((w2.setCell ⟨g, 0, none⟩ (.slice r4.po r4.no r4.co)).setCell ⟨g, 1, none⟩ (.slice r4.pt r4.nt r4.ct)).setCell ⟨g, 2, none⟩ (.int .i64 r4.sq)).setCell ⟨g, 3, none⟩ (.int .i64 r4.fl)).setCell ⟨g, 4, none⟩ (.int .i64 r4.kp)) = W4 := ⟨_, rfl⟩
  rw [hW4] at HS3 ⊢
  clear hW4 HS2 c0 c1 c2 c3 c4 x0 x1 x2 x3 x4 HD hzg
  have hS4 := HS3.out
  have hzg := hS4.box.lt
  have c0 := hS4.box.cell 0 rfl
  have c1 := hS4.box.cell 1 rfl
  have c2 := hS4.box.cell 2 rfl
  have c3 := hS4.box.cell 3 rfl
  have c4 := hS4.box.cell 4 rfl
  have HE := Lib.hid (drop_any b18_3 r4 nA W4 hS4.of (rise1 _) b18_ok3 (by decide))
  rw [drop18_5] at HE
  clear hS4
  go_upto_region 7 with (go_at_call 23; refine HE.out.mono ?_; rintro e w5 ⟨q5, rfl, h5, hb5⟩)
  have hS5 := HS3.out.go (hb5.alloc hb5.size (.cells #[.slice q5.po q5.no q5.co, .slice q5.pt q5.nt q5.ct, .int .i64 q5.sq, .int .i64 q5.fl, .int .i64 q5.kp] 35))
  obtain ⟨W5, hW5⟩ : ∃ W5, w5.alloc (.cells #[.slice q5.po q5.no q5.co, .slice q5.pt q5.nt q5.ct, .int .i64 q5.sq, .int .i64 q5.fl, .int .i64 q5.kp] 35) = W5 := ⟨_, rfl⟩
  rw [hW5] at hS5 ⊢
  clear hW5 h5 hb5 HE hzg c0 c1 c2 c3 c4 HS3
  have hof := hS5.of
  have e1 : r4.sq = 3 := hof.seq.symm
  have e2 : r4.fl = 1 := hof.floor.symm
  have e3 : r4.nt = 2 := hof.trail.nlen.symm
  obtain ⟨po, no, co, pt, nt, ct, sq, fl, kp⟩ := r4
  dsimp only at e1 e2 e3
  subst e1 e2 e3
  have hzg := hS5.box.lt
  have c0 := hS5.box.cell 0 rfl
  have c1 := hS5.box.cell 1 rfl
  have c2 := hS5.box.cell 2 rfl
  have c3 := hS5.box.cell 3 rfl
  have c4 := hS5.box.cell 4 rfl
  dsimp only at c0 c1 c2 c3 c4
  have HI := Lib.hid (ids_any b18_3 ⟨po, no, co, pt, 2, ct, 3, 1, kp⟩ W5 hof b18_ok3)
  have HS5 := Lib.hid hS5
  clear hof hS5
  go_wp2_with fail
  refine HI.out.mono ?_
  rintro e w6 ⟨u, rfl, ho6, hb6⟩
  have hR1 : Rd (w6.alloc (.cells #[.string ⟨#[98]⟩] 9)) (w6.heap.size + 1) encS 1 u [nB] := (ho6.rd codecS).below ((Below.refl _ _).alloc (Nat.le_refl _) _) (by omega)
  have hR2 : Rd (w6.alloc (.cells #[.string ⟨#[98]⟩] 9)) (w6.heap.size + 1) encS 1 (.slice (some ⟨w6.heap.size, 0, none⟩) 1 1) [nB] := Rd.one codecS (heap_alloc_at rfl) rfl (by omega)
  have hP := sameParts_any _ _ _ _ _ _ hR1 hR2
  rw [decide_eq_true rfl] at hP
  have HP := Lib.hid hP
  have HB6 := Lib.hid hb6
  clear hR1 hR2 hP ho6 hb6
  go_wp2_with fail
  refine HP.out.mono ?_
  rintro e w7 ⟨rfl, n7, rfl⟩
  have HS7 := HS5.out.go (bdn (HB6.out.alloc HB6.out.size (.cells #[.string ⟨#[98]⟩] 9)) n7)
  clear c0 c1 c2 c3 c4
  have hz7 := HS7.box.lt
  have c0 := HS7.box.cell 0 rfl
  have c1 := HS7.box.cell 1 rfl
  have c2 := HS7.box.cell 2 rfl
  have c3 := HS7.box.cell 3 rfl
  have c4 := HS7.box.cell 4 rfl
  dsimp only at c0 c1 c2 c3 c4
  have hQ := (rightS_any b18_3 ⟨po, no, co, pt, 2, ct, 3, 1, kp⟩ _ HS7.of b18_ok3).mono fun e w' h => h.yes right18
  have HQ := Lib.hid hQ
  have HS7 := Lib.hid HS7
  clear hQ
  go_wp2_with fail
  refine HQ.out.mono ?_
  rintro e w8 ⟨rfl, hb8⟩
  go_wp2_with fail
  go_ret
  exact ⟨rfl, (HS7.out.go hb8).below⟩
end Go.Proofs.Ythgkgjcnmahacaa
end

section
/- Whether a value has but what its kind has; how many values it has: some answer. -/
set_option linter.unusedSimpArgs false
set_option linter.unusedVariables false
namespace Go.Proofs.Ythgkgjcnmahacaa
open Go.RowKit Go.OpenShut

/-- Some truth is told. -/
def SomeB (w : World) (e : Ending) (w' : World) : Prop := ∃ b : Bool, e = .returned (.bool b) ∧ Below w.heap.size w w'
/-- Some number is told. -/
def SomeI (w : World) (e : Ending) (w' : World) : Prop := ∃ n : Int, e = .returned (.int .i64 n) ∧ Below w.heap.size w w'

set_option maxRecDepth 100000 in
set_option maxHeartbeats 2000000 in
theorem own7_any (N : Nat) : ∀ (t : JV) (r : RV) (w : World), SizeOf.sizeOf t ≤ N → TreeOf w w.heap.size t r → t.Ok →
    Calls Try.prog 62 #[r.val] w (SomeB w) := by
  induction N with
  | zero => intro t r w hN; cases t; simp at hN
  | succ N ih =>
    intro t r w hN ht ot
    cases ht with
    | @mk _ l m rs rms hl el hcl hm em hcn hcm =>
    obtain ⟨k, n, s, pl, nl, cl, pm, nm, cm⟩ := r
    cases ot with
    | mk _ _ _ bl bm okl oks okm =>
    dsimp only [RV.val] at *
    have eL := rd_nlen hl
    have eM := rd_nlen hm
    have HT : Hid (∀ (i : Nat) t q, l[i]? = some t → rs[i]? = some q → ∀ W, Below w.heap.size w W → Calls Try.prog 62 #[q.val] W (SomeB W)) :=
      fun i t q h1 h2 W hb => ih t q W (by have := JV.lt_l (k := k) (n := n) (s := s) (m := m) h1; omega) ((hcl i t q h1 h2).under hb hb.size) (okl i t h1)
    have HS : Hid (∀ (i : Nat) p q, m[i]? = some p → rms[i]? = some q → ∀ W, Below w.heap.size w W → Calls Try.prog 62 #[q.v.val] W (SomeB W)) :=
      fun i p q h1 h2 W hb => ih p.2 q.v W (by have := JV.lt_m (k := k) (n := n) (s := s) (l := l) h1; omega) ((hcm i p q h1 h2).under hb hb.size) (okm i p h1)
    have HL := Lib.hid hl
    have HM := Lib.hid hm
    have E1 : Hid (l.length = nl ∧ rs.length = nl) := ⟨by omega, by omega⟩
    have E2 : Hid (m.length = nm ∧ rms.length = nm) := ⟨by omega, by omega⟩
    have hnl : nl ≤ 1759218604390 := by omega
    have hnm : nm ≤ 1466015503658 := by omega
    have hA0 : VAt (w.alloc (.cells #[.int .i64 k, .int .i64 n, .string s, .slice pl nl cl, .slice pm nm cm] 25)) w.heap.size ⟨k, n, s, pl, nl, cl, pm, nm, cm⟩ := heap_alloc_at rfl
    have hB0 : Below w.heap.size w (w.alloc (.cells #[.int .i64 k, .int .i64 n, .string s, .slice pl nl cl, .slice pm nm cm] 25)) := (Below.refl _ _).alloc (Nat.le_refl _) _
    clear ih hcl hcn hcm hl hm okl oks okm el em bl bm eL eM hN
    go_enter Try.func62, Try.ntmps62
    go_upto_region 1 with fail
    obtain ⟨W0, hW0⟩ : ∃ W0, (w.alloc (.cells #[.int .i64 k, .int .i64 n, .string s, .slice pl nl cl, .slice pm nm cm] 25)) = W0 := ⟨_, rfl⟩
    rw [hW0] at hA0 hB0 ⊢
    clear hW0
    have hz := hA0.lt
    have c0 := hA0.cell 0 rfl
    have c3 := hA0.cell 3 rfl
    have c4 := hA0.cell 4 rfl
    dsimp only at c0 c3 c4
    have HA := Lib.hid hA0
    clear hA0
    go_cut [24] from 5 to 24 (fun v wr => ∃ b : Bool, v = .bool b ∧ wr = W0)
    case first =>
      cases h5 : (k != 5) <;> cases h6 : (k != 6) <;> by_cases p1 : 0 < nl <;> by_cases p2 : 0 < nm
      all_goals go_wp2_with fail
      all_goals (go_meet; exact ⟨_, rfl, rfl⟩)
    case rest =>
    obtain ⟨b, rfl, rfl⟩ := hcut
    cases b with
    | true =>
      go_wp2_with fail
      go_ret
      exact ⟨false, rfl, hB0⟩
    | false =>
      go_wp2_with fail
      go_loopw [3] (fun i wr => ∃ j : Nat, j ≤ nl ∧ i = .int .i64 j ∧ Below wc.heap.size wc wr) (fun i _ => nl - (intOf i).toNat)
      case atStart => exact ⟨0, Nat.zero_le _, rfl, Below.refl _ _⟩
      case round =>
        obtain ⟨j, hj, rfl, hbr⟩ := hrel
        have c3 := bcs hbr hz c3
        have hbw : Below w.heap.size w wr := hB0.trans (hbr.mono hB0.size)
        by_cases hlt : j < nl
        · obtain ⟨tx, htx⟩ : ∃ x, l[j]? = some x := ⟨_, List.getElem?_eq_getElem (by have := E1.out; omega)⟩
          obtain ⟨x, hx⟩ : ∃ x, rs[j]? = some x := ⟨_, List.getElem?_eq_getElem (by have := E1.out; omega)⟩
          obtain ⟨b1, o1, rfl, hb1, hc1⟩ := rd_at' (HL.out.below hbw (Nat.le_refl _)) hx
          have f0 := hc1 0 _ rfl
          have f1 := hc1 1 _ rfl
          have f2 := hc1 2 _ rfl
          have f3 := hc1 3 _ rfl
          have f4 := hc1 4 _ rfl
          rw [Nat.add_zero] at f0
          have HC := Lib.hid (HT.out j tx x htx hx)
          have hk0 : (0 : Int) ≤ (j : Int) := Int.natCast_nonneg _
          have hk1 : (j : Int) < (nl : Int) := by omega
          have hzr : wc.heap.size ≤ wr.heap.size := hbr.size
          have HBR := Lib.hid hbr
          clear hc1 htx hx hbr
          go_wp2_with (go_at_call 62; refine (HC.out _ hbw).mono ?_; rintro e w1 ⟨b, rfl, hb1'⟩; cases b)
          · go_ret
            exact ⟨false, rfl, hbw.trans (hb1'.mono hbw.size)⟩
          · go_roundw
            case rel => exact ⟨j + 1, by omega, by go_num, HBR.out.trans (hb1'.mono (by omega))⟩
            case measure => simp [intOf]; omega
        · obtain rfl : j = nl := by omega
          have hz1 : wc.heap.size ≤ wr.heap.size := hbr.size
          have c4 := bcs hbr hz c4
          clear HT HL E1 hbr
          obtain ⟨wo, rfl⟩ : ∃ wo : World, wo = wr := ⟨_, rfl⟩
          go_wp2_with fail
          clear c3
          go_loopw [4] (fun i wq => ∃ j : Nat, j ≤ nm ∧ i = .int .i64 j ∧ Below wo.heap.size wo wq) (fun i _ => nm - (intOf i).toNat)
          case atStart => exact ⟨0, Nat.zero_le _, rfl, Below.refl _ _⟩
          case round =>
            obtain ⟨wq, rfl⟩ : ∃ wq : World, wq = wr := ⟨_, rfl⟩
            obtain ⟨j, hj, rfl, hbr⟩ := hrel
            have hbw2 : Below w.heap.size w wq := hbw.trans (hbr.mono (by omega))
            have c4 := bcs hbr (by omega) c4
            by_cases hlt : j < nm
            · obtain ⟨tx, htx⟩ : ∃ x, m[j]? = some x := ⟨_, List.getElem?_eq_getElem (by have := E2.out; omega)⟩
              obtain ⟨x, hx⟩ : ∃ x, rms[j]? = some x := ⟨_, List.getElem?_eq_getElem (by have := E2.out; omega)⟩
              obtain ⟨b1, o1, rfl, hb1, hc1⟩ := rd_at' (HM.out.below hbw2 (Nat.le_refl _)) hx
              have f0 := hc1 0 _ rfl
              have f1 := hc1 1 _ rfl
              have f2 := hc1 2 _ rfl
              have f3 := hc1 3 _ rfl
              have f4 := hc1 4 _ rfl
              have f5 := hc1 5 _ rfl
              rw [Nat.add_zero] at f0
              have HC := Lib.hid (HS.out j tx x htx hx)
              have hk0 : (0 : Int) ≤ (j : Int) := Int.natCast_nonneg _
              have hk1 : (j : Int) < (nm : Int) := by omega
              have hzr : wc.heap.size ≤ wq.heap.size := by have := hbr.size; omega
              have hzq : wo.heap.size ≤ wq.heap.size := hbr.size
              have HBR := Lib.hid hbr
              clear hc1 htx hx hbr
              go_wp2_with (go_at_call 62; refine (HC.out _ hbw2).mono ?_; rintro e w1 ⟨b, rfl, hb1'⟩; cases b)
              · go_ret
                exact ⟨false, rfl, hbw2.trans (hb1'.mono hbw2.size)⟩
              · go_roundw
                case rel => exact ⟨j + 1, by omega, by go_num, HBR.out.trans (hb1'.mono (by omega))⟩
                case measure => simp [intOf]; omega
            · obtain rfl : j = nm := by omega
              go_wp2_with fail
              go_ret
              exact ⟨true, rfl, hbw2⟩
end Go.Proofs.Ythgkgjcnmahacaa
end

section
/- How many values a value has, within bounds: some number is told. -/
set_option linter.unusedSimpArgs false
set_option linter.unusedVariables false
namespace Go.Proofs.Ythgkgjcnmahacaa
open Go.RowKit Go.OpenShut

set_option maxRecDepth 100000 in
set_option maxHeartbeats 2000000 in
theorem count7_any (N : Nat) : ∀ (t : JV) (r : RV) (most : Int) (w : World), SizeOf.sizeOf t ≤ N → TreeOf w w.heap.size t r → t.Ok →
    Calls Try.prog 61 #[r.val, .int .i64 most] w (SomeI w) := by
  induction N with
  | zero => intro t r most w hN; cases t; simp at hN
  | succ N ih =>
    intro t r most w hN ht ot
    cases ht with
    | @mk _ l m rs rms hl el hcl hm em hcn hcm =>
    obtain ⟨k, n, s, pl, nl, cl, pm, nm, cm⟩ := r
    cases ot with
    | mk _ _ _ bl bm okl oks okm =>
    dsimp only [RV.val] at *
    have eL := rd_nlen hl
    have eM := rd_nlen hm
    have HT : Hid (∀ (i : Nat) t q, l[i]? = some t → rs[i]? = some q → ∀ W, Below w.heap.size w W → ∀ most, Calls Try.prog 61 #[q.val, .int .i64 most] W (SomeI W)) :=
      fun i t q h1 h2 W hb most => ih t q most W (by have := JV.lt_l (k := k) (n := n) (s := s) (m := m) h1; omega) ((hcl i t q h1 h2).under hb hb.size) (okl i t h1)
    have HS : Hid (∀ (i : Nat) p q, m[i]? = some p → rms[i]? = some q → ∀ W, Below w.heap.size w W → ∀ most, Calls Try.prog 61 #[q.v.val, .int .i64 most] W (SomeI W)) :=
      fun i p q h1 h2 W hb most => ih p.2 q.v most W (by have := JV.lt_m (k := k) (n := n) (s := s) (l := l) h1; omega) ((hcm i p q h1 h2).under hb hb.size) (okm i p h1)
    have HL := Lib.hid hl
    have HM := Lib.hid hm
    have E1 : Hid (l.length = nl ∧ rs.length = nl) := ⟨by omega, by omega⟩
    have E2 : Hid (m.length = nm ∧ rms.length = nm) := ⟨by omega, by omega⟩
    have hnl : nl ≤ 1759218604390 := by omega
    have hnm : nm ≤ 1466015503658 := by omega
    have hA0 : VAt (w.alloc (.cells #[.int .i64 k, .int .i64 n, .string s, .slice pl nl cl, .slice pm nm cm] 25)) w.heap.size ⟨k, n, s, pl, nl, cl, pm, nm, cm⟩ := heap_alloc_at rfl
    have hB0 : Below w.heap.size w (w.alloc (.cells #[.int .i64 k, .int .i64 n, .string s, .slice pl nl cl, .slice pm nm cm] 25)) := (Below.refl _ _).alloc (Nat.le_refl _) _
    clear ih hcl hcn hcm hl hm okl oks okm el em bl bm eL eM hN
    go_enter Try.func61, Try.ntmps61
    go_upto_region 1 with fail
    obtain ⟨W0, hW0⟩ : ∃ W0, (w.alloc (.cells #[.int .i64 k, .int .i64 n, .string s, .slice pl nl cl, .slice pm nm cm] 25)) = W0 := ⟨_, rfl⟩
    rw [hW0] at hA0 hB0 ⊢
    clear hW0
    have hz := hA0.lt
    have c3 := hA0.cell 3 rfl
    have c4 := hA0.cell 4 rfl
    dsimp only at c3 c4
    clear hA0
    go_wp2_with fail
    go_loopw [5, 6] (fun a i wr => ∃ (g : Int) (j : Nat), j ≤ nl ∧ a = .int .i64 g ∧ i = .int .i64 j ∧ Below W0.heap.size W0 wr) (fun _ i _ => nl - (intOf i).toNat)
    case atStart => exact ⟨1, 0, Nat.zero_le _, rfl, rfl, Below.refl _ _⟩
    case round =>
      obtain ⟨g, j, hj, rfl, rfl, hbr⟩ := hrel
      have c3 := bcs hbr hz c3
      have hbw : Below w.heap.size w wr := hB0.trans (hbr.mono hB0.size)
      obtain ⟨wo, rfl⟩ : ∃ wo : World, wo = wr := ⟨_, rfl⟩
      by_cases hgo : j < nl ∧ g ≤ most
      · obtain ⟨hlt, hgm⟩ := hgo
        obtain ⟨tx, htx⟩ : ∃ x, l[j]? = some x := ⟨_, List.getElem?_eq_getElem (by have := E1.out; omega)⟩
        obtain ⟨x, hx⟩ : ∃ x, rs[j]? = some x := ⟨_, List.getElem?_eq_getElem (by have := E1.out; omega)⟩
        obtain ⟨b1, o1, rfl, hb1, hc1⟩ := rd_at' (HL.out.below hbw (Nat.le_refl _)) hx
        have f0 := hc1 0 _ rfl
        have f1 := hc1 1 _ rfl
        have f2 := hc1 2 _ rfl
        have f3 := hc1 3 _ rfl
        have f4 := hc1 4 _ rfl
        rw [Nat.add_zero] at f0
        have HC := Lib.hid (HT.out j tx x htx hx)
        have hk0 : (0 : Int) ≤ (j : Int) := Int.natCast_nonneg _
        have hk1 : (j : Int) < (nl : Int) := by omega
        have hzr : W0.heap.size ≤ wo.heap.size := hbr.size
        have HBR := Lib.hid hbr
        clear hc1 htx hx hbr
        go_wp2_with (go_at_call 61; refine (HC.out _ hbw _).mono ?_; rintro e w1 ⟨d, rfl, hb1'⟩)
        go_roundw
        case rel => exact ⟨_, j + 1, by omega, rfl, by go_num, HBR.out.trans (hb1'.mono (by omega))⟩
        case measure => simp [intOf]; omega
      · have hz1 : W0.heap.size ≤ wo.heap.size := hbr.size
        have c4 := bcs hbr hz c4
        clear HT HL E1 hbr
        by_cases p1 : j < nl
        all_goals (try (have hgm : ¬ g ≤ most := fun h => hgo ⟨p1, h⟩))
        all_goals clear hgo
        all_goals go_wp2_with fail
        all_goals clear c3
        all_goals (
        go_loopw [5, 7] (fun a i wq => ∃ (g : Int) (j : Nat), j ≤ nm ∧ a = .int .i64 g ∧ i = .int .i64 j ∧ Below wo.heap.size wo wq) (fun _ i _ => nm - (intOf i).toNat)
        case atStart => exact ⟨g, 0, Nat.zero_le _, rfl, rfl, Below.refl _ _⟩
        case round =>
          obtain ⟨g, j, hj, rfl, rfl, hbr⟩ := hrel
          have hbw2 : Below w.heap.size w wr := hbw.trans (hbr.mono (by omega))
          have c4 := bcs hbr (by omega) c4
          obtain ⟨w3, rfl⟩ : ∃ w3 : World, w3 = wr := ⟨_, rfl⟩
          by_cases hgo : j < nm ∧ g ≤ most
          · obtain ⟨hlt, hgm⟩ := hgo
            obtain ⟨tx, htx⟩ : ∃ x, m[j]? = some x := ⟨_, List.getElem?_eq_getElem (by have := E2.out; omega)⟩
            obtain ⟨x, hx⟩ : ∃ x, rms[j]? = some x := ⟨_, List.getElem?_eq_getElem (by have := E2.out; omega)⟩
            obtain ⟨b1, o1, rfl, hb1, hc1⟩ := rd_at' (HM.out.below hbw2 (Nat.le_refl _)) hx
            have f0 := hc1 0 _ rfl
            have f1 := hc1 1 _ rfl
            have f2 := hc1 2 _ rfl
            have f3 := hc1 3 _ rfl
            have f4 := hc1 4 _ rfl
            have f5 := hc1 5 _ rfl
            rw [Nat.add_zero] at f0
            have HC := Lib.hid (HS.out j tx x htx hx)
            have hk0 : (0 : Int) ≤ (j : Int) := Int.natCast_nonneg _
            have hk1 : (j : Int) < (nm : Int) := by omega
            have HBR := Lib.hid hbr
            have hzq : wo.heap.size ≤ w3.heap.size := hbr.size
            clear hc1 htx hx hbr
            go_wp2_with (go_at_call 61; refine (HC.out _ hbw2 _).mono ?_; rintro e w1 ⟨d, rfl, hb1'⟩)
            go_roundw
            case rel => exact ⟨_, j + 1, by omega, rfl, by go_num, HBR.out.trans (hb1'.mono (by omega))⟩
            case measure => simp [intOf]; omega
          · by_cases p1 : j < nm
            all_goals (try (have hgm : ¬ g ≤ most := fun h => hgo ⟨p1, h⟩))
            all_goals clear hgo
            all_goals go_wp2_with fail
            all_goals go_ret
            all_goals exact ⟨_, rfl, hbw2⟩)
end Go.Proofs.Ythgkgjcnmahacaa
end

section
/- Whether values lie at most so deep: some truth is told. -/
set_option linter.unusedSimpArgs false
set_option linter.unusedVariables false
namespace Go.Proofs.Ythgkgjcnmahacaa
open Go.RowKit Go.OpenShut

/-- Each of some values reads as a tree. -/
def TreesV (w : World) (B : Nat) (xs : List RV) : Prop := ∀ x ∈ xs, ∃ t : JV, t.Ok ∧ TreeOf w B t x
theorem TreesV.under {w w' : World} {B B' : Nat} {xs : List RV} (h : TreesV w B xs) (hb : Below B w w') (hB : B ≤ B') : TreesV w' B' xs := fun x hx => by
  obtain ⟨t, h1, h2⟩ := h x hx
  exact ⟨t, h1, h2.under hb hB⟩
theorem TreesV.append {w : World} {B : Nat} {xs ys : List RV} (h : TreesV w B xs) (h' : TreesV w B ys) : TreesV w B (xs ++ ys) := fun x hx => by
  rcases List.mem_append.1 hx with h1 | h1
  · exact h x h1
  · exact h' x h1
theorem TreesV.nil (w : World) (B : Nat) : TreesV w B [] := fun x hx => by cases hx
theorem TreesV.one {w : World} {B : Nat} {t : JV} {x : RV} (ot : t.Ok) (h : TreeOf w B t x) : TreesV w B [x] := fun y hy => by
  cases List.mem_singleton.1 hy
  exact ⟨t, ot, h⟩
/-- The values in a value, and its members' values. -/
theorem TreeOf.opened {w : World} {B : Nat} {t : JV} {x : RV} (ot : t.Ok) (h : TreeOf w B t x) : ∃ (rs : List RV) (rms : List RM), Rd w B encV 5 (.slice x.pl x.nl x.cl) rs ∧ rs.length = x.nl ∧ TreesV w B rs ∧ x.nl ≤ 1759218604390 ∧
    Rd w B encM 6 (.slice x.pm x.nm x.cm) rms ∧ rms.length = x.nm ∧ (∀ (i : Nat) (y : RM), rms[i]? = some y → ∃ t : JV, t.Ok ∧ TreeOf w B t y.v) ∧ x.nm ≤ 1466015503658 := by
  cases h with
  | @mk _ l m rs rms hl el hcl hm em hcn hcm =>
  cases ot with
  | mk _ _ _ bl bm okl oks okm =>
  have eL := rd_nlen hl
  have eM := rd_nlen hm
  refine ⟨rs, rms, hl, by omega, ?_, by omega, hm, by omega, ?_, by omega⟩
  · intro y hy
    obtain ⟨i, hi, rfl⟩ := List.mem_iff_getElem.1 hy
    exact ⟨l[i], okl i _ (List.getElem?_eq_getElem (by omega)), hcl i _ _ (List.getElem?_eq_getElem (by omega)) (List.getElem?_eq_getElem hi)⟩
  · intro i y hy
    have hi : i < rms.length := by
      rcases Nat.lt_or_ge i rms.length with h | h
      · exact h
      · rw [List.getElem?_eq_none h] at hy; cases hy
    exact ⟨(m[i]'(by omega)).2, okm i _ (List.getElem?_eq_getElem (by omega)), hcm i _ _ (List.getElem?_eq_getElem (by omega)) hy⟩

/-- A list of values that grows. -/
structure GrowV (W0 : World) (B : Nat) (rs : List RV) (v : Value) (W : World) : Prop where
  own : Own W W0.heap.size 25 encV 5 v rs
  each : TreesV W B rs
  below : Below W0.heap.size W0 W
theorem GrowV.drewN {W0 W : World} {B : Nat} {rs : List RV} {v : Value} (h : GrowV W0 B rs v W) (n : Nat) : GrowV W0 B rs v (W.drewN n) :=
  ⟨h.own, h.each.under (bdn (Below.refl _ _) n) (Nat.le_refl _), bdn h.below n⟩
theorem GrowV.alloc {W0 W : World} {B : Nat} {rs : List RV} {v : Value} (h : GrowV W0 B rs v W) (hB : B ≤ W0.heap.size) (o : Obj) : GrowV W0 B rs v (W.alloc o) := by
  have := h.below.size
  exact ⟨h.own.alloc o, h.each.under ((Below.refl _ _).alloc (by omega) o) (Nat.le_refl _), h.below.alloc (by omega) o⟩
theorem GrowV.push {W0 W W2 : World} {B : Nat} {rs ys : List RV} {v v' : Value} (h : GrowV W0 B rs v W) (hB : B ≤ W0.heap.size) (ho : Own W2 W0.heap.size 25 encV 5 v' (rs ++ ys)) (hg : W.grownBy W2 v.ownBlock) (hy : TreesV W B ys) : GrowV W0 B (rs ++ ys) v' W2 := by
  have hb : Below W0.heap.size W W2 := Below.appended (Below.refl _ _) hg h.own h.below.size
  exact ⟨ho, (h.each.append hy).under (hb.mono hB) (Nat.le_refl _), h.below.trans hb⟩

set_option maxRecDepth 100000 in
set_option maxHeartbeats 4000000 in
theorem level7_step (N : Nat) (ih : ∀ (most : Int) (p : Option Addr) (n c : Nat) (xs : List RV) (w : World) (B : Nat), most.toNat < N → most ≤ 100 → B ≤ w.heap.size → Rd w B encV 5 (.slice p n c) xs → TreesV w B xs → n ≤ 20000 →
    Calls Try.prog 97 #[.slice p n c, .int .i64 most] w (SomeB w)) : ∀ (most : Int) (p : Option Addr) (n c : Nat) (xs : List RV) (w : World) (B : Nat), most.toNat = N → most ≤ 100 → B ≤ w.heap.size → Rd w B encV 5 (.slice p n c) xs → TreesV w B xs → n ≤ 20000 →
    Calls Try.prog 97 #[.slice p n c, .int .i64 most] w (SomeB w) := by
    intro most p n c xs w B hN hm hB hr hx hn
    have eL := rd_nlen hr
    have HIH := Lib.hid ih
    have HR := Lib.hid hr
    have HX := Lib.hid hx
    have E1 : Hid (xs.length = n) := by unfold Hid; omega
    clear ih hr hx eL
    go_enter Try.func97, Try.ntmps97
    go_wp2_with fail
    go_loopw [5, 6] (fun a i wr => ∃ (j : Nat) (rs : List RV) (p' : Option Addr) (n' c' : Nat), j ≤ n ∧ a = .slice p' n' c' ∧ i = .int .i64 j ∧ rs.length = n' ∧ n' ≤ 20000 ∧ Hid (GrowV w B rs (.slice p' n' c') wr)) (fun _ i _ => n - (intOf i).toNat)
    case atStart => exact ⟨0, [], none, 0, 0, Nat.zero_le _, rfl, rfl, rfl, by omega, ⟨Own.nil _ _ _, TreesV.nil _ _, Below.refl _ _⟩⟩
    case round =>
      obtain ⟨j, rs, p', n', c', hj, rfl, rfl, hrs, hn', HG⟩ := hrel
      have HRS := Lib.hid hrs
      have hbr := HG.out.below
      clear hrs
      by_cases hlt : j < n
      · obtain ⟨x, hx⟩ : ∃ x, xs[j]? = some x := ⟨_, List.getElem?_eq_getElem (by have := E1.out; omega)⟩
        obtain ⟨b1, o1, rfl, hb1, hc1⟩ := rd_at' HR.out hx
        have g0 := hc1 0 _ rfl
        have g1 := hc1 1 _ rfl
        have g2 := hc1 2 _ rfl
        have g3 := hc1 3 _ rfl
        have g4 := hc1 4 _ rfl
        rw [Nat.add_zero] at g0
        have f3 := bcs (hbr.mono hB) hb1 g3
        have f4 := bcs (hbr.mono hB) hb1 g4
        obtain ⟨tx, otx, htx⟩ := HX.out x (List.mem_of_getElem? hx)
        obtain ⟨rs1, rms1, hL, eL1, hTL, hL9, hM, eM1, hTM, hM9⟩ := htx.opened otx
        have HL := Lib.hid hL
        have HM := Lib.hid hM
        have HTL := Lib.hid hTL
        have HTM := Lib.hid hTM
        have EL := Lib.hid eL1
        have EM := Lib.hid eM1
        have hk0 : (0 : Int) ≤ (j : Int) := Int.natCast_nonneg _
        have hk1 : (j : Int) < (n : Int) := by omega
        clear hc1 hx otx htx hL hM hTL hTM eL1 eM1 g0 g1 g2
        have G4 := Lib.hid g4
        clear g3 g4
        by_cases hbig : x.nl + x.nm ≤ 20000
        · go_wp2_with fail
          go_quiet (fail)
          have HG1 : ∀ q, Hid (GrowV w B rs (.slice p' n' c') (wr.drewN q)) := fun q => HG.out.drewN q
          have HL1 : ∀ q, Hid (Rd (wr.drewN q) B encV 5 (.slice x.pl x.nl x.cl) rs1) := fun q => (HL.out.below (hbr.mono hB) (Nat.le_refl _)).drewN q
          have HT1 : ∀ q, Hid (TreesV (wr.drewN q) B rs1) := fun q => HTL.out.under (bdn (hbr.mono hB) q) (Nat.le_refl _)
          have hws : ∀ q, Hid (w.heap.size ≤ (wr.drewN q).heap.size) := fun q => (HG1 q).out.below.size
          go_wp2_with (at_builtin; refine wpList_append_rd slV codecV _ rfl (.tmp 28) (.tmp 33) rfl (v := .slice p' n' c') rfl rfl (HG1 _).out.own (HL1 _).out ?_ ?_ ?_ ?_; (· have := HRS.out; have := EL.out; unfold maxLen; omega); (· have := HRS.out; have := EL.out; omega); (· exact (hws _).out); intro v2 w2 ho2 hg2 hat2; obtain ⟨p2, c2, hv2, hq1, hq2⟩ := ho2.len; (have hv3 : v2 = .slice p2 (n' + x.nl) c2 := by rw [hv2, List.length_append, HRS.out, EL.out]); clear hv2; subst hv3; clear hq1 hq2; (have HG2 : Hid (GrowV w B (rs ++ rs1) (.slice p2 (n' + x.nl) c2) w2) := (HG1 _).out.push hB ho2 hg2 (HT1 _).out); clear ho2 hg2 hat2; go_frame)
          have HRS2 : Hid ((rs ++ rs1).length = n' + x.nl) := by rw [List.length_append, HRS.out, EL.out]; exact rfl
          have hbr2 := HG2.out.below
          clear HG1 HL1 HT1 hws HL HTL HG HRS hbr f3 f4
          go_loopw [5, 7] (fun a i wr => ∃ (j2 : Nat) (rs2 : List RV) (p3 : Option Addr) (n3 c3 : Nat), j2 ≤ x.nm ∧ a = .slice p3 n3 c3 ∧ i = .int .i64 j2 ∧ rs2.length = n3 ∧ n3 = n' + x.nl + j2 ∧ Hid (GrowV w B rs2 (.slice p3 n3 c3) wr)) (fun _ i _ => x.nm - (intOf i).toNat)
          case atStart => exact ⟨0, rs ++ rs1, p2, n' + x.nl, c2, Nat.zero_le _, rfl, rfl, HRS2.out, rfl, HG2⟩
          case round =>
            obtain ⟨j2, rs2, p3, n3, c3, hj2, rfl, rfl, hrs3, hn3, HG3⟩ := hrel
            have HRS3 := Lib.hid hrs3
            have HN3 := Lib.hid hn3
            have hbr3 := HG3.out.below
            have f4 := bcs (hbr3.mono hB) hb1 G4.out
            clear hrs3 hn3
            by_cases hlt2 : j2 < x.nm
            · obtain ⟨y, hy⟩ : ∃ y, rms1[j2]? = some y := ⟨_, List.getElem?_eq_getElem (by have := EM.out; omega)⟩
              obtain ⟨b2, o2, e2, hb2, hc2⟩ := rd_at' (HM.out.below (hbr3.mono hB) (Nat.le_refl _)) hy
              rw [e2] at f4
              have h0 := hc2 0 _ rfl
              have h1 := hc2 1 _ rfl
              have h2 := hc2 2 _ rfl
              have h3 := hc2 3 _ rfl
              have h4 := hc2 4 _ rfl
              have h5 := hc2 5 _ rfl
              rw [Nat.add_zero] at h0
              obtain ⟨ty, oty, hty⟩ := HTM.out j2 y hy
              have hT4 : Hid (TreesV wr B [y.v]) := TreesV.one oty (hty.under (hbr3.mono hB) (Nat.le_refl _))
              have hk2 : (0 : Int) ≤ (j2 : Int) := Int.natCast_nonneg _
              have hk3 : (j2 : Int) < (x.nm : Int) := by omega
              have E2 := Lib.hid e2
              clear hc2 hy oty hty e2
              have HG4 : Hid (GrowV w B rs2 (.slice p3 n3 c3) (wr.alloc (.cells #[.int .i64 y.v.k, .int .i64 y.v.n, .string y.v.s, .slice y.v.pl y.v.nl y.v.cl, .slice y.v.pm y.v.nm y.v.cm] 25))) := HG3.out.alloc hB _
              have HT4 : Hid (TreesV (wr.alloc (.cells #[.int .i64 y.v.k, .int .i64 y.v.n, .string y.v.s, .slice y.v.pl y.v.nl y.v.cl, .slice y.v.pm y.v.nm y.v.cm] 25)) B [y.v]) := hT4.out.under ((Below.refl _ _).alloc (by have := hbr3.size; omega) _) (Nat.le_refl _)
              go_wp2_with (at_builtin; refine wpList_append_rd slV codecV (wr.alloc (.cells #[.int .i64 y.v.k, .int .i64 y.v.n, .string y.v.s, .slice y.v.pl y.v.nl y.v.cl, .slice y.v.pm y.v.nm y.v.cm] 25)) rfl (.tmp 45) (.tmp 55) rfl (v := .slice p3 n3 c3) rfl rfl HG4.out.own (Rd.one (B := wr.heap.size + 1) (x := y.v) codecV (heap_alloc_new _ _) rfl (by omega)) ?_ ?_ ?_ ?_; (· have := HRS3.out; have := HN3.out; simp; unfold maxLen; omega); (· have := HRS3.out; have := HN3.out; simp; omega); (· exact HG4.out.below.size); intro v2 w2 ho2 hg2 hat2; obtain ⟨p4, c4, hv2, hq1, hq2⟩ := ho2.len; (have hv3 : v2 = .slice p4 (n3 + 1) c4 := by rw [hv2, List.length_append, HRS3.out]; rfl); clear hv2; subst hv3; clear hq1 hq2; (have HG5 : Hid (GrowV w B (rs2 ++ [y.v]) (.slice p4 (n3 + 1) c4) w2) := HG4.out.push hB ho2 hg2 HT4.out); clear ho2 hg2 hat2; go_frame)
              go_roundw
              case rel => exact ⟨j2 + 1, rs2 ++ [y.v], p4, n3 + 1, c4, by omega, rfl, by go_num, by rw [List.length_append, HRS3.out]; rfl, by have := HN3.out; omega, HG5⟩
              case measure => simp [intOf]; omega
            · have := HN3.out
              by_cases hend : n3 ≤ 20000
              · go_wp2_with fail
                go_roundw
                case rel => exact ⟨j + 1, rs2, p3, n3, c3, by omega, rfl, by go_num, HRS3.out, hend, HG3⟩
                case measure => simp [intOf]; omega
              · go_wp2_with fail
                go_ret
                exact ⟨false, rfl, hbr3⟩
        · go_wp2_with fail
          go_quiet (fail)
          go_wp2_with fail
          go_ret
          exact ⟨false, rfl, bdn hbr _⟩
      · by_cases hz : n' = 0
        · subst hz
          go_wp2_with fail
          go_ret
          exact ⟨true, rfl, hbr⟩
        · by_cases hpos : 0 < most
          · have HC : Hid (Calls Try.prog 97 #[.slice p' n' c', .int .i64 (most - 1)] wr (SomeB wr)) :=
              HIH.out (most - 1) p' n' c' rs wr wr.heap.size (by omega) (by omega) (Nat.le_refl _) (HG.out.own.rd codecV) (HG.out.each.under (Below.refl _ _) (by have := hbr.size; omega)) hn'
            have hw : IntKind.i64.wrap (most - 1) = most - 1 := by rw [IntKind.wrap_i64]; omega
            go_wp2_with (go_at_call 97; refine HC.out.mono ?_; rintro e w1 ⟨b, rfl, hb1'⟩)
            go_ret
            exact ⟨_, rfl, hbr.trans (hb1'.mono hbr.size)⟩
          · go_wp2_with fail
            go_ret
            exact ⟨_, rfl, hbr⟩
theorem level7_any (N : Nat) : ∀ (most : Int) (p : Option Addr) (n c : Nat) (xs : List RV) (w : World) (B : Nat), most.toNat = N → most ≤ 100 → B ≤ w.heap.size → Rd w B encV 5 (.slice p n c) xs → TreesV w B xs → n ≤ 20000 →
    Calls Try.prog 97 #[.slice p n c, .int .i64 most] w (SomeB w) := by
  induction N using Nat.strongRecOn with
  | _ N ih => exact level7_step N fun most p n c xs w B h => ih _ h most p n c xs w B rfl
end Go.Proofs.Ythgkgjcnmahacaa
end

section
/- Whether there are few values: some truth is told. -/
set_option linter.unusedSimpArgs false
set_option linter.unusedVariables false
namespace Go.Proofs.Ythgkgjcnmahacaa
open Go.RowKit Go.OpenShut

/-- Some truth is told; if it is 'true' there are few members. -/
def SomeF (n : Nat) (w : World) (e : Ending) (w' : World) : Prop := ∃ b : Bool, e = .returned (.bool b) ∧ Hid (b = true → n ≤ 10000) ∧ Below w.heap.size w w'
set_option maxRecDepth 100000 in
set_option maxHeartbeats 2000000 in
theorem deep7_any (t : JV) (r : RV) (w : World) (ht : TreeOf w w.heap.size t r) (ot : t.Ok) :
    Calls Try.prog 60 #[r.val, .int .i64 100] w (SomeF r.nm w) := by
  obtain ⟨rs, rms, hl, el, hT, bl, hm, em, hTM, bm⟩ := ht.opened ot
  obtain ⟨k, n, s, pl, nl, cl, pm, nm, cm⟩ := r
  dsimp only [RV.val] at *
  have hA0 : VAt (w.alloc (.cells #[.int .i64 k, .int .i64 n, .string s, .slice pl nl cl, .slice pm nm cm] 25)) w.heap.size ⟨k, n, s, pl, nl, cl, pm, nm, cm⟩ := heap_alloc_at rfl
  have hB0 : Below w.heap.size w (w.alloc (.cells #[.int .i64 k, .int .i64 n, .string s, .slice pl nl cl, .slice pm nm cm] 25)) := (Below.refl _ _).alloc (Nat.le_refl _) _
  have HT := Lib.hid ht
  clear hl hT hm hTM el em ht
  go_enter Try.func60, Try.ntmps60
  go_upto_region 1 with fail
  obtain ⟨W0, hW0⟩ : ∃ W0, (w.alloc (.cells #[.int .i64 k, .int .i64 n, .string s, .slice pl nl cl, .slice pm nm cm] 25)) = W0 := ⟨_, rfl⟩
  rw [hW0] at hA0 hB0 ⊢
  clear hW0
  have hz := hA0.lt
  have c0 := hA0.cell 0 rfl
  have c1 := hA0.cell 1 rfl
  have c2 := hA0.cell 2 rfl
  have c3 := hA0.cell 3 rfl
  have c4 := hA0.cell 4 rfl
  dsimp only at c0 c1 c2 c3 c4
  clear hA0
  have HC : Hid (Calls Try.prog 97 #[.slice (some ⟨W0.heap.size, 0, none⟩) 1 1, .int .i64 100] (W0.alloc (.cells #[.int .i64 k, .int .i64 n, .string s, .slice pl nl cl, .slice pm nm cm] 25)) (SomeB (W0.alloc (.cells #[.int .i64 k, .int .i64 n, .string s, .slice pl nl cl, .slice pm nm cm] 25)))) :=
    level7_any _ 100 _ 1 1 [⟨k, n, s, pl, nl, cl, pm, nm, cm⟩] _ (W0.heap.size + 1) rfl (by decide) (by simp) (Rd.one codecV (heap_alloc_new _ _) rfl (by omega)) (TreesV.one ot (HT.out.under (hB0.alloc hB0.size _) (by have := hB0.size; omega))) (by decide)
  by_cases h1 : nl ≤ 10000
  · by_cases h2 : nm ≤ 10000
    · have hnm : Hid (∀ b : Bool, b = true → nm ≤ 10000) := fun _ _ => h2
      go_wp2_with (go_at_call 97; refine HC.out.mono ?_; rintro e w1 ⟨b, rfl, hb1'⟩)
      all_goals go_ret
      all_goals exact ⟨_, rfl, hnm.out _, (hB0.alloc hB0.size _).trans (hb1'.mono (by have := hB0.size; simp; omega))⟩
    · go_wp2_with fail
      go_ret
      exact ⟨false, rfl, (fun h => by cases h), hB0⟩
  · go_wp2_with fail
    go_ret
    exact ⟨false, rfl, (fun h => by cases h), hB0⟩

set_option maxRecDepth 100000 in
set_option maxHeartbeats 2000000 in
theorem few7_any (t : JV) (r : RV) (most : Int) (w : World) (ht : TreeOf w w.heap.size t r) (ot : t.Ok) :
    Calls Try.prog 21 #[r.val, .int .i64 most] w (SomeF r.nm w) := by
  have HT := Lib.hid ht
  have hA0 : VAt (w.alloc (.cells #[.int .i64 r.k, .int .i64 r.n, .string r.s, .slice r.pl r.nl r.cl, .slice r.pm r.nm r.cm] 25)) w.heap.size r := heap_alloc_at rfl
  have hB0 : Below w.heap.size w (w.alloc (.cells #[.int .i64 r.k, .int .i64 r.n, .string r.s, .slice r.pl r.nl r.cl, .slice r.pm r.nm r.cm] 25)) := (Below.refl _ _).alloc (Nat.le_refl _) _
  clear ht
  go_enter Try.func21, Try.ntmps21
  go_upto_region 1 with fail
  obtain ⟨W0, hW0⟩ : ∃ W0, (w.alloc (.cells #[.int .i64 r.k, .int .i64 r.n, .string r.s, .slice r.pl r.nl r.cl, .slice r.pm r.nm r.cm] 25)) = W0 := ⟨_, rfl⟩
  rw [hW0] at hA0 hB0 ⊢
  clear hW0
  have hz := hA0.lt
  have c0 := hA0.cell 0 rfl
  have c1 := hA0.cell 1 rfl
  have c2 := hA0.cell 2 rfl
  have c3 := hA0.cell 3 rfl
  have c4 := hA0.cell 4 rfl
  clear hA0
  have HD : Hid (∀ W, Below w.heap.size w W → Calls Try.prog 60 #[r.val, .int .i64 100] W (SomeF r.nm W)) := fun W hb => deep7_any t r W (HT.out.under hb hb.size) ot
  have HN : Hid (∀ W, Below w.heap.size w W → Calls Try.prog 61 #[r.val, .int .i64 most] W (SomeI W)) := fun W hb => count7_any _ t r most W (Nat.le_refl _) (HT.out.under hb hb.size) ot
  have HO : Hid (∀ W, Below w.heap.size w W → Calls Try.prog 62 #[r.val] W (SomeB W)) := fun W hb => own7_any _ t r W (Nat.le_refl _) (HT.out.under hb hb.size) ot
  go_wp2_with (first
    | (go_at_call 60; refine (HD.out _ hB0).mono ?_; rintro e w1 ⟨b1, rfl, hbL, hbA⟩; (have hb1 := hB0.trans (hbA.mono hB0.size)); (have d0 := bcs hbA hz c0); (have d1 := bcs hbA hz c1); (have d2 := bcs hbA hz c2); (have d3 := bcs hbA hz c3); (have d4 := bcs hbA hz c4); cases b1)
    | (go_at_call 61; refine (HN.out _ hb1).mono ?_; rintro e w2 ⟨d, rfl, hbB⟩; (have hb2 := hb1.trans (hbB.mono hb1.size)); (have hz1 := Nat.lt_of_lt_of_le hz hbA.size); (have e0 := bcs hbB hz1 d0); (have e1 := bcs hbB hz1 d1); (have e2 := bcs hbB hz1 d2); (have e3 := bcs hbB hz1 d3); (have e4 := bcs hbB hz1 d4); (by_cases hd : d ≤ most))
    | (go_at_call 62; refine (HO.out _ hb2).mono ?_; rintro e w3 ⟨b3, rfl, hbC⟩; (have hb3 := hb2.trans (hbC.mono hb2.size))))
  all_goals go_ret
  all_goals first | (refine ⟨b3, rfl, ?_, hb3⟩; have h := hbL.out; exact fun _ => h trivial) | exact ⟨false, rfl, (fun h => by cases h), hb2⟩ | exact ⟨false, rfl, (fun h => by cases h), hb1⟩
end Go.Proofs.Ythgkgjcnmahacaa
end
