import Derived.Test.YthgkgjcnmahacaaTk03
import Derived.Test.YthgkgjcnmahacaaTk01
import Derived.Test.YthgkgjcnmahacaaTk02
import Derived.Deep.RegionLaw
section
/- Trees that lie in the call's own memory, each part by itself. -/
set_option linter.unusedSimpArgs false
set_option linter.unusedVariables false
namespace Go.Proofs.Ythgkgjcnmahacaa
open Go.RowKit Go.OpenShut

section
variable {α : Type} {e : TypeId} {enc : α → List Value} {sz : Nat}
theorem Own.same {w w' : World} {base : Nat} {v : Value} {xs : List α} (h : Own w base e enc sz v xs) (hk : ∀ k, v.ownBlock = some k → w'.heap[k]? = w.heap[k]?) : Own w' base e enc sz v xs := by
  obtain ⟨hl, h⟩ := h
  refine ⟨hl, ?_⟩
  rcases h with h | ⟨g, cap, cur, rfl, hg, hh, r⟩
  · exact .inl h
  · exact .inr ⟨g, cap, cur, rfl, hg, (hk g rfl).trans hh, r⟩
end

/-- A whole value stored into a list of the call's own. -/
theorem Own.storedL {w : World} {base : Nat} {g n cap : Nat} {xs : List RV} (h : Own w base 25 encV 5 (.slice (some ⟨g, 0, none⟩) n cap) xs) {k : Nat} {x : RV} (hx : xs[k]? = some x) (q : RV) :
    Own (((((w.setCell ⟨g, k * 5, none⟩ (.int .i64 q.k)).setCell ⟨g, k * 5 + 1, none⟩ (.int .i64 q.n)).setCell ⟨g, k * 5 + 2, none⟩ (.string q.s)).setCell ⟨g, k * 5 + 3, none⟩ (.slice q.pl q.nl q.cl)).setCell ⟨g, k * 5 + 4, none⟩ (.slice q.pm q.nm q.cm)) base 25 encV 5 (.slice (some ⟨g, 0, none⟩) n cap) (xs.set k q) ∧
    w.grownBy (((((w.setCell ⟨g, k * 5, none⟩ (.int .i64 q.k)).setCell ⟨g, k * 5 + 1, none⟩ (.int .i64 q.n)).setCell ⟨g, k * 5 + 2, none⟩ (.string q.s)).setCell ⟨g, k * 5 + 3, none⟩ (.slice q.pl q.nl q.cl)).setCell ⟨g, k * 5 + 4, none⟩ (.slice q.pm q.nm q.cm)) (some g) := by
  have hk := (List.getElem?_eq_some_iff.1 hx).1
  have gs : ∀ (ys : List RV) (y : RV), k < ys.length → (ys.set k y)[k]? = some y := fun ys y hy => by simp [List.getElem?_set, hy]
  have s1 := Own.storedAt codecV h (j := 0) (y := { x with k := q.k }) (u := .int .i64 q.k) hx (by decide) rfl
  have s2 := Own.storedAt codecV s1.1 (j := 1) (y := { x with k := q.k, n := q.n }) (u := .int .i64 q.n) (gs _ _ hk) (by decide) rfl
  have s3 := Own.storedAt codecV s2.1 (j := 2) (y := { x with k := q.k, n := q.n, s := q.s }) (u := .string q.s) (gs _ _ (by simpa using hk)) (by decide) rfl
  have s4 := Own.storedAt codecV s3.1 (j := 3) (y := { x with k := q.k, n := q.n, s := q.s, pl := q.pl, nl := q.nl, cl := q.cl }) (u := .slice q.pl q.nl q.cl) (gs _ _ (by simpa using hk)) (by decide) rfl
  have s5 := Own.storedAt codecV s4.1 (j := 4) (y := q) (u := .slice q.pm q.nm q.cm) (gs _ _ (by simpa using hk)) (by decide) rfl
  simp only [List.set_set, Nat.add_zero] at s5 s4 s3 s2 s1
  exact ⟨s5.1, (((s1.2.trans s2.2).trans s3.2).trans s4.2).trans s5.2⟩

/-- The cells r read as the tree t; its lists are the call's own, each in a block of its own; all blocks are among S. -/
inductive LoneV (w : World) : (Nat → Prop) → JV → RV → Prop
  | mk {S : Nat → Prop} {r : RV} {l : List JV} {m : List (ByteArray × JV)} {rs : List RV} {rms : List RM} (F : Nat ⊕ Nat → Nat → Prop)
      (hl : Own w 0 25 encV 5 (.slice r.pl r.nl r.cl) rs) (hm : Own w 0 90 encM 6 (.slice r.pm r.nm r.cm) rms)
      (sl : ∀ k, (Value.slice r.pl r.nl r.cl).ownBlock = some k → S k) (sm : ∀ k, (Value.slice r.pm r.nm r.cm).ownBlock = some k → S k)
      (dr : ∀ k, (Value.slice r.pl r.nl r.cl).ownBlock = some k → (Value.slice r.pm r.nm r.cm).ownBlock ≠ some k)
      (el : l.length = rs.length) (em : m.length = rms.length)
      (cn : ∀ (i : Nat) (p : ByteArray × JV) (q : RM), m[i]? = some p → rms[i]? = some q → p.1 = q.name)
      (cl : ∀ (i : Nat) (t : JV) (q : RV), l[i]? = some t → rs[i]? = some q → LoneV w (F (.inl i)) t q)
      (cm : ∀ (i : Nat) (p : ByteArray × JV) (q : RM), m[i]? = some p → rms[i]? = some q → LoneV w (F (.inr i)) p.2 q.v)
      (ff : ∀ a k, F a k → S k ∧ (Value.slice r.pl r.nl r.cl).ownBlock ≠ some k ∧ (Value.slice r.pm r.nm r.cm).ownBlock ≠ some k)
      (dd : ∀ a b k, F a k → F b k → a = b) : LoneV w S (.mk r.k r.n r.s l m) r

theorem LoneV.same {w w' : World} {S : Nat → Prop} {t : JV} {r : RV} (h : LoneV w S t r) (hk : ∀ k, S k → w'.heap[k]? = w.heap[k]?) : LoneV w' S t r := by
  induction h with
  | mk F hl hm sl sm dr el em cn cl cm ff dd ih1 ih2 =>
    exact .mk F (hl.same fun k e => hk k (sl k e)) (hm.same fun k e => hk k (sm k e)) sl sm dr el em cn
      (fun i t q h1 h2 => ih1 i t q h1 h2 fun k hf => hk k (ff _ k hf).1) (fun i p q h1 h2 => ih2 i p q h1 h2 fun k hf => hk k (ff _ k hf).1) ff dd
theorem LoneV.mono {w : World} {S S' : Nat → Prop} {t : JV} {r : RV} (h : LoneV w S t r) (hs : ∀ k, S k → S' k) : LoneV w S' t r := by
  cases h with
  | mk F hl hm sl sm dr el em cn cl cm ff dd =>
    exact .mk F hl hm (fun k e => hs k (sl k e)) (fun k e => hs k (sm k e)) dr el em cn cl cm (fun a k hf => ⟨hs k (ff a k hf).1, (ff a k hf).2⟩) dd
theorem LoneV.under {w w' : World} {S : Nat → Prop} {B : Nat} {t : JV} {r : RV} (h : LoneV w S t r) (hb : Below B w w') (hs : ∀ k, S k → k < B) : LoneV w' S t r := h.same fun k hk => hb.block k (hs k hk)
theorem LoneV.tree {w : World} {S : Nat → Prop} {t : JV} {r : RV} (h : LoneV w S t r) : TreeOf w w.heap.size t r := by
  induction h with
  | mk F hl hm sl sm dr el em cn cl cm ff dd ih1 ih2 => exact .mk (hl.rd codecV) el ih1 (hm.rd codecM) em cn ih2
/-- Blocks that are new behind the call. -/
def Fresh (w w' : World) (k : Nat) : Prop := w.heap.size ≤ k ∧ k < w'.heap.size

/-- A value in a box, its lists the call's own, its parts in blocks of their own. -/
structure Parts (W : World) (b0 g : Nat) (D : Nat ⊕ Nat → Prop) (l : List JV) (m : List (ByteArray × JV)) (ds : List RV) (dms : List RM) (r : RV) (F : Nat ⊕ Nat → Nat → Prop) : Prop where
  box : VAt W g r
  ownL : Own W b0 25 encV 5 (.slice r.pl r.nl r.cl) ds
  ownM : Own W b0 90 encM 6 (.slice r.pm r.nm r.cm) dms
  bL : ∀ k, (Value.slice r.pl r.nl r.cl).ownBlock = some k → k ≠ g
  bM : ∀ k, (Value.slice r.pm r.nm r.cm).ownBlock = some k → k ≠ g
  dr : ∀ k, (Value.slice r.pl r.nl r.cl).ownBlock = some k → (Value.slice r.pm r.nm r.cm).ownBlock ≠ some k
  los : b0 ≤ W.heap.size
  el : l.length = ds.length
  em : m.length = dms.length
  cn : ∀ (i : Nat) (p : ByteArray × JV) (q : RM), m[i]? = some p → dms[i]? = some q → p.1 = q.name
  cl : ∀ (i : Nat) (t : JV) (q : RV), D (.inl i) → l[i]? = some t → ds[i]? = some q → LoneV W (F (.inl i)) t q
  cm : ∀ (i : Nat) (p : ByteArray × JV) (q : RM), D (.inr i) → m[i]? = some p → dms[i]? = some q → LoneV W (F (.inr i)) p.2 q.v
  ff : ∀ a k, F a k → (b0 ≤ k ∧ k < W.heap.size) ∧ k ≠ g ∧ (Value.slice r.pl r.nl r.cl).ownBlock ≠ some k ∧ (Value.slice r.pm r.nm r.cm).ownBlock ≠ some k
  dd : ∀ a b k, F a k → F b k → a = b

theorem Parts.drewN {W : World} {b0 g : Nat} {D : Nat ⊕ Nat → Prop} {l : List JV} {m : List (ByteArray × JV)} {ds : List RV} {dms : List RM} {r : RV} {F : Nat ⊕ Nat → Nat → Prop} (h : Parts W b0 g D l m ds dms r F) (n : Nat) : Parts (W.drewN n) b0 g D l m ds dms r F :=
  ⟨h.box, h.ownL, h.ownM, h.bL, h.bM, h.dr, h.los, h.el, h.em, h.cn, fun i t q h1 h2 h3 => (h.cl i t q h1 h2 h3).same fun _ _ => rfl, fun i t q h1 h2 h3 => (h.cm i t q h1 h2 h3).same fun _ _ => rfl, h.ff, h.dd⟩

/-- Behind a call that changed nothing. -/
theorem Parts.below {W W' : World} {b0 g : Nat} {D : Nat ⊕ Nat → Prop} {l : List JV} {m : List (ByteArray × JV)} {ds : List RV} {dms : List RM} {r : RV} {F : Nat ⊕ Nat → Nat → Prop} (h : Parts W b0 g D l m ds dms r F) (hb : Below W.heap.size W W') : Parts W' b0 g D l m ds dms r F :=
  have hs := hb.size
  ⟨h.box.under hb h.box.lt, h.ownL.below hb (Nat.le_refl _), h.ownM.below hb (Nat.le_refl _), h.bL, h.bM, h.dr, Nat.le_trans h.los hs, h.el, h.em, h.cn, fun i t q h1 h2 h3 => (h.cl i t q h1 h2 h3).under hb fun k hk => (h.ff _ k hk).1.2, fun i t q h1 h2 h3 => (h.cm i t q h1 h2 h3).under hb fun k hk => (h.ff _ k hk).1.2, fun a k hk => ⟨⟨(h.ff a k hk).1.1, Nat.lt_of_lt_of_le (h.ff a k hk).1.2 hs⟩, (h.ff a k hk).2⟩, h.dd⟩

theorem get_set_ne {α : Type} (l : List α) {i j : Nat} (x : α) (h : i ≠ j) : (l.set j x)[i]? = l[i]? := by rw [List.getElem?_set_ne (fun e => h e.symm)]

/-- The tree of a part, new, laid into the list of values. -/
theorem Parts.setL {W W1 W2 : World} {b0 g : Nat} {D : Nat ⊕ Nat → Prop} {l : List JV} {m : List (ByteArray × JV)} {ds : List RV} {dms : List RM} {r : RV} {F : Nat ⊕ Nat → Nat → Prop} (h : Parts W b0 g D l m ds dms r F) (hb : Below W.heap.size W W1) {u : JV} {q : RV} (hu : LoneV W1 (Fresh W W1) u q) {j g2 : Nat}
    (hg2 : (Value.slice r.pl r.nl r.cl).ownBlock = some g2) (ho : Own W2 b0 25 encV 5 (.slice r.pl r.nl r.cl) (ds.set j q)) (hg : W1.grownBy W2 (some g2)) (hj : j < ds.length) :
    Parts W2 b0 g (fun a => D a ∨ a = .inl j) (l.set j u) m (ds.set j q) dms r (fun a k => if a = .inl j then Fresh W W1 k else F a k) := by
  have h1 := h.below hb
  have hs := hg.size
  have hbs := hb.size
  have h4 := h.bL g2 hg2
  have h5 := (h.ownL.lt g2 hg2).2
  have h6 := h.box.lt
  have h7 := h.ownL.lt
  have h8 := h.ownM.lt
  have h9 := h.los
  have hsame : ∀ k, k ≠ g2 → k < W1.heap.size → W2.heap[k]? = W1.heap[k]? := fun k hk hk1 => hg.block k hk1 (fun e => hk (by cases e; rfl))
  have hF : ∀ a k, F a k → W2.heap[k]? = W1.heap[k]? := fun a k hk => hsame k (fun e => (h.ff a k hk).2.2.1 (by rw [hg2, e])) (h1.ff a k hk).1.2
  have hQ : ∀ k, Fresh W W1 k → W2.heap[k]? = W1.heap[k]? := fun k hk => hsame k (fun e => by have := hk.1; omega) hk.2
  refine ⟨(hsame g (fun e => h4 e.symm) h1.box.lt).trans h1.box, ho, h1.ownM.same fun k e => hsame k (fun e' => h.dr g2 hg2 (by rw [← e', e])) (h1.ownM.lt k e).2, h.bL, h.bM, h.dr, Nat.le_trans h1.los hs, by rw [List.length_set, List.length_set]; exact h.el, h.em, h.cn, ?_, ?_, ?_, ?_⟩
  · intro i t x hd ht hx
    by_cases hij : i = j
    · subst hij
      rw [List.getElem?_set_self (by rw [h.el]; exact hj)] at ht
      rw [List.getElem?_set_self hj] at hx
      cases ht; cases hx
      simp only [if_true]
      exact hu.same hQ
    · rw [get_set_ne _ _ hij] at ht hx
      have hne : (Sum.inl i : Nat ⊕ Nat) ≠ .inl j := fun e => hij (Sum.inl.inj e)
      simp only [if_neg hne]
      exact (h1.cl i t x (hd.resolve_right hne) ht hx).same (hF _)
  · intro i p x hd ht hx
    have hne : (Sum.inr i : Nat ⊕ Nat) ≠ .inl j := fun e => by cases e
    simp only [if_neg hne]
    exact (h1.cm i p x (hd.resolve_right hne) ht hx).same (hF _)
  · intro a k hk
    split at hk
    · exact ⟨⟨Nat.le_trans h.los hk.1, Nat.lt_of_lt_of_le hk.2 hs⟩, fun e => by have := hk.1; omega, fun e => by have := hk.1; have := (h7 k e).2; omega, fun e => by have := hk.1; have := (h8 k e).2; omega⟩
    · exact ⟨⟨(h1.ff a k hk).1.1, Nat.lt_of_lt_of_le (h1.ff a k hk).1.2 hs⟩, (h1.ff a k hk).2⟩
  · intro a b k ha hb'
    split at ha <;> split at hb'
    · rename_i e1 e2; rw [e1, e2]
    · exact absurd (h.ff b k hb').1.2 (by have := ha.1; omega)
    · exact absurd (h.ff a k ha).1.2 (by have := hb'.1; omega)
    · exact h.dd a b k ha hb'

/-- The tree of a part, new, laid into the list of members. -/
theorem Parts.setM {W W1 W2 : World} {b0 g : Nat} {D : Nat ⊕ Nat → Prop} {l : List JV} {m : List (ByteArray × JV)} {ds : List RV} {dms : List RM} {r : RV} {F : Nat ⊕ Nat → Nat → Prop} (h : Parts W b0 g D l m ds dms r F) (hb : Below W.heap.size W W1) {u : JV} {q : RV} (hu : LoneV W1 (Fresh W W1) u q) {j g2 : Nat} {p : ByteArray × JV} {x : RM}
    (hg2 : (Value.slice r.pm r.nm r.cm).ownBlock = some g2) (hp : m[j]? = some p) (hx : dms[j]? = some x) (ho : Own W2 b0 90 encM 6 (.slice r.pm r.nm r.cm) (dms.set j ⟨x.name, q⟩)) (hg : W1.grownBy W2 (some g2)) :
    Parts W2 b0 g (fun a => D a ∨ a = .inr j) l (m.set j (p.1, u)) ds (dms.set j ⟨x.name, q⟩) r (fun a k => if a = .inr j then Fresh W W1 k else F a k) := by
  have h1 := h.below hb
  have hs := hg.size
  have hbs := hb.size
  have hj : j < dms.length := (List.getElem?_eq_some_iff.1 hx).1
  have h4 := h.bM g2 hg2
  have h5 := (h.ownM.lt g2 hg2).2
  have h6 := h.box.lt
  have h7 := h.ownL.lt
  have h8 := h.ownM.lt
  have h9 := h.los
  have hsame : ∀ k, k ≠ g2 → k < W1.heap.size → W2.heap[k]? = W1.heap[k]? := fun k hk hk1 => hg.block k hk1 (fun e => hk (by cases e; rfl))
  have hF : ∀ a k, F a k → W2.heap[k]? = W1.heap[k]? := fun a k hk => hsame k (fun e => (h.ff a k hk).2.2.2 (by rw [hg2, e])) (h1.ff a k hk).1.2
  have hQ : ∀ k, Fresh W W1 k → W2.heap[k]? = W1.heap[k]? := fun k hk => hsame k (fun e => by have := hk.1; omega) hk.2
  refine ⟨(hsame g (fun e => h4 e.symm) h1.box.lt).trans h1.box, h1.ownL.same fun k e => hsame k (fun e' => h.dr k e (by rw [e', hg2])) (h1.ownL.lt k e).2, ho, h.bL, h.bM, h.dr, Nat.le_trans h1.los hs, h.el, by rw [List.length_set, List.length_set]; exact h.em, ?_, ?_, ?_, ?_, ?_⟩
  · intro i p' x' ht hx'
    by_cases hij : i = j
    · subst hij
      rw [List.getElem?_set_self (by rw [h.em]; exact hj)] at ht
      rw [List.getElem?_set_self hj] at hx'
      cases ht; cases hx'
      exact h.cn i p x hp hx
    · rw [get_set_ne _ _ hij] at ht hx'
      exact h.cn i p' x' ht hx'
  · intro i t x' hd ht hx'
    have hne : (Sum.inl i : Nat ⊕ Nat) ≠ .inr j := fun e => by cases e
    simp only [if_neg hne]
    exact (h1.cl i t x' (hd.resolve_right hne) ht hx').same (hF _)
  · intro i p' x' hd ht hx'
    by_cases hij : i = j
    · subst hij
      rw [List.getElem?_set_self (by rw [h.em]; exact hj)] at ht
      rw [List.getElem?_set_self hj] at hx'
      cases ht; cases hx'
      simp only [if_true]
      exact hu.same hQ
    · rw [get_set_ne _ _ hij] at ht hx'
      have hne : (Sum.inr i : Nat ⊕ Nat) ≠ .inr j := fun e => hij (Sum.inr.inj e)
      simp only [if_neg hne]
      exact (h1.cm i p' x' (hd.resolve_right hne) ht hx').same (hF _)
  · intro a k hk
    split at hk
    · exact ⟨⟨Nat.le_trans h.los hk.1, Nat.lt_of_lt_of_le hk.2 hs⟩, fun e => by have := hk.1; omega, fun e => by have := hk.1; have := (h7 k e).2; omega, fun e => by have := hk.1; have := (h8 k e).2; omega⟩
    · exact ⟨⟨(h1.ff a k hk).1.1, Nat.lt_of_lt_of_le (h1.ff a k hk).1.2 hs⟩, (h1.ff a k hk).2⟩
  · intro a b k ha hb'
    split at ha <;> split at hb'
    · rename_i e1 e2; rw [e1, e2]
    · exact absurd (h.ff b k hb').1.2 (by have := ha.1; omega)
    · exact absurd (h.ff a k ha).1.2 (by have := hb'.1; omega)
    · exact h.dd a b k ha hb'

/-- A value all of whose parts are the call's own. -/
theorem Parts.whole {W : World} {b0 g : Nat} {D : Nat ⊕ Nat → Prop} {l : List JV} {m : List (ByteArray × JV)} {ds : List RV} {dms : List RM} {r : RV} {F : Nat ⊕ Nat → Nat → Prop} (h : Parts W b0 g D l m ds dms r F) (hD : ∀ i, (i < l.length → D (.inl i)) ∧ (i < m.length → D (.inr i))) : LoneV W (fun k => b0 ≤ k ∧ k < W.heap.size) (.mk r.k r.n r.s l m) r :=
  .mk F (h.ownL.mono (Nat.zero_le _)) (h.ownM.mono (Nat.zero_le _)) (fun k e => h.ownL.lt k e) (fun k e => h.ownM.lt k e) h.dr h.el h.em h.cn
    (fun i t q h1 h2 => h.cl i t q ((hD i).1 (List.getElem?_eq_some_iff.1 h1).1) h1 h2) (fun i p q h1 h2 => h.cm i p q ((hD i).2 (List.getElem?_eq_some_iff.1 h1).1) h1 h2)
    (fun a k hk => ⟨(h.ff a k hk).1, (h.ff a k hk).2.2⟩) h.dd
end Go.Proofs.Ythgkgjcnmahacaa
end

section
/- slices.Clone at api.Value, walked: a slice of the call's own with the same elements. -/
set_option linter.unusedSimpArgs false
set_option linter.unusedVariables false
namespace Go.Proofs.Ythgkgjcnmahacaa
open Go.RowKit

set_option maxRecDepth 100000 in
set_option maxHeartbeats 400000 in
theorem cloneV_any {α : Type} {enc : α → List Value} (C : Codec enc 5) (w : World) (p : Option Addr) (n c : Nat) (xs : List α) (hv : Rd w w.heap.size enc 5 (.slice p n c) xs) (hsz : xs.length * 80 ≤ 140737488355328) :
    Calls Try.prog 75 #[.slice p n c] w fun e w' => ∃ p' c', e = .returned (.slice p' n c') ∧ (p = none ↔ p' = none) ∧ Own w' w.heap.size 25 enc 5 (.slice p' n c') xs ∧ Below w.heap.size w w' := by
  have hn : n = xs.length := by
    obtain ⟨_, _, e, _⟩ := hv
    simp only [Value.slice.injEq] at e; exact e.2.1
  subst hn
  have HS := Lib.hid hsz
  have HV := Lib.hid hv
  cases p with
  | none =>
    have h0 : xs.length = 0 ∧ c = 0 := by
      obtain ⟨p', cap, he, hlc, hcm, hp0, hp⟩ := hv
      simp only [Value.slice.injEq] at he
      obtain ⟨rfl, h1, rfl⟩ := he
      have := hp0 rfl
      omega
    obtain ⟨h0, rfl⟩ := h0
    obtain rfl := List.eq_nil_of_length_eq_zero h0
    have hnil : ∀ W, (Go.binOp .eql 22 (.slice none 0 0) (.slice none 0 0)).run Try.prog W = .ok (.bool true) W := fun W => Lib.run_eql_slice_nil W 22 25 none 0 0 0 0 Try.underlying22
    clear hv
    go_enter Try.func75, Try.ntmps75
    go_wp2
    go_ret
    exact ⟨none, 0, rfl, by simp, Own.nil w _ _, Below.refl _ _⟩
  | some a =>
    have hnil : ∀ W, (Go.binOp .eql 22 (.slice (some a) xs.length c) (.slice none 0 0)).run Try.prog W = .ok (.bool false) W := fun W => Lib.run_eql_slice_nil W 22 25 (some a) xs.length c 0 0 Try.underlying22
    have hO : Own (w.alloc (.cells #[] 25)) w.heap.size 25 enc 5 (.slice (some ⟨w.heap.size, 0, none⟩) 0 0) ([] : List α) := Own.made (Nat.le_refl _)
    have hB0 : Below w.heap.size w (w.alloc (.cells #[] 25)) := (Below.refl _ _).alloc (Nat.le_refl _) _
    have HR := Lib.hid (HV.out.below hB0 (Nat.le_refl _))
    clear hv
    go_enter Try.func75, Try.ntmps75
    go_wp2_with (at_builtin; refine wpList_append_rd slV C (w.alloc (.cells #[] 25)) rfl (.tmp 5) (.tmp 6) rfl (v := .slice (some ⟨w.heap.size, 0, none⟩) 0 0) rfl rfl hO HR.out (by have := HS.out; simp; unfold maxLen; omega) (by have := HS.out; simp; omega) (by simp) ?_; intro v1 w1 ho1 hg1 hat1)
    have hb1 : Below w.heap.size w w1 := Below.appended hB0 hg1 hO (by simp)
    rw [List.nil_append] at ho1
    obtain ⟨p1, c1, rfl, _, _⟩ := ho1.len
    have hp1 : p1 ≠ none := by
      rintro rfl
      rcases hat1 with h | h <;> simp [Value.ownBlock] at h
    go_ret
    refine ⟨p1, c1, rfl, ⟨(fun h => by cases h), (fun h => absurd h hp1)⟩, ho1, hb1⟩
end Go.Proofs.Ythgkgjcnmahacaa
end

section
/- tree.Copy: the same tree, in memory of its own. -/
set_option linter.unusedSimpArgs false
set_option linter.unusedVariables false
namespace Go.Proofs.Ythgkgjcnmahacaa
open Go.RowKit Go.OpenShut

/-- The tree t is answered, in new memory. -/
def NewTree (w : World) (t : JV) (e : Ending) (w' : World) : Prop := ∃ q : RV, e = .returned q.val ∧ LoneV w' (Fresh w w') t q ∧ Below w.heap.size w w'

theorem set_getE {α : Type} {l : List α} {j : Nat} {x : α} (h : l[j]? = some x) : l.set j x = l := by
  apply List.ext_getElem?
  intro i
  by_cases hij : i = j
  · subst hij
    rw [List.getElem?_set_self (List.getElem?_eq_some_iff.1 h).1, h]
  · rw [get_set_ne _ _ hij]
theorem Parts.less {W : World} {b0 g : Nat} {D D' : Nat ⊕ Nat → Prop} {l : List JV} {m : List (ByteArray × JV)} {ds : List RV} {dms : List RM} {r : RV} {F : Nat ⊕ Nat → Nat → Prop} (h : Parts W b0 g D l m ds dms r F) (hD : ∀ a, D' a → D a) : Parts W b0 g D' l m ds dms r F :=
  ⟨h.box, h.ownL, h.ownM, h.bL, h.bM, h.dr, h.los, h.el, h.em, h.cn, fun i t q hd => h.cl i t q (hD _ hd), fun i t q hd => h.cm i t q (hD _ hd), h.ff, h.dd⟩

/-- Copying: the first jl values and the first jm members are copied. -/
structure CopyS (w W : World) (jl jm : Nat) (l : List JV) (m : List (ByteArray × JV)) (rs : List RV) (rms : List RM) (ds : List RV) (dms : List RM) (r : RV) (F : Nat ⊕ Nat → Nat → Prop) : Prop where
  parts : Parts W (w.heap.size + 1 + 1) w.heap.size (fun a => (∃ i, a = .inl i ∧ i < jl) ∨ ∃ i, a = .inr i ∧ i < jm) l m ds dms r F
  rl : ∀ i, jl ≤ i → ds[i]? = rs[i]?
  rm : ∀ i, jm ≤ i → dms[i]? = rms[i]?
  below : Below w.heap.size w W
  out : VAt W (w.heap.size + 1) RV.zero

theorem Parts.drew {W : World} {b0 g : Nat} {D : Nat ⊕ Nat → Prop} {l : List JV} {m : List (ByteArray × JV)} {ds : List RV} {dms : List RM} {r : RV} {F : Nat ⊕ Nat → Nat → Prop} (h : Parts W b0 g D l m ds dms r F) : Parts W.drew b0 g D l m ds dms r F :=
  ⟨h.box, h.ownL, h.ownM, h.bL, h.bM, h.dr, h.los, h.el, h.em, h.cn, fun i t q h1 h2 h3 => (h.cl i t q h1 h2 h3).same fun _ _ => rfl, fun i t q h1 h2 h3 => (h.cm i t q h1 h2 h3).same fun _ _ => rfl, h.ff, h.dd⟩
theorem VAt.set3 {W : World} {g : Nat} {r : RV} (h : VAt W g r) (p : Option Addr) (n c : Nat) : VAt (W.setCell ⟨g, 3, none⟩ (.slice p n c)) g { r with pl := p, nl := n, cl := c } := by
  unfold VAt at h ⊢
  simp [World.setCell, Array.getElem?_modify, h]

theorem CopyS.start {w w1 w2 : World} {b1 : Nat} {k n : Int} {s : ByteArray} {pl pm p' p2 : Option Addr} {nl cl nm cm c' c2 : Nat} {l : List JV} {m : List (ByteArray × JV)} {rs : List RV} {rms : List RM}
    (hA : VAt w2 w.heap.size ⟨k, n, s, pl, nl, cl, pm, nm, cm⟩) (hZ : VAt w2 (w.heap.size + 1) RV.zero) (ho1 : Own w1 b1 25 encV 5 (.slice p' nl c') rs) (hb1 : w.heap.size + 1 + 1 ≤ b1) (ho2 : Own w2 w1.heap.size 90 encM 6 (.slice p2 nm c2) rms)
    (hb2 : Below w1.heap.size w1 w2) (hb : Below w.heap.size w w2) (hw : w.heap.size + 1 + 1 ≤ w1.heap.size) (el : l.length = rs.length) (em : m.length = rms.length) (cn : ∀ (i : Nat) (p : ByteArray × JV) (q : RM), m[i]? = some p → rms[i]? = some q → p.1 = q.name) :
    CopyS w ((w2.setCell ⟨w.heap.size, 3, none⟩ (.slice p' nl c')).setCell ⟨w.heap.size, 4, none⟩ (.slice p2 nm c2)) 0 0 l m rs rms rs rms ⟨k, n, s, p', nl, c', p2, nm, c2⟩ (fun _ _ => False) := by
  have hg : w2.grownBy ((w2.setCell ⟨w.heap.size, 3, none⟩ (.slice p' nl c')).setCell ⟨w.heap.size, 4, none⟩ (.slice p2 nm c2)) (some w.heap.size) := (grownBy_set w2 w.heap.size 3 _).trans (grownBy_set _ w.heap.size 4 _)
  have hsz : ((w2.setCell ⟨w.heap.size, 3, none⟩ (.slice p' nl c')).setCell ⟨w.heap.size, 4, none⟩ (.slice p2 nm c2)).heap.size = w2.heap.size := by simp
  have hs2 := hb2.size
  have l1 := ho1.lt
  have l2 := ho2.lt
  refine ⟨⟨(hA.set3 p' nl c').set4 p2 nm c2, ((ho1.mono hb1).below hb2 (Nat.le_refl _)).kept hg ?_, (ho2.mono hw).kept hg ?_, ?_, ?_, ?_, by omega, el, em, cn, ?_, ?_, ?_, ?_⟩, fun _ _ => rfl, fun _ _ => rfl, ?_, ?_⟩
  · cases h : (Value.slice p' nl c').ownBlock with
    | none => exact .inl rfl
    | some j => exact .inr (fun e => by have := (l1 j h).1; cases e; omega)
  · cases h : (Value.slice p2 nm c2).ownBlock with
    | none => exact .inl rfl
    | some j => exact .inr (fun e => by have := (l2 j h).1; cases e; omega)
  · intro k h; have := l1 k h; omega
  · intro k h; have := l2 k h; omega
  · intro k h h'; have := l1 k h; have := l2 k h'; omega
  · rintro i t q (⟨_, _, h⟩ | ⟨_, _, h⟩) <;> omega
  · rintro i t q (⟨_, _, h⟩ | ⟨_, _, h⟩) <;> omega
  · intro a k h; exact h.elim
  · intro a b k h; exact h.elim
  · exact (hb.setCell (p := ⟨w.heap.size, 3, none⟩) (Nat.le_refl _) _).setCell (p := ⟨w.heap.size, 4, none⟩) (Nat.le_refl _) _
  · exact (hg.block (w.heap.size + 1) (by omega) (fun e => by injection e with e; omega)).trans hZ

theorem CopyS.stepL {w W w1 W2 : World} {j jm : Nat} {l : List JV} {m : List (ByteArray × JV)} {rs ds : List RV} {rms dms : List RM} {r : RV} {F : Nat ⊕ Nat → Nat → Prop} (h : CopyS w W j jm l m rs rms ds dms r F) (hb : Below W.drew.heap.size W.drew w1) {t : JV} {x q : RV} (hq : LoneV w1 (Fresh W.drew w1) t q) (ht : l[j]? = some t) (hx : ds[j]? = some x)
    {g2 : Nat} (hg2 : r.pl = some ⟨g2, 0, none⟩) (ho : Own W2 (w.heap.size + 1 + 1) 25 encV 5 (.slice r.pl r.nl r.cl) (ds.set j q)) (hg : w1.grownBy W2 (some g2)) :
    CopyS w W2 (j + 1) jm l m rs rms (ds.set j q) dms r (fun a k => if a = .inl j then Fresh W.drew w1 k else F a k) := by
  have hob : (Value.slice r.pl r.nl r.cl).ownBlock = some g2 := by rw [hg2]; rfl
  have hp := Parts.setL h.parts.drew hb hq hob ho hg (List.getElem?_eq_some_iff.1 hx).1
  rw [set_getE ht] at hp
  have hg2b := (h.parts.ownL.lt g2 hob).1
  have hsz : W.drew.heap.size = W.heap.size := rfl
  have hbs := hb.size
  have hg2s := (h.parts.ownL.lt g2 hob).2
  refine ⟨hp.less ?_, ?_, h.rm, ?_, ?_⟩
  · rintro a (⟨i, rfl, hi⟩ | hi)
    · rcases Nat.lt_or_ge i j with h1 | h1
      · exact .inl (.inl ⟨i, rfl, h1⟩)
      · exact .inr (by rw [show i = j by omega])
    · exact .inl (.inr hi)
  · intro i hi
    rw [get_set_ne _ _ (by omega)]
    exact h.rl i (by omega)
  · exact (h.below.drew.trans (hb.mono h.below.size)).trans ((Below.refl _ _).grown hg (Nat.le_trans h.below.size hbs) (fun k e => by cases e; omega))
  · have h1 : VAt w1 (w.heap.size + 1) RV.zero := VAt.under (W := W.drew) h.out hb (by have := h.out.lt; omega)
    exact (hg.block (w.heap.size + 1) h1.lt (fun e => by injection e with e; omega)).trans h1

theorem CopyS.stepM {w W w1 W2 : World} {j jl : Nat} {l : List JV} {m : List (ByteArray × JV)} {rs ds : List RV} {rms dms : List RM} {r : RV} {F : Nat ⊕ Nat → Nat → Prop} (h : CopyS w W jl j l m rs rms ds dms r F) (hb : Below W.drew.heap.size W.drew w1) {p : ByteArray × JV} {x : RM} {q : RV} (hq : LoneV w1 (Fresh W.drew w1) p.2 q) (ht : m[j]? = some p) (hx : dms[j]? = some x)
    {g2 : Nat} (hg2 : r.pm = some ⟨g2, 0, none⟩) (ho : Own W2 (w.heap.size + 1 + 1) 90 encM 6 (.slice r.pm r.nm r.cm) (dms.set j ⟨x.name, q⟩)) (hg : w1.grownBy W2 (some g2)) :
    CopyS w W2 jl (j + 1) l m rs rms ds (dms.set j ⟨x.name, q⟩) r (fun a k => if a = .inr j then Fresh W.drew w1 k else F a k) := by
  have hob : (Value.slice r.pm r.nm r.cm).ownBlock = some g2 := by rw [hg2]; rfl
  have hp := Parts.setM h.parts.drew hb hq hob ht hx ho hg
  rw [show (p.1, p.2) = p from rfl, set_getE ht] at hp
  have hg2b := (h.parts.ownM.lt g2 hob).1
  have hsz : W.drew.heap.size = W.heap.size := rfl
  have hbs := hb.size
  have hg2s := (h.parts.ownM.lt g2 hob).2
  refine ⟨hp.less ?_, h.rl, ?_, ?_, ?_⟩
  · rintro a (hi | ⟨i, rfl, hi⟩)
    · exact .inl (.inl hi)
    · rcases Nat.lt_or_ge i j with h1 | h1
      · exact .inl (.inr ⟨i, rfl, h1⟩)
      · exact .inr (by rw [show i = j by omega])
  · intro i hi
    rw [get_set_ne _ _ (by omega)]
    exact h.rm i (by omega)
  · exact (h.below.drew.trans (hb.mono h.below.size)).trans ((Below.refl _ _).grown hg (Nat.le_trans h.below.size hbs) (fun k e => by cases e; omega))
  · have h1 : VAt w1 (w.heap.size + 1) RV.zero := VAt.under (W := W.drew) h.out hb (by have := h.out.lt; omega)
    exact (hg.block (w.heap.size + 1) h1.lt (fun e => by injection e with e; omega)).trans h1

theorem Parts.fin {w W : World} {l : List JV} {m : List (ByteArray × JV)} {ds : List RV} {dms : List RM} {r : RV} {D : Nat ⊕ Nat → Prop} {F : Nat ⊕ Nat → Nat → Prop} (h : Parts W (w.heap.size + 1 + 1) w.heap.size D l m ds dms r F) (hD : ∀ i, (i < l.length → D (.inl i)) ∧ (i < m.length → D (.inr i))) (hb : Below w.heap.size w W) :
    NewTree w (.mk r.k r.n r.s l m) (.returned r.val) (((((W.setCell ⟨w.heap.size + 1, 0, none⟩ (.int .i64 r.k)).setCell ⟨w.heap.size + 1, 1, none⟩ (.int .i64 r.n)).setCell ⟨w.heap.size + 1, 2, none⟩ (.string r.s)).setCell ⟨w.heap.size + 1, 3, none⟩ (.slice r.pl r.nl r.cl)).setCell ⟨w.heap.size + 1, 4, none⟩ (.slice r.pm r.nm r.cm)) := by
  have hg := grownBy_set5 W (w.heap.size + 1) r
  have h1 := h.whole hD
  refine ⟨r, rfl, (h1.same fun k hk => hg.block k hk.2 (fun e => by have := hk.1; injection e with e; omega)).mono fun k hk => ⟨by omega, Nat.lt_of_lt_of_le hk.2 hg.size⟩, Below.stored hb (by omega) r⟩

set_option maxRecDepth 100000 in
set_option maxHeartbeats 4000000 in
theorem copy_any (N : Nat) : ∀ (t : JV) (r : RV) (w : World), SizeOf.sizeOf t ≤ N → TreeOf w w.heap.size t r → t.Ok →
    Calls Try.prog 36 #[r.val] w (NewTree w t) := by
  induction N with
  | zero => intro t r w hN; cases t; simp at hN
  | succ N ih =>
    intro t r w hN ht ot
    cases ht with
    | @mk _ l m rs rms hl el hcl hm em hcn hcm =>
    obtain ⟨k, n, s, pl, nl, cl, pm, nm, cm⟩ := r
    cases ot with
    | mk _ _ _ bl bm okl oks okm =>
    dsimp only [RV.val] at *
    have eL := rd_nlen hl
    have eM := rd_nlen hm
    have HT : Hid (∀ (i : Nat) t q, l[i]? = some t → rs[i]? = some q → ∀ W, Below w.heap.size w W → Calls Try.prog 36 #[q.val] W (NewTree W t)) :=
      fun i t q h1 h2 W hb => ih t q W (by have := JV.lt_l (k := k) (n := n) (s := s) (m := m) h1; omega) ((hcl i t q h1 h2).under hb hb.size) (okl i t h1)
    have HS : Hid (∀ (i : Nat) p q, m[i]? = some p → rms[i]? = some q → ∀ W, Below w.heap.size w W → Calls Try.prog 36 #[q.v.val] W (NewTree W p.2)) :=
      fun i p q h1 h2 W hb => ih p.2 q.v W (by have := JV.lt_m (k := k) (n := n) (s := s) (l := l) h1; omega) ((hcm i p q h1 h2).under hb hb.size) (okm i p h1)
    have HL := Lib.hid hl
    have HM := Lib.hid hm
    have HCN := Lib.hid hcn
    have E1 : Hid (l.length = nl ∧ rs.length = nl) := ⟨by omega, by omega⟩
    have E2 : Hid (m.length = nm ∧ rms.length = nm) := ⟨by omega, by omega⟩
    have hnl : nl ≤ 1759218604390 := by omega
    have hnm : nm ≤ 1466015503658 := by omega
    have hA0 : VAt ((w.alloc (.cells #[.int .i64 k, .int .i64 n, .string s, .slice pl nl cl, .slice pm nm cm] 25)).alloc (.cells #[.int .i64 0, .int .i64 0, .string ⟨#[]⟩, .slice none 0 0, .slice none 0 0] 25)) w.heap.size ⟨k, n, s, pl, nl, cl, pm, nm, cm⟩ := heap_alloc_lt (by simp) (heap_alloc_at rfl)
    have hA1 : VAt ((w.alloc (.cells #[.int .i64 k, .int .i64 n, .string s, .slice pl nl cl, .slice pm nm cm] 25)).alloc (.cells #[.int .i64 0, .int .i64 0, .string ⟨#[]⟩, .slice none 0 0, .slice none 0 0] 25)) (w.heap.size + 1) RV.zero := heap_alloc_at (by simp)
    have hB0 := below2 w (.cells #[.int .i64 k, .int .i64 n, .string s, .slice pl nl cl, .slice pm nm cm] 25) (.cells #[.int .i64 0, .int .i64 0, .string ⟨#[]⟩, .slice none 0 0, .slice none 0 0] 25)
    clear ih hcl hcn hcm hl hm okl oks okm el em bl bm eL eM hN
    go_enter Try.func36, Try.ntmps36
    go_upto_region 1 with fail
    have hws : ((w.alloc (.cells #[.int .i64 k, .int .i64 n, .string s, .slice pl nl cl, .slice pm nm cm] 25)).alloc (.cells #[.int .i64 0, .int .i64 0, .string ⟨#[]⟩, .slice none 0 0, .slice none 0 0] 25)).heap.size = w.heap.size + 1 + 1 := by simp
    obtain ⟨W0, hW0⟩ : ∃ W0, ((w.alloc (.cells #[.int .i64 k, .int .i64 n, .string s, .slice pl nl cl, .slice pm nm cm] 25)).alloc (.cells #[.int .i64 0, .int .i64 0, .string ⟨#[]⟩, .slice none 0 0, .slice none 0 0] 25)) = W0 := ⟨_, rfl⟩
    rw [hW0] at hA0 hA1 hB0 hws ⊢
    clear hW0
    have HWS := Lib.hid hws
    have c3 := hA0.cell 3 rfl
    have c4 := hA0.cell 4 rfl
    dsimp only at c3 c4
    have hz := hA0.lt
    have HA0 := Lib.hid hA0
    have HA1 := Lib.hid hA1
    have HB0 := Lib.hid hB0
    have HAD : Hid (VAt W0.drew w.heap.size ⟨k, n, s, pl, nl, cl, pm, nm, cm⟩) := hA0
    have HZD : Hid (VAt W0.drew (w.heap.size + 1) RV.zero) := hA1
    clear hA0 hA1 hB0 hws
    go_cut [12] from 5 to 12 (fun v wr => v = .pointer (some ⟨w.heap.size, 4, none⟩) ∧ ∃ p' c' p2 c2, Hid (CopyS w wr 0 0 l m rs rms rs rms ⟨k, n, s, p', nl, c', p2, nm, c2⟩ (fun _ _ => False)))
    case first =>
      go_region_law (first
        | (go_simp; go_at_call 75; refine (cloneV_any codecV _ pl nl cl rs (HL.out.below HB0.out.drew HB0.out.size) (by have := E1.out; omega)).mono ?_; rintro e w1 ⟨p', c', rfl, hpn1, ho1, hb1⟩; (have c3' := bcs hb1 hz c3); (have c4' := bcs hb1 hz c4))
        | (go_simp; go_at_call 76; refine (cloneM_any codecM _ pm nm cm rms (HM.out.below (HB0.out.drew.trans (hb1.mono HB0.out.size)) (HB0.out.drew.trans (hb1.mono HB0.out.size)).size) (by have := E2.out; omega)).mono ?_; rintro e w2 ⟨p2, c2, rfl, hpn2, ho2, hb2⟩; (have hA2 := (HAD.out.under hb1 hz).under hb2 (Nat.lt_of_lt_of_le hz hb1.size)); (have d3 := hA2.cell 3 rfl); (have d4 := hA2.cell 4 rfl); (have x3 := hA2.frozen 3); (have x4 := hA2.frozen 4)))
      all_goals go_wp2_with fail
      all_goals (
        go_meet
        exact ⟨rfl, p', c', p2, c2, CopyS.start hA2 (VAt.under (VAt.under (W := W0.drew) HZD.out hb1 HZD.out.lt) hb2 (Nat.lt_of_lt_of_le HZD.out.lt hb1.size)) ho1 (by have := HWS.out; simp; omega) ho2 hb2 ((HB0.out.drew.trans (hb1.mono HB0.out.size)).trans (hb2.mono (Nat.le_trans HB0.out.size hb1.size))) (by have := HWS.out; have := hb1.size; simp at this; omega) (by have := E1.out; omega) (by have := E2.out; omega) HCN.out⟩)
    case rest =>
    obtain ⟨rfl, p', c', p2, c2, hC0⟩ := hcut
    have HC0 := hC0
    have hC0 := HC0.out
    have c3 := hC0.parts.box.cell 3 rfl
    dsimp only at c3
    clear hC0 HA0 HA1 HB0 HAD HZD HWS c4
    go_wp2_with fail
    go_loopw [16] (fun i wr => ∃ (j : Nat) (ds : List RV) (F : Nat ⊕ Nat → Nat → Prop), j ≤ nl ∧ i = .int .i64 j ∧ Hid (CopyS w wr j 0 l m rs rms ds rms ⟨k, n, s, p', nl, c', p2, nm, c2⟩ F)) (fun i _ => nl - (intOf i).toNat)
    case atStart => exact ⟨0, rs, _, Nat.zero_le _, rfl, HC0⟩
    case round =>
      obtain ⟨j, ds, F, hj, rfl, HC⟩ := hrel
      have hbr := HC.out.below
      by_cases hlt : j < nl
      · obtain ⟨tx, htx⟩ : ∃ x, l[j]? = some x := ⟨_, List.getElem?_eq_getElem (by have := E1.out; omega)⟩
        obtain ⟨x, hx⟩ : ∃ x, rs[j]? = some x := ⟨_, List.getElem?_eq_getElem (by have := E1.out; omega)⟩
        have hds : ds[j]? = some x := (HC.out.rl j (Nat.le_refl _)).trans hx
        obtain ⟨g2, e2, e3, hg1, hg2, hcell, hfr⟩ := Own.at codecV HC.out.parts.ownL hds
        dsimp only at e2
        subst e2
        have c3 := HC.out.parts.box.cell 3 rfl
        dsimp only at c3
        have hgb := HC.out.parts.box.lt
        have f0 := hcell 0 _ rfl
        have f1 := hcell 1 _ rfl
        have f2 := hcell 2 _ rfl
        have f3 := hcell 3 _ rfl
        have f4 := hcell 4 _ rfl
        rw [Nat.add_zero] at f0
        have HR := Lib.hid (HT.out j tx x htx hx)
        have hk0 : (0 : Int) ≤ (j : Int) := Int.natCast_nonneg _
        have hk1 : (j : Int) < (nl : Int) := by omega
        have HTX := Lib.hid htx
        have HDS := Lib.hid hds
        have HG1 := Lib.hid hg1
        clear hcell hfr htx hx hds e3 hg1
        go_wp2_with fail
        go_region_law (first
          | (go_simp; go_at_call 36; refine (HR.out _ hbr.drew).mono ?_; rintro e w1 ⟨q, rfl, hq, hb1⟩; (have HP1 := Lib.hid (HC.out.parts.drew.below hb1)); (have c3' := HP1.out.box.cell 3 rfl); dsimp only at c3'; obtain ⟨g3, e4, e5, hg3, hg4, hcell1, hfr1⟩ := Own.at codecV HP1.out.ownL HDS.out; dsimp only at e4; cases e4; (have k0 := hcell1 0 _ rfl); (have k1 := hcell1 1 _ rfl); (have k2 := hcell1 2 _ rfl); (have k3 := hcell1 3 _ rfl); (have k4 := hcell1 4 _ rfl); (have y0 := hfr1 (j * 5)); (have y1 := hfr1 (j * 5 + 1)); (have y2 := hfr1 (j * 5 + 2)); (have y3 := hfr1 (j * 5 + 3)); (have y4 := hfr1 (j * 5 + 4)); rw [Nat.add_zero] at k0; (have HQ := Lib.hid hq); clear hcell1 hfr1 e5 hg3 hg4 hq))
        all_goals (have HS := Lib.hid (Own.storedL HP1.out.ownL HDS.out q))
        all_goals (have HN := Lib.hid (HC.out.stepL hb1 HQ.out HTX.out HDS.out rfl HS.out.1 HS.out.2))
        all_goals go_wp2_with fail
        all_goals (
          go_roundw
          case rel => exact ⟨j + 1, _, _, by omega, by go_num, HN⟩
          case measure => simp [intOf]; omega)
      · obtain rfl : j = nl := by omega
        have c4 := HC.out.parts.box.cell 4 rfl
        dsimp only at c4
        clear HT hbr c3 HC0
        go_wp2_with fail
        go_loopw [33] (fun i wr => ∃ (i2 : Nat) (dms : List RM) (F : Nat ⊕ Nat → Nat → Prop), i2 ≤ nm ∧ i = .int .i64 i2 ∧ Hid (CopyS w wr j i2 l m rs rms ds dms ⟨k, n, s, p', j, c', p2, nm, c2⟩ F)) (fun i _ => nm - (intOf i).toNat)
        case atStart => exact ⟨0, rms, F, Nat.zero_le _, rfl, HC⟩
        case round =>
          obtain ⟨i2, dms, F, hi2, rfl, HC⟩ := hrel
          have hbr := HC.out.below
          by_cases hlt2 : i2 < nm
          · obtain ⟨tx, htx⟩ : ∃ x, m[i2]? = some x := ⟨_, List.getElem?_eq_getElem (by have := E2.out; omega)⟩
            obtain ⟨x, hx⟩ : ∃ x, rms[i2]? = some x := ⟨_, List.getElem?_eq_getElem (by have := E2.out; omega)⟩
            have hds : dms[i2]? = some x := (HC.out.rm i2 (Nat.le_refl _)).trans hx
            obtain ⟨g2, e2, e3, hg1, hg2, hcell, hfr⟩ := Own.at codecM HC.out.parts.ownM hds
            dsimp only at e2
            subst e2
            have c4 := HC.out.parts.box.cell 4 rfl
            dsimp only at c4
            have hgb := HC.out.parts.box.lt
            have f0 := hcell 0 _ rfl
            have f1 := hcell 1 _ rfl
            have f2 := hcell 2 _ rfl
            have f3 := hcell 3 _ rfl
            have f4 := hcell 4 _ rfl
            have f5 := hcell 5 _ rfl
            rw [Nat.add_zero] at f0
            have HR := Lib.hid (HS.out i2 tx x htx hx)
            have hk0 : (0 : Int) ≤ (i2 : Int) := Int.natCast_nonneg _
            have hk1 : (i2 : Int) < (nm : Int) := by omega
            have HTX := Lib.hid htx
            have HDS := Lib.hid hds
            clear hcell hfr htx hx hds e3 hg1
            go_wp2_with fail
            go_region_law (first
              | (go_simp; go_at_call 36; refine (HR.out _ hbr.drew).mono ?_; rintro e w1 ⟨q, rfl, hq, hb1⟩; (have HP1 := Lib.hid (HC.out.parts.drew.below hb1)); (have c4' := HP1.out.box.cell 4 rfl); dsimp only at c4'; obtain ⟨g3, e4, e5, hg3, hg4, hcell1, hfr1⟩ := Own.at codecM HP1.out.ownM HDS.out; dsimp only at e4; cases e4; (have k0 := hcell1 1 _ rfl); (have k1 := hcell1 2 _ rfl); (have k2 := hcell1 3 _ rfl); (have k3 := hcell1 4 _ rfl); (have k4 := hcell1 5 _ rfl); (have y0 := hfr1 (i2 * 6 + 1)); (have y1 := hfr1 (i2 * 6 + 2)); (have y2 := hfr1 (i2 * 6 + 3)); (have y3 := hfr1 (i2 * 6 + 4)); (have y4 := hfr1 (i2 * 6 + 5)); (have HQ := Lib.hid hq); clear hcell1 hfr1 e5 hg3 hg4 hq))
            all_goals (have HST := Lib.hid (Own.storedV HP1.out.ownM HDS.out q))
            all_goals (have HN := Lib.hid (HC.out.stepM hb1 HQ.out HTX.out HDS.out rfl HST.out.1 HST.out.2))
            all_goals go_wp2_with fail
            all_goals (
              go_roundw
              case rel => exact ⟨i2 + 1, _, _, by omega, by go_num, HN⟩
              case measure => simp [intOf]; omega)
          · obtain rfl : i2 = nm := by omega
            have HZ := HC.out.out
            have b0 := HC.out.parts.box.cell 0 rfl
            have b1 := HC.out.parts.box.cell 1 rfl
            have b2 := HC.out.parts.box.cell 2 rfl
            have b3 := HC.out.parts.box.cell 3 rfl
            have b4 := HC.out.parts.box.cell 4 rfl
            have z0 := HZ.cell 0 rfl
            have z1 := HZ.cell 1 rfl
            have z2 := HZ.cell 2 rfl
            have z3 := HZ.cell 3 rfl
            have z4 := HZ.cell 4 rfl
            dsimp only [RV.zero] at b0 b1 b2 b3 b4 z0 z1 z2 z3 z4
            have y0 := HZ.frozen 0
            have y1 := HZ.frozen 1
            have y2 := HZ.frozen 2
            have y3 := HZ.frozen 3
            have y4 := HZ.frozen 4
            have HFI := Lib.hid (HC.out.parts.fin (fun a => ⟨fun h => .inl ⟨a, rfl, by have := E1.out; omega⟩, fun h => .inr ⟨a, rfl, by have := E2.out; omega⟩⟩) HC.out.below)
            have HZZ := Lib.hid (HC.out.out.stored ⟨k, n, s, p', j, c', p2, i2, c2⟩)
            clear HZ HC HS
            go_wp2_with fail
            have q0 := HZZ.out.cell 0 rfl
            have q1 := HZZ.out.cell 1 rfl
            have q2 := HZZ.out.cell 2 rfl
            have q3 := HZZ.out.cell 3 rfl
            have q4 := HZZ.out.cell 4 rfl
            refine bodyPost_ret (v := RV.val ⟨k, n, s, p', j, c', p2, i2, c2⟩) (by simp [results, Try.results36, go_sem, q0, q1, q2, q3, q4]) rfl HFI.out
end Go.Proofs.Ythgkgjcnmahacaa
end
