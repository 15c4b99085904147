/- Trees that lie in the call's own memory, each part by itself. -/
import Derived.Test.YthgkgjcnmahacaaTree6
set_option linter.unusedSimpArgs false
set_option linter.unusedVariables false
namespace Go.Proofs.Ythgkgjcnmahacaa
open Go.RowKit Go.OpenShut

section
variable {α : Type} {e : TypeId} {enc : α → List Value} {sz : Nat}
theorem Own.same {w w' : World} {base : Nat} {v : Value} {xs : List α} (h : Own w base e enc sz v xs) (hk : ∀ k, v.ownBlock = some k → w'.heap[k]? = w.heap[k]?) : Own w' base e enc sz v xs := by
  obtain ⟨hl, h⟩ := h
  refine ⟨hl, ?_⟩
  rcases h with h | ⟨g, cap, cur, rfl, hg, hh, r⟩
  · exact .inl h
  · exact .inr ⟨g, cap, cur, rfl, hg, (hk g rfl).trans hh, r⟩
end

/-- A whole value stored into a list of the call's own. -/
theorem Own.storedL {w : World} {base : Nat} {g n cap : Nat} {xs : List RV} (h : Own w base 25 encV 5 (.slice (some ⟨g, 0, none⟩) n cap) xs) {k : Nat} {x : RV} (hx : xs[k]? = some x) (q : RV) :
    Own (((((w.setCell ⟨g, k * 5, none⟩ (.int .i64 q.k)).setCell ⟨g, k * 5 + 1, none⟩ (.int .i64 q.n)).setCell ⟨g, k * 5 + 2, none⟩ (.string q.s)).setCell ⟨g, k * 5 + 3, none⟩ (.slice q.pl q.nl q.cl)).setCell ⟨g, k * 5 + 4, none⟩ (.slice q.pm q.nm q.cm)) base 25 encV 5 (.slice (some ⟨g, 0, none⟩) n cap) (xs.set k q) ∧
    w.grownBy (((((w.setCell ⟨g, k * 5, none⟩ (.int .i64 q.k)).setCell ⟨g, k * 5 + 1, none⟩ (.int .i64 q.n)).setCell ⟨g, k * 5 + 2, none⟩ (.string q.s)).setCell ⟨g, k * 5 + 3, none⟩ (.slice q.pl q.nl q.cl)).setCell ⟨g, k * 5 + 4, none⟩ (.slice q.pm q.nm q.cm)) (some g) := by
  have hk := (List.getElem?_eq_some_iff.1 hx).1
  have gs : ∀ (ys : List RV) (y : RV), k < ys.length → (ys.set k y)[k]? = some y := fun ys y hy => by simp [List.getElem?_set, hy]
  have s1 := Own.storedAt codecV h (j := 0) (y := { x with k := q.k }) (u := .int .i64 q.k) hx (by decide) rfl
  have s2 := Own.storedAt codecV s1.1 (j := 1) (y := { x with k := q.k, n := q.n }) (u := .int .i64 q.n) (gs _ _ hk) (by decide) rfl
  have s3 := Own.storedAt codecV s2.1 (j := 2) (y := { x with k := q.k, n := q.n, s := q.s }) (u := .string q.s) (gs _ _ (by simpa using hk)) (by decide) rfl
  have s4 := Own.storedAt codecV s3.1 (j := 3) (y := { x with k := q.k, n := q.n, s := q.s, pl := q.pl, nl := q.nl, cl := q.cl }) (u := .slice q.pl q.nl q.cl) (gs _ _ (by simpa using hk)) (by decide) rfl
  have s5 := Own.storedAt codecV s4.1 (j := 4) (y := q) (u := .slice q.pm q.nm q.cm) (gs _ _ (by simpa using hk)) (by decide) rfl
  simp only [List.set_set, Nat.add_zero] at s5 s4 s3 s2 s1
  exact ⟨s5.1, (((s1.2.trans s2.2).trans s3.2).trans s4.2).trans s5.2⟩

/-- The cells r read as the tree t; its lists are the call's own, each in a block of its own; all blocks are among S. -/
inductive LoneV (w : World) : (Nat → Prop) → JV → RV → Prop
  | mk {S : Nat → Prop} {r : RV} {l : List JV} {m : List (ByteArray × JV)} {rs : List RV} {rms : List RM} (F : Nat ⊕ Nat → Nat → Prop)
      (hl : Own w 0 25 encV 5 (.slice r.pl r.nl r.cl) rs) (hm : Own w 0 90 encM 6 (.slice r.pm r.nm r.cm) rms)
      (sl : ∀ k, (Value.slice r.pl r.nl r.cl).ownBlock = some k → S k) (sm : ∀ k, (Value.slice r.pm r.nm r.cm).ownBlock = some k → S k)
      (dr : ∀ k, (Value.slice r.pl r.nl r.cl).ownBlock = some k → (Value.slice r.pm r.nm r.cm).ownBlock ≠ some k)
      (el : l.length = rs.length) (em : m.length = rms.length)
      (cn : ∀ (i : Nat) (p : ByteArray × JV) (q : RM), m[i]? = some p → rms[i]? = some q → p.1 = q.name)
      (cl : ∀ (i : Nat) (t : JV) (q : RV), l[i]? = some t → rs[i]? = some q → LoneV w (F (.inl i)) t q)
      (cm : ∀ (i : Nat) (p : ByteArray × JV) (q : RM), m[i]? = some p → rms[i]? = some q → LoneV w (F (.inr i)) p.2 q.v)
      (ff : ∀ a k, F a k → S k ∧ (Value.slice r.pl r.nl r.cl).ownBlock ≠ some k ∧ (Value.slice r.pm r.nm r.cm).ownBlock ≠ some k)
      (dd : ∀ a b k, F a k → F b k → a = b) : LoneV w S (.mk r.k r.n r.s l m) r

theorem LoneV.same {w w' : World} {S : Nat → Prop} {t : JV} {r : RV} (h : LoneV w S t r) (hk : ∀ k, S k → w'.heap[k]? = w.heap[k]?) : LoneV w' S t r := by
  induction h with
  | mk F hl hm sl sm dr el em cn cl cm ff dd ih1 ih2 =>
    exact .mk F (hl.same fun k e => hk k (sl k e)) (hm.same fun k e => hk k (sm k e)) sl sm dr el em cn
      (fun i t q h1 h2 => ih1 i t q h1 h2 fun k hf => hk k (ff _ k hf).1) (fun i p q h1 h2 => ih2 i p q h1 h2 fun k hf => hk k (ff _ k hf).1) ff dd
theorem LoneV.mono {w : World} {S S' : Nat → Prop} {t : JV} {r : RV} (h : LoneV w S t r) (hs : ∀ k, S k → S' k) : LoneV w S' t r := by
  cases h with
  | mk F hl hm sl sm dr el em cn cl cm ff dd =>
    exact .mk F hl hm (fun k e => hs k (sl k e)) (fun k e => hs k (sm k e)) dr el em cn cl cm (fun a k hf => ⟨hs k (ff a k hf).1, (ff a k hf).2⟩) dd
theorem LoneV.under {w w' : World} {S : Nat → Prop} {B : Nat} {t : JV} {r : RV} (h : LoneV w S t r) (hb : Below B w w') (hs : ∀ k, S k → k < B) : LoneV w' S t r := h.same fun k hk => hb.block k (hs k hk)
theorem LoneV.tree {w : World} {S : Nat → Prop} {t : JV} {r : RV} (h : LoneV w S t r) : TreeOf w w.heap.size t r := by
  induction h with
  | mk F hl hm sl sm dr el em cn cl cm ff dd ih1 ih2 => exact .mk (hl.rd codecV) el ih1 (hm.rd codecM) em cn ih2
/-- Blocks that are new behind the call. -/
def Fresh (w w' : World) (k : Nat) : Prop := w.heap.size ≤ k ∧ k < w'.heap.size

/-- A value in a box, its lists the call's own, its parts in blocks of their own. -/
structure Parts (W : World) (b0 g : Nat) (D : Nat ⊕ Nat → Prop) (l : List JV) (m : List (ByteArray × JV)) (ds : List RV) (dms : List RM) (r : RV) (F : Nat ⊕ Nat → Nat → Prop) : Prop where
  box : VAt W g r
  ownL : Own W b0 25 encV 5 (.slice r.pl r.nl r.cl) ds
  ownM : Own W b0 90 encM 6 (.slice r.pm r.nm r.cm) dms
  bL : ∀ k, (Value.slice r.pl r.nl r.cl).ownBlock = some k → k ≠ g
  bM : ∀ k, (Value.slice r.pm r.nm r.cm).ownBlock = some k → k ≠ g
  dr : ∀ k, (Value.slice r.pl r.nl r.cl).ownBlock = some k → (Value.slice r.pm r.nm r.cm).ownBlock ≠ some k
  los : b0 ≤ W.heap.size
  el : l.length = ds.length
  em : m.length = dms.length
  cn : ∀ (i : Nat) (p : ByteArray × JV) (q : RM), m[i]? = some p → dms[i]? = some q → p.1 = q.name
  cl : ∀ (i : Nat) (t : JV) (q : RV), D (.inl i) → l[i]? = some t → ds[i]? = some q → LoneV W (F (.inl i)) t q
  cm : ∀ (i : Nat) (p : ByteArray × JV) (q : RM), D (.inr i) → m[i]? = some p → dms[i]? = some q → LoneV W (F (.inr i)) p.2 q.v
  ff : ∀ a k, F a k → (b0 ≤ k ∧ k < W.heap.size) ∧ k ≠ g ∧ (Value.slice r.pl r.nl r.cl).ownBlock ≠ some k ∧ (Value.slice r.pm r.nm r.cm).ownBlock ≠ some k
  dd : ∀ a b k, F a k → F b k → a = b

theorem Parts.drewN {W : World} {b0 g : Nat} {D : Nat ⊕ Nat → Prop} {l : List JV} {m : List (ByteArray × JV)} {ds : List RV} {dms : List RM} {r : RV} {F : Nat ⊕ Nat → Nat → Prop} (h : Parts W b0 g D l m ds dms r F) (n : Nat) : Parts (W.drewN n) b0 g D l m ds dms r F :=
  ⟨h.box, h.ownL, h.ownM, h.bL, h.bM, h.dr, h.los, h.el, h.em, h.cn, fun i t q h1 h2 h3 => (h.cl i t q h1 h2 h3).same fun _ _ => rfl, fun i t q h1 h2 h3 => (h.cm i t q h1 h2 h3).same fun _ _ => rfl, h.ff, h.dd⟩

/-- Behind a call that changed nothing. -/
theorem Parts.below {W W' : World} {b0 g : Nat} {D : Nat ⊕ Nat → Prop} {l : List JV} {m : List (ByteArray × JV)} {ds : List RV} {dms : List RM} {r : RV} {F : Nat ⊕ Nat → Nat → Prop} (h : Parts W b0 g D l m ds dms r F) (hb : Below W.heap.size W W') : Parts W' b0 g D l m ds dms r F :=
  have hs := hb.size
  ⟨h.box.under hb h.box.lt, h.ownL.below hb (Nat.le_refl _), h.ownM.below hb (Nat.le_refl _), h.bL, h.bM, h.dr, Nat.le_trans h.los hs, h.el, h.em, h.cn, fun i t q h1 h2 h3 => (h.cl i t q h1 h2 h3).under hb fun k hk => (h.ff _ k hk).1.2, fun i t q h1 h2 h3 => (h.cm i t q h1 h2 h3).under hb fun k hk => (h.ff _ k hk).1.2, fun a k hk => ⟨⟨(h.ff a k hk).1.1, Nat.lt_of_lt_of_le (h.ff a k hk).1.2 hs⟩, (h.ff a k hk).2⟩, h.dd⟩

theorem get_set_ne {α : Type} (l : List α) {i j : Nat} (x : α) (h : i ≠ j) : (l.set j x)[i]? = l[i]? := by rw [List.getElem?_set_ne (fun e => h e.symm)]

/-- The tree of a part, new, laid into the list of values. -/
theorem Parts.setL {W W1 W2 : World} {b0 g : Nat} {D : Nat ⊕ Nat → Prop} {l : List JV} {m : List (ByteArray × JV)} {ds : List RV} {dms : List RM} {r : RV} {F : Nat ⊕ Nat → Nat → Prop} (h : Parts W b0 g D l m ds dms r F) (hb : Below W.heap.size W W1) {u : JV} {q : RV} (hu : LoneV W1 (Fresh W W1) u q) {j g2 : Nat}
    (hg2 : (Value.slice r.pl r.nl r.cl).ownBlock = some g2) (ho : Own W2 b0 25 encV 5 (.slice r.pl r.nl r.cl) (ds.set j q)) (hg : W1.grownBy W2 (some g2)) (hj : j < ds.length) :
    Parts W2 b0 g (fun a => D a ∨ a = .inl j) (l.set j u) m (ds.set j q) dms r (fun a k => if a = .inl j then Fresh W W1 k else F a k) := by
  have h1 := h.below hb
  have hs := hg.size
  have hbs := hb.size
  have h4 := h.bL g2 hg2
  have h5 := (h.ownL.lt g2 hg2).2
  have h6 := h.box.lt
  have h7 := h.ownL.lt
  have h8 := h.ownM.lt
  have h9 := h.los
  have hsame : ∀ k, k ≠ g2 → k < W1.heap.size → W2.heap[k]? = W1.heap[k]? := fun k hk hk1 => hg.block k hk1 (fun e => hk (by cases e; rfl))
  have hF : ∀ a k, F a k → W2.heap[k]? = W1.heap[k]? := fun a k hk => hsame k (fun e => (h.ff a k hk).2.2.1 (by rw [hg2, e])) (h1.ff a k hk).1.2
  have hQ : ∀ k, Fresh W W1 k → W2.heap[k]? = W1.heap[k]? := fun k hk => hsame k (fun e => by have := hk.1; omega) hk.2
  refine ⟨(hsame g (fun e => h4 e.symm) h1.box.lt).trans h1.box, ho, h1.ownM.same fun k e => hsame k (fun e' => h.dr g2 hg2 (by rw [← e', e])) (h1.ownM.lt k e).2, h.bL, h.bM, h.dr, Nat.le_trans h1.los hs, by rw [List.length_set, List.length_set]; exact h.el, h.em, h.cn, ?_, ?_, ?_, ?_⟩
  · intro i t x hd ht hx
    by_cases hij : i = j
    · subst hij
      rw [List.getElem?_set_self (by rw [h.el]; exact hj)] at ht
      rw [List.getElem?_set_self hj] at hx
      cases ht; cases hx
      simp only [if_true]
      exact hu.same hQ
    · rw [get_set_ne _ _ hij] at ht hx
      have hne : (Sum.inl i : Nat ⊕ Nat) ≠ .inl j := fun e => hij (Sum.inl.inj e)
      simp only [if_neg hne]
      exact (h1.cl i t x (hd.resolve_right hne) ht hx).same (hF _)
  · intro i p x hd ht hx
    have hne : (Sum.inr i : Nat ⊕ Nat) ≠ .inl j := fun e => by cases e
    simp only [if_neg hne]
    exact (h1.cm i p x (hd.resolve_right hne) ht hx).same (hF _)
  · intro a k hk
    split at hk
    · exact ⟨⟨Nat.le_trans h.los hk.1, Nat.lt_of_lt_of_le hk.2 hs⟩, fun e => by have := hk.1; omega, fun e => by have := hk.1; have := (h7 k e).2; omega, fun e => by have := hk.1; have := (h8 k e).2; omega⟩
    · exact ⟨⟨(h1.ff a k hk).1.1, Nat.lt_of_lt_of_le (h1.ff a k hk).1.2 hs⟩, (h1.ff a k hk).2⟩
  · intro a b k ha hb'
    split at ha <;> split at hb'
    · rename_i e1 e2; rw [e1, e2]
    · exact absurd (h.ff b k hb').1.2 (by have := ha.1; omega)
    · exact absurd (h.ff a k ha).1.2 (by have := hb'.1; omega)
    · exact h.dd a b k ha hb'

/-- The tree of a part, new, laid into the list of members. -/
theorem Parts.setM {W W1 W2 : World} {b0 g : Nat} {D : Nat ⊕ Nat → Prop} {l : List JV} {m : List (ByteArray × JV)} {ds : List RV} {dms : List RM} {r : RV} {F : Nat ⊕ Nat → Nat → Prop} (h : Parts W b0 g D l m ds dms r F) (hb : Below W.heap.size W W1) {u : JV} {q : RV} (hu : LoneV W1 (Fresh W W1) u q) {j g2 : Nat} {p : ByteArray × JV} {x : RM}
    (hg2 : (Value.slice r.pm r.nm r.cm).ownBlock = some g2) (hp : m[j]? = some p) (hx : dms[j]? = some x) (ho : Own W2 b0 90 encM 6 (.slice r.pm r.nm r.cm) (dms.set j ⟨x.name, q⟩)) (hg : W1.grownBy W2 (some g2)) :
    Parts W2 b0 g (fun a => D a ∨ a = .inr j) l (m.set j (p.1, u)) ds (dms.set j ⟨x.name, q⟩) r (fun a k => if a = .inr j then Fresh W W1 k else F a k) := by
  have h1 := h.below hb
  have hs := hg.size
  have hbs := hb.size
  have hj : j < dms.length := (List.getElem?_eq_some_iff.1 hx).1
  have h4 := h.bM g2 hg2
  have h5 := (h.ownM.lt g2 hg2).2
  have h6 := h.box.lt
  have h7 := h.ownL.lt
  have h8 := h.ownM.lt
  have h9 := h.los
  have hsame : ∀ k, k ≠ g2 → k < W1.heap.size → W2.heap[k]? = W1.heap[k]? := fun k hk hk1 => hg.block k hk1 (fun e => hk (by cases e; rfl))
  have hF : ∀ a k, F a k → W2.heap[k]? = W1.heap[k]? := fun a k hk => hsame k (fun e => (h.ff a k hk).2.2.2 (by rw [hg2, e])) (h1.ff a k hk).1.2
  have hQ : ∀ k, Fresh W W1 k → W2.heap[k]? = W1.heap[k]? := fun k hk => hsame k (fun e => by have := hk.1; omega) hk.2
  refine ⟨(hsame g (fun e => h4 e.symm) h1.box.lt).trans h1.box, h1.ownL.same fun k e => hsame k (fun e' => h.dr k e (by rw [e', hg2])) (h1.ownL.lt k e).2, ho, h.bL, h.bM, h.dr, Nat.le_trans h1.los hs, h.el, by rw [List.length_set, List.length_set]; exact h.em, ?_, ?_, ?_, ?_, ?_⟩
  · intro i p' x' ht hx'
    by_cases hij : i = j
    · subst hij
      rw [List.getElem?_set_self (by rw [h.em]; exact hj)] at ht
      rw [List.getElem?_set_self hj] at hx'
      cases ht; cases hx'
      exact h.cn i p x hp hx
    · rw [get_set_ne _ _ hij] at ht hx'
      exact h.cn i p' x' ht hx'
  · intro i t x' hd ht hx'
    have hne : (Sum.inl i : Nat ⊕ Nat) ≠ .inr j := fun e => by cases e
    simp only [if_neg hne]
    exact (h1.cl i t x' (hd.resolve_right hne) ht hx').same (hF _)
  · intro i p' x' hd ht hx'
    by_cases hij : i = j
    · subst hij
      rw [List.getElem?_set_self (by rw [h.em]; exact hj)] at ht
      rw [List.getElem?_set_self hj] at hx'
      cases ht; cases hx'
      simp only [if_true]
      exact hu.same hQ
    · rw [get_set_ne _ _ hij] at ht hx'
      have hne : (Sum.inr i : Nat ⊕ Nat) ≠ .inr j := fun e => hij (Sum.inr.inj e)
      simp only [if_neg hne]
      exact (h1.cm i p' x' (hd.resolve_right hne) ht hx').same (hF _)
  · intro a k hk
    split at hk
    · exact ⟨⟨Nat.le_trans h.los hk.1, Nat.lt_of_lt_of_le hk.2 hs⟩, fun e => by have := hk.1; omega, fun e => by have := hk.1; have := (h7 k e).2; omega, fun e => by have := hk.1; have := (h8 k e).2; omega⟩
    · exact ⟨⟨(h1.ff a k hk).1.1, Nat.lt_of_lt_of_le (h1.ff a k hk).1.2 hs⟩, (h1.ff a k hk).2⟩
  · intro a b k ha hb'
    split at ha <;> split at hb'
    · rename_i e1 e2; rw [e1, e2]
    · exact absurd (h.ff b k hb').1.2 (by have := ha.1; omega)
    · exact absurd (h.ff a k ha).1.2 (by have := hb'.1; omega)
    · exact h.dd a b k ha hb'

/-- A value all of whose parts are the call's own. -/
theorem Parts.whole {W : World} {b0 g : Nat} {D : Nat ⊕ Nat → Prop} {l : List JV} {m : List (ByteArray × JV)} {ds : List RV} {dms : List RM} {r : RV} {F : Nat ⊕ Nat → Nat → Prop} (h : Parts W b0 g D l m ds dms r F) (hD : ∀ i, (i < l.length → D (.inl i)) ∧ (i < m.length → D (.inr i))) : LoneV W (fun k => b0 ≤ k ∧ k < W.heap.size) (.mk r.k r.n r.s l m) r :=
  .mk F (h.ownL.mono (Nat.zero_le _)) (h.ownM.mono (Nat.zero_le _)) (fun k e => h.ownL.lt k e) (fun k e => h.ownM.lt k e) h.dr h.el h.em h.cn
    (fun i t q h1 h2 => h.cl i t q ((hD i).1 (List.getElem?_eq_some_iff.1 h1).1) h1 h2) (fun i p q h1 h2 => h.cm i p q ((hD i).2 (List.getElem?_eq_some_iff.1 h1).1) h1 h2)
    (fun a k hk => ⟨(h.ff a k hk).1, (h.ff a k hk).2.2⟩) h.dd
end Go.Proofs.Ythgkgjcnmahacaa
