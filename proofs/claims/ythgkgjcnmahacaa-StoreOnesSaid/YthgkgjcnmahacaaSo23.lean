import Derived.Test.YthgkgjcnmahacaaSo15
import Derived.Test.YthgkgjcnmahacaaSo16
import Derived.Test.YthgkgjcnmahacaaSo01
section
/- The law's two members, in either order. -/
set_option linter.unusedSimpArgs false
set_option linter.unusedVariables false
namespace Go.Proofs.Ythgkgjcnmahacaa
open Go.RowKit Go.OpenShut

def numT (n : Int) : JV := .mk 3 n ⟨#[]⟩ [] []
def numR (n : Int) : RV := ⟨3, n, ⟨#[]⟩, none, 0, 0, none, 0, 0⟩
theorem numT_of (w : World) (B : Nat) (n : Int) : TreeOf w B (numT n) (numR n) :=
  TreeOf.mk (r := numR n) (rs := []) (rms := []) (Rd.nil _ _) rfl (fun i t q h => by simp at h) (Rd.nil _ _) rfl (fun i p q h => by simp at h) (fun i p q h => by simp at h)

/-- What the map of the two names holds. -/
def twoF (s : List UInt8) : Option Value := if s = [98] then some (.int .i64 1) else if s = [97] then some (.int .i64 2) else none

set_option maxRecDepth 100000 in
set_option maxHeartbeats 2000000 in
theorem two_any (a b : ByteArray) (na nb : Int) (w : World) (ha : twoF a.data.toList = some (.int .i64 na)) (hb : twoF b.data.toList = some (.int .i64 nb)) (hsa : a.size ≤ maxLen) (hsb : b.size ≤ maxLen) :
    Calls Try.prog 50 #[.string a, .string b] w (MapRet w 0 [(a, numT na), (b, numT nb)]) := by
  have hM0 : MapF ((w.alloc (.cells #[.int .i64 0, .int .i64 0, .string ⟨#[]⟩, .slice none 0 0, .slice none 0 0] 25)).alloc (.map #[] 0)) Try.prog 9 (w.heap.size + 1) 0 (fun _ => none) := by
    have := MapF.made (w.alloc (.cells #[.int .i64 0, .int .i64 0, .string ⟨#[]⟩, .slice none 0 0, .slice none 0 0] 25)) Try.prog 9
    rwa [show (w.alloc (.cells #[.int .i64 0, .int .i64 0, .string ⟨#[]⟩, .slice none 0 0, .slice none 0 0] 25)).heap.size = w.heap.size + 1 by simp] at this
  obtain ⟨w1, hrun1, hM1, hG1⟩ := MapF.store hM0 Try.underlying9 Try.underlying130 (by decide) (s := ⟨#[97]⟩) (by decide) (.int .i64 2)
  obtain ⟨w2, hrun2, hM2, hG2⟩ := MapF.store hM1 Try.underlying9 Try.underlying130 (by decide) (s := ⟨#[98]⟩) (by decide) (.int .i64 1)
  have HM2 : Hid (MapF w2 Try.prog 9 (w.heap.size + 1) 2 twoF) := hM2
  have HG1 := Lib.hid hG1
  have HG2 := Lib.hid hG2
  have HA := Lib.hid ha
  have HB := Lib.hid hb
  have HSA := Lib.hid hsa
  have HSB := Lib.hid hsb
  clear hM0 hM1 hM2 hG1 hG2 ha hb hsa hsb
  go_enter Try.func50, Try.ntmps50
  have hmm := @run_makeMap Try.prog
  go_upto_region 2 with fail
  clear hmm hrun1 hrun2
  have hZ0 : VAt w2 w.heap.size RV.zero := by
    have h0 : VAt ((w.alloc (.cells #[.int .i64 0, .int .i64 0, .string ⟨#[]⟩, .slice none 0 0, .slice none 0 0] 25)).alloc (.map #[] 0)) w.heap.size RV.zero := heap_alloc_lt (by simp) (heap_alloc_at rfl)
    have s1 := HG1.out.size
    simp at s1
    exact (HG2.out.block _ (by omega) (fun e => by simp at e)).trans ((HG1.out.block _ (by simp; omega) (fun e => by simp at e)).trans h0)
  have hB2 : Below w.heap.size w w2 := (((((Below.refl _ _).alloc (Nat.le_refl _) (.cells #[.int .i64 0, .int .i64 0, .string ⟨#[]⟩, .slice none 0 0, .slice none 0 0] 25)).alloc (by simp) (.map #[] 0)).grown HG1.out (by simp; omega) (fun k e => by simp at e; omega)).grown HG2.out (by have := HG1.out.size; simp at this; omega) (fun k e => by simp at e; omega))
  have hsz : w.heap.size < w2.heap.size := hZ0.lt
  have z0 := hZ0.cell 0 rfl
  have z1 := hZ0.cell 1 rfl
  have z2 := hZ0.cell 2 rfl
  have z3 := hZ0.cell 3 rfl
  have z4 := hZ0.cell 4 rfl
  dsimp only [RV.zero] at z0 z1 z2 z3 z4
  have y0 := hZ0.frozen 0
  have y1 := hZ0.frozen 1
  have y2 := hZ0.frozen 2
  have y3 := hZ0.frozen 3
  have y4 := hZ0.frozen 4
  have HB2 := Lib.hid hB2
  have HZ0 := Lib.hid hZ0
  clear hZ0 hB2
  go_wp2_with (first
    | (at_lookup; refine wpList_look_F _ rfl _ _ _ rfl 9 2 Try.underlying9 Try.underlying130 (Try.zeroValue2 _) _ _ twoF rfl HM2.out a rfl HSA.out (v := .int .i64 na) (by rw [HA.out]; rfl) ?_; go_frame)
    | (at_lookup; refine wpList_look_F _ rfl _ _ _ rfl 9 2 Try.underlying9 Try.underlying130 (Try.zeroValue2 _) _ _ twoF rfl HM2.out b rfl HSB.out (v := .int .i64 nb) (by rw [HB.out]; rfl) ?_; go_frame))
  obtain ⟨q, hq⟩ : ∃ q : RV, q = ⟨6, 0, ⟨#[]⟩, none, 0, 0, some ⟨w2.heap.size, 0, none⟩, 2, 2⟩ := ⟨_, rfl⟩
  have hst := HZ0.out.stored ⟨6, 0, ⟨#[]⟩, none, 0, 0, some ⟨w2.heap.size, 0, none⟩, 2, 2⟩
  have hbs := Below.stored HB2.out (Nat.le_refl _) ⟨6, 0, ⟨#[]⟩, none, 0, 0, some ⟨w2.heap.size, 0, none⟩, 2, 2⟩
  have hz5 : (((((w2.setCell ⟨w.heap.size, 0, none⟩ (.int .i64 6)).setCell ⟨w.heap.size, 1, none⟩ (.int .i64 0)).setCell ⟨w.heap.size, 2, none⟩ (.string ⟨#[]⟩)).setCell ⟨w.heap.size, 3, none⟩ (.slice none 0 0)).setCell ⟨w.heap.size, 4, none⟩ (.slice (some ⟨w2.heap.size, 0, none⟩) 2 2)).heap.size = w2.heap.size := by simp
  obtain ⟨W5, hW5⟩ : ∃ W5, ((((w2.setCell ⟨w.heap.size, 0, none⟩ (.int .i64 6)).setCell ⟨w.heap.size, 1, none⟩ (.int .i64 0)).setCell ⟨w.heap.size, 2, none⟩ (.string ⟨#[]⟩)).setCell ⟨w.heap.size, 3, none⟩ (.slice none 0 0)).setCell ⟨w.heap.size, 4, none⟩ (.slice (some ⟨w2.heap.size, 0, none⟩) 2 2) = W5 := ⟨_, rfl⟩
  dsimp only at hst hbs
  rw [hW5] at hst hbs hz5 ⊢
  clear hW5
  have hal := heap_alloc_lt (o := .cells #[.string a, .int .i64 3, .int .i64 na, .string ⟨#[]⟩, .slice none 0 0, .slice none 0 0, .string b, .int .i64 3, .int .i64 nb, .string ⟨#[]⟩, .slice none 0 0, .slice none 0 0] 90) hst.lt hst
  have hal2 : VAt (W5.alloc (.cells #[.string a, .int .i64 3, .int .i64 na, .string ⟨#[]⟩, .slice none 0 0, .slice none 0 0, .string b, .int .i64 3, .int .i64 nb, .string ⟨#[]⟩, .slice none 0 0, .slice none 0 0] 90)) w.heap.size ⟨6, 0, ⟨#[]⟩, none, 0, 0, some ⟨w2.heap.size, 0, none⟩, 2, 2⟩ := hal
  have c0 := hal2.cell 0 rfl
  have c1 := hal2.cell 1 rfl
  have c2 := hal2.cell 2 rfl
  have c3 := hal2.cell 3 rfl
  have c4 := hal2.cell 4 rfl
  dsimp only at c0 c1 c2 c3 c4
  refine bodyPost_ret (v := RV.val ⟨6, 0, ⟨#[]⟩, none, 0, 0, some ⟨w2.heap.size, 0, none⟩, 2, 2⟩) (by simp [results, Try.results50, go_sem, c0, c1, c2, c3, c4]) rfl ⟨some ⟨w2.heap.size, 0, none⟩, 2, 2, [⟨a, numR na⟩, ⟨b, numR nb⟩], rfl, ?_, ⟨rfl, ?_, ?_⟩, hbs.alloc (by omega) _⟩
  · exact Own.block codecM (heap_alloc_at hz5.symm) rfl rfl (by omega) (by simp [maxLen])
  · intro i p q h1 h2
    match i with
    | 0 => cases h1; cases h2; rfl
    | 1 => cases h1; cases h2; rfl
    | i + 2 => simp at h1
  · intro i p q h1 h2
    match i with
    | 0 => cases h1; cases h2; exact numT_of _ _ _
    | 1 => cases h1; cases h2; exact numT_of _ _ _
    | i + 2 => simp at h1
end Go.Proofs.Ythgkgjcnmahacaa
end

section
/- Trees that lie in the call's own memory, each part by itself. -/
set_option linter.unusedSimpArgs false
set_option linter.unusedVariables false
namespace Go.Proofs.Ythgkgjcnmahacaa
open Go.RowKit Go.OpenShut

section
variable {α : Type} {e : TypeId} {enc : α → List Value} {sz : Nat}
theorem Own.same {w w' : World} {base : Nat} {v : Value} {xs : List α} (h : Own w base e enc sz v xs) (hk : ∀ k, v.ownBlock = some k → w'.heap[k]? = w.heap[k]?) : Own w' base e enc sz v xs := by
  obtain ⟨hl, h⟩ := h
  refine ⟨hl, ?_⟩
  rcases h with h | ⟨g, cap, cur, rfl, hg, hh, r⟩
  · exact .inl h
  · exact .inr ⟨g, cap, cur, rfl, hg, (hk g rfl).trans hh, r⟩
end

/-- A whole value stored into a list of the call's own. -/
theorem Own.storedL {w : World} {base : Nat} {g n cap : Nat} {xs : List RV} (h : Own w base 25 encV 5 (.slice (some ⟨g, 0, none⟩) n cap) xs) {k : Nat} {x : RV} (hx : xs[k]? = some x) (q : RV) :
    Own (((((w.setCell ⟨g, k * 5, none⟩ (.int .i64 q.k)).setCell ⟨g, k * 5 + 1, none⟩ (.int .i64 q.n)).setCell ⟨g, k * 5 + 2, none⟩ (.string q.s)).setCell ⟨g, k * 5 + 3, none⟩ (.slice q.pl q.nl q.cl)).setCell ⟨g, k * 5 + 4, none⟩ (.slice q.pm q.nm q.cm)) base 25 encV 5 (.slice (some ⟨g, 0, none⟩) n cap) (xs.set k q) ∧
    w.grownBy (((((w.setCell ⟨g, k * 5, none⟩ (.int .i64 q.k)).setCell ⟨g, k * 5 + 1, none⟩ (.int .i64 q.n)).setCell ⟨g, k * 5 + 2, none⟩ (.string q.s)).setCell ⟨g, k * 5 + 3, none⟩ (.slice q.pl q.nl q.cl)).setCell ⟨g, k * 5 + 4, none⟩ (.slice q.pm q.nm q.cm)) (some g) := by
  have hk := (List.getElem?_eq_some_iff.1 hx).1
  have gs : ∀ (ys : List RV) (y : RV), k < ys.length → (ys.set k y)[k]? = some y := fun ys y hy => by simp [List.getElem?_set, hy]
  have s1 := Own.storedAt codecV h (j := 0) (y := { x with k := q.k }) (u := .int .i64 q.k) hx (by decide) rfl
  have s2 := Own.storedAt codecV s1.1 (j := 1) (y := { x with k := q.k, n := q.n }) (u := .int .i64 q.n) (gs _ _ hk) (by decide) rfl
  have s3 := Own.storedAt codecV s2.1 (j := 2) (y := { x with k := q.k, n := q.n, s := q.s }) (u := .string q.s) (gs _ _ (by simpa using hk)) (by decide) rfl
  have s4 := Own.storedAt codecV s3.1 (j := 3) (y := { x with k := q.k, n := q.n, s := q.s, pl := q.pl, nl := q.nl, cl := q.cl }) (u := .slice q.pl q.nl q.cl) (gs _ _ (by simpa using hk)) (by decide) rfl
  have s5 := Own.storedAt codecV s4.1 (j := 4) (y := q) (u := .slice q.pm q.nm q.cm) (gs _ _ (by simpa using hk)) (by decide) rfl
  simp only [List.set_set, Nat.add_zero] at s5 s4 s3 s2 s1
  exact ⟨s5.1, (((s1.2.trans s2.2).trans s3.2).trans s4.2).trans s5.2⟩

/-- The cells r read as the tree t; its lists are the call's own, each in a block of its own; all blocks are among S. -/
inductive LoneV (w : World) : (Nat → Prop) → JV → RV → Prop
  | mk {S : Nat → Prop} {r : RV} {l : List JV} {m : List (ByteArray × JV)} {rs : List RV} {rms : List RM} (F : Nat ⊕ Nat → Nat → Prop)
      (hl : Own w 0 25 encV 5 (.slice r.pl r.nl r.cl) rs) (hm : Own w 0 90 encM 6 (.slice r.pm r.nm r.cm) rms)
      (sl : ∀ k, (Value.slice r.pl r.nl r.cl).ownBlock = some k → S k) (sm : ∀ k, (Value.slice r.pm r.nm r.cm).ownBlock = some k → S k)
      (dr : ∀ k, (Value.slice r.pl r.nl r.cl).ownBlock = some k → (Value.slice r.pm r.nm r.cm).ownBlock ≠ some k)
      (el : l.length = rs.length) (em : m.length = rms.length)
      (cn : ∀ (i : Nat) (p : ByteArray × JV) (q : RM), m[i]? = some p → rms[i]? = some q → p.1 = q.name)
      (cl : ∀ (i : Nat) (t : JV) (q : RV), l[i]? = some t → rs[i]? = some q → LoneV w (F (.inl i)) t q)
      (cm : ∀ (i : Nat) (p : ByteArray × JV) (q : RM), m[i]? = some p → rms[i]? = some q → LoneV w (F (.inr i)) p.2 q.v)
      (ff : ∀ a k, F a k → S k ∧ (Value.slice r.pl r.nl r.cl).ownBlock ≠ some k ∧ (Value.slice r.pm r.nm r.cm).ownBlock ≠ some k)
      (dd : ∀ a b k, F a k → F b k → a = b) : LoneV w S (.mk r.k r.n r.s l m) r

theorem LoneV.same {w w' : World} {S : Nat → Prop} {t : JV} {r : RV} (h : LoneV w S t r) (hk : ∀ k, S k → w'.heap[k]? = w.heap[k]?) : LoneV w' S t r := by
  induction h with
  | mk F hl hm sl sm dr el em cn cl cm ff dd ih1 ih2 =>
    exact .mk F (hl.same fun k e => hk k (sl k e)) (hm.same fun k e => hk k (sm k e)) sl sm dr el em cn
      (fun i t q h1 h2 => ih1 i t q h1 h2 fun k hf => hk k (ff _ k hf).1) (fun i p q h1 h2 => ih2 i p q h1 h2 fun k hf => hk k (ff _ k hf).1) ff dd
theorem LoneV.mono {w : World} {S S' : Nat → Prop} {t : JV} {r : RV} (h : LoneV w S t r) (hs : ∀ k, S k → S' k) : LoneV w S' t r := by
  cases h with
  | mk F hl hm sl sm dr el em cn cl cm ff dd =>
    exact .mk F hl hm (fun k e => hs k (sl k e)) (fun k e => hs k (sm k e)) dr el em cn cl cm (fun a k hf => ⟨hs k (ff a k hf).1, (ff a k hf).2⟩) dd
theorem LoneV.under {w w' : World} {S : Nat → Prop} {B : Nat} {t : JV} {r : RV} (h : LoneV w S t r) (hb : Below B w w') (hs : ∀ k, S k → k < B) : LoneV w' S t r := h.same fun k hk => hb.block k (hs k hk)
theorem LoneV.tree {w : World} {S : Nat → Prop} {t : JV} {r : RV} (h : LoneV w S t r) : TreeOf w w.heap.size t r := by
  induction h with
  | mk F hl hm sl sm dr el em cn cl cm ff dd ih1 ih2 => exact .mk (hl.rd codecV) el ih1 (hm.rd codecM) em cn ih2
/-- Blocks that are new behind the call. -/
def Fresh (w w' : World) (k : Nat) : Prop := w.heap.size ≤ k ∧ k < w'.heap.size

/-- A value in a box, its lists the call's own, its parts in blocks of their own. -/
structure Parts (W : World) (b0 g : Nat) (D : Nat ⊕ Nat → Prop) (l : List JV) (m : List (ByteArray × JV)) (ds : List RV) (dms : List RM) (r : RV) (F : Nat ⊕ Nat → Nat → Prop) : Prop where
  box : VAt W g r
  ownL : Own W b0 25 encV 5 (.slice r.pl r.nl r.cl) ds
  ownM : Own W b0 90 encM 6 (.slice r.pm r.nm r.cm) dms
  bL : ∀ k, (Value.slice r.pl r.nl r.cl).ownBlock = some k → k ≠ g
  bM : ∀ k, (Value.slice r.pm r.nm r.cm).ownBlock = some k → k ≠ g
  dr : ∀ k, (Value.slice r.pl r.nl r.cl).ownBlock = some k → (Value.slice r.pm r.nm r.cm).ownBlock ≠ some k
  los : b0 ≤ W.heap.size
  el : l.length = ds.length
  em : m.length = dms.length
  cn : ∀ (i : Nat) (p : ByteArray × JV) (q : RM), m[i]? = some p → dms[i]? = some q → p.1 = q.name
  cl : ∀ (i : Nat) (t : JV) (q : RV), D (.inl i) → l[i]? = some t → ds[i]? = some q → LoneV W (F (.inl i)) t q
  cm : ∀ (i : Nat) (p : ByteArray × JV) (q : RM), D (.inr i) → m[i]? = some p → dms[i]? = some q → LoneV W (F (.inr i)) p.2 q.v
  ff : ∀ a k, F a k → (b0 ≤ k ∧ k < W.heap.size) ∧ k ≠ g ∧ (Value.slice r.pl r.nl r.cl).ownBlock ≠ some k ∧ (Value.slice r.pm r.nm r.cm).ownBlock ≠ some k
  dd : ∀ a b k, F a k → F b k → a = b

theorem Parts.drewN {W : World} {b0 g : Nat} {D : Nat ⊕ Nat → Prop} {l : List JV} {m : List (ByteArray × JV)} {ds : List RV} {dms : List RM} {r : RV} {F : Nat ⊕ Nat → Nat → Prop} (h : Parts W b0 g D l m ds dms r F) (n : Nat) : Parts (W.drewN n) b0 g D l m ds dms r F :=
  ⟨h.box, h.ownL, h.ownM, h.bL, h.bM, h.dr, h.los, h.el, h.em, h.cn, fun i t q h1 h2 h3 => (h.cl i t q h1 h2 h3).same fun _ _ => rfl, fun i t q h1 h2 h3 => (h.cm i t q h1 h2 h3).same fun _ _ => rfl, h.ff, h.dd⟩

/-- Behind a call that changed nothing. -/
theorem Parts.below {W W' : World} {b0 g : Nat} {D : Nat ⊕ Nat → Prop} {l : List JV} {m : List (ByteArray × JV)} {ds : List RV} {dms : List RM} {r : RV} {F : Nat ⊕ Nat → Nat → Prop} (h : Parts W b0 g D l m ds dms r F) (hb : Below W.heap.size W W') : Parts W' b0 g D l m ds dms r F :=
  have hs := hb.size
  ⟨h.box.under hb h.box.lt, h.ownL.below hb (Nat.le_refl _), h.ownM.below hb (Nat.le_refl _), h.bL, h.bM, h.dr, Nat.le_trans h.los hs, h.el, h.em, h.cn, fun i t q h1 h2 h3 => (h.cl i t q h1 h2 h3).under hb fun k hk => (h.ff _ k hk).1.2, fun i t q h1 h2 h3 => (h.cm i t q h1 h2 h3).under hb fun k hk => (h.ff _ k hk).1.2, fun a k hk => ⟨⟨(h.ff a k hk).1.1, Nat.lt_of_lt_of_le (h.ff a k hk).1.2 hs⟩, (h.ff a k hk).2⟩, h.dd⟩

theorem get_set_ne {α : Type} (l : List α) {i j : Nat} (x : α) (h : i ≠ j) : (l.set j x)[i]? = l[i]? := by rw [List.getElem?_set_ne (fun e => h e.symm)]

/-- The tree of a part, new, laid into the list of values. -/
theorem Parts.setL {W W1 W2 : World} {b0 g : Nat} {D : Nat ⊕ Nat → Prop} {l : List JV} {m : List (ByteArray × JV)} {ds : List RV} {dms : List RM} {r : RV} {F : Nat ⊕ Nat → Nat → Prop} (h : Parts W b0 g D l m ds dms r F) (hb : Below W.heap.size W W1) {u : JV} {q : RV} (hu : LoneV W1 (Fresh W W1) u q) {j g2 : Nat}
    (hg2 : (Value.slice r.pl r.nl r.cl).ownBlock = some g2) (ho : Own W2 b0 25 encV 5 (.slice r.pl r.nl r.cl) (ds.set j q)) (hg : W1.grownBy W2 (some g2)) (hj : j < ds.length) :
    Parts W2 b0 g (fun a => D a ∨ a = .inl j) (l.set j u) m (ds.set j q) dms r (fun a k => if a = .inl j then Fresh W W1 k else F a k) := by
  have h1 := h.below hb
  have hs := hg.size
  have hbs := hb.size
  have h4 := h.bL g2 hg2
  have h5 := (h.ownL.lt g2 hg2).2
  have h6 := h.box.lt
  have h7 := h.ownL.lt
  have h8 := h.ownM.lt
  have h9 := h.los
  have hsame : ∀ k, k ≠ g2 → k < W1.heap.size → W2.heap[k]? = W1.heap[k]? := fun k hk hk1 => hg.block k hk1 (fun e => hk (by cases e; rfl))
  have hF : ∀ a k, F a k → W2.heap[k]? = W1.heap[k]? := fun a k hk => hsame k (fun e => (h.ff a k hk).2.2.1 (by rw [hg2, e])) (h1.ff a k hk).1.2
  have hQ : ∀ k, Fresh W W1 k → W2.heap[k]? = W1.heap[k]? := fun k hk => hsame k (fun e => by have := hk.1; omega) hk.2
  refine ⟨(hsame g (fun e => h4 e.symm) h1.box.lt).trans h1.box, ho, h1.ownM.same fun k e => hsame k (fun e' => h.dr g2 hg2 (by rw [← e', e])) (h1.ownM.lt k e).2, h.bL, h.bM, h.dr, Nat.le_trans h1.los hs, by rw [List.length_set, List.length_set]; exact h.el, h.em, h.cn, ?_, ?_, ?_, ?_⟩
  · intro i t x hd ht hx
    by_cases hij : i = j
    · subst hij
      rw [List.getElem?_set_self (by rw [h.el]; exact hj)] at ht
      rw [List.getElem?_set_self hj] at hx
      cases ht; cases hx
      simp only [if_true]
      exact hu.same hQ
    · rw [get_set_ne _ _ hij] at ht hx
      have hne : (Sum.inl i : Nat ⊕ Nat) ≠ .inl j := fun e => hij (Sum.inl.inj e)
      simp only [if_neg hne]
      exact (h1.cl i t x (hd.resolve_right hne) ht hx).same (hF _)
  · intro i p x hd ht hx
    have hne : (Sum.inr i : Nat ⊕ Nat) ≠ .inl j := fun e => by cases e
    simp only [if_neg hne]
    exact (h1.cm i p x (hd.resolve_right hne) ht hx).same (hF _)
  · intro a k hk
    split at hk
    · exact ⟨⟨Nat.le_trans h.los hk.1, Nat.lt_of_lt_of_le hk.2 hs⟩, fun e => by have := hk.1; omega, fun e => by have := hk.1; have := (h7 k e).2; omega, fun e => by have := hk.1; have := (h8 k e).2; omega⟩
    · exact ⟨⟨(h1.ff a k hk).1.1, Nat.lt_of_lt_of_le (h1.ff a k hk).1.2 hs⟩, (h1.ff a k hk).2⟩
  · intro a b k ha hb'
    split at ha <;> split at hb'
    · rename_i e1 e2; rw [e1, e2]
    · exact absurd (h.ff b k hb').1.2 (by have := ha.1; omega)
    · exact absurd (h.ff a k ha).1.2 (by have := hb'.1; omega)
    · exact h.dd a b k ha hb'

/-- The tree of a part, new, laid into the list of members. -/
theorem Parts.setM {W W1 W2 : World} {b0 g : Nat} {D : Nat ⊕ Nat → Prop} {l : List JV} {m : List (ByteArray × JV)} {ds : List RV} {dms : List RM} {r : RV} {F : Nat ⊕ Nat → Nat → Prop} (h : Parts W b0 g D l m ds dms r F) (hb : Below W.heap.size W W1) {u : JV} {q : RV} (hu : LoneV W1 (Fresh W W1) u q) {j g2 : Nat} {p : ByteArray × JV} {x : RM}
    (hg2 : (Value.slice r.pm r.nm r.cm).ownBlock = some g2) (hp : m[j]? = some p) (hx : dms[j]? = some x) (ho : Own W2 b0 90 encM 6 (.slice r.pm r.nm r.cm) (dms.set j ⟨x.name, q⟩)) (hg : W1.grownBy W2 (some g2)) :
    Parts W2 b0 g (fun a => D a ∨ a = .inr j) l (m.set j (p.1, u)) ds (dms.set j ⟨x.name, q⟩) r (fun a k => if a = .inr j then Fresh W W1 k else F a k) := by
  have h1 := h.below hb
  have hs := hg.size
  have hbs := hb.size
  have hj : j < dms.length := (List.getElem?_eq_some_iff.1 hx).1
  have h4 := h.bM g2 hg2
  have h5 := (h.ownM.lt g2 hg2).2
  have h6 := h.box.lt
  have h7 := h.ownL.lt
  have h8 := h.ownM.lt
  have h9 := h.los
  have hsame : ∀ k, k ≠ g2 → k < W1.heap.size → W2.heap[k]? = W1.heap[k]? := fun k hk hk1 => hg.block k hk1 (fun e => hk (by cases e; rfl))
  have hF : ∀ a k, F a k → W2.heap[k]? = W1.heap[k]? := fun a k hk => hsame k (fun e => (h.ff a k hk).2.2.2 (by rw [hg2, e])) (h1.ff a k hk).1.2
  have hQ : ∀ k, Fresh W W1 k → W2.heap[k]? = W1.heap[k]? := fun k hk => hsame k (fun e => by have := hk.1; omega) hk.2
  refine ⟨(hsame g (fun e => h4 e.symm) h1.box.lt).trans h1.box, h1.ownL.same fun k e => hsame k (fun e' => h.dr k e (by rw [e', hg2])) (h1.ownL.lt k e).2, ho, h.bL, h.bM, h.dr, Nat.le_trans h1.los hs, h.el, by rw [List.length_set, List.length_set]; exact h.em, ?_, ?_, ?_, ?_, ?_⟩
  · intro i p' x' ht hx'
    by_cases hij : i = j
    · subst hij
      rw [List.getElem?_set_self (by rw [h.em]; exact hj)] at ht
      rw [List.getElem?_set_self hj] at hx'
      cases ht; cases hx'
      exact h.cn i p x hp hx
    · rw [get_set_ne _ _ hij] at ht hx'
      exact h.cn i p' x' ht hx'
  · intro i t x' hd ht hx'
    have hne : (Sum.inl i : Nat ⊕ Nat) ≠ .inr j := fun e => by cases e
    simp only [if_neg hne]
    exact (h1.cl i t x' (hd.resolve_right hne) ht hx').same (hF _)
  · intro i p' x' hd ht hx'
    by_cases hij : i = j
    · subst hij
      rw [List.getElem?_set_self (by rw [h.em]; exact hj)] at ht
      rw [List.getElem?_set_self hj] at hx'
      cases ht; cases hx'
      simp only [if_true]
      exact hu.same hQ
    · rw [get_set_ne _ _ hij] at ht hx'
      have hne : (Sum.inr i : Nat ⊕ Nat) ≠ .inr j := fun e => hij (Sum.inr.inj e)
      simp only [if_neg hne]
      exact (h1.cm i p' x' (hd.resolve_right hne) ht hx').same (hF _)
  · intro a k hk
    split at hk
    · exact ⟨⟨Nat.le_trans h.los hk.1, Nat.lt_of_lt_of_le hk.2 hs⟩, fun e => by have := hk.1; omega, fun e => by have := hk.1; have := (h7 k e).2; omega, fun e => by have := hk.1; have := (h8 k e).2; omega⟩
    · exact ⟨⟨(h1.ff a k hk).1.1, Nat.lt_of_lt_of_le (h1.ff a k hk).1.2 hs⟩, (h1.ff a k hk).2⟩
  · intro a b k ha hb'
    split at ha <;> split at hb'
    · rename_i e1 e2; rw [e1, e2]
    · exact absurd (h.ff b k hb').1.2 (by have := ha.1; omega)
    · exact absurd (h.ff a k ha).1.2 (by have := hb'.1; omega)
    · exact h.dd a b k ha hb'

/-- A value all of whose parts are the call's own. -/
theorem Parts.whole {W : World} {b0 g : Nat} {D : Nat ⊕ Nat → Prop} {l : List JV} {m : List (ByteArray × JV)} {ds : List RV} {dms : List RM} {r : RV} {F : Nat ⊕ Nat → Nat → Prop} (h : Parts W b0 g D l m ds dms r F) (hD : ∀ i, (i < l.length → D (.inl i)) ∧ (i < m.length → D (.inr i))) : LoneV W (fun k => b0 ≤ k ∧ k < W.heap.size) (.mk r.k r.n r.s l m) r :=
  .mk F (h.ownL.mono (Nat.zero_le _)) (h.ownM.mono (Nat.zero_le _)) (fun k e => h.ownL.lt k e) (fun k e => h.ownM.lt k e) h.dr h.el h.em h.cn
    (fun i t q h1 h2 => h.cl i t q ((hD i).1 (List.getElem?_eq_some_iff.1 h1).1) h1 h2) (fun i p q h1 h2 => h.cm i p q ((hD i).2 (List.getElem?_eq_some_iff.1 h1).1) h1 h2)
    (fun a k hk => ⟨(h.ff a k hk).1, (h.ff a k hk).2.2⟩) h.dd
end Go.Proofs.Ythgkgjcnmahacaa
end

section
/- slices.Clone at api.Value, walked: a slice of the call's own with the same elements. -/
set_option linter.unusedSimpArgs false
set_option linter.unusedVariables false
namespace Go.Proofs.Ythgkgjcnmahacaa
open Go.RowKit

set_option maxRecDepth 100000 in
set_option maxHeartbeats 400000 in
theorem cloneV_any {α : Type} {enc : α → List Value} (C : Codec enc 5) (w : World) (p : Option Addr) (n c : Nat) (xs : List α) (hv : Rd w w.heap.size enc 5 (.slice p n c) xs) (hsz : xs.length * 80 ≤ 140737488355328) :
    Calls Try.prog 75 #[.slice p n c] w fun e w' => ∃ p' c', e = .returned (.slice p' n c') ∧ (p = none ↔ p' = none) ∧ Own w' w.heap.size 25 enc 5 (.slice p' n c') xs ∧ Below w.heap.size w w' := by
  have hn : n = xs.length := by
    obtain ⟨_, _, e, _⟩ := hv
    simp only [Value.slice.injEq] at e; exact e.2.1
  subst hn
  have HS := Lib.hid hsz
  have HV := Lib.hid hv
  cases p with
  | none =>
    have h0 : xs.length = 0 ∧ c = 0 := by
      obtain ⟨p', cap, he, hlc, hcm, hp0, hp⟩ := hv
      simp only [Value.slice.injEq] at he
      obtain ⟨rfl, h1, rfl⟩ := he
      have := hp0 rfl
      omega
    obtain ⟨h0, rfl⟩ := h0
    obtain rfl := List.eq_nil_of_length_eq_zero h0
    have hnil : ∀ W, (Go.binOp .eql 22 (.slice none 0 0) (.slice none 0 0)).run Try.prog W = .ok (.bool true) W := fun W => Lib.run_eql_slice_nil W 22 25 none 0 0 0 0 Try.underlying22
    clear hv
    go_enter Try.func75, Try.ntmps75
    go_wp2
    go_ret
    exact ⟨none, 0, rfl, by simp, Own.nil w _ _, Below.refl _ _⟩
  | some a =>
    have hnil : ∀ W, (Go.binOp .eql 22 (.slice (some a) xs.length c) (.slice none 0 0)).run Try.prog W = .ok (.bool false) W := fun W => Lib.run_eql_slice_nil W 22 25 (some a) xs.length c 0 0 Try.underlying22
    have hO : Own (w.alloc (.cells #[] 25)) w.heap.size 25 enc 5 (.slice (some ⟨w.heap.size, 0, none⟩) 0 0) ([] : List α) := Own.made (Nat.le_refl _)
    have hB0 : Below w.heap.size w (w.alloc (.cells #[] 25)) := (Below.refl _ _).alloc (Nat.le_refl _) _
    have HR := Lib.hid (HV.out.below hB0 (Nat.le_refl _))
    clear hv
    go_enter Try.func75, Try.ntmps75
    go_wp2_with (at_builtin; refine wpList_append_rd slV C (w.alloc (.cells #[] 25)) rfl (.tmp 5) (.tmp 6) rfl (v := .slice (some ⟨w.heap.size, 0, none⟩) 0 0) rfl rfl hO HR.out (by have := HS.out; simp; unfold maxLen; omega) (by have := HS.out; simp; omega) (by simp) ?_; intro v1 w1 ho1 hg1 hat1)
    have hb1 : Below w.heap.size w w1 := Below.appended hB0 hg1 hO (by simp)
    rw [List.nil_append] at ho1
    obtain ⟨p1, c1, rfl, _, _⟩ := ho1.len
    have hp1 : p1 ≠ none := by
      rintro rfl
      rcases hat1 with h | h <;> simp [Value.ownBlock] at h
    go_ret
    refine ⟨p1, c1, rfl, ⟨(fun h => by cases h), (fun h => absurd h hp1)⟩, ho1, hb1⟩
end Go.Proofs.Ythgkgjcnmahacaa
end
