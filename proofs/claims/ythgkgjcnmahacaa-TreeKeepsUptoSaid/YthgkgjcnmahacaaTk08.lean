import Derived.Test.YthgkgjcnmahacaaTk04
import Derived.Test.YthgkgjcnmahacaaTk07
import Derived.Test.YthgkgjcnmahacaaTk01
section
/- What sorting a tree means, and a list of members sorted in memory. -/
set_option linter.unusedSimpArgs false
set_option linter.unusedVariables false
namespace Go.Proofs.Ythgkgjcnmahacaa
open Go.RowKit Go.OpenShut

/-- u is t with its members sorted, at every depth. -/
inductive SortOf : JV → JV → Prop
  | mk {k n : Int} {s : ByteArray} {l l' : List JV} {m mm m' : List (ByteArray × JV)} (el : l'.length = l.length) (cl : ∀ (i : Nat) (t u : JV), l[i]? = some t → l'[i]? = some u → SortOf t u)
      (em : mm.length = m.length) (cn : ∀ (i : Nat) (p q : ByteArray × JV), m[i]? = some p → mm[i]? = some q → p.1 = q.1) (cm : ∀ (i : Nat) (p q : ByteArray × JV), m[i]? = some p → mm[i]? = some q → SortOf p.2 q.2)
      (st : IsStable cfJ mm m') : SortOf (.mk k n s l m) (.mk k n s l' m')

theorem LoneV.parts {w : World} {S : Nat → Prop} {t : JV} {r : RV} {b0 : Nat} (h : LoneV w S t r) (hb : ∀ k, S k → b0 ≤ k ∧ k < w.heap.size) (h0 : b0 ≤ w.heap.size) :
    ∃ ds dms F, Parts (w.alloc (.cells #[.int .i64 r.k, .int .i64 r.n, .string r.s, .slice r.pl r.nl r.cl, .slice r.pm r.nm r.cm] 25)) b0 w.heap.size (fun _ => True) t.l t.m ds dms r F ∧ t.k = r.k ∧ t.n = r.n ∧ t.s = r.s := by
  cases h with
  | @mk _ _ l m rs rms F hl hm sl sm dr el em cn cl cm ff dd =>
  have hal : ∀ k, k < w.heap.size → (w.alloc (.cells #[.int .i64 r.k, .int .i64 r.n, .string r.s, .slice r.pl r.nl r.cl, .slice r.pm r.nm r.cm] 25)).heap[k]? = w.heap[k]? := fun k hk => Below.heap_alloc w _ k hk
  have reb : ∀ {α : Type} {e : TypeId} {enc : α → List Value} {sz : Nat} {v : Value} {xs : List α}, Own w 0 e enc sz v xs → (∀ k, v.ownBlock = some k → S k) → Own w b0 e enc sz v xs := by
    intro α e enc sz v xs ho hs
    obtain ⟨hx, ho⟩ := ho
    refine ⟨hx, ?_⟩
    rcases ho with ho | ⟨g, cap, cur, rfl, hg, r⟩
    · exact .inl ho
    · exact .inr ⟨g, cap, cur, rfl, (hb g (hs g rfl)).1, r⟩
  refine ⟨rs, rms, F, ⟨heap_alloc_at rfl, (reb hl sl).alloc _, (reb hm sm).alloc _, fun k e => by have := (hb k (sl k e)).2; omega, fun k e => by have := (hb k (sm k e)).2; omega, dr, by simp; omega, el, em, cn, ?_, ?_, ?_, dd⟩, rfl, rfl, rfl⟩
  · intro i t q _ h1 h2
    exact (cl i t q h1 h2).same fun k hk => hal k (hb k (ff _ k hk).1).2
  · intro i t q _ h1 h2
    exact (cm i t q h1 h2).same fun k hk => hal k (hb k (ff _ k hk).1).2
  · intro a k hk
    have := hb k (ff a k hk).1
    exact ⟨⟨this.1, by simp; omega⟩, by omega, (ff a k hk).2⟩

theorem stable_names {m : List (ByteArray × JV)} {dms ys : List RM} (hs : IsStable cfM dms ys) (em : m.length = dms.length) (cn : ∀ (i : Nat) (p : ByteArray × JV) (q : RM), m[i]? = some p → dms[i]? = some q → p.1 = q.name) :
    ∃ (m' : List (ByteArray × JV)) (σ : List Nat), IsStable cfJ m m' ∧ m'.length = ys.length ∧ σ.Nodup ∧ ∀ (j : Nat) (p : ByteArray × JV) (q : RM), m'[j]? = some p → ys[j]? = some q → ∃ i : Nat, σ[j]? = some i ∧ m[i]? = some p ∧ dms[i]? = some q := by
  obtain ⟨ts, hp, hw, rfl⟩ := hs
  have hmem : ∀ a ∈ ts, dms[a.2]? = some a.1 := fun a ha => by
    have := List.mem_zipIdx' (hp.mem_iff.1 ha)
    exact (List.getElem?_eq_getElem this.1).trans (congrArg some this.2.symm)
  have hmm : ∀ a ∈ ts, ∃ p, m[a.2]? = some p ∧ p.1 = a.1.name := fun a ha => by
    have h1 := hmem a ha
    have h2 : a.2 < m.length := by rw [em]; exact (List.getElem?_eq_some_iff.1 h1).1
    exact ⟨m[a.2], List.getElem?_eq_getElem h2, cn _ _ _ (List.getElem?_eq_getElem h2) h1⟩
  let f : RM × Nat → (ByteArray × JV) × Nat := fun a => ((m[a.2]?).getD (ByteArray.empty, JV.zero), a.2)
  have hz : dms.zipIdx.map f = m.zipIdx := by
    apply List.ext_getElem
    · simp [em]
    · intro i h1 h2
      have h3 : i < m.length := by simpa using h2
      simp [f, h3]
  refine ⟨(ts.map f).map (·.1), ts.map (·.2), ⟨ts.map f, hz ▸ hp.map f, ?_, rfl⟩, by simp, ?_, ?_⟩
  · rw [List.pairwise_map]
    refine hw.imp_of_mem fun {a b} ha hb h => ?_
    obtain ⟨p, h1, h2⟩ := hmm a ha
    obtain ⟨q, h3, h4⟩ := hmm b hb
    have e : ∀ x y : ByteArray × JV, ∀ z v : RM, x.1 = z.name → y.1 = v.name → cfJ x y = cfM z v := fun x y z v h h' => by unfold cfJ cfM; rw [h, h']
    show tlt cfJ (f a) (f b) = true
    unfold tlt at h ⊢
    simp only [f, h1, h3, Option.getD_some]
    rw [e _ _ _ _ h2 h4, e _ _ _ _ h4 h2]
    exact h
  · have h1 : (ts.map (·.2)).Perm (dms.zipIdx.map (·.2)) := hp.map _
    rw [List.zipIdx_map_snd] at h1
    exact h1.nodup_iff.2 (List.nodup_range' ..)
  · intro j p q h1 h2
    rw [List.map_map, List.getElem?_map] at h1
    rw [List.getElem?_map] at h2
    cases ht : ts[j]? with
    | none => rw [ht] at h2; cases h2
    | some a =>
      rw [ht] at h1 h2
      obtain ⟨p', h3, h4⟩ := hmm a (List.mem_of_getElem? ht)
      simp only [Option.map_some, Function.comp, f, h3, Option.getD_some, Option.some.injEq] at h1 h2
      subst h1 h2
      exact ⟨a.2, by rw [List.getElem?_map, ht]; rfl, h3, hmem a (List.mem_of_getElem? ht)⟩

theorem Parts.sorted {W W2 : World} {b0 g : Nat} {D : Nat ⊕ Nat → Prop} {l : List JV} {m : List (ByteArray × JV)} {ds : List RV} {dms ys : List RM} {r : RV} {F : Nat ⊕ Nat → Nat → Prop} (h : Parts W b0 g (fun _ => True) l m ds dms r F) (hs : IsStable cfM dms ys)
    (ho : Own W2 b0 90 encM 6 (.slice r.pm r.nm r.cm) ys) (hg : W.grownBy W2 (Value.slice r.pm r.nm r.cm).ownBlock) : ∃ m' F', IsStable cfJ m m' ∧ Parts W2 b0 g (fun _ => True) l m' ds ys r F' := by
  obtain ⟨m', σ, h1, h2, h3, h4⟩ := stable_names hs h.em h.cn
  have hsz := hg.size
  have hsame : ∀ k, k < W.heap.size → (Value.slice r.pm r.nm r.cm).ownBlock ≠ some k → W2.heap[k]? = W.heap[k]? := fun k hk hk1 => hg.block k hk (fun e => hk1 e.symm)
  have hF : ∀ a k, F a k → W2.heap[k]? = W.heap[k]? := fun a k hk => hsame k (h.ff a k hk).1.2 (h.ff a k hk).2.2.2
  refine ⟨m', fun a k => match a with | .inl i => F (.inl i) k | .inr j => ∃ i : Nat, σ[j]? = some i ∧ F (.inr i) k, h1, ⟨(hsame g h.box.lt (fun e => h.bM g e rfl)).trans h.box, h.ownL.same fun k e => hsame k (h.ownL.lt k e).2 (h.dr k e), ho, h.bL, h.bM, h.dr, Nat.le_trans h.los hsz, h.el, h2, ?_, ?_, ?_, ?_, ?_⟩⟩
  · intro i p q hp hq
    obtain ⟨i', _, e1, e2⟩ := h4 i p q hp hq
    exact h.cn i' p q e1 e2
  · intro i t q hd ht hq
    exact (h.cl i t q hd ht hq).same (hF _)
  · intro i p q hd hp hq
    obtain ⟨i', e0, e1, e2⟩ := h4 i p q hp hq
    exact ((h.cm i' p q trivial e1 e2).same (hF _)).mono fun k hk => ⟨i', e0, hk⟩
  · intro a k hk
    cases a with
    | inl i => exact ⟨⟨(h.ff _ k hk).1.1, Nat.lt_of_lt_of_le (h.ff _ k hk).1.2 hsz⟩, (h.ff _ k hk).2⟩
    | inr j =>
      obtain ⟨i, _, hk⟩ := hk
      exact ⟨⟨(h.ff _ k hk).1.1, Nat.lt_of_lt_of_le (h.ff _ k hk).1.2 hsz⟩, (h.ff _ k hk).2⟩
  · intro a b k ha hb
    cases a with
    | inl i =>
      cases b with
      | inl i' => exact h.dd _ _ k ha hb
      | inr j =>
        obtain ⟨i', _, hb⟩ := hb
        cases h.dd _ _ k ha hb
    | inr j =>
      obtain ⟨i1, e1, ha⟩ := ha
      cases b with
      | inl i' => cases h.dd _ _ k ha hb
      | inr j' =>
        obtain ⟨i2, e2, hb⟩ := hb
        cases h.dd _ _ k ha hb
        obtain ⟨l1, e1⟩ := List.getElem?_eq_some_iff.1 e1
        obtain ⟨l2, e2⟩ := List.getElem?_eq_some_iff.1 e2
        have hjj : j = j' := by
          rcases Nat.lt_trichotomy j j' with hlt | he | hlt
          · exact absurd (e1.trans e2.symm) (List.pairwise_iff_getElem.1 h3 j j' l1 l2 hlt)
          · exact he
          · exact absurd (e2.trans e1.symm) (List.pairwise_iff_getElem.1 h3 j' j l2 l1 hlt)
        rw [hjj]
end Go.Proofs.Ythgkgjcnmahacaa
end

section
/- tree.Sort: the tree with its members sorted, in memory of its own. -/
set_option linter.unusedSimpArgs false
set_option linter.unusedVariables false
namespace Go.Proofs.Ythgkgjcnmahacaa
open Go.RowKit Go.OpenShut Go.Lib Go.Sort

instance : Inhabited RM := ⟨⟨⟨#[]⟩, RV.zero⟩⟩
/-- Sorting: the first jl values and the first jm members are sorted. -/
structure SortS (w W : World) (g jl jm : Nat) (l0 : List JV) (m0 : List (ByteArray × JV)) (l : List JV) (m : List (ByteArray × JV)) (ds : List RV) (dms : List RM) (r : RV) (F : Nat ⊕ Nat → Nat → Prop) : Prop where
  parts : Parts W (w.heap.size + 1 + 1) g (fun _ => True) l m ds dms r F
  ll : l.length = l0.length
  lm : m.length = m0.length
  dl : ∀ (i : Nat) (t u : JV), i < jl → l0[i]? = some t → l[i]? = some u → SortOf t u
  rl : ∀ i, jl ≤ i → l[i]? = l0[i]?
  nm : ∀ (i : Nat) (p q : ByteArray × JV), m0[i]? = some p → m[i]? = some q → p.1 = q.1
  dm : ∀ (i : Nat) (p q : ByteArray × JV), i < jm → m0[i]? = some p → m[i]? = some q → SortOf p.2 q.2
  rm : ∀ i, jm ≤ i → m[i]? = m0[i]?
  below : Below w.heap.size w W
  out : VAt W (w.heap.size + 1) RV.zero
  hg : w.heap.size + 1 < g

theorem SortS.stepL {w W w1 W2 : World} {g j jm : Nat} {l0 l : List JV} {m0 m : List (ByteArray × JV)} {ds : List RV} {dms : List RM} {r : RV} {F : Nat ⊕ Nat → Nat → Prop} (h : SortS w W g j jm l0 m0 l m ds dms r F) (hb : Below W.drew.heap.size W.drew w1) {t u : JV} {x q : RV} (hq : LoneV w1 (Fresh W.drew w1) u q) (hu : SortOf t u) (ht : l0[j]? = some t) (hx : ds[j]? = some x)
    {g2 : Nat} (hg2 : r.pl = some ⟨g2, 0, none⟩) (ho : Own W2 (w.heap.size + 1 + 1) 25 encV 5 (.slice r.pl r.nl r.cl) (ds.set j q)) (hg : w1.grownBy W2 (some g2)) :
    SortS w W2 g (j + 1) jm l0 m0 (l.set j u) m (ds.set j q) dms r (fun a k => if a = .inl j then Fresh W.drew w1 k else F a k) := by
  have hob : (Value.slice r.pl r.nl r.cl).ownBlock = some g2 := by rw [hg2]; rfl
  have hjd := (List.getElem?_eq_some_iff.1 hx).1
  have hp := Parts.setL h.parts.drew hb hq hob ho hg hjd
  have hg2b := (h.parts.ownL.lt g2 hob).1
  have hsz : W.drew.heap.size = W.heap.size := rfl
  have hbs := hb.size
  have hg2s := (h.parts.ownL.lt g2 hob).2
  have hjl : j < l.length := by rw [h.parts.el]; exact hjd
  refine ⟨hp.less fun _ _ => .inl trivial, by rw [List.length_set]; exact h.ll, h.lm, ?_, ?_, h.nm, h.dm, h.rm, ?_, ?_, h.hg⟩
  · intro i t' u' hi h1 h2
    by_cases hij : i = j
    · subst hij
      rw [List.getElem?_set_self hjl] at h2
      rw [ht] at h1
      cases h1; cases h2
      exact hu
    · rw [get_set_ne _ _ hij] at h2
      exact h.dl i t' u' (by omega) h1 h2
  · intro i hi
    rw [get_set_ne _ _ (by omega)]
    exact h.rl i (by omega)
  · exact (h.below.drew.trans (hb.mono h.below.size)).trans ((Below.refl _ _).grown hg (Nat.le_trans h.below.size hbs) (fun k e => by cases e; omega))
  · have h1 : VAt w1 (w.heap.size + 1) RV.zero := VAt.under (W := W.drew) h.out hb (by have := h.out.lt; omega)
    exact (hg.block (w.heap.size + 1) h1.lt (fun e => by injection e with e; omega)).trans h1

theorem SortS.stepM {w W w1 W2 : World} {g j jl : Nat} {l0 l : List JV} {m0 m : List (ByteArray × JV)} {ds : List RV} {dms : List RM} {r : RV} {F : Nat ⊕ Nat → Nat → Prop} (h : SortS w W g jl j l0 m0 l m ds dms r F) (hb : Below W.drew.heap.size W.drew w1) {p : ByteArray × JV} {u : JV} {x : RM} {q : RV} (hq : LoneV w1 (Fresh W.drew w1) u q) (hu : SortOf p.2 u) (ht : m0[j]? = some p) (hx : dms[j]? = some x)
    {g2 : Nat} (hg2 : r.pm = some ⟨g2, 0, none⟩) (ho : Own W2 (w.heap.size + 1 + 1) 90 encM 6 (.slice r.pm r.nm r.cm) (dms.set j ⟨x.name, q⟩)) (hg : w1.grownBy W2 (some g2)) :
    SortS w W2 g jl (j + 1) l0 m0 l (m.set j (p.1, u)) ds (dms.set j ⟨x.name, q⟩) r (fun a k => if a = .inr j then Fresh W.drew w1 k else F a k) := by
  have hob : (Value.slice r.pm r.nm r.cm).ownBlock = some g2 := by rw [hg2]; rfl
  have hjd := (List.getElem?_eq_some_iff.1 hx).1
  have hmj : m[j]? = some p := (h.rm j (Nat.le_refl _)).trans ht
  have hp := Parts.setM h.parts.drew hb hq hob hmj hx ho hg
  have hg2b := (h.parts.ownM.lt g2 hob).1
  have hsz : W.drew.heap.size = W.heap.size := rfl
  have hbs := hb.size
  have hg2s := (h.parts.ownM.lt g2 hob).2
  have hjl : j < m.length := by rw [h.parts.em]; exact hjd
  refine ⟨hp.less fun _ _ => .inl trivial, h.ll, by rw [List.length_set]; exact h.lm, h.dl, h.rl, ?_, ?_, ?_, ?_, ?_, h.hg⟩
  · intro i p' q' h1 h2
    by_cases hij : i = j
    · subst hij
      rw [List.getElem?_set_self hjl] at h2
      rw [ht] at h1
      cases h1; cases h2
      rfl
    · rw [get_set_ne _ _ hij] at h2
      exact h.nm i p' q' h1 h2
  · intro i p' q' hi h1 h2
    by_cases hij : i = j
    · subst hij
      rw [List.getElem?_set_self hjl] at h2
      rw [ht] at h1
      cases h1; cases h2
      exact hu
    · rw [get_set_ne _ _ hij] at h2
      exact h.dm i p' q' (by omega) h1 h2
  · intro i hi
    rw [get_set_ne _ _ (by omega)]
    exact h.rm i (by omega)
  · exact (h.below.drew.trans (hb.mono h.below.size)).trans ((Below.refl _ _).grown hg (Nat.le_trans h.below.size hbs) (fun k e => by cases e; omega))
  · have h1 : VAt w1 (w.heap.size + 1) RV.zero := VAt.under (W := W.drew) h.out hb (by have := h.out.lt; omega)
    exact (hg.block (w.heap.size + 1) h1.lt (fun e => by injection e with e; omega)).trans h1

theorem Parts.finG {w W : World} {g : Nat} {l : List JV} {m : List (ByteArray × JV)} {ds : List RV} {dms : List RM} {r : RV} {D : Nat ⊕ Nat → Prop} {F : Nat ⊕ Nat → Nat → Prop} (h : Parts W (w.heap.size + 1 + 1) g D l m ds dms r F) (hD : ∀ i, (i < l.length → D (.inl i)) ∧ (i < m.length → D (.inr i))) (hb : Below w.heap.size w W) :
    NewTree w (.mk r.k r.n r.s l m) (.returned r.val) (((((W.setCell ⟨w.heap.size + 1, 0, none⟩ (.int .i64 r.k)).setCell ⟨w.heap.size + 1, 1, none⟩ (.int .i64 r.n)).setCell ⟨w.heap.size + 1, 2, none⟩ (.string r.s)).setCell ⟨w.heap.size + 1, 3, none⟩ (.slice r.pl r.nl r.cl)).setCell ⟨w.heap.size + 1, 4, none⟩ (.slice r.pm r.nm r.cm)) := by
  have hg := grownBy_set5 W (w.heap.size + 1) r
  have h1 := h.whole hD
  refine ⟨r, rfl, (h1.same fun k hk => hg.block k hk.2 (fun e => by have := hk.1; injection e with e; omega)).mono fun k hk => ⟨by omega, Nat.lt_of_lt_of_le hk.2 hg.size⟩, Below.stored hb (by omega) r⟩

/-- The sorted tree is answered, in new memory. -/
def SortRet (w : World) (t : JV) (e : Ending) (w' : World) : Prop := ∃ u, SortOf t u ∧ NewTree w u e w'

/-- The list of members sorted: done. -/
theorem SortS.fin {w W W2 : World} {g : Nat} {l0 l : List JV} {m0 m : List (ByteArray × JV)} {ds : List RV} {dms ys : List RM} {r : RV} {F : Nat ⊕ Nat → Nat → Prop} (h : SortS w W g l0.length m0.length l0 m0 l m ds dms r F) (hs : IsStable cfM dms ys)
    (ho : Own W2 (w.heap.size + 1 + 1) 90 encM 6 (.slice r.pm r.nm r.cm) ys) (hg : W.grownBy W2 (Value.slice r.pm r.nm r.cm).ownBlock) :
    VAt W2 g r ∧ VAt W2 (w.heap.size + 1) RV.zero ∧ SortRet w (.mk r.k r.n r.s l0 m0) (.returned r.val) (((((W2.setCell ⟨w.heap.size + 1, 0, none⟩ (.int .i64 r.k)).setCell ⟨w.heap.size + 1, 1, none⟩ (.int .i64 r.n)).setCell ⟨w.heap.size + 1, 2, none⟩ (.string r.s)).setCell ⟨w.heap.size + 1, 3, none⟩ (.slice r.pl r.nl r.cl)).setCell ⟨w.heap.size + 1, 4, none⟩ (.slice r.pm r.nm r.cm)) := by
  obtain ⟨m', F', h1, hp⟩ := h.parts.sorted (D := fun _ => True) hs ho hg
  have hlt := h.parts.ownM.lt
  have hbw := h.below.size
  have hb2 : Below w.heap.size w W2 := h.below.trans ((Below.refl _ _).grown hg hbw (fun k e => by have := (hlt k e).1; omega))
  refine ⟨hp.box, (hg.block (w.heap.size + 1) h.out.lt (fun e => by have := (hlt _ e.symm).1; omega)).trans h.out, .mk r.k r.n r.s l m', ?_, hp.finG (fun _ => ⟨fun _ => trivial, fun _ => trivial⟩) hb2⟩
  exact .mk h.ll (fun i t u h1 h2 => h.dl i t u (List.getElem?_eq_some_iff.1 h1).1 h1 h2) h.lm h.nm (fun i p q h1 h2 => h.dm i p q (List.getElem?_eq_some_iff.1 h1).1 h1 h2) h1

set_option maxRecDepth 100000 in
set_option maxHeartbeats 4000000 in
theorem sort_any (N : Nat) : ∀ (t : JV) (r : RV) (w : World), SizeOf.sizeOf t ≤ N → TreeOf w w.heap.size t r → t.Ok →
    Calls Try.prog 17 #[r.val] w (SortRet w t) := by
  induction N with
  | zero => intro t r w hN; cases t; simp at hN
  | succ N ih =>
    intro t r w hN ht ot
    obtain ⟨tk, tn, ts, l, m⟩ := t
    have ot' := ot
    have ht' := ht
    have HCP : Hid (∀ W, Below w.heap.size w W → Calls Try.prog 36 #[r.val] W (NewTree W (.mk tk tn ts l m))) := fun W hb => copy_any _ _ r W (Nat.le_refl _) (ht.under hb hb.size) ot
    cases ht' with
    | @mk _ _ _ rs rms hl el hcl hm em hcn hcm =>
    obtain ⟨k, n, s, pl, nl, cl, pm, nm, cm⟩ := r
    cases ot' with
    | mk _ _ _ bl bm okl oks okm =>
    dsimp only [RV.val] at *
    have eL := rd_nlen hl
    have eM := rd_nlen hm
    have HT : Hid (∀ (i : Nat) t, l[i]? = some t → ∀ (q : RV) (W : World), TreeOf W W.heap.size t q → Calls Try.prog 17 #[q.val] W (SortRet W t)) :=
      fun i t h1 q W hq => ih t q W (by have := JV.lt_l (k := k) (n := n) (s := s) (m := m) h1; omega) hq (okl i t h1)
    have HS : Hid (∀ (i : Nat) p, m[i]? = some p → ∀ (q : RV) (W : World), TreeOf W W.heap.size p.2 q → Calls Try.prog 17 #[q.val] W (SortRet W p.2)) :=
      fun i p h1 q W hq => ih p.2 q W (by have := JV.lt_m (k := k) (n := n) (s := s) (l := l) h1; omega) hq (okm i p h1)
    have HB1 : Hid (l.length ≤ 1759218604390 ∧ m.length ≤ 1466015503658) := ⟨bl, bm⟩
    have hA0 : VAt ((w.alloc (.cells #[.int .i64 k, .int .i64 n, .string s, .slice pl nl cl, .slice pm nm cm] 25)).alloc (.cells #[.int .i64 0, .int .i64 0, .string ⟨#[]⟩, .slice none 0 0, .slice none 0 0] 25)) w.heap.size ⟨k, n, s, pl, nl, cl, pm, nm, cm⟩ := heap_alloc_lt (by simp) (heap_alloc_at rfl)
    have hA1 : VAt ((w.alloc (.cells #[.int .i64 k, .int .i64 n, .string s, .slice pl nl cl, .slice pm nm cm] 25)).alloc (.cells #[.int .i64 0, .int .i64 0, .string ⟨#[]⟩, .slice none 0 0, .slice none 0 0] 25)) (w.heap.size + 1) RV.zero := heap_alloc_at (by simp)
    have hB0 := below2 w (.cells #[.int .i64 k, .int .i64 n, .string s, .slice pl nl cl, .slice pm nm cm] 25) (.cells #[.int .i64 0, .int .i64 0, .string ⟨#[]⟩, .slice none 0 0, .slice none 0 0] 25)
    clear ih hcl hcn hcm hl hm okl oks okm el em bl bm eL eM hN ht ot
    go_enter Try.func17, Try.ntmps17
    go_upto_region 1 with fail
    have hws : ((w.alloc (.cells #[.int .i64 k, .int .i64 n, .string s, .slice pl nl cl, .slice pm nm cm] 25)).alloc (.cells #[.int .i64 0, .int .i64 0, .string ⟨#[]⟩, .slice none 0 0, .slice none 0 0] 25)).heap.size = w.heap.size + 1 + 1 := by simp
    obtain ⟨W0, hW0⟩ : ∃ W0, ((w.alloc (.cells #[.int .i64 k, .int .i64 n, .string s, .slice pl nl cl, .slice pm nm cm] 25)).alloc (.cells #[.int .i64 0, .int .i64 0, .string ⟨#[]⟩, .slice none 0 0, .slice none 0 0] 25)) = W0 := ⟨_, rfl⟩
    rw [hW0] at hA0 hA1 hB0 hws ⊢
    clear hW0
    have c0 := hA0.cell 0 rfl
    have c1 := hA0.cell 1 rfl
    have c2 := hA0.cell 2 rfl
    have c3 := hA0.cell 3 rfl
    have c4 := hA0.cell 4 rfl
    dsimp only at c0 c1 c2 c3 c4
    have HWS := Lib.hid hws
    have HA1 := Lib.hid hA1
    have HB0 := Lib.hid hB0
    clear hA0 hA1 hB0 hws
    go_upto_region 2 with (go_at_call 36; refine (HCP.out _ HB0.out).mono ?_; rintro e w1 ⟨q, rfl, hq, hb1⟩)
    obtain ⟨ds, dms, F, hP, e1, e2, e3⟩ := hq.parts (b0 := w.heap.size + 1 + 1) (fun a ha => ⟨by have := ha.1; have := HWS.out; omega, ha.2⟩) (by have := hb1.size; have := HWS.out; omega)
    obtain ⟨k3, n3, s3, pl3, nl3, cl3, pm3, nm3, cm3⟩ := q
    dsimp only [JV.k, JV.n, JV.s, JV.l, JV.m] at e1 e2 e3 hP
    subst e1 e2 e3
    have hSS : SortS w (w1.alloc (.cells #[.int .i64 k, .int .i64 n, .string s, .slice pl3 nl3 cl3, .slice pm3 nm3 cm3] 25)) w1.heap.size 0 0 l m l m ds dms ⟨k, n, s, pl3, nl3, cl3, pm3, nm3, cm3⟩ F :=
      ⟨hP, rfl, rfl, fun i t u h => by omega, fun _ _ => rfl, fun i p q h1 h2 => by rw [h1] at h2; cases h2; rfl, fun i p q h => by omega, fun _ _ => rfl, (HB0.out.trans (hb1.mono HB0.out.size)).alloc (by have := hb1.size; have := HB0.out.size; omega) _,
        heap_alloc_lt (by have := hb1.size; have := HWS.out; omega) (VAt.under HA1.out hb1 HA1.out.lt), by have := hb1.size; have := HWS.out; omega⟩
    dsimp only
    obtain ⟨g, hg⟩ : ∃ g, w1.heap.size = g := ⟨_, rfl⟩
    obtain ⟨W1, hW1⟩ : ∃ W1, w1.alloc (.cells #[.int .i64 k, .int .i64 n, .string s, .slice pl3 nl3 cl3, .slice pm3 nm3 cm3] 25) = W1 := ⟨_, rfl⟩
    rw [hW1, hg] at hSS
    rw [hW1, hg]
    obtain ⟨_, _, e4, _, _⟩ := hSS.parts.ownL.len
    obtain ⟨_, _, e5, _, _⟩ := hSS.parts.ownM.len
    simp only [Value.slice.injEq] at e4 e5
    have E1 : Hid (nl3 = l.length ∧ nm3 = m.length) := ⟨by rw [hSS.parts.el]; exact e4.2.1, by rw [hSS.parts.em]; exact e5.2.1⟩
    have hnl : nl3 ≤ 1759218604390 := by have := HB1.out.1; have := E1.out.1; omega
    have hnm : nm3 ≤ 1466015503658 := by have := HB1.out.2; have := E1.out.2; omega
    have c3 := hSS.parts.box.cell 3 rfl
    dsimp only at c3
    have HSS := Lib.hid hSS
    clear hSS hP hq HCP HA1 HB0 HWS hW1 hg e4 e5 hb1 c0 c1 c2 c4 HB1
    go_wp2_with fail
    go_loopw [11] (fun i wr => ∃ (j : Nat) (l' : List JV) (ds : List RV) (F : Nat ⊕ Nat → Nat → Prop), j ≤ nl3 ∧ i = .int .i64 j ∧ Hid (SortS w wr g j 0 l m l' m ds dms ⟨k, n, s, pl3, nl3, cl3, pm3, nm3, cm3⟩ F)) (fun i _ => nl3 - (intOf i).toNat)
    case atStart => exact ⟨0, l, ds, F, Nat.zero_le _, rfl, HSS⟩
    case round =>
      obtain ⟨j, l', ds, F, hj, rfl, HC⟩ := hrel
      by_cases hlt : j < nl3
      · obtain ⟨tx, htx⟩ : ∃ x, l[j]? = some x := ⟨_, List.getElem?_eq_getElem (by have := E1.out.1; omega)⟩
        obtain ⟨x, hds⟩ : ∃ x, ds[j]? = some x := ⟨_, List.getElem?_eq_getElem (by have h1 := HC.out.parts.el; have h2 := HC.out.ll; have := E1.out.1; omega)⟩
        have hl' : l'[j]? = some tx := (HC.out.rl j (Nat.le_refl _)).trans htx
        obtain ⟨g2, e2, e3, hg1, hg2, hcell, hfr⟩ := Own.at codecV HC.out.parts.ownL hds
        dsimp only at e2
        subst e2
        have c3 := HC.out.parts.box.cell 3 rfl
        dsimp only at c3
        have hgb := HC.out.parts.box.lt
        have f0 := hcell 0 _ rfl
        have f1 := hcell 1 _ rfl
        have f2 := hcell 2 _ rfl
        have f3 := hcell 3 _ rfl
        have f4 := hcell 4 _ rfl
        rw [Nat.add_zero] at f0
        have HR := Lib.hid (HT.out j tx htx x wr.drew (HC.out.parts.drew.cl j tx x trivial hl' hds).tree)
        have hk0 : (0 : Int) ≤ (j : Int) := Int.natCast_nonneg _
        have hk1 : (j : Int) < (nl3 : Int) := by omega
        have HTX := Lib.hid htx
        have HDS := Lib.hid hds
        clear hcell hfr htx hds hl' e3 hg1
        go_wp2_with fail
        go_region_law (first
          | (go_simp; go_at_call 17; refine HR.out.mono ?_; rintro e w2 ⟨u, hu, q, rfl, hq, hb1⟩; (have HP1 := Lib.hid (HC.out.parts.drew.below hb1)); (have c3' := HP1.out.box.cell 3 rfl); dsimp only at c3'; obtain ⟨g3, e4, e5, hg3, hg4, hcell1, hfr1⟩ := Own.at codecV HP1.out.ownL HDS.out; dsimp only at e4; cases e4; (have k0 := hcell1 0 _ rfl); (have k1 := hcell1 1 _ rfl); (have k2 := hcell1 2 _ rfl); (have k3 := hcell1 3 _ rfl); (have k4 := hcell1 4 _ rfl); (have y0 := hfr1 (j * 5)); (have y1 := hfr1 (j * 5 + 1)); (have y2 := hfr1 (j * 5 + 2)); (have y3 := hfr1 (j * 5 + 3)); (have y4 := hfr1 (j * 5 + 4)); rw [Nat.add_zero] at k0; (have HQ := Lib.hid hq); (have HU := Lib.hid hu); clear hcell1 hfr1 e5 hg3 hg4 hq hu))
        all_goals (have HST := Lib.hid (Own.storedL HP1.out.ownL HDS.out q))
        all_goals (have HN := Lib.hid (HC.out.stepL hb1 HQ.out HU.out HTX.out HDS.out rfl HST.out.1 HST.out.2))
        all_goals go_wp2_with fail
        all_goals (
          go_roundw
          case rel => exact ⟨j + 1, _, _, _, by omega, by go_num, HN⟩
          case measure => simp [intOf]; omega)
      · obtain rfl : j = nl3 := by omega
        have c4 := HC.out.parts.box.cell 4 rfl
        dsimp only at c4
        clear HT c3 HSS
        go_wp2_with fail
        go_loopw [28] (fun i wr => ∃ (i2 : Nat) (m' : List (ByteArray × JV)) (dms : List RM) (F : Nat ⊕ Nat → Nat → Prop), i2 ≤ nm3 ∧ i = .int .i64 i2 ∧ Hid (SortS w wr g j i2 l m l' m' ds dms ⟨k, n, s, pl3, j, cl3, pm3, nm3, cm3⟩ F)) (fun i _ => nm3 - (intOf i).toNat)
        case atStart => exact ⟨0, m, dms, F, Nat.zero_le _, rfl, HC⟩
        case round =>
          obtain ⟨i2, m', dms, F, hi2, rfl, HC⟩ := hrel
          by_cases hlt2 : i2 < nm3
          · obtain ⟨tx, htx⟩ : ∃ x, m[i2]? = some x := ⟨_, List.getElem?_eq_getElem (by have := E1.out.2; omega)⟩
            obtain ⟨x, hds⟩ : ∃ x, dms[i2]? = some x := ⟨_, List.getElem?_eq_getElem (by have h1 := HC.out.parts.em; have h2 := HC.out.lm; have := E1.out.2; omega)⟩
            have hl' : m'[i2]? = some tx := (HC.out.rm i2 (Nat.le_refl _)).trans htx
            obtain ⟨g2, e2, e3, hg1, hg2, hcell, hfr⟩ := Own.at codecM HC.out.parts.ownM hds
            dsimp only at e2
            subst e2
            have c4 := HC.out.parts.box.cell 4 rfl
            dsimp only at c4
            have hgb := HC.out.parts.box.lt
            have f0 := hcell 0 _ rfl
            have f1 := hcell 1 _ rfl
            have f2 := hcell 2 _ rfl
            have f3 := hcell 3 _ rfl
            have f4 := hcell 4 _ rfl
            have f5 := hcell 5 _ rfl
            rw [Nat.add_zero] at f0
            have HR := Lib.hid (HS.out i2 tx htx x.v wr.drew (HC.out.parts.drew.cm i2 tx x trivial hl' hds).tree)
            have hk0 : (0 : Int) ≤ (i2 : Int) := Int.natCast_nonneg _
            have hk1 : (i2 : Int) < (nm3 : Int) := by omega
            have HTX := Lib.hid htx
            have HDS := Lib.hid hds
            clear hcell hfr htx hds hl' e3 hg1
            go_wp2_with fail
            go_region_law (first
              | (go_simp; go_at_call 17; refine HR.out.mono ?_; rintro e w2 ⟨u, hu, q, rfl, hq, hb1⟩; (have HP1 := Lib.hid (HC.out.parts.drew.below hb1)); (have c4' := HP1.out.box.cell 4 rfl); dsimp only at c4'; obtain ⟨g3, e4, e5, hg3, hg4, hcell1, hfr1⟩ := Own.at codecM HP1.out.ownM HDS.out; dsimp only at e4; cases e4; (have k0 := hcell1 1 _ rfl); (have k1 := hcell1 2 _ rfl); (have k2 := hcell1 3 _ rfl); (have k3 := hcell1 4 _ rfl); (have k4 := hcell1 5 _ rfl); (have y0 := hfr1 (i2 * 6 + 1)); (have y1 := hfr1 (i2 * 6 + 2)); (have y2 := hfr1 (i2 * 6 + 3)); (have y3 := hfr1 (i2 * 6 + 4)); (have y4 := hfr1 (i2 * 6 + 5)); (have HQ := Lib.hid hq); (have HU := Lib.hid hu); clear hcell1 hfr1 e5 hg3 hg4 hq hu))
            all_goals (have HST := Lib.hid (Own.storedV HP1.out.ownM HDS.out q))
            all_goals (have HN := Lib.hid (HC.out.stepM hb1 HQ.out HU.out HTX.out HDS.out rfl HST.out.1 HST.out.2))
            all_goals go_wp2_with fail
            all_goals (
              go_roundw
              case rel => exact ⟨i2 + 1, _, _, _, by omega, by go_num, HN⟩
              case measure => simp [intOf]; omega)
          · obtain rfl : i2 = nm3 := by omega
            have hcon : Calls Try.prog 53 #[.slice pm3 i2 cm3, .func (.func 54) #[] #[]] wr (SM.SortPost wr (w.heap.size + 1 + 1) encM cfM (.slice pm3 i2 cm3) dms) :=
              SM.top_any encM codecM cfM cmpM 54 #[] wr (w.heap.size + 1 + 1) (.slice pm3 i2 cm3) dms (enters_of Try.func54 (by kernel_rfl) rfl) cmpM_any HC.out.parts.ownM (by have h1 := HC.out.parts.em; have h2 := HC.out.lm; have := E1.out.2; omega)
            have HCON := Lib.hid hcon
            have c4 := HC.out.parts.box.cell 4 rfl
            dsimp only at c4
            clear hcon HS
            go_upto_region 13 with (go_at_call 53; refine HCON.out.mono ?_; rintro e w3 ⟨rfl, ys, hst, ho3, hg3⟩)
            obtain ⟨hbx, hzz, hfi⟩ := SortS.fin (r := ⟨k, n, s, pl3, j, cl3, pm3, i2, cm3⟩) (W2 := w3) (by rw [← E1.out.1, ← E1.out.2]; exact HC.out) hst ho3 hg3
            have HFI := Lib.hid hfi
            have HZZ := Lib.hid (hzz.stored ⟨k, n, s, pl3, j, cl3, pm3, i2, cm3⟩)
            have b0 := hbx.cell 0 rfl
            have b1 := hbx.cell 1 rfl
            have b2 := hbx.cell 2 rfl
            have b3 := hbx.cell 3 rfl
            have b4 := hbx.cell 4 rfl
            have z0 := hzz.cell 0 rfl
            have z1 := hzz.cell 1 rfl
            have z2 := hzz.cell 2 rfl
            have z3 := hzz.cell 3 rfl
            have z4 := hzz.cell 4 rfl
            dsimp only [RV.zero] at b0 b1 b2 b3 b4 z0 z1 z2 z3 z4
            have y0 := hzz.frozen 0
            have y1 := hzz.frozen 1
            have y2 := hzz.frozen 2
            have y3 := hzz.frozen 3
            have y4 := hzz.frozen 4
            clear hfi hbx hzz HC hst ho3 hg3 HCON
            go_wp2_with fail
            have q0 := HZZ.out.cell 0 rfl
            have q1 := HZZ.out.cell 1 rfl
            have q2 := HZZ.out.cell 2 rfl
            have q3 := HZZ.out.cell 3 rfl
            have q4 := HZZ.out.cell 4 rfl
            refine bodyPost_ret (v := RV.val ⟨k, n, s, pl3, j, cl3, pm3, i2, cm3⟩) (by simp [results, Try.results17, go_sem, q0, q1, q2, q3, q4]) rfl HFI.out
end Go.Proofs.Ythgkgjcnmahacaa
end

section
/- tree.Count: how many values a tree has. -/
set_option linter.unusedSimpArgs false
set_option linter.unusedVariables false
namespace Go.Proofs.Ythgkgjcnmahacaa
open Go.RowKit Go.OpenShut

mutual
/-- How many values a tree has. -/
def countT : JV → Nat
  | .mk _ _ _ l m => 1 + countL l + countM m
def countL : List JV → Nat
  | [] => 0
  | t :: l => countT t + countL l
def countM : List (ByteArray × JV) → Nat
  | [] => 0
  | (_, t) :: m => countT t + countM m
end
theorem countL_take {l : List JV} {j : Nat} {t : JV} (h : l[j]? = some t) : countL (l.take (j + 1)) = countL (l.take j) + countT t := by
  induction l generalizing j with
  | nil => simp at h
  | cons a l ih =>
    cases j with
    | zero =>
      simp at h
      subst h
      simp [countL]
    | succ j =>
      rw [List.getElem?_cons_succ] at h
      rw [List.take_succ_cons, List.take_succ_cons]
      unfold countL
      rw [ih h]
      omega
theorem countM_take {m : List (ByteArray × JV)} {j : Nat} {p : ByteArray × JV} (h : m[j]? = some p) : countM (m.take (j + 1)) = countM (m.take j) + countT p.2 := by
  induction m generalizing j with
  | nil => simp at h
  | cons a m ih =>
    obtain ⟨a, b⟩ := a
    cases j with
    | zero =>
      simp at h
      subst h
      simp [countM]
    | succ j =>
      rw [List.getElem?_cons_succ] at h
      rw [List.take_succ_cons, List.take_succ_cons]
      unfold countM
      rw [ih h]
      omega

/-- The count is answered, as an int holds it. -/
def CountRet (w : World) (t : JV) (e : Ending) (w' : World) : Prop := e = .returned (.int .i64 (IntKind.i64.wrap (countT t))) ∧ Below w.heap.size w w'
theorem wrap_step (a b c : Int) (h : a + b = c) : wrap64 (IntKind.i64.wrap a + wrap64 b) = IntKind.i64.wrap c := by
  subst h
  rw [IntKind.wrap_i64, IntKind.wrap_i64]
  unfold wrap64
  omega

set_option maxRecDepth 100000 in
set_option maxHeartbeats 2000000 in
theorem countT_any (N : Nat) : ∀ (t : JV) (r : RV) (w : World), SizeOf.sizeOf t ≤ N → TreeOf w w.heap.size t r → t.Ok →
    Calls Try.prog 16 #[r.val] w (CountRet w t) := by
  induction N with
  | zero => intro t r w hN; cases t; simp at hN
  | succ N ih =>
    intro t r w hN ht ot
    cases ht with
    | @mk _ l m rs rms hl el hcl hm em hcn hcm =>
    obtain ⟨k, n, s, pl, nl, cl, pm, nm, cm⟩ := r
    cases ot with
    | mk _ _ _ bl bm okl oks okm =>
    dsimp only [RV.val] at *
    have eL := rd_nlen hl
    have eM := rd_nlen hm
    have HT : Hid (∀ (i : Nat) t q, l[i]? = some t → rs[i]? = some q → ∀ W, Below w.heap.size w W → Calls Try.prog 16 #[q.val] W (CountRet W t)) :=
      fun i t q h1 h2 W hb => ih t q W (by have := JV.lt_l (k := k) (n := n) (s := s) (m := m) h1; omega) ((hcl i t q h1 h2).under hb hb.size) (okl i t h1)
    have HS : Hid (∀ (i : Nat) p q, m[i]? = some p → rms[i]? = some q → ∀ W, Below w.heap.size w W → Calls Try.prog 16 #[q.v.val] W (CountRet W p.2)) :=
      fun i p q h1 h2 W hb => ih p.2 q.v W (by have := JV.lt_m (k := k) (n := n) (s := s) (l := l) h1; omega) ((hcm i p q h1 h2).under hb hb.size) (okm i p h1)
    have HL := Lib.hid hl
    have HM := Lib.hid hm
    have E1 : Hid (l.length = nl ∧ rs.length = nl) := ⟨by omega, by omega⟩
    have E2 : Hid (m.length = nm ∧ rms.length = nm) := ⟨by omega, by omega⟩
    have hnl : nl ≤ 1759218604390 := by omega
    have hnm : nm ≤ 1466015503658 := by omega
    have hA0 : VAt (w.alloc (.cells #[.int .i64 k, .int .i64 n, .string s, .slice pl nl cl, .slice pm nm cm] 25)) w.heap.size ⟨k, n, s, pl, nl, cl, pm, nm, cm⟩ := heap_alloc_at rfl
    have hB0 : Below w.heap.size w (w.alloc (.cells #[.int .i64 k, .int .i64 n, .string s, .slice pl nl cl, .slice pm nm cm] 25)) := (Below.refl _ _).alloc (Nat.le_refl _) _
    clear ih hcl hcn hcm hl hm okl oks okm el em bl bm eL eM hN
    go_enter Try.func16, Try.ntmps16
    go_upto_region 1 with fail
    obtain ⟨W0, hW0⟩ : ∃ W0, (w.alloc (.cells #[.int .i64 k, .int .i64 n, .string s, .slice pl nl cl, .slice pm nm cm] 25)) = W0 := ⟨_, rfl⟩
    rw [hW0] at hA0 hB0 ⊢
    clear hW0
    have hz := hA0.lt
    have c3 := hA0.cell 3 rfl
    have c4 := hA0.cell 4 rfl
    dsimp only at c3 c4
    clear hA0
    go_wp2_with fail
    go_loopw [3, 11] (fun a i wr => ∃ (g : Int) (j : Nat), j ≤ nl ∧ a = .int .i64 g ∧ i = .int .i64 j ∧ Hid (g = IntKind.i64.wrap ((1 + countL (l.take j) : Nat) : Int)) ∧ Below W0.heap.size W0 wr) (fun _ i _ => nl - (intOf i).toNat)
    case atStart => exact ⟨1, 0, Nat.zero_le _, rfl, rfl, by unfold Hid; simp [countL]; decide, Below.refl _ _⟩
    case round =>
      obtain ⟨g, j, hj, rfl, rfl, hg, hbr⟩ := hrel
      have hbw : Below w.heap.size w wr := hB0.trans (hbr.mono hB0.size)
      by_cases hlt : j < nl
      · obtain ⟨tx, htx⟩ : ∃ x, l[j]? = some x := ⟨_, List.getElem?_eq_getElem (by have := E1.out; omega)⟩
        obtain ⟨x, hx⟩ : ∃ x, rs[j]? = some x := ⟨_, List.getElem?_eq_getElem (by have := E1.out; omega)⟩
        obtain ⟨b1, o1, rfl, hb1, hc1⟩ := rd_at' (HL.out.below hbw (Nat.le_refl _)) hx
        have f0 := hc1 0 _ rfl
        have f1 := hc1 1 _ rfl
        have f2 := hc1 2 _ rfl
        have f3 := hc1 3 _ rfl
        have f4 := hc1 4 _ rfl
        rw [Nat.add_zero] at f0
        have HC := Lib.hid (HT.out j tx x htx hx)
        have HTX := Lib.hid (countL_take htx)
        have hk0 : (0 : Int) ≤ (j : Int) := Int.natCast_nonneg _
        have hk1 : (j : Int) < (nl : Int) := by omega
        have HBR := Lib.hid hbr
        have hbx : Below w.heap.size w (wr.alloc (.cells #[.int .i64 x.k, .int .i64 x.n, .string x.s, .slice x.pl x.nl x.cl, .slice x.pm x.nm x.cm] 25)) := hbw.alloc hbw.size _
        have HBX := Lib.hid hbx
        clear hc1 htx hx hbr hbx
        go_wp2_with (go_at_call 16; refine (HC.out _ HBX.out).mono ?_; rintro e w1 ⟨rfl, hb1'⟩)
        go_roundw
        case rel =>
          refine ⟨_, j + 1, by omega, rfl, by go_num, ?_, (HBR.out.alloc HBR.out.size _).trans (hb1'.mono (by have := HBR.out.size; simp; omega))⟩
          unfold Hid
          rw [HTX.out, hg.out]
          exact wrap_step _ _ _ (by omega)
        case measure => simp [intOf]; omega
      · obtain rfl : j = nl := by omega
        have c4 := bcs hbr hz c4
        have hsz : W0.heap.size ≤ wr.heap.size := hbr.size
        have hg2 : Hid (g = IntKind.i64.wrap ((1 + countL l : Nat) : Int)) := by
          have h := hg.out
          rw [List.take_of_length_le (by have := E1.out; omega)] at h
          exact h
        clear HT HL E1 hbr hg c3
        obtain ⟨wo, rfl⟩ : ∃ wo : World, wo = wr := ⟨_, rfl⟩
        go_wp2_with fail
        go_loopw [3, 23] (fun a i wr => ∃ (g : Int) (j : Nat), j ≤ nm ∧ a = .int .i64 g ∧ i = .int .i64 j ∧ Hid (g = IntKind.i64.wrap ((1 + countL l + countM (m.take j) : Nat) : Int)) ∧ Below wo.heap.size wo wr) (fun _ i _ => nm - (intOf i).toNat)
        case atStart => exact ⟨g, 0, Nat.zero_le _, rfl, rfl, by unfold Hid; simpa [countM] using hg2.out, Below.refl _ _⟩
        case round =>
          obtain ⟨g, j, hj, rfl, rfl, hg, hbr⟩ := hrel
          have hbw2 : Below w.heap.size w wr := hbw.trans (hbr.mono (by omega))
          by_cases hlt : j < nm
          · obtain ⟨tx, htx⟩ : ∃ x, m[j]? = some x := ⟨_, List.getElem?_eq_getElem (by have := E2.out; omega)⟩
            obtain ⟨x, hx⟩ : ∃ x, rms[j]? = some x := ⟨_, List.getElem?_eq_getElem (by have := E2.out; omega)⟩
            obtain ⟨b1, o1, rfl, hb1, hc1⟩ := rd_at' (HM.out.below hbw2 (Nat.le_refl _)) hx
            have f0 := hc1 0 _ rfl
            have f1 := hc1 1 _ rfl
            have f2 := hc1 2 _ rfl
            have f3 := hc1 3 _ rfl
            have f4 := hc1 4 _ rfl
            have f5 := hc1 5 _ rfl
            rw [Nat.add_zero] at f0
            have HC := Lib.hid (HS.out j tx x htx hx)
            have HTX := Lib.hid (countM_take htx)
            have hk0 : (0 : Int) ≤ (j : Int) := Int.natCast_nonneg _
            have hk1 : (j : Int) < (nm : Int) := by omega
            have HBR := Lib.hid hbr
            have hbx : Below w.heap.size w (wr.alloc (.cells #[.string x.name, .int .i64 x.v.k, .int .i64 x.v.n, .string x.v.s, .slice x.v.pl x.v.nl x.v.cl, .slice x.v.pm x.v.nm x.v.cm] 90)) := hbw2.alloc hbw2.size _
            have HBX := Lib.hid hbx
            clear hc1 htx hx hbr hbx
            go_wp2_with (go_at_call 16; refine (HC.out _ HBX.out).mono ?_; rintro e w1 ⟨rfl, hb1'⟩)
            go_roundw
            case rel =>
              refine ⟨_, j + 1, by omega, rfl, by go_num, ?_, (HBR.out.alloc HBR.out.size _).trans (hb1'.mono (by have := HBR.out.size; simp; omega))⟩
              unfold Hid
              rw [HTX.out, hg.out]
              exact wrap_step _ _ _ (by omega)
            case measure => simp [intOf]; omega
          · obtain rfl : j = nm := by omega
            go_wp2_with fail
            go_ret
            refine ⟨?_, hbw2⟩
            have h := hg.out
            rw [List.take_of_length_le (by have := E2.out; omega)] at h
            show Ending.returned (.int .i64 g) = _
            rw [h]
            unfold countT
            rfl
end Go.Proofs.Ythgkgjcnmahacaa
end
