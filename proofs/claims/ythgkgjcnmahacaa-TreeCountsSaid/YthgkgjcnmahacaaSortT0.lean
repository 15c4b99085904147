/- What sorting a tree means, and a list of members sorted in memory. -/
import Derived.Test.YthgkgjcnmahacaaCopy
import Derived.Test.YthgkgjcnmahacaaCmpM
import Derived.Test.YthgkgjcnmahacaaStab3
set_option linter.unusedSimpArgs false
set_option linter.unusedVariables false
namespace Go.Proofs.Ythgkgjcnmahacaa
open Go.RowKit Go.OpenShut

/-- u is t with its members sorted, at every depth. -/
inductive SortOf : JV → JV → Prop
  | mk {k n : Int} {s : ByteArray} {l l' : List JV} {m mm m' : List (ByteArray × JV)} (el : l'.length = l.length) (cl : ∀ (i : Nat) (t u : JV), l[i]? = some t → l'[i]? = some u → SortOf t u)
      (em : mm.length = m.length) (cn : ∀ (i : Nat) (p q : ByteArray × JV), m[i]? = some p → mm[i]? = some q → p.1 = q.1) (cm : ∀ (i : Nat) (p q : ByteArray × JV), m[i]? = some p → mm[i]? = some q → SortOf p.2 q.2)
      (st : IsStable cfJ mm m') : SortOf (.mk k n s l m) (.mk k n s l' m')

theorem LoneV.parts {w : World} {S : Nat → Prop} {t : JV} {r : RV} {b0 : Nat} (h : LoneV w S t r) (hb : ∀ k, S k → b0 ≤ k ∧ k < w.heap.size) (h0 : b0 ≤ w.heap.size) :
    ∃ ds dms F, Parts (w.alloc (.cells #[.int .i64 r.k, .int .i64 r.n, .string r.s, .slice r.pl r.nl r.cl, .slice r.pm r.nm r.cm] 25)) b0 w.heap.size (fun _ => True) t.l t.m ds dms r F ∧ t.k = r.k ∧ t.n = r.n ∧ t.s = r.s := by
  cases h with
  | @mk _ _ l m rs rms F hl hm sl sm dr el em cn cl cm ff dd =>
  have hal : ∀ k, k < w.heap.size → (w.alloc (.cells #[.int .i64 r.k, .int .i64 r.n, .string r.s, .slice r.pl r.nl r.cl, .slice r.pm r.nm r.cm] 25)).heap[k]? = w.heap[k]? := fun k hk => Below.heap_alloc w _ k hk
  have reb : ∀ {α : Type} {e : TypeId} {enc : α → List Value} {sz : Nat} {v : Value} {xs : List α}, Own w 0 e enc sz v xs → (∀ k, v.ownBlock = some k → S k) → Own w b0 e enc sz v xs := by
    intro α e enc sz v xs ho hs
    obtain ⟨hx, ho⟩ := ho
    refine ⟨hx, ?_⟩
    rcases ho with ho | ⟨g, cap, cur, rfl, hg, r⟩
    · exact .inl ho
    · exact .inr ⟨g, cap, cur, rfl, (hb g (hs g rfl)).1, r⟩
  refine ⟨rs, rms, F, ⟨heap_alloc_at rfl, (reb hl sl).alloc _, (reb hm sm).alloc _, fun k e => by have := (hb k (sl k e)).2; omega, fun k e => by have := (hb k (sm k e)).2; omega, dr, by simp; omega, el, em, cn, ?_, ?_, ?_, dd⟩, rfl, rfl, rfl⟩
  · intro i t q _ h1 h2
    exact (cl i t q h1 h2).same fun k hk => hal k (hb k (ff _ k hk).1).2
  · intro i t q _ h1 h2
    exact (cm i t q h1 h2).same fun k hk => hal k (hb k (ff _ k hk).1).2
  · intro a k hk
    have := hb k (ff a k hk).1
    exact ⟨⟨this.1, by simp; omega⟩, by omega, (ff a k hk).2⟩

theorem stable_names {m : List (ByteArray × JV)} {dms ys : List RM} (hs : IsStable cfM dms ys) (em : m.length = dms.length) (cn : ∀ (i : Nat) (p : ByteArray × JV) (q : RM), m[i]? = some p → dms[i]? = some q → p.1 = q.name) :
    ∃ (m' : List (ByteArray × JV)) (σ : List Nat), IsStable cfJ m m' ∧ m'.length = ys.length ∧ σ.Nodup ∧ ∀ (j : Nat) (p : ByteArray × JV) (q : RM), m'[j]? = some p → ys[j]? = some q → ∃ i : Nat, σ[j]? = some i ∧ m[i]? = some p ∧ dms[i]? = some q := by
  obtain ⟨ts, hp, hw, rfl⟩ := hs
  have hmem : ∀ a ∈ ts, dms[a.2]? = some a.1 := fun a ha => by
    have := List.mem_zipIdx' (hp.mem_iff.1 ha)
    exact (List.getElem?_eq_getElem this.1).trans (congrArg some this.2.symm)
  have hmm : ∀ a ∈ ts, ∃ p, m[a.2]? = some p ∧ p.1 = a.1.name := fun a ha => by
    have h1 := hmem a ha
    have h2 : a.2 < m.length := by rw [em]; exact (List.getElem?_eq_some_iff.1 h1).1
    exact ⟨m[a.2], List.getElem?_eq_getElem h2, cn _ _ _ (List.getElem?_eq_getElem h2) h1⟩
  let f : RM × Nat → (ByteArray × JV) × Nat := fun a => ((m[a.2]?).getD (ByteArray.empty, JV.zero), a.2)
  have hz : dms.zipIdx.map f = m.zipIdx := by
    apply List.ext_getElem
    · simp [em]
    · intro i h1 h2
      have h3 : i < m.length := by simpa using h2
      simp [f, h3]
  refine ⟨(ts.map f).map (·.1), ts.map (·.2), ⟨ts.map f, hz ▸ hp.map f, ?_, rfl⟩, by simp, ?_, ?_⟩
  · rw [List.pairwise_map]
    refine hw.imp_of_mem fun {a b} ha hb h => ?_
    obtain ⟨p, h1, h2⟩ := hmm a ha
    obtain ⟨q, h3, h4⟩ := hmm b hb
    have e : ∀ x y : ByteArray × JV, ∀ z v : RM, x.1 = z.name → y.1 = v.name → cfJ x y = cfM z v := fun x y z v h h' => by unfold cfJ cfM; rw [h, h']
    show tlt cfJ (f a) (f b) = true
    unfold tlt at h ⊢
    simp only [f, h1, h3, Option.getD_some]
    rw [e _ _ _ _ h2 h4, e _ _ _ _ h4 h2]
    exact h
  · have h1 : (ts.map (·.2)).Perm (dms.zipIdx.map (·.2)) := hp.map _
    rw [List.zipIdx_map_snd] at h1
    exact h1.nodup_iff.2 (List.nodup_range' ..)
  · intro j p q h1 h2
    rw [List.map_map, List.getElem?_map] at h1
    rw [List.getElem?_map] at h2
    cases ht : ts[j]? with
    | none => rw [ht] at h2; cases h2
    | some a =>
      rw [ht] at h1 h2
      obtain ⟨p', h3, h4⟩ := hmm a (List.mem_of_getElem? ht)
      simp only [Option.map_some, Function.comp, f, h3, Option.getD_some, Option.some.injEq] at h1 h2
      subst h1 h2
      exact ⟨a.2, by rw [List.getElem?_map, ht]; rfl, h3, hmem a (List.mem_of_getElem? ht)⟩

theorem Parts.sorted {W W2 : World} {b0 g : Nat} {D : Nat ⊕ Nat → Prop} {l : List JV} {m : List (ByteArray × JV)} {ds : List RV} {dms ys : List RM} {r : RV} {F : Nat ⊕ Nat → Nat → Prop} (h : Parts W b0 g (fun _ => True) l m ds dms r F) (hs : IsStable cfM dms ys)
    (ho : Own W2 b0 90 encM 6 (.slice r.pm r.nm r.cm) ys) (hg : W.grownBy W2 (Value.slice r.pm r.nm r.cm).ownBlock) : ∃ m' F', IsStable cfJ m m' ∧ Parts W2 b0 g (fun _ => True) l m' ds ys r F' := by
  obtain ⟨m', σ, h1, h2, h3, h4⟩ := stable_names hs h.em h.cn
  have hsz := hg.size
  have hsame : ∀ k, k < W.heap.size → (Value.slice r.pm r.nm r.cm).ownBlock ≠ some k → W2.heap[k]? = W.heap[k]? := fun k hk hk1 => hg.block k hk (fun e => hk1 e.symm)
  have hF : ∀ a k, F a k → W2.heap[k]? = W.heap[k]? := fun a k hk => hsame k (h.ff a k hk).1.2 (h.ff a k hk).2.2.2
  refine ⟨m', fun a k => match a with | .inl i => F (.inl i) k | .inr j => ∃ i : Nat, σ[j]? = some i ∧ F (.inr i) k, h1, ⟨(hsame g h.box.lt (fun e => h.bM g e rfl)).trans h.box, h.ownL.same fun k e => hsame k (h.ownL.lt k e).2 (h.dr k e), ho, h.bL, h.bM, h.dr, Nat.le_trans h.los hsz, h.el, h2, ?_, ?_, ?_, ?_, ?_⟩⟩
  · intro i p q hp hq
    obtain ⟨i', _, e1, e2⟩ := h4 i p q hp hq
    exact h.cn i' p q e1 e2
  · intro i t q hd ht hq
    exact (h.cl i t q hd ht hq).same (hF _)
  · intro i p q hd hp hq
    obtain ⟨i', e0, e1, e2⟩ := h4 i p q hp hq
    exact ((h.cm i' p q trivial e1 e2).same (hF _)).mono fun k hk => ⟨i', e0, hk⟩
  · intro a k hk
    cases a with
    | inl i => exact ⟨⟨(h.ff _ k hk).1.1, Nat.lt_of_lt_of_le (h.ff _ k hk).1.2 hsz⟩, (h.ff _ k hk).2⟩
    | inr j =>
      obtain ⟨i, _, hk⟩ := hk
      exact ⟨⟨(h.ff _ k hk).1.1, Nat.lt_of_lt_of_le (h.ff _ k hk).1.2 hsz⟩, (h.ff _ k hk).2⟩
  · intro a b k ha hb
    cases a with
    | inl i =>
      cases b with
      | inl i' => exact h.dd _ _ k ha hb
      | inr j =>
        obtain ⟨i', _, hb⟩ := hb
        cases h.dd _ _ k ha hb
    | inr j =>
      obtain ⟨i1, e1, ha⟩ := ha
      cases b with
      | inl i' => cases h.dd _ _ k ha hb
      | inr j' =>
        obtain ⟨i2, e2, hb⟩ := hb
        cases h.dd _ _ k ha hb
        obtain ⟨l1, e1⟩ := List.getElem?_eq_some_iff.1 e1
        obtain ⟨l2, e2⟩ := List.getElem?_eq_some_iff.1 e2
        have hjj : j = j' := by
          rcases Nat.lt_trichotomy j j' with hlt | he | hlt
          · exact absurd (e1.trans e2.symm) (List.pairwise_iff_getElem.1 h3 j j' l1 l2 hlt)
          · exact he
          · exact absurd (e2.trans e1.symm) (List.pairwise_iff_getElem.1 h3 j' j l2 l1 hlt)
        rw [hjj]
end Go.Proofs.Ythgkgjcnmahacaa
