/- A stable order of a list: what it is, that it is one, how it grows by an element. Plain. -/
import Derived.Test.YthgkgjcnmahacaaStab2
set_option linter.unusedSimpArgs false
set_option linter.unusedVariables false
namespace Go.Proofs.Ythgkgjcnmahacaa
open Go.Sort Go.Proofs
variable {β : Type} {cf : β → β → Int}

/-- Ahead: by the comparison, else by the place. -/
def tlt (cf : β → β → Int) (x y : β × Nat) : Bool := decide (cf x.1 y.1 < 0) || (!decide (cf y.1 x.1 < 0) && decide (x.2 < y.2))

theorem tlt_iff (x y : β × Nat) : tlt cf x y = true ↔ (cf x.1 y.1 < 0 ∨ (¬ cf y.1 x.1 < 0 ∧ x.2 < y.2)) := by simp [tlt]
theorem tlt_not (x y : β × Nat) : tlt cf x y = false ↔ (¬ cf x.1 y.1 < 0 ∧ (cf y.1 x.1 < 0 ∨ y.2 ≤ x.2)) := by
  rw [← Bool.not_eq_true, tlt_iff]
  constructor
  · intro h
    refine ⟨fun h1 => h (.inl h1), ?_⟩
    by_cases h2 : cf y.1 x.1 < 0
    · exact .inl h2
    · exact .inr (Nat.le_of_not_lt fun h3 => h (.inr ⟨h2, h3⟩))
  · rintro ⟨h1, h2⟩ (h | ⟨h3, h4⟩)
    · exact h1 h
    · rcases h2 with h2 | h2
      · exact h3 h2
      · omega

/-- The comparison is a strict weak order. -/
structure Cmp (cf : β → β → Int) : Prop where
  irrefl : ∀ x, ¬ cf x x < 0
  asymm : ∀ x y, cf x y < 0 → ¬ cf y x < 0
  ntrans : ∀ x y z, ¬ cf x y < 0 → ¬ cf y z < 0 → ¬ cf x z < 0

theorem Cmp.trans (C : Cmp cf) {x y z : β} (h1 : cf x y < 0) (h2 : cf y z < 0) : cf x z < 0 := by
  by_cases h : cf x z < 0
  · exact h
  · exact absurd h1 (C.ntrans x z y h (C.asymm _ _ h2))
theorem Cmp.lt_of_lt_of_le (C : Cmp cf) {x y z : β} (h1 : cf x y < 0) (h2 : ¬ cf z y < 0) : cf x z < 0 := by
  by_cases h : cf x z < 0
  · exact h
  · exact absurd h1 (C.ntrans x z y h h2)
theorem Cmp.swo (C : Cmp cf) : SWO (tlt cf) where
  irrefl x := by rw [tlt_not]; exact ⟨C.irrefl _, .inr (Nat.le_refl _)⟩
  trans x y z h1 h2 := by
    rw [tlt_iff] at *
    rcases h1 with h1 | ⟨h1, h1'⟩ <;> rcases h2 with h2 | ⟨h2, h2'⟩
    · exact .inl (C.trans h1 h2)
    · exact .inl (C.lt_of_lt_of_le h1 h2)
    · left
      by_cases h : cf x.1 z.1 < 0
      · exact h
      · exact absurd h2 (C.ntrans _ _ _ h1 h)
    · exact .inr ⟨C.ntrans _ _ _ h2 h1, by omega⟩
  ntrans x y z h1 h2 := by
    rw [tlt_not] at *
    refine ⟨C.ntrans _ _ _ h1.1 h2.1, ?_⟩
    rcases h1.2 with h3 | h3
    · left
      by_cases h : cf z.1 x.1 < 0
      · exact h
      · exact absurd h3 (C.ntrans _ _ _ h2.1 h)
    · rcases h2.2 with h4 | h4
      · left
        by_cases h : cf z.1 x.1 < 0
        · exact h
        · exact absurd h4 (C.ntrans _ _ _ h h1.1)
      · exact .inr (by omega)
theorem tlt_total {x y : β × Nat} (h : tlt cf y x = false) (hne : x.2 ≠ y.2) : tlt cf x y = true := by
  rw [tlt_not] at h
  rw [tlt_iff]
  rcases h.2 with h2 | h2
  · exact .inl h2
  · by_cases h3 : cf x.1 y.1 < 0
    · exact .inl h3
    · exact .inr ⟨h.1, by omega⟩

/-- ys is the stable order of xs. -/
def IsStable (cf : β → β → Int) (xs ys : List β) : Prop :=
  ∃ ts : List (β × Nat), ts.Perm xs.zipIdx ∧ ts.Pairwise (fun x y => tlt cf x y = true) ∧ ys = ts.map (·.1)

theorem perm_sorted_eq {γ : Type} {r : γ → γ → Prop} (has : ∀ x y, r x y → r y x → False) : ∀ {l m : List γ}, l.Perm m → l.Pairwise r → m.Pairwise r → l = m
  | [], m, h, _, _ => by simpa using h.symm.eq_nil
  | a :: l, [], h, _, _ => by simpa using h.eq_nil
  | a :: l, b :: m, h, h1, h2 => by
    rw [List.pairwise_cons] at h1 h2
    have hab : a = b := by
      have ha : a ∈ b :: m := h.mem_iff.1 (by simp)
      have hb : b ∈ a :: l := h.mem_iff.2 (by simp)
      rcases List.mem_cons.1 ha with e | ha
      · exact e
      · rcases List.mem_cons.1 hb with e | hb
        · exact e.symm
        · exact (has a b (h1.1 b hb) (h2.1 a ha)).elim
    subst hab
    rw [perm_sorted_eq has ((List.perm_cons a).1 h) h1.2 h2.2]
theorem IsStable.unique (C : Cmp cf) {xs ys zs : List β} (h1 : IsStable cf xs ys) (h2 : IsStable cf xs zs) : ys = zs := by
  obtain ⟨t1, p1, s1, rfl⟩ := h1
  obtain ⟨t2, p2, s2, rfl⟩ := h2
  rw [perm_sorted_eq (fun x y h1 h2 => by rw [C.swo.asymmA h1] at h2; cases h2) (p1.trans p2.symm) s1 s2]
theorem IsStable.perm {xs ys : List β} (h : IsStable cf xs ys) : ys.Perm xs := by
  obtain ⟨ts, p, _, rfl⟩ := h
  have := p.map (·.1)
  rwa [List.zipIdx_map_fst] at this
theorem IsStable.nil : IsStable cf [] [] := ⟨[], by simp, List.Pairwise.nil, rfl⟩

/-- One element more, laid in behind what it is not ahead of. -/
theorem IsStable.snoc (C : Cmp cf) {xs A B : List β} (h : IsStable cf xs (A ++ B)) {p : β} (hA : ∀ a, A.getLast? = some a → ¬ cf p a < 0) (hB : ∀ b ∈ B, cf p b < 0) : IsStable cf (xs ++ [p]) (A ++ p :: B) := by
  obtain ⟨ts, hp, hs, he⟩ := h
  obtain ⟨tA, tB, rfl, rfl, rfl⟩ : ∃ tA tB, ts = tA ++ tB ∧ A = tA.map (·.1) ∧ B = tB.map (·.1) := by
    obtain ⟨tA, tB, h1, h2, h3⟩ := List.map_eq_append_iff.1 he.symm
    exact ⟨tA, tB, h1, h2.symm, h3.symm⟩
  rw [List.pairwise_append] at hs
  obtain ⟨sA, sB, sAB⟩ := hs
  have htag : ∀ x ∈ tA ++ tB, x.2 < xs.length := fun x hx => by
    have := hp.mem_iff.1 hx
    have := List.mem_zipIdx this
    omega
  refine ⟨tA ++ (p, xs.length) :: tB, ?_, ?_, by simp⟩
  · have h1 : (tA ++ (p, xs.length) :: tB).Perm ((p, xs.length) :: (tA ++ tB)) := List.perm_middle
    rw [List.zipIdx_append]
    refine h1.trans (((List.perm_cons _).2 hp).trans ?_)
    have : [p].zipIdx xs.length = [(p, xs.length)] := rfl
    simp only [Nat.zero_add, this]
    exact (List.perm_append_singleton _ _).symm
  · rw [List.pairwise_append]
    refine ⟨sA, ?_, ?_⟩
    · rw [List.pairwise_cons]
      exact ⟨fun b hb => by rw [tlt_iff]; exact .inl (hB b.1 (List.mem_map.2 ⟨b, hb, rfl⟩)), sB⟩
    · intro a ha b hb
      rcases List.mem_cons.1 hb with rfl | hb
      · rw [tlt_iff]
        right
        refine ⟨?_, htag a (by simp [ha])⟩
        cases hl : tA.getLast? with
        | none => rw [List.getLast?_eq_none_iff] at hl; rw [hl] at ha; cases ha
        | some z =>
          have hz := hA z.1 (by rw [List.getLast?_map, hl]; rfl)
          obtain ⟨t0, rfl⟩ := List.getLast?_eq_some_iff.1 hl
          rw [List.pairwise_append] at sA
          rcases List.mem_append.1 ha with ha | ha
          · have := sA.2.2 a ha z (by simp)
            exact C.ntrans _ _ _ hz (by rw [tlt_iff] at this; rcases this with h | h; exact C.asymm _ _ h; exact h.1)
          · simp at ha; rw [ha]; exact hz
      · exact sAB a ha b hb

/-- What the sort of the tagged row comes to. -/
theorem IsStable.of_sorted (C : Cmp cf) [Inhabited β] {xs : List β} {d' : Array (β × Nat)} (hp : PermIn 0 xs.zipIdx.toArray.size xs.zipIdx.toArray d') (hs : SortedIn (tlt cf) 0 xs.zipIdx.toArray.size d') : IsStable cf xs (d'.toList.map (·.1)) := by
  have hsz : d'.size = xs.zipIdx.toArray.size := hp.1
  have hperm : d'.toList.Perm xs.zipIdx := by
    have h := hp.2.2
    have e1 : d'.extract 0 xs.zipIdx.toArray.size = d' := by rw [← hsz]; simp
    have e2 : xs.zipIdx.toArray.extract 0 xs.zipIdx.toArray.size = xs.zipIdx.toArray := by
      simp
      exact List.take_of_length_le (by simp)
    rw [e1, e2] at h
    exact h
  refine ⟨d'.toList, hperm, ?_, rfl⟩
  have hnd : (d'.toList.map (·.2)).Nodup := by
    have := (hperm.map (·.2)).nodup_iff
    rw [this, List.zipIdx_map_snd]
    exact List.nodup_range'
  rw [List.pairwise_iff_getElem]
  intro i j hi hj hij
  simp only [Array.length_toList] at hi hj
  have h1 := hs i j (Nat.zero_le _) hij (by omega)
  rw [getElem!_pos d' i hi, getElem!_pos d' j hj] at h1
  simp only [Array.getElem_toList]
  refine tlt_total h1 (fun e => ?_)
  have h2 := (List.nodup_iff_pairwise_ne.1 hnd)
  rw [List.pairwise_iff_getElem] at h2
  have := h2 i j (by simpa using hi) (by simpa using hj) hij
  simp only [List.getElem_map, Array.getElem_toList] at this
  exact this e
end Go.Proofs.Ythgkgjcnmahacaa
