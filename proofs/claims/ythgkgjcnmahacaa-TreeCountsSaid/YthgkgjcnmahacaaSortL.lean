/- Sorted trees: as many values, as great. Plain laws. -/
import Derived.Test.YthgkgjcnmahacaaSortT
import Derived.Test.YthgkgjcnmahacaaCountT
set_option linter.unusedSimpArgs false
set_option linter.unusedVariables false
namespace Go.Proofs.Ythgkgjcnmahacaa
open Go.RowKit Go.OpenShut

theorem countL_ext : ∀ (l l' : List JV), l'.length = l.length → (∀ (i : Nat) (t u : JV), l[i]? = some t → l'[i]? = some u → countT u = countT t) → countL l' = countL l
  | [], [], _, _ => rfl
  | a :: l, b :: l', h, hc => by
    unfold countL
    rw [hc 0 a b rfl rfl, countL_ext l l' (by simpa using h) (fun i t u h1 h2 => hc (i + 1) t u (by simpa using h1) (by simpa using h2))]
  | [], _ :: _, h, _ => by simp at h
  | _ :: _, [], h, _ => by simp at h
theorem countM_ext : ∀ (l l' : List (ByteArray × JV)), l'.length = l.length → (∀ (i : Nat) (p q : ByteArray × JV), l[i]? = some p → l'[i]? = some q → countT q.2 = countT p.2) → countM l' = countM l
  | [], [], _, _ => rfl
  | (a, x) :: l, (b, y) :: l', h, hc => by
    unfold countM
    rw [hc 0 (a, x) (b, y) rfl rfl, countM_ext l l' (by simpa using h) (fun i t u h1 h2 => hc (i + 1) t u (by simpa using h1) (by simpa using h2))]
  | [], _ :: _, h, _ => by simp at h
  | _ :: _, [], h, _ => by simp at h
theorem countM_perm {l l' : List (ByteArray × JV)} (h : l'.Perm l) : countM l' = countM l := by
  induction h with
  | nil => rfl
  | cons x _ ih => obtain ⟨a, t⟩ := x; unfold countM; rw [ih]
  | swap x y l => obtain ⟨a, t⟩ := x; obtain ⟨b, u⟩ := y; simp only [countM]; omega
  | trans _ _ ih1 ih2 => exact ih1.trans ih2
theorem SortOf.count {t u : JV} (h : SortOf t u) : countT u = countT t := by
  induction h with
  | mk el cl em cn cm st ih1 ih2 =>
    unfold countT
    rw [countL_ext _ _ el ih1, countM_perm st.perm, countM_ext _ _ em ih2]
theorem at_same {α β : Type} {a : List α} {b : List β} (e : b.length = a.length) {i : Nat} {y : β} (h : b[i]? = some y) : ∃ x, a[i]? = some x :=
  ⟨_, List.getElem?_eq_getElem (by have := (List.getElem?_eq_some_iff.1 h).1; omega)⟩
theorem SortOf.ok {t u : JV} (h : SortOf t u) (ot : t.Ok) : u.Ok := by
  induction h with
  | @mk k n s l l' m mm m' el cl em cn cm st ih1 ih2 =>
    cases ot with
    | mk hk hn hs hl hm okl oks okm =>
      have hmm : ∀ p ∈ mm, p.1.size ≤ 140737488351232 ∧ p.2.Ok := fun q hq => by
        obtain ⟨i, hi⟩ := List.getElem?_of_mem hq
        obtain ⟨p, hp⟩ := at_same em hi
        exact ⟨by rw [← cn i p q hp hi]; exact oks i p hp, ih2 i p q hp hi (okm i p hp)⟩
      refine .mk hk hn hs (by omega) (by have := st.perm.length_eq; omega) (fun i x hx => ?_) (fun i p hp => ?_) (fun i p hp => ?_)
      · obtain ⟨a, ha⟩ := at_same el hx
        exact ih1 i a x ha hx (okl i a ha)
      · exact (hmm p (st.perm.mem_iff.1 (List.mem_of_getElem? hp))).1
      · exact (hmm p (st.perm.mem_iff.1 (List.mem_of_getElem? hp))).2
end Go.Proofs.Ythgkgjcnmahacaa
