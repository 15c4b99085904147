/- The symmetric merge: what its search finds, and that behind the rotation the halves are apart. Plain. -/
import Derived.Test.YthgkgjcnmahacaaStab0
set_option linter.unusedSimpArgs false
set_option linter.unusedVariables false
namespace Go.Proofs.Ythgkgjcnmahacaa
open Go.Sort
open Go.Proofs (ltOf)
variable {α : Type} [Inhabited α] {lt : α → α → Bool}

theorem sorted_le (S : SWO lt) {a b : Nat} {d : Array α} (h : SortedIn lt a b d) {i j : Nat} (hi : a ≤ i) (hij : i ≤ j) (hj : j < b) : lt d[j]! d[i]! = false := by
  rcases Nat.lt_or_ge i j with h1 | h1
  · exact h i j hi h1 hj
  · obtain rfl : i = j := by omega
    exact S.irrefl _
theorem sorted_sub {a b a' b' : Nat} {d : Array α} (h : SortedIn lt a b d) (ha : a ≤ a') (hb : b' ≤ b) : SortedIn lt a' b' d := fun i j h1 h2 h3 => h i j (by omega) h2 (by omega)

/-- The four parts behind the rotation. -/
theorem sym_parts {d d1 : Array α} {a m b start e mid : Nat} (h1 : SortedIn lt a m d) (h2 : SortedIn lt m b d) (ha : a ≤ start) (hs : start ≤ m) (hm : m ≤ e) (he : e ≤ b) (hmid : start + e = mid + m)
    (hd : ∀ t, d1[t]! = rotG d start m e t) : SortedIn lt a start d1 ∧ SortedIn lt start mid d1 ∧ SortedIn lt mid e d1 ∧ SortedIn lt e b d1 := by
  have p1 : ∀ t, t < start → d1[t]! = d[t]! := fun t ht => by rw [hd, rotG, if_neg (by omega), if_neg (by omega)]
  have p2 : ∀ t, start ≤ t → t < mid → d1[t]! = d[t + (m - start)]! := fun t h1 h2 => by rw [hd, rotG, if_pos (by omega)]
  have p3 : ∀ t, mid ≤ t → t < e → d1[t]! = d[t - (e - m)]! := fun t h1 h2 => by rw [hd, rotG, if_neg (by omega), if_pos (by omega)]
  have p4 : ∀ t, e ≤ t → d1[t]! = d[t]! := fun t ht => by rw [hd, rotG, if_neg (by omega), if_neg (by omega)]
  refine ⟨fun i j x y z => ?_, fun i j x y z => ?_, fun i j x y z => ?_, fun i j x y z => ?_⟩
  · rw [p1 i (by omega), p1 j (by omega)]; exact h1 i j (by omega) y (by omega)
  · rw [p2 i (by omega) (by omega), p2 j (by omega) (by omega)]; exact h2 _ _ (by omega) (by omega) (by omega)
  · rw [p3 i (by omega) (by omega), p3 j (by omega) (by omega)]; exact h1 _ _ (by omega) (by omega) (by omega)
  · rw [p4 i (by omega), p4 j (by omega)]; exact h2 _ _ (by omega) y (by omega)

theorem sym_cross (S : SWO lt) {d d1 : Array α} {a m b start e mid s0 r0 : Nat} (h1 : SortedIn lt a m d) (h2 : SortedIn lt m b d) (ha : a ≤ start) (hs : start ≤ m) (hm : m ≤ e) (he : e ≤ b) (hmid : start + e = mid + m)
    (hd : ∀ t, d1[t]! = rotG d start m e t) (hA : s0 < start → lt d[e]! d[start - 1]! = false) (hB : start < r0 → lt d[e - 1]! d[start]! = true)
    (hA0 : start = s0 → start = a ∨ e = b) (hB0 : start = r0 → start = m ∨ e = m) (hs0 : s0 ≤ start) (hr0 : start ≤ r0) :
    ∀ i j, a ≤ i → i < mid → mid ≤ j → j < b → lt d1[j]! d1[i]! = false := by
  have p1 : ∀ t, t < start → d1[t]! = d[t]! := fun t ht => by rw [hd, rotG, if_neg (by omega), if_neg (by omega)]
  have p2 : ∀ t, start ≤ t → t < mid → d1[t]! = d[t + (m - start)]! := fun t h1 h2 => by rw [hd, rotG, if_pos (by omega)]
  have p3 : ∀ t, mid ≤ t → t < e → d1[t]! = d[t - (e - m)]! := fun t h1 h2 => by rw [hd, rotG, if_neg (by omega), if_pos (by omega)]
  have p4 : ∀ t, e ≤ t → d1[t]! = d[t]! := fun t ht => by rw [hd, rotG, if_neg (by omega), if_neg (by omega)]
  have LR : ∀ x y, a ≤ x → x < start → e ≤ y → y < b → lt d[y]! d[x]! = false := by
    intro x y q1 q2 q3 q4
    by_cases hs' : s0 < start
    · exact S.ntrans _ _ _ (sorted_le S h2 (by omega) q3 q4) (S.ntrans _ _ _ (hA hs') (sorted_le S h1 q1 (by omega) (by omega)))
    · rcases hA0 (by omega) with h | h <;> omega
  have RL : ∀ x y, m ≤ x → x < e → start ≤ y → y < m → lt d[y]! d[x]! = false := by
    intro x y q1 q2 q3 q4
    by_cases hr' : start < r0
    · exact S.ntrans _ _ _ (sorted_le S h1 ha q3 q4) (S.ntrans _ _ _ (S.asymmA (hB hr')) (sorted_le S h2 q1 (by omega) (by omega)))
    · rcases hB0 (by omega) with h | h <;> omega
  intro i j q1 q2 q3 q4
  by_cases hi : i < start
  · rw [p1 i hi]
    by_cases hj : j < e
    · rw [p3 j q3 hj]; exact sorted_le S h1 q1 (by omega) (by omega)
    · rw [p4 j (by omega)]; exact LR i j q1 hi (by omega) q4
  · rw [p2 i (by omega) q2]
    by_cases hj : j < e
    · rw [p3 j q3 hj]; exact RL _ _ (by omega) (by omega) (by omega) (by omega)
    · rw [p4 j (by omega)]; exact sorted_le S h2 (by omega) (by omega) q4

theorem perm_out {a b : Nat} {d d' : Array α} (h : PermIn a b d d') {t : Nat} (ht : t < a ∨ b ≤ t) : d'[t]! = d[t]! := h.2.1 t ht
theorem perm_size {a b : Nat} {d d' : Array α} (h : PermIn a b d d') : d'.size = d.size := h.1

/-- The two halves merged by themselves make the whole. -/
theorem sym_whole {d1 d2 d3 : Array α} {a mid b : Nat} (ham : a ≤ mid) (hmb : mid ≤ b) (hsz : b ≤ d1.size) (hx : ∀ i j, a ≤ i → i < mid → mid ≤ j → j < b → lt d1[j]! d1[i]! = false)
    (hp2 : PermIn a mid d1 d2) (hs2 : SortedIn lt a mid d2) (hp3 : PermIn mid b d2 d3) (hs3 : SortedIn lt mid b d3) : SortedIn lt a b d3 ∧ PermIn a b d1 d3 := by
  have hz2 := hp2.1
  refine ⟨fun i j q1 q2 q3 => ?_, permIn_trans _ _ _ _ _ (permIn_mono _ _ _ _ _ _ (Nat.le_refl _) hmb hsz hp2) (permIn_mono _ _ _ _ _ _ ham (Nat.le_refl _) (by omega) hp3)⟩
  by_cases hj : j < mid
  · rw [perm_out hp3 (.inl hj), perm_out hp3 (.inl (by omega))]; exact hs2 i j q1 q2 hj
  · by_cases hi : i < mid
    · have e1 : d3[i]! = d2[i]! := perm_out hp3 (.inl hi)
      rw [e1]
      have step1 : ∀ y, mid ≤ y → y < b → ∀ x, a ≤ x → x < mid → lt d1[y]! d2[x]! = false := fun y y1 y2 =>
        permIn_all d1 d2 a mid (fun v => lt d1[y]! v = false) (by omega) hp2 (fun x x1 x2 => hx x y x1 x2 y1 y2)
      have step2 : ∀ y, mid ≤ y → y < b → lt d2[y]! d2[i]! = false := fun y y1 y2 => by
        rw [perm_out hp2 (.inr y1)]; exact step1 y y1 y2 i q1 hi
      exact permIn_all d2 d3 mid b (fun v => lt v d2[i]! = false) (by omega) hp3 step2 j (by omega) q3
    · exact hs3 i j (by omega) q2 q3

/-- One element of the left is laid into the right. -/
theorem ins_left (S : SWO lt) {d : Array α} {a b i : Nat} (h2 : SortedIn lt (a + 1) b d) (hi : a + 1 ≤ i) (hib : i ≤ b) (hb : b ≤ d.size) (hlo : a + 1 < i → lt d[i - 1]! d[a]! = true) (hhi : i < b → lt d[i]! d[a]! = false) :
    SortedIn lt a b (bubUp d a (i - 1 - a)) := by
  intro x y q1 q2 q3
  simp only [bubUp_get d a (i - 1 - a) (by omega)]
  by_cases hy : y < i - 1
  · rw [if_pos (by omega), if_pos (by omega)]; exact h2 _ _ (by omega) (by omega) (by omega)
  · by_cases hy2 : y = i - 1
    · rw [if_neg (by omega), if_pos (by omega), if_pos (by omega)]
      exact S.asymmA (by
        have h3 := hlo (by omega)
        have h4 := sorted_le S h2 (show a + 1 ≤ x + 1 by omega) (show x + 1 ≤ i - 1 by omega) (by omega)
        cases h5 : lt d[x + 1]! d[a]! with
        | true => rfl
        | false => rw [S.ntrans _ _ _ h4 h5] at h3; cases h3)
    · rw [if_neg (by omega), if_neg (by omega)]
      have hyy : lt d[y]! d[a]! = false := S.ntrans _ _ _ (sorted_le S h2 (show a + 1 ≤ i by omega) (by omega : i ≤ y) q3) (hhi (by omega))
      by_cases hx : x < i - 1
      · rw [if_pos (by omega)]; exact h2 _ _ (by omega) (by omega) (by omega)
      · by_cases hx2 : x = i - 1
        · rw [if_neg (by omega), if_pos (by omega)]; exact hyy
        · rw [if_neg (by omega), if_neg (by omega)]; exact h2 _ _ (by omega) q2 q3
/-- One element of the right is laid into the left. -/
theorem ins_right (S : SWO lt) {d : Array α} {a m i : Nat} (h1 : SortedIn lt a m d) (hi : a ≤ i) (him : i ≤ m) (hb : m < d.size) (hlo : a < i → lt d[m]! d[i - 1]! = false) (hhi : i < m → lt d[m]! d[i]! = true) :
    SortedIn lt a (m + 1) (bubDn d m (m - i)) := by
  have hmi : m - (m - i) = i := by omega
  intro x y q1 q2 q3
  simp only [bubDn_get d m (m - i) (by omega) hb, hmi]
  by_cases hx : x < i
  · rw [if_neg (by omega : ¬ x = i), if_neg (by omega : ¬ (i < x ∧ x ≤ m))]
    by_cases hy : y < i
    · rw [if_neg (by omega), if_neg (by omega)]; exact h1 _ _ q1 q2 (by omega)
    · by_cases hy2 : y = i
      · rw [if_pos hy2]; exact S.ntrans _ _ _ (hlo (by omega)) (sorted_le S h1 q1 (by omega : x ≤ i - 1) (by omega))
      · rw [if_neg hy2, if_pos (by omega)]; exact sorted_le S h1 q1 (by omega) (by omega)
  · by_cases hx2 : x = i
    · rw [if_pos hx2, if_neg (by omega), if_pos (by omega)]
      have h3 := hhi (by omega)
      exact S.asymmA (by
        have h4 := sorted_le S h1 hi (show i ≤ y - 1 by omega) (by omega)
        cases h5 : lt d[m]! d[y - 1]! with
        | true => rfl
        | false => rw [S.ntrans _ _ _ h5 h4] at h3; cases h3)
    · rw [if_neg hx2, if_neg (by omega : ¬ y = i), if_pos (by omega : i < y ∧ y ≤ m), if_pos (by omega : i < x ∧ x ≤ m)]; exact h1 _ _ (by omega) (by omega) (by omega)
end Go.Proofs.Ythgkgjcnmahacaa
