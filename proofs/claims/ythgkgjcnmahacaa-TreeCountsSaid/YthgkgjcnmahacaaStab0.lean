/- The plain laws of a stable sort by blocks and symmetric merges: exchanges of ranges, rotations, insertions; no program in sight. -/
import Derived.Sort.LotA
import Derived.Shelf.SlSortCmp.Insertion
set_option linter.unusedSimpArgs false
set_option linter.unusedVariables false
namespace Go.Proofs.Ythgkgjcnmahacaa
open Go.Sort
open Go.Proofs (ltOf)
variable {α : Type} [Inhabited α]

/-- n rounds of an exchange of [a, a+n) and [b, b+n). -/
def swr (d : Array α) (a b : Nat) : Nat → Array α
  | 0 => d
  | n + 1 => swp (swr d a b n) (a + n) (b + n)
theorem size_swr (d : Array α) (a b n : Nat) : (swr d a b n).size = d.size := by
  induction n with
  | zero => rfl
  | succ n ih => rw [swr, size_swp, ih]
theorem swr_get (d : Array α) (a b n : Nat) (h : a + n ≤ b) (hb : b + n ≤ d.size) (t : Nat) :
    (swr d a b n)[t]! = if a ≤ t ∧ t < a + n then d[b + (t - a)]! else if b ≤ t ∧ t < b + n then d[a + (t - b)]! else d[t]! := by
  induction n generalizing t with
  | zero => rw [if_neg (by omega), if_neg (by omega)]; rfl
  | succ n ih =>
    have ih' := fun t => ih (by omega) (by omega) t
    rw [swr, swp_get _ (by rw [size_swr]; omega) (by rw [size_swr]; omega), ih', ih', ih']
    rw [if_neg (by omega : ¬ (a ≤ a + n ∧ a + n < a + n)), if_neg (by omega : ¬ (b ≤ a + n ∧ a + n < b + n)), if_neg (by omega : ¬ (a ≤ b + n ∧ b + n < a + n)), if_neg (by omega : ¬ (b ≤ b + n ∧ b + n < b + n))]
    by_cases h1 : t = b + n
    · rw [if_pos h1, if_neg (by omega), if_pos (by omega)]; congr 1; omega
    · rw [if_neg h1]
      by_cases h2 : t = a + n
      · rw [if_pos h2, if_pos (by omega)]; congr 1; omega
      · rw [if_neg h2]
        by_cases h3 : a ≤ t ∧ t < a + n
        · rw [if_pos h3, if_pos (by omega)]
        · rw [if_neg h3, if_neg (by omega : ¬ (a ≤ t ∧ t < a + (n + 1)))]
          by_cases h4 : b ≤ t ∧ t < b + n
          · rw [if_pos h4, if_pos (by omega)]
          · rw [if_neg h4, if_neg (by omega)]
theorem swr_perm (d : Array α) (a b n lo hi : Nat) (h1 : lo ≤ a) (h2 : a + n ≤ hi) (h3 : lo ≤ b) (h4 : b + n ≤ hi) (h5 : hi ≤ d.size) : PermIn lo hi d (swr d a b n) := by
  induction n with
  | zero => exact permIn_refl _ _ _
  | succ n ih => exact permIn_trans _ _ _ _ _ (ih (by omega) (by omega)) (swp_permIn _ _ _ _ _ (by omega) (by omega) (by omega) (by omega) (by rw [size_swr]; exact h5))

/-- The place t behind a rotation of [a, b) round m. -/
def rotG (d : Array α) (a m b t : Nat) : α := if a ≤ t ∧ t < a + (b - m) then d[t + (m - a)]! else if a + (b - m) ≤ t ∧ t < b then d[t - (b - m)]! else d[t]!

theorem rot_gt (d : Array α) (m i j t : Nat) (hij : j < i) (him : i ≤ m) (hm : m + j ≤ d.size) : rotG (swr d (m - i) m j) (m - (i - j)) m (m + j) t = rotG d (m - i) m (m + j) t := by
  unfold rotG
  simp only [swr_get d (m - i) m j (by omega) hm]
  by_cases h1 : m - (i - j) ≤ t ∧ t < m - (i - j) + (m + j - m)
  · rw [if_pos h1]
    by_cases h2 : m - i ≤ t ∧ t < m - i + (m + j - m)
    · omega
    · rw [if_neg h2, if_pos (by omega : m - i + (m + j - m) ≤ t ∧ t < m + j), if_neg (by omega), if_pos (by omega)]; congr 1; omega
  · rw [if_neg h1]
    by_cases h2 : m - (i - j) + (m + j - m) ≤ t ∧ t < m + j
    · rw [if_pos h2, if_neg (by omega : ¬ (m - i ≤ t ∧ t < m - i + (m + j - m))), if_pos (by omega : m - i + (m + j - m) ≤ t ∧ t < m + j), if_neg (by omega), if_neg (by omega)]
    · rw [if_neg h2]
      by_cases h3 : m - i ≤ t ∧ t < m - i + j
      · rw [if_pos h3, if_pos (by omega : m - i ≤ t ∧ t < m - i + (m + j - m))]; congr 1; omega
      · rw [if_neg h3, if_neg (by omega : ¬ (m ≤ t ∧ t < m + j)), if_neg (by omega : ¬ (m - i ≤ t ∧ t < m - i + (m + j - m))), if_neg (by omega : ¬ (m - i + (m + j - m) ≤ t ∧ t < m + j))]
theorem rot_lt (d : Array α) (m i j t : Nat) (hij : i < j) (him : i ≤ m) (hm : m + j ≤ d.size) : rotG (swr d (m - i) (m + j - i) i) (m - i) m (m + (j - i)) t = rotG d (m - i) m (m + j) t := by
  unfold rotG
  simp only [swr_get d (m - i) (m + j - i) i (by omega) (by omega)]
  by_cases h1 : m - i ≤ t ∧ t < m - i + (m + (j - i) - m)
  · rw [if_pos h1, if_pos (by omega : m - i ≤ t ∧ t < m - i + (m + j - m)), if_neg (by omega), if_neg (by omega)]
  · rw [if_neg h1]
    by_cases h2 : m - i + (m + (j - i) - m) ≤ t ∧ t < m + (j - i)
    · rw [if_pos h2, if_pos (by omega : m - i ≤ t ∧ t < m - i + (m + j - m)), if_pos (by omega)]; congr 1; omega
    · rw [if_neg h2]
      by_cases h3 : m + j - i ≤ t ∧ t < m + j - i + i
      · rw [if_neg (by omega : ¬ (m - i ≤ t ∧ t < m - i + i)), if_pos h3, if_neg (by omega : ¬ (m - i ≤ t ∧ t < m - i + (m + j - m))), if_pos (by omega : m - i + (m + j - m) ≤ t ∧ t < m + j)]; congr 1; omega
      · rw [if_neg (by omega : ¬ (m - i ≤ t ∧ t < m - i + i)), if_neg h3, if_neg (by omega : ¬ (m - i ≤ t ∧ t < m - i + (m + j - m))), if_neg (by omega : ¬ (m - i + (m + j - m) ≤ t ∧ t < m + j))]
theorem rot_eq (d : Array α) (m i t : Nat) (him : i ≤ m) (hm : m + i ≤ d.size) : (swr d (m - i) m i)[t]! = rotG d (m - i) m (m + i) t := by
  unfold rotG
  rw [swr_get d (m - i) m i (by omega) hm]
  by_cases h1 : m - i ≤ t ∧ t < m - i + i
  · rw [if_pos h1, if_pos (by omega)]; congr 1; omega
  · rw [if_neg h1, if_neg (by omega : ¬ (m - i ≤ t ∧ t < m - i + (m + i - m)))]
    by_cases h2 : m ≤ t ∧ t < m + i
    · rw [if_pos h2, if_pos (by omega)]; congr 1; omega
    · rw [if_neg h2, if_neg (by omega)]

/-- data[k] is carried up c places; down c places. -/
def bubUp (d : Array α) (k : Nat) : Nat → Array α
  | 0 => d
  | c + 1 => swp (bubUp d k c) (k + c) (k + c + 1)
theorem size_bubUp (d : Array α) (k c : Nat) : (bubUp d k c).size = d.size := by
  induction c with
  | zero => rfl
  | succ c ih => rw [bubUp, size_swp, ih]
theorem bubUp_get (d : Array α) (k c : Nat) (h : k + c < d.size) (t : Nat) : (bubUp d k c)[t]! = if k ≤ t ∧ t < k + c then d[t + 1]! else if t = k + c then d[k]! else d[t]! := by
  induction c generalizing t with
  | zero =>
              rw [if_neg (by omega)]
              by_cases e : t = k + 0
              · rw [if_pos e]; simp [bubUp, e]
              · rw [if_neg e]; rfl
  | succ c ih =>
    have ih' := fun t => ih (by omega) t
    rw [bubUp, swp_get _ (by rw [size_bubUp]; omega) (by rw [size_bubUp]; omega), ih', ih', ih']
    rw [if_neg (by omega : ¬ (k ≤ k + c ∧ k + c < k + c)), if_pos rfl, if_neg (by omega : ¬ (k ≤ k + c + 1 ∧ k + c + 1 < k + c)), if_neg (by omega : ¬ k + c + 1 = k + c)]
    by_cases h1 : t = k + c + 1
    · rw [if_pos h1, if_neg (by omega), if_pos (by omega)]
    · rw [if_neg h1]
      by_cases h2 : t = k + c
      · rw [if_pos h2, if_pos (by omega)]; congr 1; omega
      · rw [if_neg h2]
        by_cases h3 : k ≤ t ∧ t < k + c
        · rw [if_pos h3, if_pos (by omega)]
        · rw [if_neg h3, if_neg (by omega : ¬ t = k + c), if_neg (by omega), if_neg (by omega)]
theorem bubUp_perm (d : Array α) (k c lo hi : Nat) (h1 : lo ≤ k) (h2 : k + c < hi) (h3 : hi ≤ d.size) : PermIn lo hi d (bubUp d k c) := by
  induction c with
  | zero => exact permIn_refl _ _ _
  | succ c ih => exact permIn_trans _ _ _ _ _ (ih (by omega)) (swp_permIn _ _ _ _ _ (by omega) (by omega) (by omega) (by omega) (by rw [size_bubUp]; exact h3))
def bubDn (d : Array α) (k : Nat) : Nat → Array α
  | 0 => d
  | c + 1 => swp (bubDn d k c) (k - c) (k - c - 1)
theorem size_bubDn (d : Array α) (k c : Nat) : (bubDn d k c).size = d.size := by
  induction c with
  | zero => rfl
  | succ c ih => rw [bubDn, size_swp, ih]
theorem bubDn_get (d : Array α) (k c : Nat) (hc : c ≤ k) (h : k < d.size) (t : Nat) : (bubDn d k c)[t]! = if t = k - c then d[k]! else if k - c < t ∧ t ≤ k then d[t - 1]! else d[t]! := by
  induction c generalizing t with
  | zero => 
    by_cases e : t = k - 0
    · rw [if_pos e]; simp [bubDn, e]
    · rw [if_neg e, if_neg (by omega)]; rfl
  | succ c ih =>
    have ih' := fun t => ih (by omega) t
    rw [bubDn, swp_get _ (by rw [size_bubDn]; omega) (by rw [size_bubDn]; omega), ih', ih', ih']
    rw [if_pos rfl, if_neg (by omega : ¬ k - c - 1 = k - c), if_neg (by omega : ¬ (k - c < k - c - 1 ∧ k - c - 1 ≤ k))]
    by_cases h1 : t = k - c - 1
    · rw [if_pos h1, if_pos (by omega)]
    · rw [if_neg h1]
      by_cases h2 : t = k - c
      · rw [if_pos h2, if_neg (by omega), if_pos (by omega)]; congr 1; omega
      · rw [if_neg h2, if_neg h2]
        by_cases h3 : k - c < t ∧ t ≤ k
        · rw [if_pos h3, if_neg (by omega), if_pos (by omega)]
        · rw [if_neg h3, if_neg (by omega), if_neg (by omega)]
theorem bubDn_perm (d : Array α) (k c lo hi : Nat) (hc : c ≤ k) (h1 : lo ≤ k - c) (h2 : k < hi) (h3 : hi ≤ d.size) : PermIn lo hi d (bubDn d k c) := by
  induction c with
  | zero => exact permIn_refl _ _ _
  | succ c ih => exact permIn_trans _ _ _ _ _ (ih (by omega) (by omega)) (swp_permIn _ _ _ _ _ (by omega) (by omega) (by omega) (by omega) (by rw [size_bubDn]; exact h3))
end Go.Proofs.Ythgkgjcnmahacaa
