import Derived.Test.YtffhccmppdgmfaaGreatDoorB10
import Derived.Test.YtffhccmppdgmfaaGreatDoorProg
import Derived.Shelf.SlSortCmp.KitK
import Derived.Sort.WalkB2
import Derived.Sort.WalkB12
import Derived.Deep.LoopGhost
import Derived.WalkKit
import Derived.Lib.Hide
import Derived.Shelf.SlSortCmp.QuietGrown
import Derived.Deep.Cut
import Derived.Deep.CutRange
set_option linter.unusedSimpArgs false
set_option linter.unusedVariables false
set_option maxRecDepth 200000
set_option maxHeartbeats 8000000
namespace Go.Proofs.YtffhccmppdgmfaaGreatDoor
section
open Go.Sort
open Go.Proofs (ltOf)
variable {α : Type} [Inhabited α] {lt : α -> α -> Bool}
theorem sorted_le (S : SWO lt) {a b : Nat} {d : Array α} (h : SortedIn lt a b d) {i j : Nat} (hi : a <= i) (hij : i <= j) (hj : j < b) : lt d[j]! d[i]! = false := by
 rcases Nat.lt_or_ge i j with h1 | h1
 ·exact h i j hi h1 hj
 ·obtain rfl : i = j := by omega
  exact S.irrefl _
theorem sorted_sub {a b a' b' : Nat} {d : Array α} (h : SortedIn lt a b d) (ha : a <= a') (hb : b' <= b) : SortedIn lt a' b' d := fun i j h1 h2 h3 => h i j (by omega) h2 (by omega)
theorem sym_parts {d d1 : Array α} {a m b start e mid : Nat} (h1 : SortedIn lt a m d) (h2 : SortedIn lt m b d) (ha : a <= start) (hs : start <= m) (hm : m <= e) (he : e <= b) (hmid : start + e = mid + m)
 (hd : ∀ t, d1[t]! = rotG d start m e t) : SortedIn lt a start d1 /\ SortedIn lt start mid d1 /\ SortedIn lt mid e d1 /\ SortedIn lt e b d1 := by
 have p1 : ∀ t, t < start -> d1[t]! = d[t]! := fun t ht => by rw [hd, rotG, if_neg (by omega), if_neg (by omega)]
 have p2 : ∀ t, start <= t -> t < mid -> d1[t]! = d[t + (m - start)]! := fun t h1 h2 => by rw [hd, rotG, if_pos (by omega)]
 have p3 : ∀ t, mid <= t -> t < e -> d1[t]! = d[t - (e - m)]! := fun t h1 h2 => by rw [hd, rotG, if_neg (by omega), if_pos (by omega)]
 have p4 : ∀ t, e <= t -> d1[t]! = d[t]! := fun t ht => by rw [hd, rotG, if_neg (by omega), if_neg (by omega)]
 refine ⟨fun i j x y z => ?_, fun i j x y z => ?_, fun i j x y z => ?_, fun i j x y z => ?_⟩
 ·rw [p1 i (by omega), p1 j (by omega)]; exact h1 i j (by omega) y (by omega)
 ·rw [p2 i (by omega) (by omega), p2 j (by omega) (by omega)]; exact h2 _ _ (by omega) (by omega) (by omega)
 ·rw [p3 i (by omega) (by omega), p3 j (by omega) (by omega)]; exact h1 _ _ (by omega) (by omega) (by omega)
 ·rw [p4 i (by omega), p4 j (by omega)]; exact h2 _ _ (by omega) y (by omega)
theorem sym_cross (S : SWO lt) {d d1 : Array α} {a m b start e mid s0 r0 : Nat} (h1 : SortedIn lt a m d) (h2 : SortedIn lt m b d) (ha : a <= start) (hs : start <= m) (hm : m <= e) (he : e <= b) (hmid : start + e = mid + m)
 (hd : ∀ t, d1[t]! = rotG d start m e t) (hA : s0 < start -> lt d[e]! d[start - 1]! = false) (hB : start < r0 -> lt d[e - 1]! d[start]! = true)
 (hA0 : start = s0 -> start = a \/ e = b) (hB0 : start = r0 -> start = m \/ e = m) (hs0 : s0 <= start) (hr0 : start <= r0) :
 ∀ i j, a <= i -> i < mid -> mid <= j -> j < b -> lt d1[j]! d1[i]! = false := by
 have p1 : ∀ t, t < start -> d1[t]! = d[t]! := fun t ht => by rw [hd, rotG, if_neg (by omega), if_neg (by omega)]
 have p2 : ∀ t, start <= t -> t < mid -> d1[t]! = d[t + (m - start)]! := fun t h1 h2 => by rw [hd, rotG, if_pos (by omega)]
 have p3 : ∀ t, mid <= t -> t < e -> d1[t]! = d[t - (e - m)]! := fun t h1 h2 => by rw [hd, rotG, if_neg (by omega), if_pos (by omega)]
 have p4 : ∀ t, e <= t -> d1[t]! = d[t]! := fun t ht => by rw [hd, rotG, if_neg (by omega), if_neg (by omega)]
 have LR : ∀ x y, a <= x -> x < start -> e <= y -> y < b -> lt d[y]! d[x]! = false := by
  intro x y q1 q2 q3 q4
  by_cases hs' : s0 < start
  ·exact S.ntrans _ _ _ (sorted_le S h2 (by omega) q3 q4) (S.ntrans _ _ _ (hA hs') (sorted_le S h1 q1 (by omega) (by omega)))
  ·rcases hA0 (by omega) with h | h <;> omega
 have RL : ∀ x y, m <= x -> x < e -> start <= y -> y < m -> lt d[y]! d[x]! = false := by
  intro x y q1 q2 q3 q4
  by_cases hr' : start < r0
  ·exact S.ntrans _ _ _ (sorted_le S h1 ha q3 q4) (S.ntrans _ _ _ (S.asymmA (hB hr')) (sorted_le S h2 q1 (by omega) (by omega)))
  ·rcases hB0 (by omega) with h | h <;> omega
 intro i j q1 q2 q3 q4
 by_cases hi : i < start
 ·rw [p1 i hi]
  by_cases hj : j < e
  ·rw [p3 j q3 hj]; exact sorted_le S h1 q1 (by omega) (by omega)
  ·rw [p4 j (by omega)]; exact LR i j q1 hi (by omega) q4
 ·rw [p2 i (by omega) q2]
  by_cases hj : j < e
  ·rw [p3 j q3 hj]; exact RL _ _ (by omega) (by omega) (by omega) (by omega)
  ·rw [p4 j (by omega)]; exact sorted_le S h2 (by omega) (by omega) q4
theorem perm_out {a b : Nat} {d d' : Array α} (h : PermIn a b d d') {t : Nat} (ht : t < a \/ b <= t) : d'[t]! = d[t]! := h.2.1 t ht
theorem perm_size {a b : Nat} {d d' : Array α} (h : PermIn a b d d') : d'.size = d.size := h.1
theorem sym_whole {d1 d2 d3 : Array α} {a mid b : Nat} (ham : a <= mid) (hmb : mid <= b) (hsz : b <= d1.size) (hx : ∀ i j, a <= i -> i < mid -> mid <= j -> j < b -> lt d1[j]! d1[i]! = false)
 (hp2 : PermIn a mid d1 d2) (hs2 : SortedIn lt a mid d2) (hp3 : PermIn mid b d2 d3) (hs3 : SortedIn lt mid b d3) : SortedIn lt a b d3 /\ PermIn a b d1 d3 := by
 have hz2 := hp2.1
 refine ⟨fun i j q1 q2 q3 => ?_, permIn_trans _ _ _ _ _ (permIn_mono _ _ _ _ _ _ (Nat.le_refl _) hmb hsz hp2) (permIn_mono _ _ _ _ _ _ ham (Nat.le_refl _) (by omega) hp3)⟩
 by_cases hj : j < mid
 ·rw [perm_out hp3 (.inl hj), perm_out hp3 (.inl (by omega))]; exact hs2 i j q1 q2 hj
 ·by_cases hi : i < mid
  ·have e1 : d3[i]! = d2[i]! := perm_out hp3 (.inl hi)
   rw [e1]
   have step1 : ∀ y, mid <= y -> y < b -> ∀ x, a <= x -> x < mid -> lt d1[y]! d2[x]! = false := fun y y1 y2 =>
    permIn_all d1 d2 a mid (fun v => lt d1[y]! v = false) (by omega) hp2 (fun x x1 x2 => hx x y x1 x2 y1 y2)
   have step2 : ∀ y, mid <= y -> y < b -> lt d2[y]! d2[i]! = false := fun y y1 y2 => by
    rw [perm_out hp2 (.inr y1)]; exact step1 y y1 y2 i q1 hi
   exact permIn_all d2 d3 mid b (fun v => lt v d2[i]! = false) (by omega) hp3 step2 j (by omega) q3
  ·exact hs3 i j (by omega) q2 q3
theorem ins_left (S : SWO lt) {d : Array α} {a b i : Nat} (h2 : SortedIn lt (a + 1) b d) (hi : a + 1 <= i) (hib : i <= b) (hb : b <= d.size) (hlo : a + 1 < i -> lt d[i - 1]! d[a]! = true) (hhi : i < b -> lt d[i]! d[a]! = false) :
 SortedIn lt a b (bubUp d a (i - 1 - a)) := by
 intro x y q1 q2 q3
 simp only [bubUp_get d a (i - 1 - a) (by omega)]
 by_cases hy : y < i - 1
 ·rw [if_pos (by omega), if_pos (by omega)]; exact h2 _ _ (by omega) (by omega) (by omega)
 ·by_cases hy2 : y = i - 1
  ·rw [if_neg (by omega), if_pos (by omega), if_pos (by omega)]
   exact S.asymmA (by
    have h3 := hlo (by omega)
    have h4 := sorted_le S h2 (show a + 1 <= x + 1 by omega) (show x + 1 <= i - 1 by omega) (by omega)
    cases h5 : lt d[x + 1]! d[a]! with
    | true => rfl
    | false => rw [S.ntrans _ _ _ h4 h5] at h3; cases h3)
  ·rw [if_neg (by omega), if_neg (by omega)]
   have hyy : lt d[y]! d[a]! = false := S.ntrans _ _ _ (sorted_le S h2 (show a + 1 <= i by omega) (by omega : i <= y) q3) (hhi (by omega))
   by_cases hx : x < i - 1
   ·rw [if_pos (by omega)]; exact h2 _ _ (by omega) (by omega) (by omega)
   ·by_cases hx2 : x = i - 1
    ·rw [if_neg (by omega), if_pos (by omega)]; exact hyy
    ·rw [if_neg (by omega), if_neg (by omega)]; exact h2 _ _ (by omega) q2 q3
theorem ins_right (S : SWO lt) {d : Array α} {a m i : Nat} (h1 : SortedIn lt a m d) (hi : a <= i) (him : i <= m) (hb : m < d.size) (hlo : a < i -> lt d[m]! d[i - 1]! = false) (hhi : i < m -> lt d[m]! d[i]! = true) :
 SortedIn lt a (m + 1) (bubDn d m (m - i)) := by
 have hmi : m - (m - i) = i := by omega
 intro x y q1 q2 q3
 simp only [bubDn_get d m (m - i) (by omega) hb, hmi]
 by_cases hx : x < i
 ·rw [if_neg (by omega : ¬ x = i), if_neg (by omega : ¬ (i < x /\ x <= m))]
  by_cases hy : y < i
  ·rw [if_neg (by omega), if_neg (by omega)]; exact h1 _ _ q1 q2 (by omega)
  ·by_cases hy2 : y = i
   ·rw [if_pos hy2]; exact S.ntrans _ _ _ (hlo (by omega)) (sorted_le S h1 q1 (by omega : x <= i - 1) (by omega))
   ·rw [if_neg hy2, if_pos (by omega)]; exact sorted_le S h1 q1 (by omega) (by omega)
 ·by_cases hx2 : x = i
  ·rw [if_pos hx2, if_neg (by omega), if_pos (by omega)]
   have h3 := hhi (by omega)
   exact S.asymmA (by
    have h4 := sorted_le S h1 hi (show i <= y - 1 by omega) (by omega)
    cases h5 : lt d[m]! d[y - 1]! with
    | true => rfl
    | false => rw [S.ntrans _ _ _ h5 h4] at h3; cases h3)
  ·rw [if_neg hx2, if_neg (by omega : ¬ y = i), if_pos (by omega : i < y /\ y <= m), if_pos (by omega : i < x /\ x <= m)]; exact h1 _ _ (by omega) (by omega) (by omega)
end
section
open Go.Shelf Go.RowKit Go.Lib Go.Sort
namespace SM
variable {P : Program} {α : Type} [Inhabited α]
def RotPost (enc : α -> List Value) (k : Nat) (w0 : World) (blk off : Nat) (d : Array α) (a m b : Nat) (e : Ending) (w' : World) : Prop :=
 e = .returned (.tuple #[]) /\ ∃ d' : Array α, SWK enc k w0 blk off d' w' /\ PermIn a b d d' /\ ∀ t, d'[t]! = rotG d a m b t
end SM
namespace SM
variable {P : Program} {α : Type} [Inhabited α]
def SymPost (enc : α -> List Value) (k : Nat) (w0 : World) (blk off : Nat) (lt : α -> α -> Bool) (d : Array α) (a b : Nat) (e : Ending) (w' : World) : Prop :=
 e = .returned (.tuple #[]) /\ ∃ d' : Array α, SWK enc k w0 blk off d' w' /\ PermIn a b d d' /\ SortedIn lt a b d'
end SM
namespace SM
variable {P : Program} {α : Type} [Inhabited α]
def SymPre (cf : α -> α -> Int) (lt : α -> α -> Bool) (d : Array α) (a m b : Nat) : Prop :=
 SortedIn lt a m d /\ SortedIn lt m b d /\ ∀ i j, a <= i -> i < m -> m <= j -> j < b -> ltOf cf d[j]! d[i]! = lt d[j]! d[i]!
theorem rot_triv (d : Array α) (s m e t : Nat) (h : s = m \/ m = e) (hs : s <= m) (he : m <= e) : d[t]! = rotG d s m e t := by
 unfold rotG
 rcases h with rfl | rfl
 ·by_cases h1 : s <= t /\ t < s + (e - s)
  ·rw [if_pos h1, Nat.sub_self, Nat.add_zero]
  ·rw [if_neg h1, if_neg (by omega)]
 ·rw [if_neg (by omega), Nat.sub_self]
  by_cases h1 : s + 0 <= t /\ t < m
  ·rw [if_pos h1, Nat.sub_zero]
  ·rw [if_neg h1]
end SM
end
section
open Go.Sort Go.Proofs
variable {α : Type} [Inhabited α] {lt l1 l2 : α -> α -> Bool}
theorem insInner_congr (a : Nat) : ∀ (j : Nat) (d : Array α), j < d.size -> (∀ t, a <= t -> t < j -> l1 d[j]! d[t]! = l2 d[j]! d[t]!) -> insInner l1 a j d = insInner l2 a j d
 | 0, _, _, _ => rfl
 | j + 1, d, hj, h => by
   unfold insInner
   by_cases ha : j + 1 > a
   ·rw [h j (by omega) (by omega), insInner_congr a j (swp d (j + 1) j) (by rw [size_swp]; omega) (fun t h1 h2 => by
     rw [swp_get d hj (by omega), swp_get d hj (by omega), if_pos rfl, if_neg (by omega), if_neg (by omega)]
     exact h t h1 (by omega))]
   ·simp [ha]
theorem insInner_perm (l : α -> α -> Bool) (a hi : Nat) : ∀ (j : Nat) (d : Array α), j < hi -> hi <= d.size -> PermIn a hi d (insInner l a j d)
 | 0, _, _, _ => permIn_refl _ _ _
 | j + 1, d, hj, h => by
   unfold insInner
   split
   ·rename_i hc
    simp only [Bool.and_eq_true, decide_eq_true_eq] at hc
    exact permIn_trans _ _ _ _ _ (swp_permIn d a hi (j + 1) j (by omega) hj (by omega) (by omega) h) (insInner_perm l a hi j _ (by omega) (by rw [size_swp]; exact h))
   ·exact permIn_refl _ _ _
theorem insOuter_congr (a b : Nat) : ∀ (n i : Nat) (d : Array α), b - i <= n -> a < i -> b <= d.size -> (∀ s t, a <= s -> s < t -> i <= t -> t < b -> l1 d[t]! d[s]! = l2 d[t]! d[s]!) -> insOuter l1 a b i d = insOuter l2 a b i d
 | 0, i, d, hn, _, _, _ => by rw [insOuter_stop l1 a b i d (by omega), insOuter_stop l2 a b i d (by omega)]
 | n + 1, i, d, hn, ha, hb, h => by
   by_cases hi : i < b
   ·rw [insOuter_go l1 a b i d hi, insOuter_go l2 a b i d hi, insInner_congr a i d (by omega) (fun t h1 h2 => h t i h1 h2 (Nat.le_refl _) hi)]
    have hp := insInner_perm l2 a (i + 1) i d (by omega) (by omega)
    refine insOuter_congr a b n (i + 1) _ (by omega) (by omega) (by rw [hp.1]; exact hb) (fun s t h1 h2 h3 h4 => ?_)
    rw [hp.2.1 t (.inr h3)]
    by_cases hs : s < i + 1
    ·exact permIn_all d _ a (i + 1) (fun v => l1 d[t]! v = l2 d[t]! v) (by omega) hp (fun x x1 x2 => h x t x1 (by omega) (by omega) h4) s h1 hs
    ·rw [hp.2.1 s (.inr (by omega))]; exact h s t h1 h2 (by omega) h4
   ·rw [insOuter_stop l1 a b i d hi, insOuter_stop l2 a b i d hi]
theorem ins_stable (S : SWO lt) {cf : α -> α -> Int} {d : Array α} {a b : Nat} (hab : a <= b) (hb : b <= d.size) (h : ∀ s t, a <= s -> s < t -> t < b -> ltOf cf d[t]! d[s]! = lt d[t]! d[s]!) :
 PermIn a b d (insertionSort (ltOf cf) d a b) /\ SortedIn lt a b (insertionSort (ltOf cf) d a b) := by
 have e : insertionSort (ltOf cf) d a b = insertionSort lt d a b := insOuter_congr a b (b - (a + 1)) (a + 1) d (Nat.le_refl _) (by omega) hb (fun s t h1 h2 h3 h4 => h s t h1 h2 h4)
 rw [e]
 exact insertionSort_holds S d a b hab hb
def OKb (lt : α -> α -> Bool) (tg : α -> Nat) (d : Array α) (lo hi : Nat) : Prop := SortedIn lt lo hi d /\ ∀ t, lo <= t -> t < hi -> lo <= tg d[t]! /\ tg d[t]! < hi
theorem OKb.out {tg : α -> Nat} {d d' : Array α} {lo hi a b : Nat} (h : OKb lt tg d lo hi) (hp : PermIn a b d d') (ho : hi <= a \/ b <= lo) : OKb lt tg d' lo hi := by
 refine ⟨fun i j h1 h2 h3 => ?_, fun t h1 h2 => ?_⟩
 ·rw [hp.2.1 i (by omega), hp.2.1 j (by omega)]; exact h.1 i j h1 h2 h3
 ·rw [hp.2.1 t (by omega)]; exact h.2 t h1 h2
theorem OKb.tags {tg : α -> Nat} {d d' : Array α} {lo hi : Nat} (hb : hi <= d.size) (hp : PermIn lo hi d d') (hs : SortedIn lt lo hi d') (h : ∀ t, lo <= t -> t < hi -> lo <= tg d[t]! /\ tg d[t]! < hi) : OKb lt tg d' lo hi :=
 ⟨hs, permIn_all d d' lo hi (fun v => lo <= tg v /\ tg v < hi) hb hp h⟩
theorem OKb.cross {tg : α -> Nat} {cf : α -> α -> Int} (hc : ∀ x y, tg x < tg y -> ltOf cf y x = lt y x) {d : Array α} {a m b : Nat} (h1 : OKb lt tg d a m) (h2 : OKb lt tg d m b) :
 ∀ i j, a <= i -> i < m -> m <= j -> j < b -> ltOf cf d[j]! d[i]! = lt d[j]! d[i]! := fun i j y1 y2 y3 y4 =>
 hc _ _ (by have := (h1.2 i y1 y2).2; have := (h2.2 j y3 y4).1; omega)
theorem OKb.join {tg : α -> Nat} {d d' : Array α} {a m b : Nat} (hm : a <= m) (hmb : m <= b) (hb : b <= d.size) (h1 : OKb lt tg d a m) (h2 : OKb lt tg d m b) (hp : PermIn a b d d') (hs : SortedIn lt a b d') : OKb lt tg d' a b :=
 OKb.tags hb hp hs (fun t y1 y2 => by
  by_cases h : t < m
  ·have := h1.2 t y1 h; omega
  ·have := h2.2 t (by omega) y2; omega)
def BlkFrom (lt : α -> α -> Bool) (tg : α -> Nat) (bs n q0 : Nat) (d : Array α) : Prop := ∀ q, q0 <= q -> q * bs < n -> OKb lt tg d (q * bs) (min (q * bs + bs) n)
def BlkTo (lt : α -> α -> Bool) (tg : α -> Nat) (bs n q0 : Nat) (d : Array α) : Prop := ∀ q, q < q0 -> q * bs < n -> OKb lt tg d (q * bs) (min (q * bs + bs) n)
theorem BlkTo.step {tg : α -> Nat} {bs n q : Nat} {d d' : Array α} (h : BlkTo lt tg bs n q d) (hp : PermIn (q * bs) (min (q * bs + bs) n) d d') (hn : OKb lt tg d' (q * bs) (min (q * bs + bs) n)) : BlkTo lt tg bs n (q + 1) d' := by
 intro p hpq hpn
 by_cases e : p = q
 ·rw [e]; exact hn
 ·refine (h p (by omega) hpn).out hp (.inl ?_)
  have : (p + 1) * bs <= q * bs := Nat.mul_le_mul_right _ (by omega)
  rw [Nat.add_mul, Nat.one_mul] at this
  exact Nat.le_trans (Nat.min_le_left _ _) this
theorem BlkFrom.step {tg : α -> Nat} {bs n q hi : Nat} {d d' : Array α} {lo : Nat} (h : BlkFrom lt tg bs n q d) (hp : PermIn lo hi d d') (q' : Nat) (hq : q <= q') (hhi : hi <= q' * bs) : BlkFrom lt tg bs n q' d' := by
 intro p hpq hpn
 refine (h p (by omega) hpn).out hp (.inr ?_)
 exact Nat.le_trans hhi (Nat.mul_le_mul_right _ hpq)
theorem BlkTo.all {tg : α -> Nat} {bs n q : Nat} {d : Array α} (h : BlkTo lt tg bs n q d) (hq : n <= q * bs) : BlkFrom lt tg bs n 0 d := fun p _ hpn => h p (by
 apply Nat.lt_of_not_le
 intro hc
 have := Nat.mul_le_mul_right bs hc
 omega) hpn
section
variable {tg : α -> Nat} {cf : α -> α -> Int} {d d0 : Array α} {n q bs a : Nat}
def Stage1 (lt : α -> α -> Bool) (tg : α -> Nat) (d0 d : Array α) (n q a : Nat) : Prop :=
 a = q * 20 /\ BlkTo lt tg 20 n q d /\ (∀ t, a <= t -> d[t]! = d0[t]!) /\ PermIn 0 n d0 d
theorem stage1_start (lt : α -> α -> Bool) (tg : α -> Nat) (d0 : Array α) (n : Nat) : Stage1 lt tg d0 d0 n 0 0 :=
 ⟨rfl, fun q h => by omega, fun _ _ => rfl, permIn_refl _ _ _⟩
theorem stage1_ins (S : SWO lt) (hc : ∀ x y, tg x < tg y -> ltOf cf y x = lt y x) (h0 : ∀ t, t < n -> tg d0[t]! = t) (h : Stage1 lt tg d0 d n q a) (b : Nat) (hab : a <= b) (hbn : b <= n) (hn : n <= d.size) (hq : b = min (a + 20) n) :
 (insertionSort (ltOf cf) d a b).size = d.size /\ (b = a + 20 -> Stage1 lt tg d0 (insertionSort (ltOf cf) d a b) n (q + 1) (a + 20)) /\ (b = n -> BlkFrom lt tg 20 n 0 (insertionSort (ltOf cf) d a b) /\ PermIn 0 n d0 (insertionSort (ltOf cf) d a b)) := by
 obtain ⟨rfl, hB, hE, hP⟩ := h
 have htag : ∀ t, q * 20 <= t -> t < b -> tg d[t]! = t := fun t h1 h2 => by rw [hE t h1]; exact h0 t (by omega)
 obtain ⟨p1, p2⟩ := ins_stable (d := d) S hab (by omega) (fun s t h1 h2 h3 => hc _ _ (by rw [htag s h1 (by omega), htag t (by omega) h3]; exact h2))
 have hok := OKb.tags (tg := tg) (by omega) p1 p2 (fun t h1 h2 => by rw [htag t h1 h2]; omega)
 have hB' : BlkTo lt tg 20 n (q + 1) (insertionSort (ltOf cf) d (q * 20) b) := hB.step (by rw [<- hq]; exact p1) (by rw [<- hq]; exact hok)
 have hP' : PermIn 0 n d0 (insertionSort (ltOf cf) d (q * 20) b) := permIn_trans _ _ _ _ _ hP (permIn_mono _ _ _ _ _ _ (Nat.zero_le _) hbn hn p1)
 exact ⟨p1.1, fun hb => ⟨by omega, hB', fun t ht => by rw [p1.2.1 t (.inr (by omega))]; exact hE t (by omega), hP'⟩, fun hb => ⟨hB'.all (by omega), hP'⟩⟩
def Stage2 (lt : α -> α -> Bool) (tg : α -> Nat) (d0 d : Array α) (n bs q a : Nat) : Prop :=
 a = q * (2 * bs) /\ BlkTo lt tg (2 * bs) n q d /\ BlkFrom lt tg bs n (2 * q) d /\ PermIn 0 n d0 d
theorem two_q (q bs : Nat) : 2 * q * bs = q * (2 * bs) := by rw [Nat.mul_comm 2 q, Nat.mul_assoc]
theorem two_q1 (q bs : Nat) : (2 * q + 1) * bs = q * (2 * bs) + bs := by rw [Nat.add_mul, Nat.one_mul, two_q]
theorem two_q2 (q bs : Nat) : (q + 1) * (2 * bs) = q * (2 * bs) + 2 * bs := by rw [Nat.add_mul, Nat.one_mul]
theorem stage2_start {lt : α -> α -> Bool} {tg : α -> Nat} {d0 d : Array α} {n bs : Nat} (h : BlkFrom lt tg bs n 0 d) (hP : PermIn 0 n d0 d) : Stage2 lt tg d0 d n bs 0 0 :=
 ⟨by simp, fun q h => by omega, h, hP⟩
theorem stage2_pre (hc : ∀ x y, tg x < tg y -> ltOf cf y x = lt y x) (h : Stage2 lt tg d0 d n bs q a) (b : Nat) (hb : b = min (a + 2 * bs) n) (hm : a + bs < n) :
 SortedIn lt a (a + bs) d /\ SortedIn lt (a + bs) b d /\ (∀ i j, a <= i -> i < a + bs -> a + bs <= j -> j < b -> ltOf cf d[j]! d[i]! = lt d[j]! d[i]!) /\ OKb lt tg d a (a + bs) /\ OKb lt tg d (a + bs) b := by
 obtain ⟨rfl, hT, hF, hP⟩ := h
 have h1 := hF (2 * q) (Nat.le_refl _) (by rw [two_q]; omega)
 have h2 := hF (2 * q + 1) (by omega) (by rw [two_q1]; omega)
 rw [two_q, Nat.min_eq_left (by omega)] at h1
 rw [two_q1, show min (q * (2 * bs) + bs + bs) n = b by omega] at h2
 exact ⟨h1.1, h2.1, h1.cross hc h2, h1, h2⟩
theorem stage2_step (hbs : 0 < bs) (h : Stage2 lt tg d0 d n bs q a) (b : Nat) (hb : b = min (a + 2 * bs) n) (hm : a + bs < n) (hn : n <= d.size) {d' : Array α} (ok1 : OKb lt tg d a (a + bs)) (ok2 : OKb lt tg d (a + bs) b) (hp : PermIn a b d d') (hs : SortedIn lt a b d') :
 (b = a + 2 * bs -> Stage2 lt tg d0 d' n bs (q + 1) b) /\ BlkTo lt tg (2 * bs) n (q + 1) d' /\ PermIn 0 n d0 d' := by
 obtain ⟨rfl, hT, hF, hP⟩ := h
 have hj := OKb.join (by omega) (by omega) (by omega) ok1 ok2 hp hs
 have hT' : BlkTo lt tg (2 * bs) n (q + 1) d' := hT.step (by rw [<- hb]; exact hp) (by rw [<- hb]; exact hj)
 have hP' : PermIn 0 n d0 d' := permIn_trans _ _ _ _ _ hP (permIn_mono _ _ _ _ _ _ (Nat.zero_le _) (by omega) hn hp)
 exact ⟨fun e => ⟨by rw [two_q2]; exact e, hT', hF.step hp (2 * (q + 1)) (by omega) (by rw [two_q, two_q2]; omega), hP'⟩, hT', hP'⟩
theorem stage2_none (h : Stage2 lt tg d0 d n bs q a) (hm : n <= a + bs) : BlkTo lt tg (2 * bs) n (q + 1) d := by
 obtain ⟨rfl, hT, hF, hP⟩ := h
 intro p hp hpn
 by_cases e : p = q
 ·subst e
  have h1 := hF (2 * p) (Nat.le_refl _) (by rw [two_q]; exact hpn)
  rw [two_q, Nat.min_eq_right (by omega)] at h1
  rw [Nat.min_eq_right (by omega)]
  exact h1
 ·exact hT p (by omega) hpn
theorem stage2_end {d : Array α} (h : BlkTo lt tg (2 * bs) n (q + 1) d) (hq : n <= q * (2 * bs) + 2 * bs) : BlkFrom lt tg (2 * bs) n 0 d := h.all (by rw [two_q2]; exact hq)
theorem blk_sorted {d : Array α} (h : BlkFrom lt tg bs n 0 d) (hb : n <= bs) : SortedIn lt 0 n d := by
 intro i j h1 h2 h3
 have := h 0 (Nat.le_refl _) (by omega)
 rw [Nat.zero_mul, Nat.zero_add, Nat.min_eq_right hb] at this
 exact this.1 i j h1 h2 h3
end
end
section
open Go.Shelf Go.RowKit Go.Lib Go.Sort
namespace SM
variable {P : Program} {α : Type} [Inhabited α]
def CmpAny (P : Program) (g : Nat) (cb : Array Value) (enc : α -> List Value) (cf : α -> α -> Int) : Prop :=
 ∀ (W : World) (x y : α), Calls P g (#[.agg (enc x).toArray, .agg (enc y).toArray] ++ cb) W fun e w' => e = .returned (.int .i64 (cf x y)) /\ ∃ q os', w' = grow (W.drewN q) os'
def StabPost (enc : α -> List Value) (k : Nat) (w0 : World) (blk off : Nat) (lt : α -> α -> Bool) (d : Array α) (e : Ending) (w' : World) : Prop :=
 e = .returned (.tuple #[]) /\ ∃ d' : Array α, SWK enc k w0 blk off d' w' /\ PermIn 0 d.size d d' /\ SortedIn lt 0 d.size d'
end SM
end
section
open Go.Sort Go.Proofs
variable {β : Type} {cf : β -> β -> Int}
def tlt (cf : β -> β -> Int) (x y : β × Nat) : Bool := decide (cf x.1 y.1 < 0) || (!decide (cf y.1 x.1 < 0) && decide (x.2 < y.2))
theorem tlt_iff (x y : β × Nat) : tlt cf x y = true ↔ (cf x.1 y.1 < 0 \/ (¬ cf y.1 x.1 < 0 /\ x.2 < y.2)) := by simp [tlt]
theorem tlt_not (x y : β × Nat) : tlt cf x y = false ↔ (¬ cf x.1 y.1 < 0 /\ (cf y.1 x.1 < 0 \/ y.2 <= x.2)) := by
 rw [<- Bool.not_eq_true, tlt_iff]
 constructor
 ·intro h
  refine ⟨fun h1 => h (.inl h1), ?_⟩
  by_cases h2 : cf y.1 x.1 < 0
  ·exact .inl h2
  ·exact .inr (Nat.le_of_not_lt fun h3 => h (.inr ⟨h2, h3⟩))
 ·rintro ⟨h1, h2⟩ (h | ⟨h3, h4⟩)
  ·exact h1 h
  ·rcases h2 with h2 | h2
   ·exact h3 h2
   ·omega
structure Cmp (cf : β -> β -> Int) : Prop where
 irrefl : ∀ x, ¬ cf x x < 0
 asymm : ∀ x y, cf x y < 0 -> ¬ cf y x < 0
 ntrans : ∀ x y z, ¬ cf x y < 0 -> ¬ cf y z < 0 -> ¬ cf x z < 0
theorem Cmp.trans (C : Cmp cf) {x y z : β} (h1 : cf x y < 0) (h2 : cf y z < 0) : cf x z < 0 := by
 by_cases h : cf x z < 0
 ·exact h
 ·exact absurd h1 (C.ntrans x z y h (C.asymm _ _ h2))
theorem Cmp.lt_of_lt_of_le (C : Cmp cf) {x y z : β} (h1 : cf x y < 0) (h2 : ¬ cf z y < 0) : cf x z < 0 := by
 by_cases h : cf x z < 0
 ·exact h
 ·exact absurd h1 (C.ntrans x z y h h2)
theorem Cmp.swo (C : Cmp cf) : SWO (tlt cf) where
 irrefl x := by rw [tlt_not]; exact ⟨C.irrefl _, .inr (Nat.le_refl _)⟩
 trans x y z h1 h2 := by
  rw [tlt_iff] at *
  rcases h1 with h1 | ⟨h1, h1'⟩ <;> rcases h2 with h2 | ⟨h2, h2'⟩
  ·exact .inl (C.trans h1 h2)
  ·exact .inl (C.lt_of_lt_of_le h1 h2)
  ·left
   by_cases h : cf x.1 z.1 < 0
   ·exact h
   ·exact absurd h2 (C.ntrans _ _ _ h1 h)
  ·exact .inr ⟨C.ntrans _ _ _ h2 h1, by omega⟩
 ntrans x y z h1 h2 := by
  rw [tlt_not] at *
  refine ⟨C.ntrans _ _ _ h1.1 h2.1, ?_⟩
  rcases h1.2 with h3 | h3
  ·left
   by_cases h : cf z.1 x.1 < 0
   ·exact h
   ·exact absurd h3 (C.ntrans _ _ _ h2.1 h)
  ·rcases h2.2 with h4 | h4
   ·left
    by_cases h : cf z.1 x.1 < 0
    ·exact h
    ·exact absurd h4 (C.ntrans _ _ _ h h1.1)
   ·exact .inr (by omega)
theorem tlt_total {x y : β × Nat} (h : tlt cf y x = false) (hne : x.2 ≠ y.2) : tlt cf x y = true := by
 rw [tlt_not] at h
 rw [tlt_iff]
 rcases h.2 with h2 | h2
 ·exact .inl h2
 ·by_cases h3 : cf x.1 y.1 < 0
  ·exact .inl h3
  ·exact .inr ⟨h.1, by omega⟩
def IsStable (cf : β -> β -> Int) (xs ys : List β) : Prop :=
 ∃ ts : List (β × Nat), ts.Perm xs.zipIdx /\ ts.Pairwise (fun x y => tlt cf x y = true) /\ ys = ts.map (·.1)
theorem perm_sorted_eq {γ : Type} {r : γ -> γ -> Prop} (has : ∀ x y, r x y -> r y x -> False) : ∀ {l m : List γ}, l.Perm m -> l.Pairwise r -> m.Pairwise r -> l = m
 | [], m, h, _, _ => by simpa using h.symm.eq_nil
 | a :: l, [], h, _, _ => by simpa using h.eq_nil
 | a :: l, b :: m, h, h1, h2 => by
   rw [List.pairwise_cons] at h1 h2
   have hab : a = b := by
    have ha : a ∈ b :: m := h.mem_iff.1 (by simp)
    have hb : b ∈ a :: l := h.mem_iff.2 (by simp)
    rcases List.mem_cons.1 ha with e | ha
    ·exact e
    ·rcases List.mem_cons.1 hb with e | hb
     ·exact e.symm
     ·exact (has a b (h1.1 b hb) (h2.1 a ha)).elim
   subst hab
   rw [perm_sorted_eq has ((List.perm_cons a).1 h) h1.2 h2.2]
theorem IsStable.unique (C : Cmp cf) {xs ys zs : List β} (h1 : IsStable cf xs ys) (h2 : IsStable cf xs zs) : ys = zs := by
 obtain ⟨t1, p1, s1, rfl⟩ := h1
 obtain ⟨t2, p2, s2, rfl⟩ := h2
 rw [perm_sorted_eq (fun x y h1 h2 => by rw [C.swo.asymmA h1] at h2; cases h2) (p1.trans p2.symm) s1 s2]
theorem IsStable.perm {xs ys : List β} (h : IsStable cf xs ys) : ys.Perm xs := by
 obtain ⟨ts, p, _, rfl⟩ := h
 have := p.map (·.1)
 rwa [List.zipIdx_map_fst] at this
theorem IsStable.nil : IsStable cf [] [] := ⟨[], by simp, List.Pairwise.nil, rfl⟩
theorem IsStable.snoc (C : Cmp cf) {xs A B : List β} (h : IsStable cf xs (A ++ B)) {p : β} (hA : ∀ a, A.getLast? = some a -> ¬ cf p a < 0) (hB : ∀ b ∈ B, cf p b < 0) : IsStable cf (xs ++ [p]) (A ++ p :: B) := by
 obtain ⟨ts, hp, hs, he⟩ := h
 obtain ⟨tA, tB, rfl, rfl, rfl⟩ : ∃ tA tB, ts = tA ++ tB /\ A = tA.map (·.1) /\ B = tB.map (·.1) := by
  obtain ⟨tA, tB, h1, h2, h3⟩ := List.map_eq_append_iff.1 he.symm
  exact ⟨tA, tB, h1, h2.symm, h3.symm⟩
 rw [List.pairwise_append] at hs
 obtain ⟨sA, sB, sAB⟩ := hs
 have htag : ∀ x ∈ tA ++ tB, x.2 < xs.length := fun x hx => by
  have := hp.mem_iff.1 hx
  have := List.mem_zipIdx this
  omega
 refine ⟨tA ++ (p, xs.length) :: tB, ?_, ?_, by simp⟩
 ·have h1 : (tA ++ (p, xs.length) :: tB).Perm ((p, xs.length) :: (tA ++ tB)) := List.perm_middle
  rw [List.zipIdx_append]
  refine h1.trans (((List.perm_cons _).2 hp).trans ?_)
  have : [p].zipIdx xs.length = [(p, xs.length)] := rfl
  simp only [Nat.zero_add, this]
  exact (List.perm_append_singleton _ _).symm
 ·rw [List.pairwise_append]
  refine ⟨sA, ?_, ?_⟩
  ·rw [List.pairwise_cons]
   exact ⟨fun b hb => by rw [tlt_iff]; exact .inl (hB b.1 (List.mem_map.2 ⟨b, hb, rfl⟩)), sB⟩
  ·intro a ha b hb
   rcases List.mem_cons.1 hb with rfl | hb
   ·rw [tlt_iff]
    right
    refine ⟨?_, htag a (by simp [ha])⟩
    cases hl : tA.getLast? with
    | none => rw [List.getLast?_eq_none_iff] at hl; rw [hl] at ha; cases ha
    | some z =>
      have hz := hA z.1 (by rw [List.getLast?_map, hl]; rfl)
      obtain ⟨t0, rfl⟩ := List.getLast?_eq_some_iff.1 hl
      rw [List.pairwise_append] at sA
      rcases List.mem_append.1 ha with ha | ha
      ·have := sA.2.2 a ha z (by simp)
       exact C.ntrans _ _ _ hz (by rw [tlt_iff] at this; rcases this with h | h; exact C.asymm _ _ h; exact h.1)
      ·simp at ha; rw [ha]; exact hz
   ·exact sAB a ha b hb
theorem IsStable.of_sorted (C : Cmp cf) [Inhabited β] {xs : List β} {d' : Array (β × Nat)} (hp : PermIn 0 xs.zipIdx.toArray.size xs.zipIdx.toArray d') (hs : SortedIn (tlt cf) 0 xs.zipIdx.toArray.size d') : IsStable cf xs (d'.toList.map (·.1)) := by
 have hsz : d'.size = xs.zipIdx.toArray.size := hp.1
 have hperm : d'.toList.Perm xs.zipIdx := by
  have h := hp.2.2
  have e1 : d'.extract 0 xs.zipIdx.toArray.size = d' := by rw [<- hsz]; simp
  have e2 : xs.zipIdx.toArray.extract 0 xs.zipIdx.toArray.size = xs.zipIdx.toArray := by
   simp
   exact List.take_of_length_le (by simp)
  rw [e1, e2] at h
  exact h
 refine ⟨d'.toList, hperm, ?_, rfl⟩
 have hnd : (d'.toList.map (·.2)).Nodup := by
  have := (hperm.map (·.2)).nodup_iff
  rw [this, List.zipIdx_map_snd]
  exact List.nodup_range'
 rw [List.pairwise_iff_getElem]
 intro i j hi hj hij
 simp only [Array.length_toList] at hi hj
 have h1 := hs i j (Nat.zero_le _) hij (by omega)
 rw [getElem!_pos d' i hi, getElem!_pos d' j hj] at h1
 simp only [Array.getElem_toList]
 refine tlt_total h1 (fun e => ?_)
 have h2 := (List.nodup_iff_pairwise_ne.1 hnd)
 rw [List.pairwise_iff_getElem] at h2
 have := h2 i j (by simpa using hi) (by simpa using hj) hij
 simp only [List.getElem_map, Array.getElem_toList] at this
 exact this e
end
end Go.Proofs.YtffhccmppdgmfaaGreatDoor
