/- The stable sort by blocks: what holds of the blocks from stage to stage. Plain. -/
import Derived.Test.YthgkgjcnmahacaaStab1
set_option linter.unusedSimpArgs false
set_option linter.unusedVariables false
namespace Go.Proofs.Ythgkgjcnmahacaa
open Go.Sort Go.Proofs
variable {α : Type} [Inhabited α] {lt l1 l2 : α → α → Bool}

theorem insInner_congr (a : Nat) : ∀ (j : Nat) (d : Array α), j < d.size → (∀ t, a ≤ t → t < j → l1 d[j]! d[t]! = l2 d[j]! d[t]!) → insInner l1 a j d = insInner l2 a j d
  | 0, _, _, _ => rfl
  | j + 1, d, hj, h => by
    unfold insInner
    by_cases ha : j + 1 > a
    · rw [h j (by omega) (by omega), insInner_congr a j (swp d (j + 1) j) (by rw [size_swp]; omega) (fun t h1 h2 => by
        rw [swp_get d hj (by omega), swp_get d hj (by omega), if_pos rfl, if_neg (by omega), if_neg (by omega)]
        exact h t h1 (by omega))]
    · simp [ha]
theorem insInner_perm (l : α → α → Bool) (a hi : Nat) : ∀ (j : Nat) (d : Array α), j < hi → hi ≤ d.size → PermIn a hi d (insInner l a j d)
  | 0, _, _, _ => permIn_refl _ _ _
  | j + 1, d, hj, h => by
    unfold insInner
    split
    · rename_i hc
      simp only [Bool.and_eq_true, decide_eq_true_eq] at hc
      exact permIn_trans _ _ _ _ _ (swp_permIn d a hi (j + 1) j (by omega) hj (by omega) (by omega) h) (insInner_perm l a hi j _ (by omega) (by rw [size_swp]; exact h))
    · exact permIn_refl _ _ _
theorem insOuter_congr (a b : Nat) : ∀ (n i : Nat) (d : Array α), b - i ≤ n → a < i → b ≤ d.size → (∀ s t, a ≤ s → s < t → i ≤ t → t < b → l1 d[t]! d[s]! = l2 d[t]! d[s]!) → insOuter l1 a b i d = insOuter l2 a b i d
  | 0, i, d, hn, _, _, _ => by rw [insOuter_stop l1 a b i d (by omega), insOuter_stop l2 a b i d (by omega)]
  | n + 1, i, d, hn, ha, hb, h => by
    by_cases hi : i < b
    · rw [insOuter_go l1 a b i d hi, insOuter_go l2 a b i d hi, insInner_congr a i d (by omega) (fun t h1 h2 => h t i h1 h2 (Nat.le_refl _) hi)]
      have hp := insInner_perm l2 a (i + 1) i d (by omega) (by omega)
      refine insOuter_congr a b n (i + 1) _ (by omega) (by omega) (by rw [hp.1]; exact hb) (fun s t h1 h2 h3 h4 => ?_)
      rw [hp.2.1 t (.inr h3)]
      by_cases hs : s < i + 1
      · exact permIn_all d _ a (i + 1) (fun v => l1 d[t]! v = l2 d[t]! v) (by omega) hp (fun x x1 x2 => h x t x1 (by omega) (by omega) h4) s h1 hs
      · rw [hp.2.1 s (.inr (by omega))]; exact h s t h1 h2 (by omega) h4
    · rw [insOuter_stop l1 a b i d hi, insOuter_stop l2 a b i d hi]
theorem ins_stable (S : SWO lt) {cf : α → α → Int} {d : Array α} {a b : Nat} (hab : a ≤ b) (hb : b ≤ d.size) (h : ∀ s t, a ≤ s → s < t → t < b → ltOf cf d[t]! d[s]! = lt d[t]! d[s]!) :
    PermIn a b d (insertionSort (ltOf cf) d a b) ∧ SortedIn lt a b (insertionSort (ltOf cf) d a b) := by
  have e : insertionSort (ltOf cf) d a b = insertionSort lt d a b := insOuter_congr a b (b - (a + 1)) (a + 1) d (Nat.le_refl _) (by omega) hb (fun s t h1 h2 h3 h4 => h s t h1 h2 h4)
  rw [e]
  exact insertionSort_holds S d a b hab hb

/-- A block: sorted, and of its own places' elements. -/
def OKb (lt : α → α → Bool) (tg : α → Nat) (d : Array α) (lo hi : Nat) : Prop := SortedIn lt lo hi d ∧ ∀ t, lo ≤ t → t < hi → lo ≤ tg d[t]! ∧ tg d[t]! < hi

theorem OKb.out {tg : α → Nat} {d d' : Array α} {lo hi a b : Nat} (h : OKb lt tg d lo hi) (hp : PermIn a b d d') (ho : hi ≤ a ∨ b ≤ lo) : OKb lt tg d' lo hi := by
  refine ⟨fun i j h1 h2 h3 => ?_, fun t h1 h2 => ?_⟩
  · rw [hp.2.1 i (by omega), hp.2.1 j (by omega)]; exact h.1 i j h1 h2 h3
  · rw [hp.2.1 t (by omega)]; exact h.2 t h1 h2
theorem OKb.tags {tg : α → Nat} {d d' : Array α} {lo hi : Nat} (hb : hi ≤ d.size) (hp : PermIn lo hi d d') (hs : SortedIn lt lo hi d') (h : ∀ t, lo ≤ t → t < hi → lo ≤ tg d[t]! ∧ tg d[t]! < hi) : OKb lt tg d' lo hi :=
  ⟨hs, permIn_all d d' lo hi (fun v => lo ≤ tg v ∧ tg v < hi) hb hp h⟩
theorem OKb.cross {tg : α → Nat} {cf : α → α → Int} (hc : ∀ x y, tg x < tg y → ltOf cf y x = lt y x) {d : Array α} {a m b : Nat} (h1 : OKb lt tg d a m) (h2 : OKb lt tg d m b) :
    ∀ i j, a ≤ i → i < m → m ≤ j → j < b → ltOf cf d[j]! d[i]! = lt d[j]! d[i]! := fun i j y1 y2 y3 y4 =>
  hc _ _ (by have := (h1.2 i y1 y2).2; have := (h2.2 j y3 y4).1; omega)
theorem OKb.join {tg : α → Nat} {d d' : Array α} {a m b : Nat} (hm : a ≤ m) (hmb : m ≤ b) (hb : b ≤ d.size) (h1 : OKb lt tg d a m) (h2 : OKb lt tg d m b) (hp : PermIn a b d d') (hs : SortedIn lt a b d') : OKb lt tg d' a b :=
  OKb.tags hb hp hs (fun t y1 y2 => by
    by_cases h : t < m
    · have := h1.2 t y1 h; omega
    · have := h2.2 t (by omega) y2; omega)

/-- All blocks of size bs from the q-th on. -/
def BlkFrom (lt : α → α → Bool) (tg : α → Nat) (bs n q0 : Nat) (d : Array α) : Prop := ∀ q, q0 ≤ q → q * bs < n → OKb lt tg d (q * bs) (min (q * bs + bs) n)
/-- All blocks of size bs ahead of the q-th. -/
def BlkTo (lt : α → α → Bool) (tg : α → Nat) (bs n q0 : Nat) (d : Array α) : Prop := ∀ q, q < q0 → q * bs < n → OKb lt tg d (q * bs) (min (q * bs + bs) n)

theorem BlkTo.step {tg : α → Nat} {bs n q : Nat} {d d' : Array α} (h : BlkTo lt tg bs n q d) (hp : PermIn (q * bs) (min (q * bs + bs) n) d d') (hn : OKb lt tg d' (q * bs) (min (q * bs + bs) n)) : BlkTo lt tg bs n (q + 1) d' := by
  intro p hpq hpn
  by_cases e : p = q
  · rw [e]; exact hn
  · refine (h p (by omega) hpn).out hp (.inl ?_)
    have : (p + 1) * bs ≤ q * bs := Nat.mul_le_mul_right _ (by omega)
    rw [Nat.add_mul, Nat.one_mul] at this
    exact Nat.le_trans (Nat.min_le_left _ _) this
theorem BlkFrom.step {tg : α → Nat} {bs n q hi : Nat} {d d' : Array α} {lo : Nat} (h : BlkFrom lt tg bs n q d) (hp : PermIn lo hi d d') (q' : Nat) (hq : q ≤ q') (hhi : hi ≤ q' * bs) : BlkFrom lt tg bs n q' d' := by
  intro p hpq hpn
  refine (h p (by omega) hpn).out hp (.inr ?_)
  exact Nat.le_trans hhi (Nat.mul_le_mul_right _ hpq)
theorem BlkTo.all {tg : α → Nat} {bs n q : Nat} {d : Array α} (h : BlkTo lt tg bs n q d) (hq : n ≤ q * bs) : BlkFrom lt tg bs n 0 d := fun p _ hpn => h p (by
  apply Nat.lt_of_not_le
  intro hc
  have := Nat.mul_le_mul_right bs hc
  omega) hpn

section
variable {tg : α → Nat} {cf : α → α → Int} {d d0 : Array α} {n q bs a : Nat}

/-- The stage of the insertions. -/
def Stage1 (lt : α → α → Bool) (tg : α → Nat) (d0 d : Array α) (n q a : Nat) : Prop :=
  a = q * 20 ∧ BlkTo lt tg 20 n q d ∧ (∀ t, a ≤ t → d[t]! = d0[t]!) ∧ PermIn 0 n d0 d

theorem stage1_start (lt : α → α → Bool) (tg : α → Nat) (d0 : Array α) (n : Nat) : Stage1 lt tg d0 d0 n 0 0 :=
  ⟨rfl, fun q h => by omega, fun _ _ => rfl, permIn_refl _ _ _⟩
theorem stage1_ins (S : SWO lt) (hc : ∀ x y, tg x < tg y → ltOf cf y x = lt y x) (h0 : ∀ t, t < n → tg d0[t]! = t) (h : Stage1 lt tg d0 d n q a) (b : Nat) (hab : a ≤ b) (hbn : b ≤ n) (hn : n ≤ d.size) (hq : b = min (a + 20) n) :
    (insertionSort (ltOf cf) d a b).size = d.size ∧ (b = a + 20 → Stage1 lt tg d0 (insertionSort (ltOf cf) d a b) n (q + 1) (a + 20)) ∧ (b = n → BlkFrom lt tg 20 n 0 (insertionSort (ltOf cf) d a b) ∧ PermIn 0 n d0 (insertionSort (ltOf cf) d a b)) := by
  obtain ⟨rfl, hB, hE, hP⟩ := h
  have htag : ∀ t, q * 20 ≤ t → t < b → tg d[t]! = t := fun t h1 h2 => by rw [hE t h1]; exact h0 t (by omega)
  obtain ⟨p1, p2⟩ := ins_stable (d := d) S hab (by omega) (fun s t h1 h2 h3 => hc _ _ (by rw [htag s h1 (by omega), htag t (by omega) h3]; exact h2))
  have hok := OKb.tags (tg := tg) (by omega) p1 p2 (fun t h1 h2 => by rw [htag t h1 h2]; omega)
  have hB' : BlkTo lt tg 20 n (q + 1) (insertionSort (ltOf cf) d (q * 20) b) := hB.step (by rw [← hq]; exact p1) (by rw [← hq]; exact hok)
  have hP' : PermIn 0 n d0 (insertionSort (ltOf cf) d (q * 20) b) := permIn_trans _ _ _ _ _ hP (permIn_mono _ _ _ _ _ _ (Nat.zero_le _) hbn hn p1)
  exact ⟨p1.1, fun hb => ⟨by omega, hB', fun t ht => by rw [p1.2.1 t (.inr (by omega))]; exact hE t (by omega), hP'⟩, fun hb => ⟨hB'.all (by omega), hP'⟩⟩

/-- The stage of the merges, within a round. -/
def Stage2 (lt : α → α → Bool) (tg : α → Nat) (d0 d : Array α) (n bs q a : Nat) : Prop :=
  a = q * (2 * bs) ∧ BlkTo lt tg (2 * bs) n q d ∧ BlkFrom lt tg bs n (2 * q) d ∧ PermIn 0 n d0 d

theorem two_q (q bs : Nat) : 2 * q * bs = q * (2 * bs) := by rw [Nat.mul_comm 2 q, Nat.mul_assoc]
theorem two_q1 (q bs : Nat) : (2 * q + 1) * bs = q * (2 * bs) + bs := by rw [Nat.add_mul, Nat.one_mul, two_q]
theorem two_q2 (q bs : Nat) : (q + 1) * (2 * bs) = q * (2 * bs) + 2 * bs := by rw [Nat.add_mul, Nat.one_mul]

theorem stage2_start {lt : α → α → Bool} {tg : α → Nat} {d0 d : Array α} {n bs : Nat} (h : BlkFrom lt tg bs n 0 d) (hP : PermIn 0 n d0 d) : Stage2 lt tg d0 d n bs 0 0 :=
  ⟨by simp, fun q h => by omega, h, hP⟩
/-- What the merge of the q-th pair is handed. -/
theorem stage2_pre (hc : ∀ x y, tg x < tg y → ltOf cf y x = lt y x) (h : Stage2 lt tg d0 d n bs q a) (b : Nat) (hb : b = min (a + 2 * bs) n) (hm : a + bs < n) :
    SortedIn lt a (a + bs) d ∧ SortedIn lt (a + bs) b d ∧ (∀ i j, a ≤ i → i < a + bs → a + bs ≤ j → j < b → ltOf cf d[j]! d[i]! = lt d[j]! d[i]!) ∧ OKb lt tg d a (a + bs) ∧ OKb lt tg d (a + bs) b := by
  obtain ⟨rfl, hT, hF, hP⟩ := h
  have h1 := hF (2 * q) (Nat.le_refl _) (by rw [two_q]; omega)
  have h2 := hF (2 * q + 1) (by omega) (by rw [two_q1]; omega)
  rw [two_q, Nat.min_eq_left (by omega)] at h1
  rw [two_q1, show min (q * (2 * bs) + bs + bs) n = b by omega] at h2
  exact ⟨h1.1, h2.1, h1.cross hc h2, h1, h2⟩
theorem stage2_step (hbs : 0 < bs) (h : Stage2 lt tg d0 d n bs q a) (b : Nat) (hb : b = min (a + 2 * bs) n) (hm : a + bs < n) (hn : n ≤ d.size) {d' : Array α} (ok1 : OKb lt tg d a (a + bs)) (ok2 : OKb lt tg d (a + bs) b) (hp : PermIn a b d d') (hs : SortedIn lt a b d') :
    (b = a + 2 * bs → Stage2 lt tg d0 d' n bs (q + 1) b) ∧ BlkTo lt tg (2 * bs) n (q + 1) d' ∧ PermIn 0 n d0 d' := by
  obtain ⟨rfl, hT, hF, hP⟩ := h
  have hj := OKb.join (by omega) (by omega) (by omega) ok1 ok2 hp hs
  have hT' : BlkTo lt tg (2 * bs) n (q + 1) d' := hT.step (by rw [← hb]; exact hp) (by rw [← hb]; exact hj)
  have hP' : PermIn 0 n d0 d' := permIn_trans _ _ _ _ _ hP (permIn_mono _ _ _ _ _ _ (Nat.zero_le _) (by omega) hn hp)
  exact ⟨fun e => ⟨by rw [two_q2]; exact e, hT', hF.step hp (2 * (q + 1)) (by omega) (by rw [two_q, two_q2]; omega), hP'⟩, hT', hP'⟩
/-- No second block is left. -/
theorem stage2_none (h : Stage2 lt tg d0 d n bs q a) (hm : n ≤ a + bs) : BlkTo lt tg (2 * bs) n (q + 1) d := by
  obtain ⟨rfl, hT, hF, hP⟩ := h
  intro p hp hpn
  by_cases e : p = q
  · subst e
    have h1 := hF (2 * p) (Nat.le_refl _) (by rw [two_q]; exact hpn)
    rw [two_q, Nat.min_eq_right (by omega)] at h1
    rw [Nat.min_eq_right (by omega)]
    exact h1
  · exact hT p (by omega) hpn
theorem stage2_end {d : Array α} (h : BlkTo lt tg (2 * bs) n (q + 1) d) (hq : n ≤ q * (2 * bs) + 2 * bs) : BlkFrom lt tg (2 * bs) n 0 d := h.all (by rw [two_q2]; exact hq)
theorem blk_sorted {d : Array α} (h : BlkFrom lt tg bs n 0 d) (hb : n ≤ bs) : SortedIn lt 0 n d := by
  intro i j h1 h2 h3
  have := h 0 (Nat.le_refl _) (by omega)
  rw [Nat.zero_mul, Nat.zero_add, Nat.min_eq_right hb] at this
  exact this.1 i j h1 h2 h3
end
end Go.Proofs.Ythgkgjcnmahacaa
