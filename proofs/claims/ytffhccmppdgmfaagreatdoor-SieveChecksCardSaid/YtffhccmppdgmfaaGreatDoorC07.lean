import Derived.Test.YtffhccmppdgmfaaGreatDoorC06
import Derived.Test.YtffhccmppdgmfaaGreatDoorC00
import Derived.Shelf.SlSortCmp.KitK
import Derived.Sort.OwnSorted
import Derived.Lib.Strings
import Derived.Lib.Bytealg
import Derived.Test.YtffhccmppdgmfaaGreatDoorC03
set_option linter.unusedSimpArgs false
set_option linter.unusedVariables false
set_option maxRecDepth 200000
set_option maxHeartbeats 8000000
namespace Go.Proofs.YtffhccmppdgmfaaGreatDoor
section
open Go.Sort Go.Proofs
variable {α : Type} [Inhabited α] {lt l1 l2 : α -> α -> Bool}
theorem insInner_congr (a : Nat) : ∀ (j : Nat) (d : Array α), j < d.size -> (∀ t, a <= t -> t < j -> l1 d[j]! d[t]! = l2 d[j]! d[t]!) -> insInner l1 a j d = insInner l2 a j d
 | 0, _, _, _ => rfl
 | j + 1, d, hj, h => by
   unfold insInner
   by_cases ha : j + 1 > a
   ·rw [h j (by omega) (by omega), insInner_congr a j (swp d (j + 1) j) (by rw [size_swp]; omega) (fun t h1 h2 => by
     rw [swp_get d hj (by omega), swp_get d hj (by omega), if_pos rfl, if_neg (by omega), if_neg (by omega)]
     exact h t h1 (by omega))]
   ·simp [ha]
theorem insInner_perm (l : α -> α -> Bool) (a hi : Nat) : ∀ (j : Nat) (d : Array α), j < hi -> hi <= d.size -> PermIn a hi d (insInner l a j d)
 | 0, _, _, _ => permIn_refl _ _ _
 | j + 1, d, hj, h => by
   unfold insInner
   split
   ·rename_i hc
    simp only [Bool.and_eq_true, decide_eq_true_eq] at hc
    exact permIn_trans _ _ _ _ _ (swp_permIn d a hi (j + 1) j (by omega) hj (by omega) (by omega) h) (insInner_perm l a hi j _ (by omega) (by rw [size_swp]; exact h))
   ·exact permIn_refl _ _ _
theorem insOuter_congr (a b : Nat) : ∀ (n i : Nat) (d : Array α), b - i <= n -> a < i -> b <= d.size -> (∀ s t, a <= s -> s < t -> i <= t -> t < b -> l1 d[t]! d[s]! = l2 d[t]! d[s]!) -> insOuter l1 a b i d = insOuter l2 a b i d
 | 0, i, d, hn, _, _, _ => by rw [insOuter_stop l1 a b i d (by omega), insOuter_stop l2 a b i d (by omega)]
 | n + 1, i, d, hn, ha, hb, h => by
   by_cases hi : i < b
   ·rw [insOuter_go l1 a b i d hi, insOuter_go l2 a b i d hi, insInner_congr a i d (by omega) (fun t h1 h2 => h t i h1 h2 (Nat.le_refl _) hi)]
    have hp := insInner_perm l2 a (i + 1) i d (by omega) (by omega)
    refine insOuter_congr a b n (i + 1) _ (by omega) (by omega) (by rw [hp.1]; exact hb) (fun s t h1 h2 h3 h4 => ?_)
    rw [hp.2.1 t (.inr h3)]
    by_cases hs : s < i + 1
    ·exact permIn_all d _ a (i + 1) (fun v => l1 d[t]! v = l2 d[t]! v) (by omega) hp (fun x x1 x2 => h x t x1 (by omega) (by omega) h4) s h1 hs
    ·rw [hp.2.1 s (.inr (by omega))]; exact h s t h1 h2 (by omega) h4
   ·rw [insOuter_stop l1 a b i d hi, insOuter_stop l2 a b i d hi]
theorem ins_stable (S : SWO lt) {cf : α -> α -> Int} {d : Array α} {a b : Nat} (hab : a <= b) (hb : b <= d.size) (h : ∀ s t, a <= s -> s < t -> t < b -> ltOf cf d[t]! d[s]! = lt d[t]! d[s]!) :
 PermIn a b d (insertionSort (ltOf cf) d a b) /\ SortedIn lt a b (insertionSort (ltOf cf) d a b) := by
 have e : insertionSort (ltOf cf) d a b = insertionSort lt d a b := insOuter_congr a b (b - (a + 1)) (a + 1) d (Nat.le_refl _) (by omega) hb (fun s t h1 h2 h3 h4 => h s t h1 h2 h4)
 rw [e]
 exact insertionSort_holds S d a b hab hb
def OKb (lt : α -> α -> Bool) (tg : α -> Nat) (d : Array α) (lo hi : Nat) : Prop := SortedIn lt lo hi d /\ ∀ t, lo <= t -> t < hi -> lo <= tg d[t]! /\ tg d[t]! < hi
theorem OKb.out {tg : α -> Nat} {d d' : Array α} {lo hi a b : Nat} (h : OKb lt tg d lo hi) (hp : PermIn a b d d') (ho : hi <= a \/ b <= lo) : OKb lt tg d' lo hi := by
 refine ⟨fun i j h1 h2 h3 => ?_, fun t h1 h2 => ?_⟩
 ·rw [hp.2.1 i (by omega), hp.2.1 j (by omega)]; exact h.1 i j h1 h2 h3
 ·rw [hp.2.1 t (by omega)]; exact h.2 t h1 h2
theorem OKb.tags {tg : α -> Nat} {d d' : Array α} {lo hi : Nat} (hb : hi <= d.size) (hp : PermIn lo hi d d') (hs : SortedIn lt lo hi d') (h : ∀ t, lo <= t -> t < hi -> lo <= tg d[t]! /\ tg d[t]! < hi) : OKb lt tg d' lo hi :=
 ⟨hs, permIn_all d d' lo hi (fun v => lo <= tg v /\ tg v < hi) hb hp h⟩
theorem OKb.cross {tg : α -> Nat} {cf : α -> α -> Int} (hc : ∀ x y, tg x < tg y -> ltOf cf y x = lt y x) {d : Array α} {a m b : Nat} (h1 : OKb lt tg d a m) (h2 : OKb lt tg d m b) :
 ∀ i j, a <= i -> i < m -> m <= j -> j < b -> ltOf cf d[j]! d[i]! = lt d[j]! d[i]! := fun i j y1 y2 y3 y4 =>
 hc _ _ (by have := (h1.2 i y1 y2).2; have := (h2.2 j y3 y4).1; omega)
theorem OKb.join {tg : α -> Nat} {d d' : Array α} {a m b : Nat} (hm : a <= m) (hmb : m <= b) (hb : b <= d.size) (h1 : OKb lt tg d a m) (h2 : OKb lt tg d m b) (hp : PermIn a b d d') (hs : SortedIn lt a b d') : OKb lt tg d' a b :=
 OKb.tags hb hp hs (fun t y1 y2 => by
  by_cases h : t < m
  ·have := h1.2 t y1 h; omega
  ·have := h2.2 t (by omega) y2; omega)
def BlkFrom (lt : α -> α -> Bool) (tg : α -> Nat) (bs n q0 : Nat) (d : Array α) : Prop := ∀ q, q0 <= q -> q * bs < n -> OKb lt tg d (q * bs) (min (q * bs + bs) n)
def BlkTo (lt : α -> α -> Bool) (tg : α -> Nat) (bs n q0 : Nat) (d : Array α) : Prop := ∀ q, q < q0 -> q * bs < n -> OKb lt tg d (q * bs) (min (q * bs + bs) n)
theorem BlkTo.step {tg : α -> Nat} {bs n q : Nat} {d d' : Array α} (h : BlkTo lt tg bs n q d) (hp : PermIn (q * bs) (min (q * bs + bs) n) d d') (hn : OKb lt tg d' (q * bs) (min (q * bs + bs) n)) : BlkTo lt tg bs n (q + 1) d' := by
 intro p hpq hpn
 by_cases e : p = q
 ·rw [e]; exact hn
 ·refine (h p (by omega) hpn).out hp (.inl ?_)
  have : (p + 1) * bs <= q * bs := Nat.mul_le_mul_right _ (by omega)
  rw [Nat.add_mul, Nat.one_mul] at this
  exact Nat.le_trans (Nat.min_le_left _ _) this
theorem BlkFrom.step {tg : α -> Nat} {bs n q hi : Nat} {d d' : Array α} {lo : Nat} (h : BlkFrom lt tg bs n q d) (hp : PermIn lo hi d d') (q' : Nat) (hq : q <= q') (hhi : hi <= q' * bs) : BlkFrom lt tg bs n q' d' := by
 intro p hpq hpn
 refine (h p (by omega) hpn).out hp (.inr ?_)
 exact Nat.le_trans hhi (Nat.mul_le_mul_right _ hpq)
theorem BlkTo.all {tg : α -> Nat} {bs n q : Nat} {d : Array α} (h : BlkTo lt tg bs n q d) (hq : n <= q * bs) : BlkFrom lt tg bs n 0 d := fun p _ hpn => h p (by
 apply Nat.lt_of_not_le
 intro hc
 have := Nat.mul_le_mul_right bs hc
 omega) hpn
section
variable {tg : α -> Nat} {cf : α -> α -> Int} {d d0 : Array α} {n q bs a : Nat}
def Stage1 (lt : α -> α -> Bool) (tg : α -> Nat) (d0 d : Array α) (n q a : Nat) : Prop :=
 a = q * 20 /\ BlkTo lt tg 20 n q d /\ (∀ t, a <= t -> d[t]! = d0[t]!) /\ PermIn 0 n d0 d
theorem stage1_start (lt : α -> α -> Bool) (tg : α -> Nat) (d0 : Array α) (n : Nat) : Stage1 lt tg d0 d0 n 0 0 :=
 ⟨rfl, fun q h => by omega, fun _ _ => rfl, permIn_refl _ _ _⟩
theorem stage1_ins (S : SWO lt) (hc : ∀ x y, tg x < tg y -> ltOf cf y x = lt y x) (h0 : ∀ t, t < n -> tg d0[t]! = t) (h : Stage1 lt tg d0 d n q a) (b : Nat) (hab : a <= b) (hbn : b <= n) (hn : n <= d.size) (hq : b = min (a + 20) n) :
 (insertionSort (ltOf cf) d a b).size = d.size /\ (b = a + 20 -> Stage1 lt tg d0 (insertionSort (ltOf cf) d a b) n (q + 1) (a + 20)) /\ (b = n -> BlkFrom lt tg 20 n 0 (insertionSort (ltOf cf) d a b) /\ PermIn 0 n d0 (insertionSort (ltOf cf) d a b)) := by
 obtain ⟨rfl, hB, hE, hP⟩ := h
 have htag : ∀ t, q * 20 <= t -> t < b -> tg d[t]! = t := fun t h1 h2 => by rw [hE t h1]; exact h0 t (by omega)
 obtain ⟨p1, p2⟩ := ins_stable (d := d) S hab (by omega) (fun s t h1 h2 h3 => hc _ _ (by rw [htag s h1 (by omega), htag t (by omega) h3]; exact h2))
 have hok := OKb.tags (tg := tg) (by omega) p1 p2 (fun t h1 h2 => by rw [htag t h1 h2]; omega)
 have hB' : BlkTo lt tg 20 n (q + 1) (insertionSort (ltOf cf) d (q * 20) b) := hB.step (by rw [<- hq]; exact p1) (by rw [<- hq]; exact hok)
 have hP' : PermIn 0 n d0 (insertionSort (ltOf cf) d (q * 20) b) := permIn_trans _ _ _ _ _ hP (permIn_mono _ _ _ _ _ _ (Nat.zero_le _) hbn hn p1)
 exact ⟨p1.1, fun hb => ⟨by omega, hB', fun t ht => by rw [p1.2.1 t (.inr (by omega))]; exact hE t (by omega), hP'⟩, fun hb => ⟨hB'.all (by omega), hP'⟩⟩
def Stage2 (lt : α -> α -> Bool) (tg : α -> Nat) (d0 d : Array α) (n bs q a : Nat) : Prop :=
 a = q * (2 * bs) /\ BlkTo lt tg (2 * bs) n q d /\ BlkFrom lt tg bs n (2 * q) d /\ PermIn 0 n d0 d
theorem two_q (q bs : Nat) : 2 * q * bs = q * (2 * bs) := by rw [Nat.mul_comm 2 q, Nat.mul_assoc]
theorem two_q1 (q bs : Nat) : (2 * q + 1) * bs = q * (2 * bs) + bs := by rw [Nat.add_mul, Nat.one_mul, two_q]
theorem two_q2 (q bs : Nat) : (q + 1) * (2 * bs) = q * (2 * bs) + 2 * bs := by rw [Nat.add_mul, Nat.one_mul]
theorem stage2_start {lt : α -> α -> Bool} {tg : α -> Nat} {d0 d : Array α} {n bs : Nat} (h : BlkFrom lt tg bs n 0 d) (hP : PermIn 0 n d0 d) : Stage2 lt tg d0 d n bs 0 0 :=
 ⟨by simp, fun q h => by omega, h, hP⟩
theorem stage2_pre (hc : ∀ x y, tg x < tg y -> ltOf cf y x = lt y x) (h : Stage2 lt tg d0 d n bs q a) (b : Nat) (hb : b = min (a + 2 * bs) n) (hm : a + bs < n) :
 SortedIn lt a (a + bs) d /\ SortedIn lt (a + bs) b d /\ (∀ i j, a <= i -> i < a + bs -> a + bs <= j -> j < b -> ltOf cf d[j]! d[i]! = lt d[j]! d[i]!) /\ OKb lt tg d a (a + bs) /\ OKb lt tg d (a + bs) b := by
 obtain ⟨rfl, hT, hF, hP⟩ := h
 have h1 := hF (2 * q) (Nat.le_refl _) (by rw [two_q]; omega)
 have h2 := hF (2 * q + 1) (by omega) (by rw [two_q1]; omega)
 rw [two_q, Nat.min_eq_left (by omega)] at h1
 rw [two_q1, show min (q * (2 * bs) + bs + bs) n = b by omega] at h2
 exact ⟨h1.1, h2.1, h1.cross hc h2, h1, h2⟩
theorem stage2_step (hbs : 0 < bs) (h : Stage2 lt tg d0 d n bs q a) (b : Nat) (hb : b = min (a + 2 * bs) n) (hm : a + bs < n) (hn : n <= d.size) {d' : Array α} (ok1 : OKb lt tg d a (a + bs)) (ok2 : OKb lt tg d (a + bs) b) (hp : PermIn a b d d') (hs : SortedIn lt a b d') :
 (b = a + 2 * bs -> Stage2 lt tg d0 d' n bs (q + 1) b) /\ BlkTo lt tg (2 * bs) n (q + 1) d' /\ PermIn 0 n d0 d' := by
 obtain ⟨rfl, hT, hF, hP⟩ := h
 have hj := OKb.join (by omega) (by omega) (by omega) ok1 ok2 hp hs
 have hT' : BlkTo lt tg (2 * bs) n (q + 1) d' := hT.step (by rw [<- hb]; exact hp) (by rw [<- hb]; exact hj)
 have hP' : PermIn 0 n d0 d' := permIn_trans _ _ _ _ _ hP (permIn_mono _ _ _ _ _ _ (Nat.zero_le _) (by omega) hn hp)
 exact ⟨fun e => ⟨by rw [two_q2]; exact e, hT', hF.step hp (2 * (q + 1)) (by omega) (by rw [two_q, two_q2]; omega), hP'⟩, hT', hP'⟩
theorem stage2_none (h : Stage2 lt tg d0 d n bs q a) (hm : n <= a + bs) : BlkTo lt tg (2 * bs) n (q + 1) d := by
 obtain ⟨rfl, hT, hF, hP⟩ := h
 intro p hp hpn
 by_cases e : p = q
 ·subst e
  have h1 := hF (2 * p) (Nat.le_refl _) (by rw [two_q]; exact hpn)
  rw [two_q, Nat.min_eq_right (by omega)] at h1
  rw [Nat.min_eq_right (by omega)]
  exact h1
 ·exact hT p (by omega) hpn
theorem stage2_end {d : Array α} (h : BlkTo lt tg (2 * bs) n (q + 1) d) (hq : n <= q * (2 * bs) + 2 * bs) : BlkFrom lt tg (2 * bs) n 0 d := h.all (by rw [two_q2]; exact hq)
theorem blk_sorted {d : Array α} (h : BlkFrom lt tg bs n 0 d) (hb : n <= bs) : SortedIn lt 0 n d := by
 intro i j h1 h2 h3
 have := h 0 (Nat.le_refl _) (by omega)
 rw [Nat.zero_mul, Nat.zero_add, Nat.min_eq_right hb] at this
 exact this.1 i j h1 h2 h3
end
end
section
open Go.Shelf Go.RowKit Go.Lib Go.Sort
namespace SM
variable {P : Program} {α : Type} [Inhabited α]
def CmpAny (P : Program) (g : Nat) (cb : Array Value) (enc : α -> List Value) (cf : α -> α -> Int) : Prop :=
 ∀ (W : World) (x y : α), Calls P g (#[.agg (enc x).toArray, .agg (enc y).toArray] ++ cb) W fun e w' => e = .returned (.int .i64 (cf x y)) /\ ∃ q os', w' = grow (W.drewN q) os'
def StabPost (enc : α -> List Value) (k : Nat) (w0 : World) (blk off : Nat) (lt : α -> α -> Bool) (d : Array α) (e : Ending) (w' : World) : Prop :=
 e = .returned (.tuple #[]) /\ ∃ d' : Array α, SWK enc k w0 blk off d' w' /\ PermIn 0 d.size d d' /\ SortedIn lt 0 d.size d'
end SM
end
section
open Go.Sort Go.Proofs
variable {β : Type} {cf : β -> β -> Int}
def tlt (cf : β -> β -> Int) (x y : β × Nat) : Bool := decide (cf x.1 y.1 < 0) || (!decide (cf y.1 x.1 < 0) && decide (x.2 < y.2))
theorem tlt_iff (x y : β × Nat) : tlt cf x y = true ↔ (cf x.1 y.1 < 0 \/ (¬ cf y.1 x.1 < 0 /\ x.2 < y.2)) := by simp [tlt]
theorem tlt_not (x y : β × Nat) : tlt cf x y = false ↔ (¬ cf x.1 y.1 < 0 /\ (cf y.1 x.1 < 0 \/ y.2 <= x.2)) := by
 rw [<- Bool.not_eq_true, tlt_iff]
 constructor
 ·intro h
  refine ⟨fun h1 => h (.inl h1), ?_⟩
  by_cases h2 : cf y.1 x.1 < 0
  ·exact .inl h2
  ·exact .inr (Nat.le_of_not_lt fun h3 => h (.inr ⟨h2, h3⟩))
 ·rintro ⟨h1, h2⟩ (h | ⟨h3, h4⟩)
  ·exact h1 h
  ·rcases h2 with h2 | h2
   ·exact h3 h2
   ·omega
structure Cmp (cf : β -> β -> Int) : Prop where
 irrefl : ∀ x, ¬ cf x x < 0
 asymm : ∀ x y, cf x y < 0 -> ¬ cf y x < 0
 ntrans : ∀ x y z, ¬ cf x y < 0 -> ¬ cf y z < 0 -> ¬ cf x z < 0
theorem Cmp.trans (C : Cmp cf) {x y z : β} (h1 : cf x y < 0) (h2 : cf y z < 0) : cf x z < 0 := by
 by_cases h : cf x z < 0
 ·exact h
 ·exact absurd h1 (C.ntrans x z y h (C.asymm _ _ h2))
theorem Cmp.lt_of_lt_of_le (C : Cmp cf) {x y z : β} (h1 : cf x y < 0) (h2 : ¬ cf z y < 0) : cf x z < 0 := by
 by_cases h : cf x z < 0
 ·exact h
 ·exact absurd h1 (C.ntrans x z y h h2)
theorem Cmp.swo (C : Cmp cf) : SWO (tlt cf) where
 irrefl x := by rw [tlt_not]; exact ⟨C.irrefl _, .inr (Nat.le_refl _)⟩
 trans x y z h1 h2 := by
  rw [tlt_iff] at *
  rcases h1 with h1 | ⟨h1, h1'⟩ <;> rcases h2 with h2 | ⟨h2, h2'⟩
  ·exact .inl (C.trans h1 h2)
  ·exact .inl (C.lt_of_lt_of_le h1 h2)
  ·left
   by_cases h : cf x.1 z.1 < 0
   ·exact h
   ·exact absurd h2 (C.ntrans _ _ _ h1 h)
  ·exact .inr ⟨C.ntrans _ _ _ h2 h1, by omega⟩
 ntrans x y z h1 h2 := by
  rw [tlt_not] at *
  refine ⟨C.ntrans _ _ _ h1.1 h2.1, ?_⟩
  rcases h1.2 with h3 | h3
  ·left
   by_cases h : cf z.1 x.1 < 0
   ·exact h
   ·exact absurd h3 (C.ntrans _ _ _ h2.1 h)
  ·rcases h2.2 with h4 | h4
   ·left
    by_cases h : cf z.1 x.1 < 0
    ·exact h
    ·exact absurd h4 (C.ntrans _ _ _ h h1.1)
   ·exact .inr (by omega)
theorem tlt_total {x y : β × Nat} (h : tlt cf y x = false) (hne : x.2 ≠ y.2) : tlt cf x y = true := by
 rw [tlt_not] at h
 rw [tlt_iff]
 rcases h.2 with h2 | h2
 ·exact .inl h2
 ·by_cases h3 : cf x.1 y.1 < 0
  ·exact .inl h3
  ·exact .inr ⟨h.1, by omega⟩
def IsStable (cf : β -> β -> Int) (xs ys : List β) : Prop :=
 ∃ ts : List (β × Nat), ts.Perm xs.zipIdx /\ ts.Pairwise (fun x y => tlt cf x y = true) /\ ys = ts.map (·.1)
theorem perm_sorted_eq {γ : Type} {r : γ -> γ -> Prop} (has : ∀ x y, r x y -> r y x -> False) : ∀ {l m : List γ}, l.Perm m -> l.Pairwise r -> m.Pairwise r -> l = m
 | [], m, h, _, _ => by simpa using h.symm.eq_nil
 | a :: l, [], h, _, _ => by simpa using h.eq_nil
 | a :: l, b :: m, h, h1, h2 => by
   rw [List.pairwise_cons] at h1 h2
   have hab : a = b := by
    have ha : a ∈ b :: m := h.mem_iff.1 (by simp)
    have hb : b ∈ a :: l := h.mem_iff.2 (by simp)
    rcases List.mem_cons.1 ha with e | ha
    ·exact e
    ·rcases List.mem_cons.1 hb with e | hb
     ·exact e.symm
     ·exact (has a b (h1.1 b hb) (h2.1 a ha)).elim
   subst hab
   rw [perm_sorted_eq has ((List.perm_cons a).1 h) h1.2 h2.2]
theorem IsStable.unique (C : Cmp cf) {xs ys zs : List β} (h1 : IsStable cf xs ys) (h2 : IsStable cf xs zs) : ys = zs := by
 obtain ⟨t1, p1, s1, rfl⟩ := h1
 obtain ⟨t2, p2, s2, rfl⟩ := h2
 rw [perm_sorted_eq (fun x y h1 h2 => by rw [C.swo.asymmA h1] at h2; cases h2) (p1.trans p2.symm) s1 s2]
theorem IsStable.perm {xs ys : List β} (h : IsStable cf xs ys) : ys.Perm xs := by
 obtain ⟨ts, p, _, rfl⟩ := h
 have := p.map (·.1)
 rwa [List.zipIdx_map_fst] at this
theorem IsStable.nil : IsStable cf [] [] := ⟨[], by simp, List.Pairwise.nil, rfl⟩
theorem IsStable.snoc (C : Cmp cf) {xs A B : List β} (h : IsStable cf xs (A ++ B)) {p : β} (hA : ∀ a, A.getLast? = some a -> ¬ cf p a < 0) (hB : ∀ b ∈ B, cf p b < 0) : IsStable cf (xs ++ [p]) (A ++ p :: B) := by
 obtain ⟨ts, hp, hs, he⟩ := h
 obtain ⟨tA, tB, rfl, rfl, rfl⟩ : ∃ tA tB, ts = tA ++ tB /\ A = tA.map (·.1) /\ B = tB.map (·.1) := by
  obtain ⟨tA, tB, h1, h2, h3⟩ := List.map_eq_append_iff.1 he.symm
  exact ⟨tA, tB, h1, h2.symm, h3.symm⟩
 rw [List.pairwise_append] at hs
 obtain ⟨sA, sB, sAB⟩ := hs
 have htag : ∀ x ∈ tA ++ tB, x.2 < xs.length := fun x hx => by
  have := hp.mem_iff.1 hx
  have := List.mem_zipIdx this
  omega
 refine ⟨tA ++ (p, xs.length) :: tB, ?_, ?_, by simp⟩
 ·have h1 : (tA ++ (p, xs.length) :: tB).Perm ((p, xs.length) :: (tA ++ tB)) := List.perm_middle
  rw [List.zipIdx_append]
  refine h1.trans (((List.perm_cons _).2 hp).trans ?_)
  have : [p].zipIdx xs.length = [(p, xs.length)] := rfl
  simp only [Nat.zero_add, this]
  exact (List.perm_append_singleton _ _).symm
 ·rw [List.pairwise_append]
  refine ⟨sA, ?_, ?_⟩
  ·rw [List.pairwise_cons]
   exact ⟨fun b hb => by rw [tlt_iff]; exact .inl (hB b.1 (List.mem_map.2 ⟨b, hb, rfl⟩)), sB⟩
  ·intro a ha b hb
   rcases List.mem_cons.1 hb with rfl | hb
   ·rw [tlt_iff]
    right
    refine ⟨?_, htag a (by simp [ha])⟩
    cases hl : tA.getLast? with
    | none => rw [List.getLast?_eq_none_iff] at hl; rw [hl] at ha; cases ha
    | some z =>
      have hz := hA z.1 (by rw [List.getLast?_map, hl]; rfl)
      obtain ⟨t0, rfl⟩ := List.getLast?_eq_some_iff.1 hl
      rw [List.pairwise_append] at sA
      rcases List.mem_append.1 ha with ha | ha
      ·have := sA.2.2 a ha z (by simp)
       exact C.ntrans _ _ _ hz (by rw [tlt_iff] at this; rcases this with h | h; exact C.asymm _ _ h; exact h.1)
      ·simp at ha; rw [ha]; exact hz
   ·exact sAB a ha b hb
theorem IsStable.of_sorted (C : Cmp cf) [Inhabited β] {xs : List β} {d' : Array (β × Nat)} (hp : PermIn 0 xs.zipIdx.toArray.size xs.zipIdx.toArray d') (hs : SortedIn (tlt cf) 0 xs.zipIdx.toArray.size d') : IsStable cf xs (d'.toList.map (·.1)) := by
 have hsz : d'.size = xs.zipIdx.toArray.size := hp.1
 have hperm : d'.toList.Perm xs.zipIdx := by
  have h := hp.2.2
  have e1 : d'.extract 0 xs.zipIdx.toArray.size = d' := by rw [<- hsz]; simp
  have e2 : xs.zipIdx.toArray.extract 0 xs.zipIdx.toArray.size = xs.zipIdx.toArray := by
   simp
   exact List.take_of_length_le (by simp)
  rw [e1, e2] at h
  exact h
 refine ⟨d'.toList, hperm, ?_, rfl⟩
 have hnd : (d'.toList.map (·.2)).Nodup := by
  have := (hperm.map (·.2)).nodup_iff
  rw [this, List.zipIdx_map_snd]
  exact List.nodup_range'
 rw [List.pairwise_iff_getElem]
 intro i j hi hj hij
 simp only [Array.length_toList] at hi hj
 have h1 := hs i j (Nat.zero_le _) hij (by omega)
 rw [getElem!_pos d' i hi, getElem!_pos d' j hj] at h1
 simp only [Array.getElem_toList]
 refine tlt_total h1 (fun e => ?_)
 have h2 := (List.nodup_iff_pairwise_ne.1 hnd)
 rw [List.pairwise_iff_getElem] at h2
 have := h2 i j (by simpa using hi) (by simpa using hj) hij
 simp only [List.getElem_map, Array.getElem_toList] at this
 exact this e
end
section
open Go Go.Sort Go.RowKit Go.Proofs
variable {β : Type} [Inhabited β] {enc : β -> List Value} {sz : Nat}
def encT (enc : β -> List Value) (p : β × Nat) : List Value := enc p.1
theorem flatK_cells (C : Codec enc sz) (d : Array (β × Nat)) : flatK (encT enc) sz d = (cellsOf enc (d.toList.map (·.1))).toArray := by
 apply Array.ext
 ·simp [cellsOf_len C]
 ·intro t h1 h2
  simp only [size_flatK] at h1
  have hd : t / sz < d.size := (Nat.div_lt_iff_lt_mul C.pos).2 h1
  have hm : t % sz < sz := Nat.mod_lt _ C.pos
  have e1 := get_flatK (encT enc) sz d t h1
  rw [getElem!_pos _ t (by simpa using h1)] at e1
  rw [e1, getElem!_pos d _ hd]
  have hx : (d.toList.map (·.1))[t / sz]? = some d[t / sz].1 := by simp [hd]
  have := cellsOf_get C (d.toList.map (·.1)) _ _ hx (t % sz) hm
  rw [show t / sz * sz + t % sz = t by rw [Nat.mul_comm]; exact Nat.div_add_mod t sz] at this
  unfold encT
  rw [getElem!_pos _ _ (by rw [C.len]; exact hm)]
  simp only [List.getElem_toArray]
  rw [List.getElem?_eq_getElem (by simpa [cellsOf_len C] using h1), List.getElem?_eq_getElem (by rw [C.len]; exact hm)] at this
  exact (Option.some.inj this).symm
theorem holds_of_own (C : Codec enc sz) {w : World} {g : Nat} {cur : Array Value} {e : TypeId} {xs : List β} (hb : w.heap[g]? = some (.cells cur e (0, 0))) (ht : cur.toList.take (xs.length * sz) = cellsOf enc xs) : HoldsK (encT enc) sz w g 0 xs.zipIdx.toArray := by
 unfold HoldsK
 rw [flatK_cells C]
 have hz : xs.zipIdx.toArray.toList.map (·.1) = xs := by simp [List.zipIdx_map_fst]
 rw [hz]
 intro j hj
 have hj' : j < xs.length * sz := by simpa [cellsOf_len C] using hj
 refine ⟨?_, by simp [World.frozen?, hb]⟩
 have h1 : (cur.toList.take (xs.length * sz))[j]? = (cellsOf enc xs)[j]? := by rw [ht]
 rw [List.getElem?_take_of_lt hj'] at h1
 simp only [World.cell?, hb, Nat.zero_add]
 simp only [Option.isSome_none, Bool.false_eq_true, if_false]
 rw [<- Array.getElem?_toList, h1, getElem!_pos _ j hj]
 simp at hj
 simp [hj]
theorem heap_put {w : World} {g n : Nat} {os : Array Obj} {cur : Array Value} {e : TypeId} {fr : Nat × Nat} (F : Array Value) (hb : w.heap[g]? = some (.cells cur e fr)) :
 (grow (putRow id (Sort.ahead w n) g 0 F) os).heap[g]? = some (.cells (putCells id 0 F cur) e fr) := by
 have hg : g < w.heap.size := (Array.getElem?_eq_some_iff.1 hb).1
 rw [heap_grow_old _ _ (by simpa using hg)]
 simp [putRow, mapBlock, Sort.ahead, Array.getElem?_modify, hb, onCells]
theorem grownBy_put {w : World} {g n : Nat} {os : Array Obj} (F : Array Value) : w.grownBy (grow (putRow id (Sort.ahead w n) g 0 F) os) (some g) := by
 refine ⟨rfl, rfl, rfl, by simp, fun k hk hne => ?_⟩
 rw [heap_grow_old _ _ (by simpa using hk)]
 have : g ≠ k := fun e => hne (by rw [e])
 simp [putRow, mapBlock, Sort.ahead, Array.getElem?_modify, this]
theorem take_put (cur : Array Value) (l : List Value) (h : l.length <= cur.size) : (putCells id 0 l.toArray cur).toList.take l.length = l := by
 apply List.ext_getElem?
 intro j
 by_cases hj : j < l.length
 ·rw [List.getElem?_take_of_lt hj, Array.getElem?_toList]
  simp [putCells, hj, show j < cur.size by omega]
 ·rw [List.getElem?_take_eq_none (by omega), List.getElem?_eq_none (by omega)]
theorem own_of_swk (C : Codec enc sz) {w w' : World} {base g cap : Nat} {e : TypeId} {cur : Array Value} {xs : List β} {d' : Array (β × Nat)} (hs : d'.size = xs.length) (hbase : base <= g) (hb : w.heap[g]? = some (.cells cur e (0, 0))) (h1 : xs.length <= cap) (h2 : cap <= maxLen)
 (h3 : cur.size = cap * sz) (S : SWK (encT enc) sz w g 0 d' w') : Own w' base e enc sz (.slice (some ⟨g, 0, none⟩) xs.length cap) (d'.toList.map (·.1)) /\ w.grownBy w' (some g) := by
 obtain ⟨n, os, rfl⟩ := S
 have hlen : (d'.toList.map (·.1)).length = xs.length := by simp [hs]
 unfold sortWorldK putRowK
 rw [flatK_cells C]
 refine ⟨⟨by rw [cellsOf_len C], .inr ⟨g, cap, _, by rw [hlen], hbase, heap_put _ hb, by rw [hlen]; exact h1, h2, by simp [putCells, h3], ?_⟩⟩, grownBy_put _⟩
 have hl := cellsOf_len C (d'.toList.map (·.1))
 rw [<- hl]
 exact take_put cur _ (by rw [hl, hlen, h3]; exact Nat.mul_le_mul_right _ h1)
end
section
open Go.Shelf Go.RowKit Go.Lib Go.Sort
namespace SM
variable {β : Type} [Inhabited β]
def SortPost (w : World) (base : Nat) (enc : β -> List Value) (cf : β -> β -> Int) (v : Value) (xs : List β) (e : Ending) (w' : World) : Prop :=
 e = .returned (.tuple #[]) /\ ∃ ys, IsStable cf xs ys /\ Own w' base 32 enc 6 v ys /\ w.grownBy w' v.ownBlock
end SM
theorem cmpB_self : ∀ a : List UInt8, compareBytes a a = 0
 | [] => rfl
 | x :: a => by
   have h : ¬ x < x := UInt8.lt_irrefl x
   unfold compareBytes
   rw [if_neg h, if_neg h, cmpB_self a]
theorem cmpB_neg : ∀ a b : List UInt8, compareBytes b a = - compareBytes a b
 | [], [] => rfl
 | [], _ :: _ => rfl
 | _ :: _, [] => rfl
 | x :: a, y :: b => by
   have ih := cmpB_neg a b
   unfold compareBytes
   by_cases h1 : x < y
   ·have h2 : ¬ y < x := fun h => UInt8.lt_irrefl x (UInt8.lt_trans h1 h)
    simp [h1, h2]
   ·by_cases h2 : y < x
    ·simp [h1, h2]
    ·simp [h1, h2, ih]
theorem cmpB_eq : ∀ a b : List UInt8, compareBytes a b = 0 -> a = b
 | [], [], _ => rfl
 | [], _ :: _, h => by simp [compareBytes] at h
 | _ :: _, [], h => by simp [compareBytes] at h
 | x :: a, y :: b, h => by
   unfold compareBytes at h
   by_cases h1 : x < y
   ·simp [h1] at h
   ·by_cases h2 : y < x
    ·simp [h1, h2] at h
    ·simp only [if_neg h1, if_neg h2] at h
     rw [cmpB_eq a b h, UInt8.le_antisymm (UInt8.not_lt.1 h2) (UInt8.not_lt.1 h1)]
theorem cmpB_ntrans : ∀ a b c : List UInt8, ¬ compareBytes a b < 0 -> ¬ compareBytes b c < 0 -> ¬ compareBytes a c < 0
 | [], [], c, _, h2 => h2
 | [], _ :: _, _, h1, _ => by simp [compareBytes] at h1
 | _ :: _, _, [], _, _ => by simp [compareBytes]
 | x :: a, [], z :: c, _, h2 => by simp [compareBytes] at h2
 | x :: a, y :: b, z :: c, h1, h2 => by
   have ih := cmpB_ntrans a b c
   unfold compareBytes at h1 h2 ⊢
   by_cases hxy : x < y
   ·simp [hxy] at h1
   ·by_cases hyz : y < z
    ·simp [hyz] at h2
    ·have hxz : ¬ x < z := fun h => by
      have h3 := UInt8.le_trans (UInt8.not_lt.1 hyz) (UInt8.not_lt.1 hxy)
      exact absurd h (UInt8.not_lt.2 h3)
     simp only [if_neg hxy, if_neg hyz, if_neg hxz] at h1 h2 ⊢
     by_cases hzx : z < x
     ·simp [hzx]
     ·have hyx : ¬ y < x := fun h => hzx (UInt8.lt_of_le_of_lt (UInt8.not_lt.1 hyz) h)
      have hzy : ¬ z < y := fun h => hzx (UInt8.lt_of_lt_of_le h (UInt8.not_lt.1 hxy))
      simp only [if_neg hyx, if_neg hzy, if_neg hzx] at h1 h2 ⊢
      exact ih h1 h2
def cmpN (a b : ByteArray) : Int := compareBytes a.data.toList b.data.toList
theorem cmpN_self (a : ByteArray) : cmpN a a = 0 := cmpB_self _
theorem cmpN_neg (a b : ByteArray) : cmpN b a = - cmpN a b := cmpB_neg _ _
theorem cmpN_eq {a b : ByteArray} (h : cmpN a b = 0) : a = b := by
 have := cmpB_eq _ _ h
 obtain ⟨⟨x⟩⟩ := a
 obtain ⟨⟨y⟩⟩ := b
 simp only at this
 rw [this]
def cfM (x y : RM) : Int := cmpN x.name y.name
theorem cmpM : Cmp cfM where
 irrefl x := by unfold cfM; rw [cmpN_self]; decide
 asymm x y h := by unfold cfM at *; rw [cmpN_neg]; omega
 ntrans x y z h1 h2 := cmpB_ntrans _ _ _ h1 h2
def cfJ {γ : Type} (x y : ByteArray × γ) : Int := cmpN x.1 y.1
theorem cmpJ {γ : Type} : Cmp (cfJ (γ := γ)) where
 irrefl x := by unfold cfJ; rw [cmpN_self]; decide
 asymm x y h := by unfold cfJ at *; rw [cmpN_neg]; omega
 ntrans x y z h1 h2 := cmpB_ntrans _ _ _ h1 h2
theorem compareString_any (a b : ByteArray) (w : World) :
 Calls Tryz.prog 159 #[.string a, .string b] w fun e w' => e = .returned (.int .i64 (cmpN a b)) /\ w' = w := by
 go_enter Tryz.func159, Tryz.ntmps159
 go_wp2
 rw [run_callFunc_extern Tryz.func175 (by kernel_rfl) (by kernel_rfl) (by kernel_rfl) (e := Extern.BytealgCompare.compare) (by kernel_rfl), Lib.run_compareString]
 simp only [Result.andThen]
 rw [Oper.upon_value]
 go_wp2
 go_ret
 exact ⟨rfl, rfl⟩
theorem compare_any (a b : ByteArray) (w : World) :
 Calls Tryz.prog 143 #[.string a, .string b] w fun e w' => e = .returned (.int .i64 (cmpN a b)) /\ w' = w := by
 go_enter Tryz.func143, Tryz.ntmps143
 go_wp2_with (go_at_call 159; refine (compareString_any _ _ _).mono ?_; rintro e w' ⟨rfl, rfl⟩)
 go_ret
 exact ⟨rfl, rfl⟩
end
section
open Go.RowKit Go.OpenShut
section
variable {α : Type} {e : TypeId} {enc : α -> List Value} {sz : Nat}
theorem Own.same {w w' : World} {base : Nat} {v : Value} {xs : List α} (h : Own w base e enc sz v xs) (hk : ∀ k, v.ownBlock = some k -> w'.heap[k]? = w.heap[k]?) : Own w' base e enc sz v xs := by
 obtain ⟨hl, h⟩ := h
 refine ⟨hl, ?_⟩
 rcases h with h | ⟨g, cap, cur, rfl, hg, hh, r⟩
 ·exact .inl h
 ·exact .inr ⟨g, cap, cur, rfl, hg, (hk g rfl).trans hh, r⟩
end
theorem Own.storedL {w : World} {base : Nat} {g n cap : Nat} {xs : List RV} (h : Own w base 25 encV 5 (.slice (some ⟨g, 0, none⟩) n cap) xs) {k : Nat} {x : RV} (hx : xs[k]? = some x) (q : RV) :
 Own (((((w.setCell ⟨g, k * 5, none⟩ (.int .i64 q.k)).setCell ⟨g, k * 5 + 1, none⟩ (.int .i64 q.n)).setCell ⟨g, k * 5 + 2, none⟩ (.string q.s)).setCell ⟨g, k * 5 + 3, none⟩ (.slice q.pl q.nl q.cl)).setCell ⟨g, k * 5 + 4, none⟩ (.slice q.pm q.nm q.cm)) base 25 encV 5 (.slice (some ⟨g, 0, none⟩) n cap) (xs.set k q) /\
 w.grownBy (((((w.setCell ⟨g, k * 5, none⟩ (.int .i64 q.k)).setCell ⟨g, k * 5 + 1, none⟩ (.int .i64 q.n)).setCell ⟨g, k * 5 + 2, none⟩ (.string q.s)).setCell ⟨g, k * 5 + 3, none⟩ (.slice q.pl q.nl q.cl)).setCell ⟨g, k * 5 + 4, none⟩ (.slice q.pm q.nm q.cm)) (some g) := by
 have hk := (List.getElem?_eq_some_iff.1 hx).1
 have gs : ∀ (ys : List RV) (y : RV), k < ys.length -> (ys.set k y)[k]? = some y := fun ys y hy => by simp [List.getElem?_set, hy]
 have s1 := Own.storedAt codecV h (j := 0) (y := { x with k := q.k }) (u := .int .i64 q.k) hx (by decide) rfl
 have s2 := Own.storedAt codecV s1.1 (j := 1) (y := { x with k := q.k, n := q.n }) (u := .int .i64 q.n) (gs _ _ hk) (by decide) rfl
 have s3 := Own.storedAt codecV s2.1 (j := 2) (y := { x with k := q.k, n := q.n, s := q.s }) (u := .string q.s) (gs _ _ (by simpa using hk)) (by decide) rfl
 have s4 := Own.storedAt codecV s3.1 (j := 3) (y := { x with k := q.k, n := q.n, s := q.s, pl := q.pl, nl := q.nl, cl := q.cl }) (u := .slice q.pl q.nl q.cl) (gs _ _ (by simpa using hk)) (by decide) rfl
 have s5 := Own.storedAt codecV s4.1 (j := 4) (y := q) (u := .slice q.pm q.nm q.cm) (gs _ _ (by simpa using hk)) (by decide) rfl
 simp only [List.set_set, Nat.add_zero] at s5 s4 s3 s2 s1
 exact ⟨s5.1, (((s1.2.trans s2.2).trans s3.2).trans s4.2).trans s5.2⟩
inductive LoneV (w : World) : (Nat -> Prop) -> JV -> RV -> Prop
 | mk {S : Nat -> Prop} {r : RV} {l : List JV} {m : List (ByteArray × JV)} {rs : List RV} {rms : List RM} (F : Nat ⊕ Nat -> Nat -> Prop)
  (hl : Own w 0 25 encV 5 (.slice r.pl r.nl r.cl) rs) (hm : Own w 0 32 encM 6 (.slice r.pm r.nm r.cm) rms)
  (sl : ∀ k, (Value.slice r.pl r.nl r.cl).ownBlock = some k -> S k) (sm : ∀ k, (Value.slice r.pm r.nm r.cm).ownBlock = some k -> S k)
  (dr : ∀ k, (Value.slice r.pl r.nl r.cl).ownBlock = some k -> (Value.slice r.pm r.nm r.cm).ownBlock ≠ some k)
  (el : l.length = rs.length) (em : m.length = rms.length)
  (cn : ∀ (i : Nat) (p : ByteArray × JV) (q : RM), m[i]? = some p -> rms[i]? = some q -> p.1 = q.name)
  (cl : ∀ (i : Nat) (t : JV) (q : RV), l[i]? = some t -> rs[i]? = some q -> LoneV w (F (.inl i)) t q)
  (cm : ∀ (i : Nat) (p : ByteArray × JV) (q : RM), m[i]? = some p -> rms[i]? = some q -> LoneV w (F (.inr i)) p.2 q.v)
  (ff : ∀ a k, F a k -> S k /\ (Value.slice r.pl r.nl r.cl).ownBlock ≠ some k /\ (Value.slice r.pm r.nm r.cm).ownBlock ≠ some k)
  (dd : ∀ a b k, F a k -> F b k -> a = b) : LoneV w S (.mk r.k r.n r.s l m) r
theorem LoneV.same {w w' : World} {S : Nat -> Prop} {t : JV} {r : RV} (h : LoneV w S t r) (hk : ∀ k, S k -> w'.heap[k]? = w.heap[k]?) : LoneV w' S t r := by
 induction h with
 | mk F hl hm sl sm dr el em cn cl cm ff dd ih1 ih2 =>
   exact .mk F (hl.same fun k e => hk k (sl k e)) (hm.same fun k e => hk k (sm k e)) sl sm dr el em cn
    (fun i t q h1 h2 => ih1 i t q h1 h2 fun k hf => hk k (ff _ k hf).1) (fun i p q h1 h2 => ih2 i p q h1 h2 fun k hf => hk k (ff _ k hf).1) ff dd
theorem LoneV.mono {w : World} {S S' : Nat -> Prop} {t : JV} {r : RV} (h : LoneV w S t r) (hs : ∀ k, S k -> S' k) : LoneV w S' t r := by
 cases h with
 | mk F hl hm sl sm dr el em cn cl cm ff dd =>
   exact .mk F hl hm (fun k e => hs k (sl k e)) (fun k e => hs k (sm k e)) dr el em cn cl cm (fun a k hf => ⟨hs k (ff a k hf).1, (ff a k hf).2⟩) dd
theorem LoneV.under {w w' : World} {S : Nat -> Prop} {B : Nat} {t : JV} {r : RV} (h : LoneV w S t r) (hb : Below B w w') (hs : ∀ k, S k -> k < B) : LoneV w' S t r := h.same fun k hk => hb.block k (hs k hk)
theorem LoneV.tree {w : World} {S : Nat -> Prop} {t : JV} {r : RV} (h : LoneV w S t r) : TreeOf w w.heap.size t r := by
 induction h with
 | mk F hl hm sl sm dr el em cn cl cm ff dd ih1 ih2 => exact .mk (hl.rd codecV) el ih1 (hm.rd codecM) em cn ih2
def Fresh (w w' : World) (k : Nat) : Prop := w.heap.size <= k /\ k < w'.heap.size
structure Parts (W : World) (b0 g : Nat) (D : Nat ⊕ Nat -> Prop) (l : List JV) (m : List (ByteArray × JV)) (ds : List RV) (dms : List RM) (r : RV) (F : Nat ⊕ Nat -> Nat -> Prop) : Prop where
 box : VAt W g r
 ownL : Own W b0 25 encV 5 (.slice r.pl r.nl r.cl) ds
 ownM : Own W b0 32 encM 6 (.slice r.pm r.nm r.cm) dms
 bL : ∀ k, (Value.slice r.pl r.nl r.cl).ownBlock = some k -> k ≠ g
 bM : ∀ k, (Value.slice r.pm r.nm r.cm).ownBlock = some k -> k ≠ g
 dr : ∀ k, (Value.slice r.pl r.nl r.cl).ownBlock = some k -> (Value.slice r.pm r.nm r.cm).ownBlock ≠ some k
 los : b0 <= W.heap.size
 el : l.length = ds.length
 em : m.length = dms.length
 cn : ∀ (i : Nat) (p : ByteArray × JV) (q : RM), m[i]? = some p -> dms[i]? = some q -> p.1 = q.name
 cl : ∀ (i : Nat) (t : JV) (q : RV), D (.inl i) -> l[i]? = some t -> ds[i]? = some q -> LoneV W (F (.inl i)) t q
 cm : ∀ (i : Nat) (p : ByteArray × JV) (q : RM), D (.inr i) -> m[i]? = some p -> dms[i]? = some q -> LoneV W (F (.inr i)) p.2 q.v
 ff : ∀ a k, F a k -> (b0 <= k /\ k < W.heap.size) /\ k ≠ g /\ (Value.slice r.pl r.nl r.cl).ownBlock ≠ some k /\ (Value.slice r.pm r.nm r.cm).ownBlock ≠ some k
 dd : ∀ a b k, F a k -> F b k -> a = b
theorem Parts.drewN {W : World} {b0 g : Nat} {D : Nat ⊕ Nat -> Prop} {l : List JV} {m : List (ByteArray × JV)} {ds : List RV} {dms : List RM} {r : RV} {F : Nat ⊕ Nat -> Nat -> Prop} (h : Parts W b0 g D l m ds dms r F) (n : Nat) : Parts (W.drewN n) b0 g D l m ds dms r F :=
 ⟨h.box, h.ownL, h.ownM, h.bL, h.bM, h.dr, h.los, h.el, h.em, h.cn, fun i t q h1 h2 h3 => (h.cl i t q h1 h2 h3).same fun _ _ => rfl, fun i t q h1 h2 h3 => (h.cm i t q h1 h2 h3).same fun _ _ => rfl, h.ff, h.dd⟩
theorem Parts.below {W W' : World} {b0 g : Nat} {D : Nat ⊕ Nat -> Prop} {l : List JV} {m : List (ByteArray × JV)} {ds : List RV} {dms : List RM} {r : RV} {F : Nat ⊕ Nat -> Nat -> Prop} (h : Parts W b0 g D l m ds dms r F) (hb : Below W.heap.size W W') : Parts W' b0 g D l m ds dms r F :=
 have hs := hb.size
 ⟨h.box.under hb h.box.lt, h.ownL.below hb (Nat.le_refl _), h.ownM.below hb (Nat.le_refl _), h.bL, h.bM, h.dr, Nat.le_trans h.los hs, h.el, h.em, h.cn, fun i t q h1 h2 h3 => (h.cl i t q h1 h2 h3).under hb fun k hk => (h.ff _ k hk).1.2, fun i t q h1 h2 h3 => (h.cm i t q h1 h2 h3).under hb fun k hk => (h.ff _ k hk).1.2, fun a k hk => ⟨⟨(h.ff a k hk).1.1, Nat.lt_of_lt_of_le (h.ff a k hk).1.2 hs⟩, (h.ff a k hk).2⟩, h.dd⟩
theorem get_set_ne {α : Type} (l : List α) {i j : Nat} (x : α) (h : i ≠ j) : (l.set j x)[i]? = l[i]? := by rw [List.getElem?_set_ne (fun e => h e.symm)]
theorem Parts.setL {W W1 W2 : World} {b0 g : Nat} {D : Nat ⊕ Nat -> Prop} {l : List JV} {m : List (ByteArray × JV)} {ds : List RV} {dms : List RM} {r : RV} {F : Nat ⊕ Nat -> Nat -> Prop} (h : Parts W b0 g D l m ds dms r F) (hb : Below W.heap.size W W1) {u : JV} {q : RV} (hu : LoneV W1 (Fresh W W1) u q) {j g2 : Nat}
 (hg2 : (Value.slice r.pl r.nl r.cl).ownBlock = some g2) (ho : Own W2 b0 25 encV 5 (.slice r.pl r.nl r.cl) (ds.set j q)) (hg : W1.grownBy W2 (some g2)) (hj : j < ds.length) :
 Parts W2 b0 g (fun a => D a \/ a = .inl j) (l.set j u) m (ds.set j q) dms r (fun a k => if a = .inl j then Fresh W W1 k else F a k) := by
 have h1 := h.below hb
 have hs := hg.size
 have hbs := hb.size
 have h4 := h.bL g2 hg2
 have h5 := (h.ownL.lt g2 hg2).2
 have h6 := h.box.lt
 have h7 := h.ownL.lt
 have h8 := h.ownM.lt
 have h9 := h.los
 have hsame : ∀ k, k ≠ g2 -> k < W1.heap.size -> W2.heap[k]? = W1.heap[k]? := fun k hk hk1 => hg.block k hk1 (fun e => hk (by cases e; rfl))
 have hF : ∀ a k, F a k -> W2.heap[k]? = W1.heap[k]? := fun a k hk => hsame k (fun e => (h.ff a k hk).2.2.1 (by rw [hg2, e])) (h1.ff a k hk).1.2
 have hQ : ∀ k, Fresh W W1 k -> W2.heap[k]? = W1.heap[k]? := fun k hk => hsame k (fun e => by have := hk.1; omega) hk.2
 refine ⟨(hsame g (fun e => h4 e.symm) h1.box.lt).trans h1.box, ho, h1.ownM.same fun k e => hsame k (fun e' => h.dr g2 hg2 (by rw [<- e', e])) (h1.ownM.lt k e).2, h.bL, h.bM, h.dr, Nat.le_trans h1.los hs, by rw [List.length_set, List.length_set]; exact h.el, h.em, h.cn, ?_, ?_, ?_, ?_⟩
 ·intro i t x hd ht hx
  by_cases hij : i = j
  ·subst hij
   rw [List.getElem?_set_self (by rw [h.el]; exact hj)] at ht
   rw [List.getElem?_set_self hj] at hx
   cases ht; cases hx
   simp only [if_true]
   exact hu.same hQ
  ·rw [get_set_ne _ _ hij] at ht hx
   have hne : (Sum.inl i : Nat ⊕ Nat) ≠ .inl j := fun e => hij (Sum.inl.inj e)
   simp only [if_neg hne]
   exact (h1.cl i t x (hd.resolve_right hne) ht hx).same (hF _)
 ·intro i p x hd ht hx
  have hne : (Sum.inr i : Nat ⊕ Nat) ≠ .inl j := fun e => by cases e
  simp only [if_neg hne]
  exact (h1.cm i p x (hd.resolve_right hne) ht hx).same (hF _)
 ·intro a k hk
  split at hk
  ·exact ⟨⟨Nat.le_trans h.los hk.1, Nat.lt_of_lt_of_le hk.2 hs⟩, fun e => by have := hk.1; omega, fun e => by have := hk.1; have := (h7 k e).2; omega, fun e => by have := hk.1; have := (h8 k e).2; omega⟩
  ·exact ⟨⟨(h1.ff a k hk).1.1, Nat.lt_of_lt_of_le (h1.ff a k hk).1.2 hs⟩, (h1.ff a k hk).2⟩
 ·intro a b k ha hb'
  split at ha <;> split at hb'
  ·rename_i e1 e2; rw [e1, e2]
  ·exact absurd (h.ff b k hb').1.2 (by have := ha.1; omega)
  ·exact absurd (h.ff a k ha).1.2 (by have := hb'.1; omega)
  ·exact h.dd a b k ha hb'
theorem Parts.setM {W W1 W2 : World} {b0 g : Nat} {D : Nat ⊕ Nat -> Prop} {l : List JV} {m : List (ByteArray × JV)} {ds : List RV} {dms : List RM} {r : RV} {F : Nat ⊕ Nat -> Nat -> Prop} (h : Parts W b0 g D l m ds dms r F) (hb : Below W.heap.size W W1) {u : JV} {q : RV} (hu : LoneV W1 (Fresh W W1) u q) {j g2 : Nat} {p : ByteArray × JV} {x : RM}
 (hg2 : (Value.slice r.pm r.nm r.cm).ownBlock = some g2) (hp : m[j]? = some p) (hx : dms[j]? = some x) (ho : Own W2 b0 32 encM 6 (.slice r.pm r.nm r.cm) (dms.set j ⟨x.name, q⟩)) (hg : W1.grownBy W2 (some g2)) :
 Parts W2 b0 g (fun a => D a \/ a = .inr j) l (m.set j (p.1, u)) ds (dms.set j ⟨x.name, q⟩) r (fun a k => if a = .inr j then Fresh W W1 k else F a k) := by
 have h1 := h.below hb
 have hs := hg.size
 have hbs := hb.size
 have hj : j < dms.length := (List.getElem?_eq_some_iff.1 hx).1
 have h4 := h.bM g2 hg2
 have h5 := (h.ownM.lt g2 hg2).2
 have h6 := h.box.lt
 have h7 := h.ownL.lt
 have h8 := h.ownM.lt
 have h9 := h.los
 have hsame : ∀ k, k ≠ g2 -> k < W1.heap.size -> W2.heap[k]? = W1.heap[k]? := fun k hk hk1 => hg.block k hk1 (fun e => hk (by cases e; rfl))
 have hF : ∀ a k, F a k -> W2.heap[k]? = W1.heap[k]? := fun a k hk => hsame k (fun e => (h.ff a k hk).2.2.2 (by rw [hg2, e])) (h1.ff a k hk).1.2
 have hQ : ∀ k, Fresh W W1 k -> W2.heap[k]? = W1.heap[k]? := fun k hk => hsame k (fun e => by have := hk.1; omega) hk.2
 refine ⟨(hsame g (fun e => h4 e.symm) h1.box.lt).trans h1.box, h1.ownL.same fun k e => hsame k (fun e' => h.dr k e (by rw [e', hg2])) (h1.ownL.lt k e).2, ho, h.bL, h.bM, h.dr, Nat.le_trans h1.los hs, h.el, by rw [List.length_set, List.length_set]; exact h.em, ?_, ?_, ?_, ?_, ?_⟩
 ·intro i p' x' ht hx'
  by_cases hij : i = j
  ·subst hij
   rw [List.getElem?_set_self (by rw [h.em]; exact hj)] at ht
   rw [List.getElem?_set_self hj] at hx'
   cases ht; cases hx'
   exact h.cn i p x hp hx
  ·rw [get_set_ne _ _ hij] at ht hx'
   exact h.cn i p' x' ht hx'
 ·intro i t x' hd ht hx'
  have hne : (Sum.inl i : Nat ⊕ Nat) ≠ .inr j := fun e => by cases e
  simp only [if_neg hne]
  exact (h1.cl i t x' (hd.resolve_right hne) ht hx').same (hF _)
 ·intro i p' x' hd ht hx'
  by_cases hij : i = j
  ·subst hij
   rw [List.getElem?_set_self (by rw [h.em]; exact hj)] at ht
   rw [List.getElem?_set_self hj] at hx'
   cases ht; cases hx'
   simp only [if_true]
   exact hu.same hQ
  ·rw [get_set_ne _ _ hij] at ht hx'
   have hne : (Sum.inr i : Nat ⊕ Nat) ≠ .inr j := fun e => hij (Sum.inr.inj e)
   simp only [if_neg hne]
   exact (h1.cm i p' x' (hd.resolve_right hne) ht hx').same (hF _)
 ·intro a k hk
  split at hk
  ·exact ⟨⟨Nat.le_trans h.los hk.1, Nat.lt_of_lt_of_le hk.2 hs⟩, fun e => by have := hk.1; omega, fun e => by have := hk.1; have := (h7 k e).2; omega, fun e => by have := hk.1; have := (h8 k e).2; omega⟩
  ·exact ⟨⟨(h1.ff a k hk).1.1, Nat.lt_of_lt_of_le (h1.ff a k hk).1.2 hs⟩, (h1.ff a k hk).2⟩
 ·intro a b k ha hb'
  split at ha <;> split at hb'
  ·rename_i e1 e2; rw [e1, e2]
  ·exact absurd (h.ff b k hb').1.2 (by have := ha.1; omega)
  ·exact absurd (h.ff a k ha).1.2 (by have := hb'.1; omega)
  ·exact h.dd a b k ha hb'
theorem Parts.whole {W : World} {b0 g : Nat} {D : Nat ⊕ Nat -> Prop} {l : List JV} {m : List (ByteArray × JV)} {ds : List RV} {dms : List RM} {r : RV} {F : Nat ⊕ Nat -> Nat -> Prop} (h : Parts W b0 g D l m ds dms r F) (hD : ∀ i, (i < l.length -> D (.inl i)) /\ (i < m.length -> D (.inr i))) : LoneV W (fun k => b0 <= k /\ k < W.heap.size) (.mk r.k r.n r.s l m) r :=
 .mk F (h.ownL.mono (Nat.zero_le _)) (h.ownM.mono (Nat.zero_le _)) (fun k e => h.ownL.lt k e) (fun k e => h.ownM.lt k e) h.dr h.el h.em h.cn
  (fun i t q h1 h2 => h.cl i t q ((hD i).1 (List.getElem?_eq_some_iff.1 h1).1) h1 h2) (fun i p q h1 h2 => h.cm i p q ((hD i).2 (List.getElem?_eq_some_iff.1 h1).1) h1 h2)
  (fun a k hk => ⟨(h.ff a k hk).1, (h.ff a k hk).2.2⟩) h.dd
end
end Go.Proofs.YtffhccmppdgmfaaGreatDoor
