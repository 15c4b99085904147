import Derived.Test.YtfgjimpmpckgpaaGreatDoorSg08
import Derived.Test.YtfgjimpmpckgpaaGreatDoorSg00
import Derived.Shelf.SlSortCmp.KitK
import Derived.Sort.OwnSorted
import Derived.Lib.Strings
import Derived.Lib.Bytealg
set_option linter.unusedSimpArgs false
set_option linter.unusedVariables false
set_option maxRecDepth 200000
set_option maxHeartbeats 8000000
namespace Go.Proofs.YtfgjimpmpckgpaaGreatDoor
section
open Go.Sort Go.Proofs
variable {α : Type} [Inhabited α] {lt l1 l2 : α -> α -> Bool}
theorem insInner_congr (a : Nat) : ∀ (j : Nat) (d : Array α), j < d.size -> (∀ t, a <= t -> t < j -> l1 d[j]! d[t]! = l2 d[j]! d[t]!) -> insInner l1 a j d = insInner l2 a j d
 | 0, _, _, _ => rfl
 | j + 1, d, hj, h => by
   unfold insInner
   by_cases ha : j + 1 > a
   ·rw [h j (by omega) (by omega), insInner_congr a j (swp d (j + 1) j) (by rw [size_swp]; omega) (fun t h1 h2 => by
     rw [swp_get d hj (by omega), swp_get d hj (by omega), if_pos rfl, if_neg (by omega), if_neg (by omega)]
     exact h t h1 (by omega))]
   ·simp [ha]
theorem insInner_perm (l : α -> α -> Bool) (a hi : Nat) : ∀ (j : Nat) (d : Array α), j < hi -> hi <= d.size -> PermIn a hi d (insInner l a j d)
 | 0, _, _, _ => permIn_refl _ _ _
 | j + 1, d, hj, h => by
   unfold insInner
   split
   ·rename_i hc
    simp only [Bool.and_eq_true, decide_eq_true_eq] at hc
    exact permIn_trans _ _ _ _ _ (swp_permIn d a hi (j + 1) j (by omega) hj (by omega) (by omega) h) (insInner_perm l a hi j _ (by omega) (by rw [size_swp]; exact h))
   ·exact permIn_refl _ _ _
theorem insOuter_congr (a b : Nat) : ∀ (n i : Nat) (d : Array α), b - i <= n -> a < i -> b <= d.size -> (∀ s t, a <= s -> s < t -> i <= t -> t < b -> l1 d[t]! d[s]! = l2 d[t]! d[s]!) -> insOuter l1 a b i d = insOuter l2 a b i d
 | 0, i, d, hn, _, _, _ => by rw [insOuter_stop l1 a b i d (by omega), insOuter_stop l2 a b i d (by omega)]
 | n + 1, i, d, hn, ha, hb, h => by
   by_cases hi : i < b
   ·rw [insOuter_go l1 a b i d hi, insOuter_go l2 a b i d hi, insInner_congr a i d (by omega) (fun t h1 h2 => h t i h1 h2 (Nat.le_refl _) hi)]
    have hp := insInner_perm l2 a (i + 1) i d (by omega) (by omega)
    refine insOuter_congr a b n (i + 1) _ (by omega) (by omega) (by rw [hp.1]; exact hb) (fun s t h1 h2 h3 h4 => ?_)
    rw [hp.2.1 t (.inr h3)]
    by_cases hs : s < i + 1
    ·exact permIn_all d _ a (i + 1) (fun v => l1 d[t]! v = l2 d[t]! v) (by omega) hp (fun x x1 x2 => h x t x1 (by omega) (by omega) h4) s h1 hs
    ·rw [hp.2.1 s (.inr (by omega))]; exact h s t h1 h2 (by omega) h4
   ·rw [insOuter_stop l1 a b i d hi, insOuter_stop l2 a b i d hi]
theorem ins_stable (S : SWO lt) {cf : α -> α -> Int} {d : Array α} {a b : Nat} (hab : a <= b) (hb : b <= d.size) (h : ∀ s t, a <= s -> s < t -> t < b -> ltOf cf d[t]! d[s]! = lt d[t]! d[s]!) :
 PermIn a b d (insertionSort (ltOf cf) d a b) /\ SortedIn lt a b (insertionSort (ltOf cf) d a b) := by
 have e : insertionSort (ltOf cf) d a b = insertionSort lt d a b := insOuter_congr a b (b - (a + 1)) (a + 1) d (Nat.le_refl _) (by omega) hb (fun s t h1 h2 h3 h4 => h s t h1 h2 h4)
 rw [e]
 exact insertionSort_holds S d a b hab hb
def OKb (lt : α -> α -> Bool) (tg : α -> Nat) (d : Array α) (lo hi : Nat) : Prop := SortedIn lt lo hi d /\ ∀ t, lo <= t -> t < hi -> lo <= tg d[t]! /\ tg d[t]! < hi
theorem OKb.out {tg : α -> Nat} {d d' : Array α} {lo hi a b : Nat} (h : OKb lt tg d lo hi) (hp : PermIn a b d d') (ho : hi <= a \/ b <= lo) : OKb lt tg d' lo hi := by
 refine ⟨fun i j h1 h2 h3 => ?_, fun t h1 h2 => ?_⟩
 ·rw [hp.2.1 i (by omega), hp.2.1 j (by omega)]; exact h.1 i j h1 h2 h3
 ·rw [hp.2.1 t (by omega)]; exact h.2 t h1 h2
theorem OKb.tags {tg : α -> Nat} {d d' : Array α} {lo hi : Nat} (hb : hi <= d.size) (hp : PermIn lo hi d d') (hs : SortedIn lt lo hi d') (h : ∀ t, lo <= t -> t < hi -> lo <= tg d[t]! /\ tg d[t]! < hi) : OKb lt tg d' lo hi :=
 ⟨hs, permIn_all d d' lo hi (fun v => lo <= tg v /\ tg v < hi) hb hp h⟩
theorem OKb.cross {tg : α -> Nat} {cf : α -> α -> Int} (hc : ∀ x y, tg x < tg y -> ltOf cf y x = lt y x) {d : Array α} {a m b : Nat} (h1 : OKb lt tg d a m) (h2 : OKb lt tg d m b) :
 ∀ i j, a <= i -> i < m -> m <= j -> j < b -> ltOf cf d[j]! d[i]! = lt d[j]! d[i]! := fun i j y1 y2 y3 y4 =>
 hc _ _ (by have := (h1.2 i y1 y2).2; have := (h2.2 j y3 y4).1; omega)
theorem OKb.join {tg : α -> Nat} {d d' : Array α} {a m b : Nat} (hm : a <= m) (hmb : m <= b) (hb : b <= d.size) (h1 : OKb lt tg d a m) (h2 : OKb lt tg d m b) (hp : PermIn a b d d') (hs : SortedIn lt a b d') : OKb lt tg d' a b :=
 OKb.tags hb hp hs (fun t y1 y2 => by
  by_cases h : t < m
  ·have := h1.2 t y1 h; omega
  ·have := h2.2 t (by omega) y2; omega)
def BlkFrom (lt : α -> α -> Bool) (tg : α -> Nat) (bs n q0 : Nat) (d : Array α) : Prop := ∀ q, q0 <= q -> q * bs < n -> OKb lt tg d (q * bs) (min (q * bs + bs) n)
def BlkTo (lt : α -> α -> Bool) (tg : α -> Nat) (bs n q0 : Nat) (d : Array α) : Prop := ∀ q, q < q0 -> q * bs < n -> OKb lt tg d (q * bs) (min (q * bs + bs) n)
theorem BlkTo.step {tg : α -> Nat} {bs n q : Nat} {d d' : Array α} (h : BlkTo lt tg bs n q d) (hp : PermIn (q * bs) (min (q * bs + bs) n) d d') (hn : OKb lt tg d' (q * bs) (min (q * bs + bs) n)) : BlkTo lt tg bs n (q + 1) d' := by
 intro p hpq hpn
 by_cases e : p = q
 ·rw [e]; exact hn
 ·refine (h p (by omega) hpn).out hp (.inl ?_)
  have : (p + 1) * bs <= q * bs := Nat.mul_le_mul_right _ (by omega)
  rw [Nat.add_mul, Nat.one_mul] at this
  exact Nat.le_trans (Nat.min_le_left _ _) this
theorem BlkFrom.step {tg : α -> Nat} {bs n q hi : Nat} {d d' : Array α} {lo : Nat} (h : BlkFrom lt tg bs n q d) (hp : PermIn lo hi d d') (q' : Nat) (hq : q <= q') (hhi : hi <= q' * bs) : BlkFrom lt tg bs n q' d' := by
 intro p hpq hpn
 refine (h p (by omega) hpn).out hp (.inr ?_)
 exact Nat.le_trans hhi (Nat.mul_le_mul_right _ hpq)
theorem BlkTo.all {tg : α -> Nat} {bs n q : Nat} {d : Array α} (h : BlkTo lt tg bs n q d) (hq : n <= q * bs) : BlkFrom lt tg bs n 0 d := fun p _ hpn => h p (by
 apply Nat.lt_of_not_le
 intro hc
 have := Nat.mul_le_mul_right bs hc
 omega) hpn
section
variable {tg : α -> Nat} {cf : α -> α -> Int} {d d0 : Array α} {n q bs a : Nat}
def Stage1 (lt : α -> α -> Bool) (tg : α -> Nat) (d0 d : Array α) (n q a : Nat) : Prop :=
 a = q * 20 /\ BlkTo lt tg 20 n q d /\ (∀ t, a <= t -> d[t]! = d0[t]!) /\ PermIn 0 n d0 d
theorem stage1_start (lt : α -> α -> Bool) (tg : α -> Nat) (d0 : Array α) (n : Nat) : Stage1 lt tg d0 d0 n 0 0 :=
 ⟨rfl, fun q h => by omega, fun _ _ => rfl, permIn_refl _ _ _⟩
theorem stage1_ins (S : SWO lt) (hc : ∀ x y, tg x < tg y -> ltOf cf y x = lt y x) (h0 : ∀ t, t < n -> tg d0[t]! = t) (h : Stage1 lt tg d0 d n q a) (b : Nat) (hab : a <= b) (hbn : b <= n) (hn : n <= d.size) (hq : b = min (a + 20) n) :
 (insertionSort (ltOf cf) d a b).size = d.size /\ (b = a + 20 -> Stage1 lt tg d0 (insertionSort (ltOf cf) d a b) n (q + 1) (a + 20)) /\ (b = n -> BlkFrom lt tg 20 n 0 (insertionSort (ltOf cf) d a b) /\ PermIn 0 n d0 (insertionSort (ltOf cf) d a b)) := by
 obtain ⟨rfl, hB, hE, hP⟩ := h
 have htag : ∀ t, q * 20 <= t -> t < b -> tg d[t]! = t := fun t h1 h2 => by rw [hE t h1]; exact h0 t (by omega)
 obtain ⟨p1, p2⟩ := ins_stable (d := d) S hab (by omega) (fun s t h1 h2 h3 => hc _ _ (by rw [htag s h1 (by omega), htag t (by omega) h3]; exact h2))
 have hok := OKb.tags (tg := tg) (by omega) p1 p2 (fun t h1 h2 => by rw [htag t h1 h2]; omega)
 have hB' : BlkTo lt tg 20 n (q + 1) (insertionSort (ltOf cf) d (q * 20) b) := hB.step (by rw [<- hq]; exact p1) (by rw [<- hq]; exact hok)
 have hP' : PermIn 0 n d0 (insertionSort (ltOf cf) d (q * 20) b) := permIn_trans _ _ _ _ _ hP (permIn_mono _ _ _ _ _ _ (Nat.zero_le _) hbn hn p1)
 exact ⟨p1.1, fun hb => ⟨by omega, hB', fun t ht => by rw [p1.2.1 t (.inr (by omega))]; exact hE t (by omega), hP'⟩, fun hb => ⟨hB'.all (by omega), hP'⟩⟩
def Stage2 (lt : α -> α -> Bool) (tg : α -> Nat) (d0 d : Array α) (n bs q a : Nat) : Prop :=
 a = q * (2 * bs) /\ BlkTo lt tg (2 * bs) n q d /\ BlkFrom lt tg bs n (2 * q) d /\ PermIn 0 n d0 d
theorem two_q (q bs : Nat) : 2 * q * bs = q * (2 * bs) := by rw [Nat.mul_comm 2 q, Nat.mul_assoc]
theorem two_q1 (q bs : Nat) : (2 * q + 1) * bs = q * (2 * bs) + bs := by rw [Nat.add_mul, Nat.one_mul, two_q]
theorem two_q2 (q bs : Nat) : (q + 1) * (2 * bs) = q * (2 * bs) + 2 * bs := by rw [Nat.add_mul, Nat.one_mul]
theorem stage2_start {lt : α -> α -> Bool} {tg : α -> Nat} {d0 d : Array α} {n bs : Nat} (h : BlkFrom lt tg bs n 0 d) (hP : PermIn 0 n d0 d) : Stage2 lt tg d0 d n bs 0 0 :=
 ⟨by simp, fun q h => by omega, h, hP⟩
theorem stage2_pre (hc : ∀ x y, tg x < tg y -> ltOf cf y x = lt y x) (h : Stage2 lt tg d0 d n bs q a) (b : Nat) (hb : b = min (a + 2 * bs) n) (hm : a + bs < n) :
 SortedIn lt a (a + bs) d /\ SortedIn lt (a + bs) b d /\ (∀ i j, a <= i -> i < a + bs -> a + bs <= j -> j < b -> ltOf cf d[j]! d[i]! = lt d[j]! d[i]!) /\ OKb lt tg d a (a + bs) /\ OKb lt tg d (a + bs) b := by
 obtain ⟨rfl, hT, hF, hP⟩ := h
 have h1 := hF (2 * q) (Nat.le_refl _) (by rw [two_q]; omega)
 have h2 := hF (2 * q + 1) (by omega) (by rw [two_q1]; omega)
 rw [two_q, Nat.min_eq_left (by omega)] at h1
 rw [two_q1, show min (q * (2 * bs) + bs + bs) n = b by omega] at h2
 exact ⟨h1.1, h2.1, h1.cross hc h2, h1, h2⟩
theorem stage2_step (hbs : 0 < bs) (h : Stage2 lt tg d0 d n bs q a) (b : Nat) (hb : b = min (a + 2 * bs) n) (hm : a + bs < n) (hn : n <= d.size) {d' : Array α} (ok1 : OKb lt tg d a (a + bs)) (ok2 : OKb lt tg d (a + bs) b) (hp : PermIn a b d d') (hs : SortedIn lt a b d') :
 (b = a + 2 * bs -> Stage2 lt tg d0 d' n bs (q + 1) b) /\ BlkTo lt tg (2 * bs) n (q + 1) d' /\ PermIn 0 n d0 d' := by
 obtain ⟨rfl, hT, hF, hP⟩ := h
 have hj := OKb.join (by omega) (by omega) (by omega) ok1 ok2 hp hs
 have hT' : BlkTo lt tg (2 * bs) n (q + 1) d' := hT.step (by rw [<- hb]; exact hp) (by rw [<- hb]; exact hj)
 have hP' : PermIn 0 n d0 d' := permIn_trans _ _ _ _ _ hP (permIn_mono _ _ _ _ _ _ (Nat.zero_le _) (by omega) hn hp)
 exact ⟨fun e => ⟨by rw [two_q2]; exact e, hT', hF.step hp (2 * (q + 1)) (by omega) (by rw [two_q, two_q2]; omega), hP'⟩, hT', hP'⟩
theorem stage2_none (h : Stage2 lt tg d0 d n bs q a) (hm : n <= a + bs) : BlkTo lt tg (2 * bs) n (q + 1) d := by
 obtain ⟨rfl, hT, hF, hP⟩ := h
 intro p hp hpn
 by_cases e : p = q
 ·subst e
  have h1 := hF (2 * p) (Nat.le_refl _) (by rw [two_q]; exact hpn)
  rw [two_q, Nat.min_eq_right (by omega)] at h1
  rw [Nat.min_eq_right (by omega)]
  exact h1
 ·exact hT p (by omega) hpn
theorem stage2_end {d : Array α} (h : BlkTo lt tg (2 * bs) n (q + 1) d) (hq : n <= q * (2 * bs) + 2 * bs) : BlkFrom lt tg (2 * bs) n 0 d := h.all (by rw [two_q2]; exact hq)
theorem blk_sorted {d : Array α} (h : BlkFrom lt tg bs n 0 d) (hb : n <= bs) : SortedIn lt 0 n d := by
 intro i j h1 h2 h3
 have := h 0 (Nat.le_refl _) (by omega)
 rw [Nat.zero_mul, Nat.zero_add, Nat.min_eq_right hb] at this
 exact this.1 i j h1 h2 h3
end
end
section
open Go.Shelf Go.RowKit Go.Lib Go.Sort
namespace SM
variable {P : Program} {α : Type} [Inhabited α]
def CmpAny (P : Program) (g : Nat) (cb : Array Value) (enc : α -> List Value) (cf : α -> α -> Int) : Prop :=
 ∀ (W : World) (x y : α), Calls P g (#[.agg (enc x).toArray, .agg (enc y).toArray] ++ cb) W fun e w' => e = .returned (.int .i64 (cf x y)) /\ ∃ q os', w' = grow (W.drewN q) os'
def StabPost (enc : α -> List Value) (k : Nat) (w0 : World) (blk off : Nat) (lt : α -> α -> Bool) (d : Array α) (e : Ending) (w' : World) : Prop :=
 e = .returned (.tuple #[]) /\ ∃ d' : Array α, SWK enc k w0 blk off d' w' /\ PermIn 0 d.size d d' /\ SortedIn lt 0 d.size d'
end SM
end
section
open Go.Sort Go.Proofs
variable {β : Type} {cf : β -> β -> Int}
def tlt (cf : β -> β -> Int) (x y : β × Nat) : Bool := decide (cf x.1 y.1 < 0) || (!decide (cf y.1 x.1 < 0) && decide (x.2 < y.2))
theorem tlt_iff (x y : β × Nat) : tlt cf x y = true ↔ (cf x.1 y.1 < 0 \/ (¬ cf y.1 x.1 < 0 /\ x.2 < y.2)) := by simp [tlt]
theorem tlt_not (x y : β × Nat) : tlt cf x y = false ↔ (¬ cf x.1 y.1 < 0 /\ (cf y.1 x.1 < 0 \/ y.2 <= x.2)) := by
 rw [<- Bool.not_eq_true, tlt_iff]
 constructor
 ·intro h
  refine ⟨fun h1 => h (.inl h1), ?_⟩
  by_cases h2 : cf y.1 x.1 < 0
  ·exact .inl h2
  ·exact .inr (Nat.le_of_not_lt fun h3 => h (.inr ⟨h2, h3⟩))
 ·rintro ⟨h1, h2⟩ (h | ⟨h3, h4⟩)
  ·exact h1 h
  ·rcases h2 with h2 | h2
   ·exact h3 h2
   ·omega
structure Cmp (cf : β -> β -> Int) : Prop where
 irrefl : ∀ x, ¬ cf x x < 0
 asymm : ∀ x y, cf x y < 0 -> ¬ cf y x < 0
 ntrans : ∀ x y z, ¬ cf x y < 0 -> ¬ cf y z < 0 -> ¬ cf x z < 0
theorem Cmp.trans (C : Cmp cf) {x y z : β} (h1 : cf x y < 0) (h2 : cf y z < 0) : cf x z < 0 := by
 by_cases h : cf x z < 0
 ·exact h
 ·exact absurd h1 (C.ntrans x z y h (C.asymm _ _ h2))
theorem Cmp.lt_of_lt_of_le (C : Cmp cf) {x y z : β} (h1 : cf x y < 0) (h2 : ¬ cf z y < 0) : cf x z < 0 := by
 by_cases h : cf x z < 0
 ·exact h
 ·exact absurd h1 (C.ntrans x z y h h2)
theorem Cmp.swo (C : Cmp cf) : SWO (tlt cf) where
 irrefl x := by rw [tlt_not]; exact ⟨C.irrefl _, .inr (Nat.le_refl _)⟩
 trans x y z h1 h2 := by
  rw [tlt_iff] at *
  rcases h1 with h1 | ⟨h1, h1'⟩ <;> rcases h2 with h2 | ⟨h2, h2'⟩
  ·exact .inl (C.trans h1 h2)
  ·exact .inl (C.lt_of_lt_of_le h1 h2)
  ·left
   by_cases h : cf x.1 z.1 < 0
   ·exact h
   ·exact absurd h2 (C.ntrans _ _ _ h1 h)
  ·exact .inr ⟨C.ntrans _ _ _ h2 h1, by omega⟩
 ntrans x y z h1 h2 := by
  rw [tlt_not] at *
  refine ⟨C.ntrans _ _ _ h1.1 h2.1, ?_⟩
  rcases h1.2 with h3 | h3
  ·left
   by_cases h : cf z.1 x.1 < 0
   ·exact h
   ·exact absurd h3 (C.ntrans _ _ _ h2.1 h)
  ·rcases h2.2 with h4 | h4
   ·left
    by_cases h : cf z.1 x.1 < 0
    ·exact h
    ·exact absurd h4 (C.ntrans _ _ _ h h1.1)
   ·exact .inr (by omega)
theorem tlt_total {x y : β × Nat} (h : tlt cf y x = false) (hne : x.2 ≠ y.2) : tlt cf x y = true := by
 rw [tlt_not] at h
 rw [tlt_iff]
 rcases h.2 with h2 | h2
 ·exact .inl h2
 ·by_cases h3 : cf x.1 y.1 < 0
  ·exact .inl h3
  ·exact .inr ⟨h.1, by omega⟩
def IsStable (cf : β -> β -> Int) (xs ys : List β) : Prop :=
 ∃ ts : List (β × Nat), ts.Perm xs.zipIdx /\ ts.Pairwise (fun x y => tlt cf x y = true) /\ ys = ts.map (·.1)
theorem perm_sorted_eq {γ : Type} {r : γ -> γ -> Prop} (has : ∀ x y, r x y -> r y x -> False) : ∀ {l m : List γ}, l.Perm m -> l.Pairwise r -> m.Pairwise r -> l = m
 | [], m, h, _, _ => by simpa using h.symm.eq_nil
 | a :: l, [], h, _, _ => by simpa using h.eq_nil
 | a :: l, b :: m, h, h1, h2 => by
   rw [List.pairwise_cons] at h1 h2
   have hab : a = b := by
    have ha : a ∈ b :: m := h.mem_iff.1 (by simp)
    have hb : b ∈ a :: l := h.mem_iff.2 (by simp)
    rcases List.mem_cons.1 ha with e | ha
    ·exact e
    ·rcases List.mem_cons.1 hb with e | hb
     ·exact e.symm
     ·exact (has a b (h1.1 b hb) (h2.1 a ha)).elim
   subst hab
   rw [perm_sorted_eq has ((List.perm_cons a).1 h) h1.2 h2.2]
theorem IsStable.unique (C : Cmp cf) {xs ys zs : List β} (h1 : IsStable cf xs ys) (h2 : IsStable cf xs zs) : ys = zs := by
 obtain ⟨t1, p1, s1, rfl⟩ := h1
 obtain ⟨t2, p2, s2, rfl⟩ := h2
 rw [perm_sorted_eq (fun x y h1 h2 => by rw [C.swo.asymmA h1] at h2; cases h2) (p1.trans p2.symm) s1 s2]
theorem IsStable.perm {xs ys : List β} (h : IsStable cf xs ys) : ys.Perm xs := by
 obtain ⟨ts, p, _, rfl⟩ := h
 have := p.map (·.1)
 rwa [List.zipIdx_map_fst] at this
theorem IsStable.nil : IsStable cf [] [] := ⟨[], by simp, List.Pairwise.nil, rfl⟩
theorem IsStable.snoc (C : Cmp cf) {xs A B : List β} (h : IsStable cf xs (A ++ B)) {p : β} (hA : ∀ a, A.getLast? = some a -> ¬ cf p a < 0) (hB : ∀ b ∈ B, cf p b < 0) : IsStable cf (xs ++ [p]) (A ++ p :: B) := by
 obtain ⟨ts, hp, hs, he⟩ := h
 obtain ⟨tA, tB, rfl, rfl, rfl⟩ : ∃ tA tB, ts = tA ++ tB /\ A = tA.map (·.1) /\ B = tB.map (·.1) := by
  obtain ⟨tA, tB, h1, h2, h3⟩ := List.map_eq_append_iff.1 he.symm
  exact ⟨tA, tB, h1, h2.symm, h3.symm⟩
 rw [List.pairwise_append] at hs
 obtain ⟨sA, sB, sAB⟩ := hs
 have htag : ∀ x ∈ tA ++ tB, x.2 < xs.length := fun x hx => by
  have := hp.mem_iff.1 hx
  have := List.mem_zipIdx this
  omega
 refine ⟨tA ++ (p, xs.length) :: tB, ?_, ?_, by simp⟩
 ·have h1 : (tA ++ (p, xs.length) :: tB).Perm ((p, xs.length) :: (tA ++ tB)) := List.perm_middle
  rw [List.zipIdx_append]
  refine h1.trans (((List.perm_cons _).2 hp).trans ?_)
  have : [p].zipIdx xs.length = [(p, xs.length)] := rfl
  simp only [Nat.zero_add, this]
  exact (List.perm_append_singleton _ _).symm
 ·rw [List.pairwise_append]
  refine ⟨sA, ?_, ?_⟩
  ·rw [List.pairwise_cons]
   exact ⟨fun b hb => by rw [tlt_iff]; exact .inl (hB b.1 (List.mem_map.2 ⟨b, hb, rfl⟩)), sB⟩
  ·intro a ha b hb
   rcases List.mem_cons.1 hb with rfl | hb
   ·rw [tlt_iff]
    right
    refine ⟨?_, htag a (by simp [ha])⟩
    cases hl : tA.getLast? with
    | none => rw [List.getLast?_eq_none_iff] at hl; rw [hl] at ha; cases ha
    | some z =>
      have hz := hA z.1 (by rw [List.getLast?_map, hl]; rfl)
      obtain ⟨t0, rfl⟩ := List.getLast?_eq_some_iff.1 hl
      rw [List.pairwise_append] at sA
      rcases List.mem_append.1 ha with ha | ha
      ·have := sA.2.2 a ha z (by simp)
       exact C.ntrans _ _ _ hz (by rw [tlt_iff] at this; rcases this with h | h; exact C.asymm _ _ h; exact h.1)
      ·simp at ha; rw [ha]; exact hz
   ·exact sAB a ha b hb
theorem IsStable.of_sorted (C : Cmp cf) [Inhabited β] {xs : List β} {d' : Array (β × Nat)} (hp : PermIn 0 xs.zipIdx.toArray.size xs.zipIdx.toArray d') (hs : SortedIn (tlt cf) 0 xs.zipIdx.toArray.size d') : IsStable cf xs (d'.toList.map (·.1)) := by
 have hsz : d'.size = xs.zipIdx.toArray.size := hp.1
 have hperm : d'.toList.Perm xs.zipIdx := by
  have h := hp.2.2
  have e1 : d'.extract 0 xs.zipIdx.toArray.size = d' := by rw [<- hsz]; simp
  have e2 : xs.zipIdx.toArray.extract 0 xs.zipIdx.toArray.size = xs.zipIdx.toArray := by
   simp
   exact List.take_of_length_le (by simp)
  rw [e1, e2] at h
  exact h
 refine ⟨d'.toList, hperm, ?_, rfl⟩
 have hnd : (d'.toList.map (·.2)).Nodup := by
  have := (hperm.map (·.2)).nodup_iff
  rw [this, List.zipIdx_map_snd]
  exact List.nodup_range'
 rw [List.pairwise_iff_getElem]
 intro i j hi hj hij
 simp only [Array.length_toList] at hi hj
 have h1 := hs i j (Nat.zero_le _) hij (by omega)
 rw [getElem!_pos d' i hi, getElem!_pos d' j hj] at h1
 simp only [Array.getElem_toList]
 refine tlt_total h1 (fun e => ?_)
 have h2 := (List.nodup_iff_pairwise_ne.1 hnd)
 rw [List.pairwise_iff_getElem] at h2
 have := h2 i j (by simpa using hi) (by simpa using hj) hij
 simp only [List.getElem_map, Array.getElem_toList] at this
 exact this e
end
section
open Go Go.Sort Go.RowKit Go.Proofs
variable {β : Type} [Inhabited β] {enc : β -> List Value} {sz : Nat}
def encT (enc : β -> List Value) (p : β × Nat) : List Value := enc p.1
theorem flatK_cells (C : Codec enc sz) (d : Array (β × Nat)) : flatK (encT enc) sz d = (cellsOf enc (d.toList.map (·.1))).toArray := by
 apply Array.ext
 ·simp [cellsOf_len C]
 ·intro t h1 h2
  simp only [size_flatK] at h1
  have hd : t / sz < d.size := (Nat.div_lt_iff_lt_mul C.pos).2 h1
  have hm : t % sz < sz := Nat.mod_lt _ C.pos
  have e1 := get_flatK (encT enc) sz d t h1
  rw [getElem!_pos _ t (by simpa using h1)] at e1
  rw [e1, getElem!_pos d _ hd]
  have hx : (d.toList.map (·.1))[t / sz]? = some d[t / sz].1 := by simp [hd]
  have := cellsOf_get C (d.toList.map (·.1)) _ _ hx (t % sz) hm
  rw [show t / sz * sz + t % sz = t by rw [Nat.mul_comm]; exact Nat.div_add_mod t sz] at this
  unfold encT
  rw [getElem!_pos _ _ (by rw [C.len]; exact hm)]
  simp only [List.getElem_toArray]
  rw [List.getElem?_eq_getElem (by simpa [cellsOf_len C] using h1), List.getElem?_eq_getElem (by rw [C.len]; exact hm)] at this
  exact (Option.some.inj this).symm
theorem holds_of_own (C : Codec enc sz) {w : World} {g : Nat} {cur : Array Value} {e : TypeId} {xs : List β} (hb : w.heap[g]? = some (.cells cur e (0, 0))) (ht : cur.toList.take (xs.length * sz) = cellsOf enc xs) : HoldsK (encT enc) sz w g 0 xs.zipIdx.toArray := by
 unfold HoldsK
 rw [flatK_cells C]
 have hz : xs.zipIdx.toArray.toList.map (·.1) = xs := by simp [List.zipIdx_map_fst]
 rw [hz]
 intro j hj
 have hj' : j < xs.length * sz := by simpa [cellsOf_len C] using hj
 refine ⟨?_, by simp [World.frozen?, hb]⟩
 have h1 : (cur.toList.take (xs.length * sz))[j]? = (cellsOf enc xs)[j]? := by rw [ht]
 rw [List.getElem?_take_of_lt hj'] at h1
 simp only [World.cell?, hb, Nat.zero_add]
 simp only [Option.isSome_none, Bool.false_eq_true, if_false]
 rw [<- Array.getElem?_toList, h1, getElem!_pos _ j hj]
 simp at hj
 simp [hj]
theorem heap_put {w : World} {g n : Nat} {os : Array Obj} {cur : Array Value} {e : TypeId} {fr : Nat × Nat} (F : Array Value) (hb : w.heap[g]? = some (.cells cur e fr)) :
 (grow (putRow id (Sort.ahead w n) g 0 F) os).heap[g]? = some (.cells (putCells id 0 F cur) e fr) := by
 have hg : g < w.heap.size := (Array.getElem?_eq_some_iff.1 hb).1
 rw [heap_grow_old _ _ (by simpa using hg)]
 simp [putRow, mapBlock, Sort.ahead, Array.getElem?_modify, hb, onCells]
theorem grownBy_put {w : World} {g n : Nat} {os : Array Obj} (F : Array Value) : w.grownBy (grow (putRow id (Sort.ahead w n) g 0 F) os) (some g) := by
 refine ⟨rfl, rfl, rfl, by simp, fun k hk hne => ?_⟩
 rw [heap_grow_old _ _ (by simpa using hk)]
 have : g ≠ k := fun e => hne (by rw [e])
 simp [putRow, mapBlock, Sort.ahead, Array.getElem?_modify, this]
theorem take_put (cur : Array Value) (l : List Value) (h : l.length <= cur.size) : (putCells id 0 l.toArray cur).toList.take l.length = l := by
 apply List.ext_getElem?
 intro j
 by_cases hj : j < l.length
 ·rw [List.getElem?_take_of_lt hj, Array.getElem?_toList]
  simp [putCells, hj, show j < cur.size by omega]
 ·rw [List.getElem?_take_eq_none (by omega), List.getElem?_eq_none (by omega)]
theorem own_of_swk (C : Codec enc sz) {w w' : World} {base g cap : Nat} {e : TypeId} {cur : Array Value} {xs : List β} {d' : Array (β × Nat)} (hs : d'.size = xs.length) (hbase : base <= g) (hb : w.heap[g]? = some (.cells cur e (0, 0))) (h1 : xs.length <= cap) (h2 : cap <= maxLen)
 (h3 : cur.size = cap * sz) (S : SWK (encT enc) sz w g 0 d' w') : Own w' base e enc sz (.slice (some ⟨g, 0, none⟩) xs.length cap) (d'.toList.map (·.1)) /\ w.grownBy w' (some g) := by
 obtain ⟨n, os, rfl⟩ := S
 have hlen : (d'.toList.map (·.1)).length = xs.length := by simp [hs]
 unfold sortWorldK putRowK
 rw [flatK_cells C]
 refine ⟨⟨by rw [cellsOf_len C], .inr ⟨g, cap, _, by rw [hlen], hbase, heap_put _ hb, by rw [hlen]; exact h1, h2, by simp [putCells, h3], ?_⟩⟩, grownBy_put _⟩
 have hl := cellsOf_len C (d'.toList.map (·.1))
 rw [<- hl]
 exact take_put cur _ (by rw [hl, hlen, h3]; exact Nat.mul_le_mul_right _ h1)
end
section
open Go.Shelf Go.RowKit Go.Lib Go.Sort
namespace SM
variable {β : Type} [Inhabited β]
def SortPost (w : World) (base : Nat) (enc : β -> List Value) (cf : β -> β -> Int) (v : Value) (xs : List β) (e : Ending) (w' : World) : Prop :=
 e = .returned (.tuple #[]) /\ ∃ ys, IsStable cf xs ys /\ Own w' base 81 enc 6 v ys /\ w.grownBy w' v.ownBlock
end SM
theorem cmpB_self : ∀ a : List UInt8, compareBytes a a = 0
 | [] => rfl
 | x :: a => by
   have h : ¬ x < x := UInt8.lt_irrefl x
   unfold compareBytes
   rw [if_neg h, if_neg h, cmpB_self a]
theorem cmpB_neg : ∀ a b : List UInt8, compareBytes b a = - compareBytes a b
 | [], [] => rfl
 | [], _ :: _ => rfl
 | _ :: _, [] => rfl
 | x :: a, y :: b => by
   have ih := cmpB_neg a b
   unfold compareBytes
   by_cases h1 : x < y
   ·have h2 : ¬ y < x := fun h => UInt8.lt_irrefl x (UInt8.lt_trans h1 h)
    simp [h1, h2]
   ·by_cases h2 : y < x
    ·simp [h1, h2]
    ·simp [h1, h2, ih]
theorem cmpB_eq : ∀ a b : List UInt8, compareBytes a b = 0 -> a = b
 | [], [], _ => rfl
 | [], _ :: _, h => by simp [compareBytes] at h
 | _ :: _, [], h => by simp [compareBytes] at h
 | x :: a, y :: b, h => by
   unfold compareBytes at h
   by_cases h1 : x < y
   ·simp [h1] at h
   ·by_cases h2 : y < x
    ·simp [h1, h2] at h
    ·simp only [if_neg h1, if_neg h2] at h
     rw [cmpB_eq a b h, UInt8.le_antisymm (UInt8.not_lt.1 h2) (UInt8.not_lt.1 h1)]
theorem cmpB_ntrans : ∀ a b c : List UInt8, ¬ compareBytes a b < 0 -> ¬ compareBytes b c < 0 -> ¬ compareBytes a c < 0
 | [], [], c, _, h2 => h2
 | [], _ :: _, _, h1, _ => by simp [compareBytes] at h1
 | _ :: _, _, [], _, _ => by simp [compareBytes]
 | x :: a, [], z :: c, _, h2 => by simp [compareBytes] at h2
 | x :: a, y :: b, z :: c, h1, h2 => by
   have ih := cmpB_ntrans a b c
   unfold compareBytes at h1 h2 ⊢
   by_cases hxy : x < y
   ·simp [hxy] at h1
   ·by_cases hyz : y < z
    ·simp [hyz] at h2
    ·have hxz : ¬ x < z := fun h => by
      have h3 := UInt8.le_trans (UInt8.not_lt.1 hyz) (UInt8.not_lt.1 hxy)
      exact absurd h (UInt8.not_lt.2 h3)
     simp only [if_neg hxy, if_neg hyz, if_neg hxz] at h1 h2 ⊢
     by_cases hzx : z < x
     ·simp [hzx]
     ·have hyx : ¬ y < x := fun h => hzx (UInt8.lt_of_le_of_lt (UInt8.not_lt.1 hyz) h)
      have hzy : ¬ z < y := fun h => hzx (UInt8.lt_of_lt_of_le h (UInt8.not_lt.1 hxy))
      simp only [if_neg hyx, if_neg hzy, if_neg hzx] at h1 h2 ⊢
      exact ih h1 h2
def cmpN (a b : ByteArray) : Int := compareBytes a.data.toList b.data.toList
theorem cmpN_self (a : ByteArray) : cmpN a a = 0 := cmpB_self _
theorem cmpN_neg (a b : ByteArray) : cmpN b a = - cmpN a b := cmpB_neg _ _
theorem cmpN_eq {a b : ByteArray} (h : cmpN a b = 0) : a = b := by
 have := cmpB_eq _ _ h
 obtain ⟨⟨x⟩⟩ := a
 obtain ⟨⟨y⟩⟩ := b
 simp only at this
 rw [this]
end
section
open Go Go.RowKit
theorem setCells_tail (g m : Nat) (e : TypeId) : ∀ (vs : List Value) (o : Nat) (w : World) (cur : Array Value), m <= o -> w.heap[g]? = some (.cells cur e (0, 0)) ->
 ∃ cur', (w.setCells g o vs).heap[g]? = some (.cells cur' e (0, 0)) /\ cur'.size = cur.size /\ cur'.toList.take m = cur.toList.take m /\ w.grownBy (w.setCells g o vs) (some g)
 | [], o, w, cur, ho, h => ⟨cur, h, rfl, rfl, World.grownBy.refl w _⟩
 | v :: r, o, w, cur, ho, h => by
   obtain ⟨cur', h1, h2, h3, h4⟩ := setCells_tail g m e r (o + 1) (w.setCell ⟨g, o, none⟩ v) (cur.setIfInBounds o v) (by omega) (heap_setCell_same w g o cur e v h)
   refine ⟨cur', h1, by simpa using h2, ?_, ?_⟩
   ·rw [h3, Array.toList_setIfInBounds, List.take_set_of_le ho]
   ·have hg1 : w.grownBy (w.setCell ⟨g, o, none⟩ v) (some g) := ⟨rfl, rfl, rfl, by simp, fun k _ hk => heap_setCell_other w ⟨g, o, none⟩ k v (fun e => hk (by simp [e]))⟩
    exact hg1.trans h4
theorem zeroCells_mem (z : Array Value) (n : Nat) (h : ∀ u ∈ z.toList, u.oneCell' = true) : ∀ u ∈ (Builtin.zeroCells z n).toList, u.oneCell' = true := by
 intro u hu
 simp only [Builtin.zeroCells, Array.toList_map, Array.toList_range, List.mem_map, List.mem_range] at hu
 obtain ⟨i, hi, rfl⟩ := hu
 have hz : 0 < z.size := by
  rcases Nat.eq_zero_or_pos z.size with h0 | h0
  ·rw [h0, Nat.mul_zero] at hi; omega
  ·exact h0
 have hlt : i % z.size < z.size := Nat.mod_lt _ hz
 rw [getElem!_pos z (i % z.size) hlt]
 exact h _ (by simp)
section
variable {P : Program} {α : Type} {enc : α -> List Value} {sz bytes : Nat} {t e : TypeId}
theorem Own.take {w : World} {base : Nat} {p : Option Addr} {n cap : Nat} {xs : List α} (C : Codec enc sz) (h : Own w base e enc sz (.slice p n cap) xs) (m : Nat) (hm : m <= n) : Own w base e enc sz (.slice p m cap) (xs.take m) := by
 obtain ⟨hl, h⟩ := h
 rcases h with ⟨hv, hn⟩ | ⟨g, cap', cur, hv, hg, hh, hnc, hcm, hcs, ht⟩
 ·simp only [Value.slice.injEq] at hv
  obtain ⟨rfl, rfl, rfl⟩ := hv
  obtain rfl : m = 0 := by omega
  rw [List.take_zero]
  exact Own.nil w base e
 ·simp only [Value.slice.injEq] at hv
  obtain ⟨rfl, rfl, rfl⟩ := hv
  have hlen : (xs.take m).length = m := by rw [List.length_take]; omega
  refine ⟨cellsOf_len C _, .inr ⟨g, cap, cur, by rw [hlen], hg, hh, by omega, hcm, hcs, ?_⟩⟩
  rw [hlen]
  have h1 : cellsOf enc xs = cellsOf enc (xs.take m) ++ cellsOf enc (xs.drop m) := by rw [<- cellsOf_append, List.take_append_drop]
  have h2 : cur.toList.take (m * sz) = (cur.toList.take (xs.length * sz)).take (m * sz) := by
   rw [List.take_take, Nat.min_eq_left (Nat.mul_le_mul_right _ hm)]
  rw [h2, ht, h1]
  have h3 : (cellsOf enc (xs.take m)).length = m * sz := by rw [cellsOf_len C, hlen]
  rw [<- h3, List.take_left]
theorem run_clear_own (S : SlT P t e sz bytes) (hone : ∀ i z, P.info? e = some i -> i.zero = some z -> ∀ u ∈ z.cells.toList, u.oneCell' = true) (C : Codec enc sz) (w : World) (ty : TypeId) {base : Nat} {p : Option Addr} {n cap m : Nat} {xs : List α}
 (h : Own w base e enc sz (.slice p n cap) xs) (hm : m <= n) {v : Value} (hv : v = sliced p m n cap sz) :
 ∃ w', (Builtin.clear_ #[t] ty #[v]).run P w = .ok (.tuple #[]) w' /\ Own w' base e enc sz (.slice p m cap) (xs.take m) /\ w.grownBy w' (Value.slice p n cap).ownBlock := by
 have hT := h.take C m hm
 obtain ⟨ht, i, z, hi, hz, hs1, hs2, hzs⟩ := S
 by_cases hmn : m = n
 ·subst hmn
  refine ⟨w, ?_, hT, World.grownBy.refl w _⟩
  rw [hv]
  unfold sliced
  rw [Nat.sub_self]
  cases (if cap = m then p else p.map (·.add (m * sz))) <;> simp [Builtin.clear_, run_underlying ht]
 ·obtain ⟨hl, h'⟩ := h
  rcases h' with ⟨hv', hn⟩ | ⟨g, cap', cur, hv', hg, hh, hnc, hcm, hcs, htk⟩
  ·simp only [Value.slice.injEq] at hv'
   omega
  ·simp only [Value.slice.injEq] at hv'
   obtain ⟨rfl, hnx, rfl⟩ := hv'
   have hsl : v = .slice (some ⟨g, m * sz, none⟩) (n - m) (cap - m) := by
    rw [hv]; unfold sliced
    rw [if_neg (by omega)]
    simp [add_eq]
   have hszn : (Builtin.zeroCells z.cells (n - m)).size = (n - m) * sz := by rw [size_zeroCells, hzs]
   have hcell : ∀ j, j < (n - m) * sz -> (w.cell? ⟨g, m * sz + j, none⟩).isSome = true := by
    intro j hj
    rw [cell_of_row w g _ cur e (0, 0) hh]
    have h1 : (n - m) * sz + m * sz <= cap * sz := by rw [<- Nat.add_mul]; exact Nat.mul_le_mul_right _ (by omega)
    rw [Array.getElem?_eq_getElem (by omega)]
    rfl
   have hst := run_storeCells_cells (P := P) g (m * sz) (Builtin.zeroCells z.cells (n - m)).toList 0 w (by intro j hj; rw [Array.length_toList, hszn] at hj; simpa using hcell j hj) (fun j hj => frozen_of_row w g _ cur e hh) (zeroCells_mem z.cells _ (hone i z hi hz))
   rw [Nat.add_zero] at hst
   obtain ⟨cur', h1, h2, h3, h4⟩ := setCells_tail g (m * sz) e (Builtin.zeroCells z.cells (n - m)).toList (m * sz) w cur (Nat.le_refl _) hh
   refine ⟨_, ?_, ?_, h4⟩
   ·rw [hsl]
    obtain ⟨k, hk⟩ : ∃ k, n - m = k + 1 := ⟨n - m - 1, by omega⟩
    rw [hk] at hst ⊢
    simp [Builtin.clear_, run_underlying ht, zeroValue, typeInfo, hi, hz, hst]
   ·have hlen : (xs.take m).length = m := by rw [List.length_take]; omega
    obtain ⟨hl2, h2'⟩ := hT
    rcases h2' with ⟨hv2, _⟩ | ⟨g2, cap2, cur2, hv2, _, hh2, _, _, _, ht2⟩
    ·simp at hv2
    ·simp only [Value.slice.injEq, Option.some.injEq, Addr.mk.injEq, and_true, true_and] at hv2
     obtain ⟨rfl, _, rfl⟩ := hv2
     rw [hh] at hh2
     cases hh2
     refine ⟨hl2, .inr ⟨g, cap, cur', by rw [hlen], hg, h1, by omega, hcm, by omega, ?_⟩⟩
     rw [hlen] at ht2 ⊢
     rw [h3]
     exact ht2
theorem run_slice_low (S : SlT P t e sz bytes) (p : Option Addr) (n cap m : Nat) (hm : m <= n) (W : World) : (Instr.sliceAt t (.slice p n cap) (some (.int .i64 m)) none none).run P W = .ok (sliced p m n cap sz) W := by
 obtain ⟨ht, i, z, hi, hz, hs1, hs2, hzs⟩ := S
 have he : P.elem t = e := by simp [Program.elem, ht]
 have ht' : P.underlying t = some (.slice (P.elem t)) := by rw [he]; exact ht
 rw [run_sliceAt_slice _ _ _ _ _ _ ht', run_slice_l W t p n cap ht' .i64 m (by omega) (by omega), he]
 simp [sizeOf, typeInfo, hi, hs1, Result.andThen]
theorem run_slice_high (S : SlT P t e sz bytes) (p : Option Addr) (n cap m : Nat) (hm : m <= cap) (W : World) : (Instr.sliceAt t (.slice p n cap) none (some (.int .i64 m)) none).run P W = .ok (.slice p m cap) W := by
 obtain ⟨ht, i, z, hi, hz, hs1, hs2, hzs⟩ := S
 have he : P.elem t = e := by simp [Program.elem, ht]
 have ht' : P.underlying t = some (.slice (P.elem t)) := by rw [he]; exact ht
 rw [run_sliceAt_slice _ _ _ _ _ _ ht', run_slice_h W t p n cap ht' .i64 m (by omega) (by omega), he]
 have hp : p.map (fun a => a.add 0) = p := by cases p <;> simp [Addr.add]
 have hsl : sliced p 0 m cap sz = .slice p m cap := by unfold sliced; simp [hp]
 simp [sizeOf, typeInfo, hi, hs1, Result.andThen, hsl]
end
end
end Go.Proofs.YtfgjimpmpckgpaaGreatDoor
