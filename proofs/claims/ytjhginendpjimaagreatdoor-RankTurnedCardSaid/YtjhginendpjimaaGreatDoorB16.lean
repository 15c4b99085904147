import Derived.Test.YtjhginendpjimaaGreatDoorB15
import Derived.Shelf.SlSortCmp.QuietGrown
import Derived.Deep.Cut
import Derived.Deep.CutRange
import Derived.Test.YtjhginendpjimaaGreatDoorB00
import Derived.Shelf.SlSortCmp.KitK
import Derived.Sort.OwnSorted
import Derived.Lib.Strings
import Derived.Lib.Bytealg
import Derived.Test.YtjhginendpjimaaGreatDoorB02
import Derived.Test.YtjhginendpjimaaGreatDoorB12
import Derived.Test.YtjhginendpjimaaGreatDoorB11
import Derived.Laws.IdiomStrings
import Derived.Test.YtjhginendpjimaaGreatDoorProg
import Derived.WalkSpells
import Derived.Laws.AppendOwnNone
import Derived.Lib.Hide
import Derived.ProofKit
import Derived.Below
import Derived.WalkKit
import Derived.WalkLawsBesides
import Derived.BigQuiet
import Derived.Deep.QuietTactic
set_option linter.unusedSimpArgs false
set_option linter.unusedVariables false
set_option maxRecDepth 200000
set_option maxHeartbeats 8000000
namespace Go.Proofs.YtjhginendpjimaaGreatDoor
section
open Go.Shelf Go.RowKit Go.Lib Go.Sort
namespace SM
variable {P : Program} {α : Type} [Inhabited α]
def SymPost (enc : α -> List Value) (k : Nat) (w0 : World) (blk off : Nat) (lt : α -> α -> Bool) (d : Array α) (a b : Nat) (e : Ending) (w' : World) : Prop :=
 e = .returned (.tuple #[]) /\ ∃ d' : Array α, SWK enc k w0 blk off d' w' /\ PermIn a b d d' /\ SortedIn lt a b d'
end SM
namespace SM
variable {P : Program} {α : Type} [Inhabited α]
def SymPre (cf : α -> α -> Int) (lt : α -> α -> Bool) (d : Array α) (a m b : Nat) : Prop :=
 SortedIn lt a m d /\ SortedIn lt m b d /\ ∀ i j, a <= i -> i < m -> m <= j -> j < b -> ltOf cf d[j]! d[i]! = lt d[j]! d[i]!
theorem rot_triv (d : Array α) (s m e t : Nat) (h : s = m \/ m = e) (hs : s <= m) (he : m <= e) : d[t]! = rotG d s m e t := by
 unfold rotG
 rcases h with rfl | rfl
 ·by_cases h1 : s <= t /\ t < s + (e - s)
  ·rw [if_pos h1, Nat.sub_self, Nat.add_zero]
  ·rw [if_neg h1, if_neg (by omega)]
 ·rw [if_neg (by omega), Nat.sub_self]
  by_cases h1 : s + 0 <= t /\ t < m
  ·rw [if_pos h1, Nat.sub_zero]
  ·rw [if_neg h1]
end SM
end
section
open Go.Sort Go.Proofs
variable {α : Type} [Inhabited α] {lt l1 l2 : α -> α -> Bool}
theorem insInner_congr (a : Nat) : ∀ (j : Nat) (d : Array α), j < d.size -> (∀ t, a <= t -> t < j -> l1 d[j]! d[t]! = l2 d[j]! d[t]!) -> insInner l1 a j d = insInner l2 a j d
 | 0, _, _, _ => rfl
 | j + 1, d, hj, h => by
   unfold insInner
   by_cases ha : j + 1 > a
   ·rw [h j (by omega) (by omega), insInner_congr a j (swp d (j + 1) j) (by rw [size_swp]; omega) (fun t h1 h2 => by
     rw [swp_get d hj (by omega), swp_get d hj (by omega), if_pos rfl, if_neg (by omega), if_neg (by omega)]
     exact h t h1 (by omega))]
   ·simp [ha]
theorem insInner_perm (l : α -> α -> Bool) (a hi : Nat) : ∀ (j : Nat) (d : Array α), j < hi -> hi <= d.size -> PermIn a hi d (insInner l a j d)
 | 0, _, _, _ => permIn_refl _ _ _
 | j + 1, d, hj, h => by
   unfold insInner
   split
   ·rename_i hc
    simp only [Bool.and_eq_true, decide_eq_true_eq] at hc
    exact permIn_trans _ _ _ _ _ (swp_permIn d a hi (j + 1) j (by omega) hj (by omega) (by omega) h) (insInner_perm l a hi j _ (by omega) (by rw [size_swp]; exact h))
   ·exact permIn_refl _ _ _
theorem insOuter_congr (a b : Nat) : ∀ (n i : Nat) (d : Array α), b - i <= n -> a < i -> b <= d.size -> (∀ s t, a <= s -> s < t -> i <= t -> t < b -> l1 d[t]! d[s]! = l2 d[t]! d[s]!) -> insOuter l1 a b i d = insOuter l2 a b i d
 | 0, i, d, hn, _, _, _ => by rw [insOuter_stop l1 a b i d (by omega), insOuter_stop l2 a b i d (by omega)]
 | n + 1, i, d, hn, ha, hb, h => by
   by_cases hi : i < b
   ·rw [insOuter_go l1 a b i d hi, insOuter_go l2 a b i d hi, insInner_congr a i d (by omega) (fun t h1 h2 => h t i h1 h2 (Nat.le_refl _) hi)]
    have hp := insInner_perm l2 a (i + 1) i d (by omega) (by omega)
    refine insOuter_congr a b n (i + 1) _ (by omega) (by omega) (by rw [hp.1]; exact hb) (fun s t h1 h2 h3 h4 => ?_)
    rw [hp.2.1 t (.inr h3)]
    by_cases hs : s < i + 1
    ·exact permIn_all d _ a (i + 1) (fun v => l1 d[t]! v = l2 d[t]! v) (by omega) hp (fun x x1 x2 => h x t x1 (by omega) (by omega) h4) s h1 hs
    ·rw [hp.2.1 s (.inr (by omega))]; exact h s t h1 h2 (by omega) h4
   ·rw [insOuter_stop l1 a b i d hi, insOuter_stop l2 a b i d hi]
theorem ins_stable (S : SWO lt) {cf : α -> α -> Int} {d : Array α} {a b : Nat} (hab : a <= b) (hb : b <= d.size) (h : ∀ s t, a <= s -> s < t -> t < b -> ltOf cf d[t]! d[s]! = lt d[t]! d[s]!) :
 PermIn a b d (insertionSort (ltOf cf) d a b) /\ SortedIn lt a b (insertionSort (ltOf cf) d a b) := by
 have e : insertionSort (ltOf cf) d a b = insertionSort lt d a b := insOuter_congr a b (b - (a + 1)) (a + 1) d (Nat.le_refl _) (by omega) hb (fun s t h1 h2 h3 h4 => h s t h1 h2 h4)
 rw [e]
 exact insertionSort_holds S d a b hab hb
def OKb (lt : α -> α -> Bool) (tg : α -> Nat) (d : Array α) (lo hi : Nat) : Prop := SortedIn lt lo hi d /\ ∀ t, lo <= t -> t < hi -> lo <= tg d[t]! /\ tg d[t]! < hi
theorem OKb.out {tg : α -> Nat} {d d' : Array α} {lo hi a b : Nat} (h : OKb lt tg d lo hi) (hp : PermIn a b d d') (ho : hi <= a \/ b <= lo) : OKb lt tg d' lo hi := by
 refine ⟨fun i j h1 h2 h3 => ?_, fun t h1 h2 => ?_⟩
 ·rw [hp.2.1 i (by omega), hp.2.1 j (by omega)]; exact h.1 i j h1 h2 h3
 ·rw [hp.2.1 t (by omega)]; exact h.2 t h1 h2
theorem OKb.tags {tg : α -> Nat} {d d' : Array α} {lo hi : Nat} (hb : hi <= d.size) (hp : PermIn lo hi d d') (hs : SortedIn lt lo hi d') (h : ∀ t, lo <= t -> t < hi -> lo <= tg d[t]! /\ tg d[t]! < hi) : OKb lt tg d' lo hi :=
 ⟨hs, permIn_all d d' lo hi (fun v => lo <= tg v /\ tg v < hi) hb hp h⟩
theorem OKb.cross {tg : α -> Nat} {cf : α -> α -> Int} (hc : ∀ x y, tg x < tg y -> ltOf cf y x = lt y x) {d : Array α} {a m b : Nat} (h1 : OKb lt tg d a m) (h2 : OKb lt tg d m b) :
 ∀ i j, a <= i -> i < m -> m <= j -> j < b -> ltOf cf d[j]! d[i]! = lt d[j]! d[i]! := fun i j y1 y2 y3 y4 =>
 hc _ _ (by have := (h1.2 i y1 y2).2; have := (h2.2 j y3 y4).1; omega)
theorem OKb.join {tg : α -> Nat} {d d' : Array α} {a m b : Nat} (hm : a <= m) (hmb : m <= b) (hb : b <= d.size) (h1 : OKb lt tg d a m) (h2 : OKb lt tg d m b) (hp : PermIn a b d d') (hs : SortedIn lt a b d') : OKb lt tg d' a b :=
 OKb.tags hb hp hs (fun t y1 y2 => by
  by_cases h : t < m
  ·have := h1.2 t y1 h; omega
  ·have := h2.2 t (by omega) y2; omega)
def BlkFrom (lt : α -> α -> Bool) (tg : α -> Nat) (bs n q0 : Nat) (d : Array α) : Prop := ∀ q, q0 <= q -> q * bs < n -> OKb lt tg d (q * bs) (min (q * bs + bs) n)
def BlkTo (lt : α -> α -> Bool) (tg : α -> Nat) (bs n q0 : Nat) (d : Array α) : Prop := ∀ q, q < q0 -> q * bs < n -> OKb lt tg d (q * bs) (min (q * bs + bs) n)
theorem BlkTo.step {tg : α -> Nat} {bs n q : Nat} {d d' : Array α} (h : BlkTo lt tg bs n q d) (hp : PermIn (q * bs) (min (q * bs + bs) n) d d') (hn : OKb lt tg d' (q * bs) (min (q * bs + bs) n)) : BlkTo lt tg bs n (q + 1) d' := by
 intro p hpq hpn
 by_cases e : p = q
 ·rw [e]; exact hn
 ·refine (h p (by omega) hpn).out hp (.inl ?_)
  have : (p + 1) * bs <= q * bs := Nat.mul_le_mul_right _ (by omega)
  rw [Nat.add_mul, Nat.one_mul] at this
  exact Nat.le_trans (Nat.min_le_left _ _) this
theorem BlkFrom.step {tg : α -> Nat} {bs n q hi : Nat} {d d' : Array α} {lo : Nat} (h : BlkFrom lt tg bs n q d) (hp : PermIn lo hi d d') (q' : Nat) (hq : q <= q') (hhi : hi <= q' * bs) : BlkFrom lt tg bs n q' d' := by
 intro p hpq hpn
 refine (h p (by omega) hpn).out hp (.inr ?_)
 exact Nat.le_trans hhi (Nat.mul_le_mul_right _ hpq)
theorem BlkTo.all {tg : α -> Nat} {bs n q : Nat} {d : Array α} (h : BlkTo lt tg bs n q d) (hq : n <= q * bs) : BlkFrom lt tg bs n 0 d := fun p _ hpn => h p (by
 apply Nat.lt_of_not_le
 intro hc
 have := Nat.mul_le_mul_right bs hc
 omega) hpn
section
variable {tg : α -> Nat} {cf : α -> α -> Int} {d d0 : Array α} {n q bs a : Nat}
def Stage1 (lt : α -> α -> Bool) (tg : α -> Nat) (d0 d : Array α) (n q a : Nat) : Prop :=
 a = q * 20 /\ BlkTo lt tg 20 n q d /\ (∀ t, a <= t -> d[t]! = d0[t]!) /\ PermIn 0 n d0 d
theorem stage1_start (lt : α -> α -> Bool) (tg : α -> Nat) (d0 : Array α) (n : Nat) : Stage1 lt tg d0 d0 n 0 0 :=
 ⟨rfl, fun q h => by omega, fun _ _ => rfl, permIn_refl _ _ _⟩
theorem stage1_ins (S : SWO lt) (hc : ∀ x y, tg x < tg y -> ltOf cf y x = lt y x) (h0 : ∀ t, t < n -> tg d0[t]! = t) (h : Stage1 lt tg d0 d n q a) (b : Nat) (hab : a <= b) (hbn : b <= n) (hn : n <= d.size) (hq : b = min (a + 20) n) :
 (insertionSort (ltOf cf) d a b).size = d.size /\ (b = a + 20 -> Stage1 lt tg d0 (insertionSort (ltOf cf) d a b) n (q + 1) (a + 20)) /\ (b = n -> BlkFrom lt tg 20 n 0 (insertionSort (ltOf cf) d a b) /\ PermIn 0 n d0 (insertionSort (ltOf cf) d a b)) := by
 obtain ⟨rfl, hB, hE, hP⟩ := h
 have htag : ∀ t, q * 20 <= t -> t < b -> tg d[t]! = t := fun t h1 h2 => by rw [hE t h1]; exact h0 t (by omega)
 obtain ⟨p1, p2⟩ := ins_stable (d := d) S hab (by omega) (fun s t h1 h2 h3 => hc _ _ (by rw [htag s h1 (by omega), htag t (by omega) h3]; exact h2))
 have hok := OKb.tags (tg := tg) (by omega) p1 p2 (fun t h1 h2 => by rw [htag t h1 h2]; omega)
 have hB' : BlkTo lt tg 20 n (q + 1) (insertionSort (ltOf cf) d (q * 20) b) := hB.step (by rw [<- hq]; exact p1) (by rw [<- hq]; exact hok)
 have hP' : PermIn 0 n d0 (insertionSort (ltOf cf) d (q * 20) b) := permIn_trans _ _ _ _ _ hP (permIn_mono _ _ _ _ _ _ (Nat.zero_le _) hbn hn p1)
 exact ⟨p1.1, fun hb => ⟨by omega, hB', fun t ht => by rw [p1.2.1 t (.inr (by omega))]; exact hE t (by omega), hP'⟩, fun hb => ⟨hB'.all (by omega), hP'⟩⟩
def Stage2 (lt : α -> α -> Bool) (tg : α -> Nat) (d0 d : Array α) (n bs q a : Nat) : Prop :=
 a = q * (2 * bs) /\ BlkTo lt tg (2 * bs) n q d /\ BlkFrom lt tg bs n (2 * q) d /\ PermIn 0 n d0 d
theorem two_q (q bs : Nat) : 2 * q * bs = q * (2 * bs) := by rw [Nat.mul_comm 2 q, Nat.mul_assoc]
theorem two_q1 (q bs : Nat) : (2 * q + 1) * bs = q * (2 * bs) + bs := by rw [Nat.add_mul, Nat.one_mul, two_q]
theorem two_q2 (q bs : Nat) : (q + 1) * (2 * bs) = q * (2 * bs) + 2 * bs := by rw [Nat.add_mul, Nat.one_mul]
theorem stage2_start {lt : α -> α -> Bool} {tg : α -> Nat} {d0 d : Array α} {n bs : Nat} (h : BlkFrom lt tg bs n 0 d) (hP : PermIn 0 n d0 d) : Stage2 lt tg d0 d n bs 0 0 :=
 ⟨by simp, fun q h => by omega, h, hP⟩
theorem stage2_pre (hc : ∀ x y, tg x < tg y -> ltOf cf y x = lt y x) (h : Stage2 lt tg d0 d n bs q a) (b : Nat) (hb : b = min (a + 2 * bs) n) (hm : a + bs < n) :
 SortedIn lt a (a + bs) d /\ SortedIn lt (a + bs) b d /\ (∀ i j, a <= i -> i < a + bs -> a + bs <= j -> j < b -> ltOf cf d[j]! d[i]! = lt d[j]! d[i]!) /\ OKb lt tg d a (a + bs) /\ OKb lt tg d (a + bs) b := by
 obtain ⟨rfl, hT, hF, hP⟩ := h
 have h1 := hF (2 * q) (Nat.le_refl _) (by rw [two_q]; omega)
 have h2 := hF (2 * q + 1) (by omega) (by rw [two_q1]; omega)
 rw [two_q, Nat.min_eq_left (by omega)] at h1
 rw [two_q1, show min (q * (2 * bs) + bs + bs) n = b by omega] at h2
 exact ⟨h1.1, h2.1, h1.cross hc h2, h1, h2⟩
theorem stage2_step (hbs : 0 < bs) (h : Stage2 lt tg d0 d n bs q a) (b : Nat) (hb : b = min (a + 2 * bs) n) (hm : a + bs < n) (hn : n <= d.size) {d' : Array α} (ok1 : OKb lt tg d a (a + bs)) (ok2 : OKb lt tg d (a + bs) b) (hp : PermIn a b d d') (hs : SortedIn lt a b d') :
 (b = a + 2 * bs -> Stage2 lt tg d0 d' n bs (q + 1) b) /\ BlkTo lt tg (2 * bs) n (q + 1) d' /\ PermIn 0 n d0 d' := by
 obtain ⟨rfl, hT, hF, hP⟩ := h
 have hj := OKb.join (by omega) (by omega) (by omega) ok1 ok2 hp hs
 have hT' : BlkTo lt tg (2 * bs) n (q + 1) d' := hT.step (by rw [<- hb]; exact hp) (by rw [<- hb]; exact hj)
 have hP' : PermIn 0 n d0 d' := permIn_trans _ _ _ _ _ hP (permIn_mono _ _ _ _ _ _ (Nat.zero_le _) (by omega) hn hp)
 exact ⟨fun e => ⟨by rw [two_q2]; exact e, hT', hF.step hp (2 * (q + 1)) (by omega) (by rw [two_q, two_q2]; omega), hP'⟩, hT', hP'⟩
theorem stage2_none (h : Stage2 lt tg d0 d n bs q a) (hm : n <= a + bs) : BlkTo lt tg (2 * bs) n (q + 1) d := by
 obtain ⟨rfl, hT, hF, hP⟩ := h
 intro p hp hpn
 by_cases e : p = q
 ·subst e
  have h1 := hF (2 * p) (Nat.le_refl _) (by rw [two_q]; exact hpn)
  rw [two_q, Nat.min_eq_right (by omega)] at h1
  rw [Nat.min_eq_right (by omega)]
  exact h1
 ·exact hT p (by omega) hpn
theorem stage2_end {d : Array α} (h : BlkTo lt tg (2 * bs) n (q + 1) d) (hq : n <= q * (2 * bs) + 2 * bs) : BlkFrom lt tg (2 * bs) n 0 d := h.all (by rw [two_q2]; exact hq)
theorem blk_sorted {d : Array α} (h : BlkFrom lt tg bs n 0 d) (hb : n <= bs) : SortedIn lt 0 n d := by
 intro i j h1 h2 h3
 have := h 0 (Nat.le_refl _) (by omega)
 rw [Nat.zero_mul, Nat.zero_add, Nat.min_eq_right hb] at this
 exact this.1 i j h1 h2 h3
end
end
section
open Go.Shelf Go.RowKit Go.Lib Go.Sort
namespace SM
variable {P : Program} {α : Type} [Inhabited α]
def CmpAny (P : Program) (g : Nat) (cb : Array Value) (enc : α -> List Value) (cf : α -> α -> Int) : Prop :=
 ∀ (W : World) (x y : α), Calls P g (#[.agg (enc x).toArray, .agg (enc y).toArray] ++ cb) W fun e w' => e = .returned (.int .i64 (cf x y)) /\ ∃ q os', w' = grow (W.drewN q) os'
def StabPost (enc : α -> List Value) (k : Nat) (w0 : World) (blk off : Nat) (lt : α -> α -> Bool) (d : Array α) (e : Ending) (w' : World) : Prop :=
 e = .returned (.tuple #[]) /\ ∃ d' : Array α, SWK enc k w0 blk off d' w' /\ PermIn 0 d.size d d' /\ SortedIn lt 0 d.size d'
end SM
end
section
open Go.Sort Go.Proofs
variable {β : Type} {cf : β -> β -> Int}
def tlt (cf : β -> β -> Int) (x y : β × Nat) : Bool := decide (cf x.1 y.1 < 0) || (!decide (cf y.1 x.1 < 0) && decide (x.2 < y.2))
theorem tlt_iff (x y : β × Nat) : tlt cf x y = true ↔ (cf x.1 y.1 < 0 \/ (¬ cf y.1 x.1 < 0 /\ x.2 < y.2)) := by simp [tlt]
theorem tlt_not (x y : β × Nat) : tlt cf x y = false ↔ (¬ cf x.1 y.1 < 0 /\ (cf y.1 x.1 < 0 \/ y.2 <= x.2)) := by
 rw [<- Bool.not_eq_true, tlt_iff]
 constructor
 ·intro h
  refine ⟨fun h1 => h (.inl h1), ?_⟩
  by_cases h2 : cf y.1 x.1 < 0
  ·exact .inl h2
  ·exact .inr (Nat.le_of_not_lt fun h3 => h (.inr ⟨h2, h3⟩))
 ·rintro ⟨h1, h2⟩ (h | ⟨h3, h4⟩)
  ·exact h1 h
  ·rcases h2 with h2 | h2
   ·exact h3 h2
   ·omega
structure Cmp (cf : β -> β -> Int) : Prop where
 irrefl : ∀ x, ¬ cf x x < 0
 asymm : ∀ x y, cf x y < 0 -> ¬ cf y x < 0
 ntrans : ∀ x y z, ¬ cf x y < 0 -> ¬ cf y z < 0 -> ¬ cf x z < 0
theorem Cmp.trans (C : Cmp cf) {x y z : β} (h1 : cf x y < 0) (h2 : cf y z < 0) : cf x z < 0 := by
 by_cases h : cf x z < 0
 ·exact h
 ·exact absurd h1 (C.ntrans x z y h (C.asymm _ _ h2))
theorem Cmp.lt_of_lt_of_le (C : Cmp cf) {x y z : β} (h1 : cf x y < 0) (h2 : ¬ cf z y < 0) : cf x z < 0 := by
 by_cases h : cf x z < 0
 ·exact h
 ·exact absurd h1 (C.ntrans x z y h h2)
theorem Cmp.swo (C : Cmp cf) : SWO (tlt cf) where
 irrefl x := by rw [tlt_not]; exact ⟨C.irrefl _, .inr (Nat.le_refl _)⟩
 trans x y z h1 h2 := by
  rw [tlt_iff] at *
  rcases h1 with h1 | ⟨h1, h1'⟩ <;> rcases h2 with h2 | ⟨h2, h2'⟩
  ·exact .inl (C.trans h1 h2)
  ·exact .inl (C.lt_of_lt_of_le h1 h2)
  ·left
   by_cases h : cf x.1 z.1 < 0
   ·exact h
   ·exact absurd h2 (C.ntrans _ _ _ h1 h)
  ·exact .inr ⟨C.ntrans _ _ _ h2 h1, by omega⟩
 ntrans x y z h1 h2 := by
  rw [tlt_not] at *
  refine ⟨C.ntrans _ _ _ h1.1 h2.1, ?_⟩
  rcases h1.2 with h3 | h3
  ·left
   by_cases h : cf z.1 x.1 < 0
   ·exact h
   ·exact absurd h3 (C.ntrans _ _ _ h2.1 h)
  ·rcases h2.2 with h4 | h4
   ·left
    by_cases h : cf z.1 x.1 < 0
    ·exact h
    ·exact absurd h4 (C.ntrans _ _ _ h h1.1)
   ·exact .inr (by omega)
theorem tlt_total {x y : β × Nat} (h : tlt cf y x = false) (hne : x.2 ≠ y.2) : tlt cf x y = true := by
 rw [tlt_not] at h
 rw [tlt_iff]
 rcases h.2 with h2 | h2
 ·exact .inl h2
 ·by_cases h3 : cf x.1 y.1 < 0
  ·exact .inl h3
  ·exact .inr ⟨h.1, by omega⟩
def IsStable (cf : β -> β -> Int) (xs ys : List β) : Prop :=
 ∃ ts : List (β × Nat), ts.Perm xs.zipIdx /\ ts.Pairwise (fun x y => tlt cf x y = true) /\ ys = ts.map (·.1)
theorem perm_sorted_eq {γ : Type} {r : γ -> γ -> Prop} (has : ∀ x y, r x y -> r y x -> False) : ∀ {l m : List γ}, l.Perm m -> l.Pairwise r -> m.Pairwise r -> l = m
 | [], m, h, _, _ => by simpa using h.symm.eq_nil
 | a :: l, [], h, _, _ => by simpa using h.eq_nil
 | a :: l, b :: m, h, h1, h2 => by
   rw [List.pairwise_cons] at h1 h2
   have hab : a = b := by
    have ha : a ∈ b :: m := h.mem_iff.1 (by simp)
    have hb : b ∈ a :: l := h.mem_iff.2 (by simp)
    rcases List.mem_cons.1 ha with e | ha
    ·exact e
    ·rcases List.mem_cons.1 hb with e | hb
     ·exact e.symm
     ·exact (has a b (h1.1 b hb) (h2.1 a ha)).elim
   subst hab
   rw [perm_sorted_eq has ((List.perm_cons a).1 h) h1.2 h2.2]
theorem IsStable.unique (C : Cmp cf) {xs ys zs : List β} (h1 : IsStable cf xs ys) (h2 : IsStable cf xs zs) : ys = zs := by
 obtain ⟨t1, p1, s1, rfl⟩ := h1
 obtain ⟨t2, p2, s2, rfl⟩ := h2
 rw [perm_sorted_eq (fun x y h1 h2 => by rw [C.swo.asymmA h1] at h2; cases h2) (p1.trans p2.symm) s1 s2]
theorem IsStable.perm {xs ys : List β} (h : IsStable cf xs ys) : ys.Perm xs := by
 obtain ⟨ts, p, _, rfl⟩ := h
 have := p.map (·.1)
 rwa [List.zipIdx_map_fst] at this
theorem IsStable.nil : IsStable cf [] [] := ⟨[], by simp, List.Pairwise.nil, rfl⟩
theorem IsStable.snoc (C : Cmp cf) {xs A B : List β} (h : IsStable cf xs (A ++ B)) {p : β} (hA : ∀ a, A.getLast? = some a -> ¬ cf p a < 0) (hB : ∀ b ∈ B, cf p b < 0) : IsStable cf (xs ++ [p]) (A ++ p :: B) := by
 obtain ⟨ts, hp, hs, he⟩ := h
 obtain ⟨tA, tB, rfl, rfl, rfl⟩ : ∃ tA tB, ts = tA ++ tB /\ A = tA.map (·.1) /\ B = tB.map (·.1) := by
  obtain ⟨tA, tB, h1, h2, h3⟩ := List.map_eq_append_iff.1 he.symm
  exact ⟨tA, tB, h1, h2.symm, h3.symm⟩
 rw [List.pairwise_append] at hs
 obtain ⟨sA, sB, sAB⟩ := hs
 have htag : ∀ x ∈ tA ++ tB, x.2 < xs.length := fun x hx => by
  have := hp.mem_iff.1 hx
  have := List.mem_zipIdx this
  omega
 refine ⟨tA ++ (p, xs.length) :: tB, ?_, ?_, by simp⟩
 ·have h1 : (tA ++ (p, xs.length) :: tB).Perm ((p, xs.length) :: (tA ++ tB)) := List.perm_middle
  rw [List.zipIdx_append]
  refine h1.trans (((List.perm_cons _).2 hp).trans ?_)
  have : [p].zipIdx xs.length = [(p, xs.length)] := rfl
  simp only [Nat.zero_add, this]
  exact (List.perm_append_singleton _ _).symm
 ·rw [List.pairwise_append]
  refine ⟨sA, ?_, ?_⟩
  ·rw [List.pairwise_cons]
   exact ⟨fun b hb => by rw [tlt_iff]; exact .inl (hB b.1 (List.mem_map.2 ⟨b, hb, rfl⟩)), sB⟩
  ·intro a ha b hb
   rcases List.mem_cons.1 hb with rfl | hb
   ·rw [tlt_iff]
    right
    refine ⟨?_, htag a (by simp [ha])⟩
    cases hl : tA.getLast? with
    | none => rw [List.getLast?_eq_none_iff] at hl; rw [hl] at ha; cases ha
    | some z =>
      have hz := hA z.1 (by rw [List.getLast?_map, hl]; rfl)
      obtain ⟨t0, rfl⟩ := List.getLast?_eq_some_iff.1 hl
      rw [List.pairwise_append] at sA
      rcases List.mem_append.1 ha with ha | ha
      ·have := sA.2.2 a ha z (by simp)
       exact C.ntrans _ _ _ hz (by rw [tlt_iff] at this; rcases this with h | h; exact C.asymm _ _ h; exact h.1)
      ·simp at ha; rw [ha]; exact hz
   ·exact sAB a ha b hb
theorem IsStable.of_sorted (C : Cmp cf) [Inhabited β] {xs : List β} {d' : Array (β × Nat)} (hp : PermIn 0 xs.zipIdx.toArray.size xs.zipIdx.toArray d') (hs : SortedIn (tlt cf) 0 xs.zipIdx.toArray.size d') : IsStable cf xs (d'.toList.map (·.1)) := by
 have hsz : d'.size = xs.zipIdx.toArray.size := hp.1
 have hperm : d'.toList.Perm xs.zipIdx := by
  have h := hp.2.2
  have e1 : d'.extract 0 xs.zipIdx.toArray.size = d' := by rw [<- hsz]; simp
  have e2 : xs.zipIdx.toArray.extract 0 xs.zipIdx.toArray.size = xs.zipIdx.toArray := by
   simp
   exact List.take_of_length_le (by simp)
  rw [e1, e2] at h
  exact h
 refine ⟨d'.toList, hperm, ?_, rfl⟩
 have hnd : (d'.toList.map (·.2)).Nodup := by
  have := (hperm.map (·.2)).nodup_iff
  rw [this, List.zipIdx_map_snd]
  exact List.nodup_range'
 rw [List.pairwise_iff_getElem]
 intro i j hi hj hij
 simp only [Array.length_toList] at hi hj
 have h1 := hs i j (Nat.zero_le _) hij (by omega)
 rw [getElem!_pos d' i hi, getElem!_pos d' j hj] at h1
 simp only [Array.getElem_toList]
 refine tlt_total h1 (fun e => ?_)
 have h2 := (List.nodup_iff_pairwise_ne.1 hnd)
 rw [List.pairwise_iff_getElem] at h2
 have := h2 i j (by simpa using hi) (by simpa using hj) hij
 simp only [List.getElem_map, Array.getElem_toList] at this
 exact this e
end
section
open Go Go.Sort Go.RowKit Go.Proofs
variable {β : Type} [Inhabited β] {enc : β -> List Value} {sz : Nat}
def encT (enc : β -> List Value) (p : β × Nat) : List Value := enc p.1
theorem flatK_cells (C : Codec enc sz) (d : Array (β × Nat)) : flatK (encT enc) sz d = (cellsOf enc (d.toList.map (·.1))).toArray := by
 apply Array.ext
 ·simp [cellsOf_len C]
 ·intro t h1 h2
  simp only [size_flatK] at h1
  have hd : t / sz < d.size := (Nat.div_lt_iff_lt_mul C.pos).2 h1
  have hm : t % sz < sz := Nat.mod_lt _ C.pos
  have e1 := get_flatK (encT enc) sz d t h1
  rw [getElem!_pos _ t (by simpa using h1)] at e1
  rw [e1, getElem!_pos d _ hd]
  have hx : (d.toList.map (·.1))[t / sz]? = some d[t / sz].1 := by simp [hd]
  have := cellsOf_get C (d.toList.map (·.1)) _ _ hx (t % sz) hm
  rw [show t / sz * sz + t % sz = t by rw [Nat.mul_comm]; exact Nat.div_add_mod t sz] at this
  unfold encT
  rw [getElem!_pos _ _ (by rw [C.len]; exact hm)]
  simp only [List.getElem_toArray]
  rw [List.getElem?_eq_getElem (by simpa [cellsOf_len C] using h1), List.getElem?_eq_getElem (by rw [C.len]; exact hm)] at this
  exact (Option.some.inj this).symm
theorem holds_of_own (C : Codec enc sz) {w : World} {g : Nat} {cur : Array Value} {e : TypeId} {xs : List β} (hb : w.heap[g]? = some (.cells cur e (0, 0))) (ht : cur.toList.take (xs.length * sz) = cellsOf enc xs) : HoldsK (encT enc) sz w g 0 xs.zipIdx.toArray := by
 unfold HoldsK
 rw [flatK_cells C]
 have hz : xs.zipIdx.toArray.toList.map (·.1) = xs := by simp [List.zipIdx_map_fst]
 rw [hz]
 intro j hj
 have hj' : j < xs.length * sz := by simpa [cellsOf_len C] using hj
 refine ⟨?_, by simp [World.frozen?, hb]⟩
 have h1 : (cur.toList.take (xs.length * sz))[j]? = (cellsOf enc xs)[j]? := by rw [ht]
 rw [List.getElem?_take_of_lt hj'] at h1
 simp only [World.cell?, hb, Nat.zero_add]
 simp only [Option.isSome_none, Bool.false_eq_true, if_false]
 rw [<- Array.getElem?_toList, h1, getElem!_pos _ j hj]
 simp at hj
 simp [hj]
theorem heap_put {w : World} {g n : Nat} {os : Array Obj} {cur : Array Value} {e : TypeId} {fr : Nat × Nat} (F : Array Value) (hb : w.heap[g]? = some (.cells cur e fr)) :
 (grow (putRow id (Sort.ahead w n) g 0 F) os).heap[g]? = some (.cells (putCells id 0 F cur) e fr) := by
 have hg : g < w.heap.size := (Array.getElem?_eq_some_iff.1 hb).1
 rw [heap_grow_old _ _ (by simpa using hg)]
 simp [putRow, mapBlock, Sort.ahead, Array.getElem?_modify, hb, onCells]
theorem grownBy_put {w : World} {g n : Nat} {os : Array Obj} (F : Array Value) : w.grownBy (grow (putRow id (Sort.ahead w n) g 0 F) os) (some g) := by
 refine ⟨rfl, rfl, rfl, by simp, fun k hk hne => ?_⟩
 rw [heap_grow_old _ _ (by simpa using hk)]
 have : g ≠ k := fun e => hne (by rw [e])
 simp [putRow, mapBlock, Sort.ahead, Array.getElem?_modify, this]
theorem take_put (cur : Array Value) (l : List Value) (h : l.length <= cur.size) : (putCells id 0 l.toArray cur).toList.take l.length = l := by
 apply List.ext_getElem?
 intro j
 by_cases hj : j < l.length
 ·rw [List.getElem?_take_of_lt hj, Array.getElem?_toList]
  simp [putCells, hj, show j < cur.size by omega]
 ·rw [List.getElem?_take_eq_none (by omega), List.getElem?_eq_none (by omega)]
theorem own_of_swk (C : Codec enc sz) {w w' : World} {base g cap : Nat} {e : TypeId} {cur : Array Value} {xs : List β} {d' : Array (β × Nat)} (hs : d'.size = xs.length) (hbase : base <= g) (hb : w.heap[g]? = some (.cells cur e (0, 0))) (h1 : xs.length <= cap) (h2 : cap <= maxLen)
 (h3 : cur.size = cap * sz) (S : SWK (encT enc) sz w g 0 d' w') : Own w' base e enc sz (.slice (some ⟨g, 0, none⟩) xs.length cap) (d'.toList.map (·.1)) /\ w.grownBy w' (some g) := by
 obtain ⟨n, os, rfl⟩ := S
 have hlen : (d'.toList.map (·.1)).length = xs.length := by simp [hs]
 unfold sortWorldK putRowK
 rw [flatK_cells C]
 refine ⟨⟨by rw [cellsOf_len C], .inr ⟨g, cap, _, by rw [hlen], hbase, heap_put _ hb, by rw [hlen]; exact h1, h2, by simp [putCells, h3], ?_⟩⟩, grownBy_put _⟩
 have hl := cellsOf_len C (d'.toList.map (·.1))
 rw [<- hl]
 exact take_put cur _ (by rw [hl, hlen, h3]; exact Nat.mul_le_mul_right _ h1)
end
section
open Go.Shelf Go.RowKit Go.Lib Go.Sort
namespace SM
variable {β : Type} [Inhabited β]
def SortPost (w : World) (base : Nat) (enc : β -> List Value) (cf : β -> β -> Int) (v : Value) (xs : List β) (e : Ending) (w' : World) : Prop :=
 e = .returned (.tuple #[]) /\ ∃ ys, IsStable cf xs ys /\ Own w' base 46 enc 6 v ys /\ w.grownBy w' v.ownBlock
end SM
theorem cmpB_self : ∀ a : List UInt8, compareBytes a a = 0
 | [] => rfl
 | x :: a => by
   have h : ¬ x < x := UInt8.lt_irrefl x
   unfold compareBytes
   rw [if_neg h, if_neg h, cmpB_self a]
theorem cmpB_neg : ∀ a b : List UInt8, compareBytes b a = - compareBytes a b
 | [], [] => rfl
 | [], _ :: _ => rfl
 | _ :: _, [] => rfl
 | x :: a, y :: b => by
   have ih := cmpB_neg a b
   unfold compareBytes
   by_cases h1 : x < y
   ·have h2 : ¬ y < x := fun h => UInt8.lt_irrefl x (UInt8.lt_trans h1 h)
    simp [h1, h2]
   ·by_cases h2 : y < x
    ·simp [h1, h2]
    ·simp [h1, h2, ih]
theorem cmpB_eq : ∀ a b : List UInt8, compareBytes a b = 0 -> a = b
 | [], [], _ => rfl
 | [], _ :: _, h => by simp [compareBytes] at h
 | _ :: _, [], h => by simp [compareBytes] at h
 | x :: a, y :: b, h => by
   unfold compareBytes at h
   by_cases h1 : x < y
   ·simp [h1] at h
   ·by_cases h2 : y < x
    ·simp [h1, h2] at h
    ·simp only [if_neg h1, if_neg h2] at h
     rw [cmpB_eq a b h, UInt8.le_antisymm (UInt8.not_lt.1 h2) (UInt8.not_lt.1 h1)]
theorem cmpB_ntrans : ∀ a b c : List UInt8, ¬ compareBytes a b < 0 -> ¬ compareBytes b c < 0 -> ¬ compareBytes a c < 0
 | [], [], c, _, h2 => h2
 | [], _ :: _, _, h1, _ => by simp [compareBytes] at h1
 | _ :: _, _, [], _, _ => by simp [compareBytes]
 | x :: a, [], z :: c, _, h2 => by simp [compareBytes] at h2
 | x :: a, y :: b, z :: c, h1, h2 => by
   have ih := cmpB_ntrans a b c
   unfold compareBytes at h1 h2 ⊢
   by_cases hxy : x < y
   ·simp [hxy] at h1
   ·by_cases hyz : y < z
    ·simp [hyz] at h2
    ·have hxz : ¬ x < z := fun h => by
      have h3 := UInt8.le_trans (UInt8.not_lt.1 hyz) (UInt8.not_lt.1 hxy)
      exact absurd h (UInt8.not_lt.2 h3)
     simp only [if_neg hxy, if_neg hyz, if_neg hxz] at h1 h2 ⊢
     by_cases hzx : z < x
     ·simp [hzx]
     ·have hyx : ¬ y < x := fun h => hzx (UInt8.lt_of_le_of_lt (UInt8.not_lt.1 hyz) h)
      have hzy : ¬ z < y := fun h => hzx (UInt8.lt_of_lt_of_le h (UInt8.not_lt.1 hxy))
      simp only [if_neg hyx, if_neg hzy, if_neg hzx] at h1 h2 ⊢
      exact ih h1 h2
def cmpN (a b : ByteArray) : Int := compareBytes a.data.toList b.data.toList
theorem cmpN_self (a : ByteArray) : cmpN a a = 0 := cmpB_self _
theorem cmpN_neg (a b : ByteArray) : cmpN b a = - cmpN a b := cmpB_neg _ _
theorem cmpN_eq {a b : ByteArray} (h : cmpN a b = 0) : a = b := by
 have := cmpB_eq _ _ h
 obtain ⟨⟨x⟩⟩ := a
 obtain ⟨⟨y⟩⟩ := b
 simp only at this
 rw [this]
def cfM (x y : RM) : Int := cmpN x.name y.name
theorem cmpM : Cmp cfM where
 irrefl x := by unfold cfM; rw [cmpN_self]; decide
 asymm x y h := by unfold cfM at *; rw [cmpN_neg]; omega
 ntrans x y z h1 h2 := cmpB_ntrans _ _ _ h1 h2
def cfJ {γ : Type} (x y : ByteArray × γ) : Int := cmpN x.1 y.1
theorem cmpJ {γ : Type} : Cmp (cfJ (γ := γ)) where
 irrefl x := by unfold cfJ; rw [cmpN_self]; decide
 asymm x y h := by unfold cfJ at *; rw [cmpN_neg]; omega
 ntrans x y z h1 h2 := cmpB_ntrans _ _ _ h1 h2
theorem compareString_any (a b : ByteArray) (w : World) :
 Calls Tryz.prog 102 #[.string a, .string b] w fun e w' => e = .returned (.int .i64 (cmpN a b)) /\ w' = w := by
 go_enter Tryz.func102, Tryz.ntmps102
 go_wp2
 rw [run_callFunc_extern Tryz.func122 (by kernel_rfl) (by kernel_rfl) (by kernel_rfl) (e := Extern.BytealgCompare.compare) (by kernel_rfl), Lib.run_compareString]
 simp only [Result.andThen]
 rw [Oper.upon_value]
 go_wp2
 go_ret
 exact ⟨rfl, rfl⟩
theorem compare_any (a b : ByteArray) (w : World) :
 Calls Tryz.prog 90 #[.string a, .string b] w fun e w' => e = .returned (.int .i64 (cmpN a b)) /\ w' = w := by
 go_enter Tryz.func90, Tryz.ntmps90
 go_wp2_with (go_at_call 102; refine (compareString_any _ _ _).mono ?_; rintro e w' ⟨rfl, rfl⟩)
 go_ret
 exact ⟨rfl, rfl⟩
end
section
open Go Go.RowKit Go.OpenShut
def textR (s : ByteArray) : RV := ⟨4, 0, s, none, 0, 0, none, 0, 0⟩
def textJ (s : ByteArray) : JV := .mk 4 0 s [] []
theorem textR_of (w : World) (S : Nat -> Prop) (s : ByteArray) : TreeS w S (textJ s) (textR s) := TreeS.leaf w S 4 0 s
abbrev RM.obj (r : RM) : Obj := .cells #[.string r.name, .int .i64 r.v.k, .int .i64 r.v.n, .string r.v.s, .slice r.v.pl r.v.nl r.v.cl, .slice r.v.pm r.v.nm r.v.cm] 46
def RV.oval (k n : Int) (s : ByteArray) (pl : Option Addr) (nl cl : Nat) (pm : Option Addr) (nm cm : Nat) : RV := ⟨k, n, s, pl, nl, cl, pm, nm, cm⟩
end
section
structure CmpOk {β : Type} (c : β -> β -> Int) : Prop where
 refl : ∀ x, c x x = 0
 anti : ∀ x y, c y x = - c x y
 trans : ∀ x y z, c x y <= 0 -> c y z <= 0 -> c x z <= 0
theorem CmpOk.on {β γ : Type} {c : β -> β -> Int} (h : CmpOk c) (f : γ -> β) : CmpOk (fun x y => c (f x) (f y)) := ⟨fun x => h.refl _, fun x y => h.anti _ _, fun x y z a b => h.trans _ _ _ a b⟩
theorem CmpOk.neg {β : Type} {c : β -> β -> Int} (h : CmpOk c) : CmpOk (fun x y => - c x y) :=
 ⟨fun x => by rw [h.refl]; rfl, fun x y => by rw [h.anti], fun x y z a b => by
  have h1 := h.anti x y
  have h2 := h.anti y z
  have h3 := h.anti x z
  have h4 := h.trans z y x (by omega) (by omega)
  omega⟩
theorem CmpOk.eqT {β : Type} {c : β -> β -> Int} (h : CmpOk c) {x y z : β} (h1 : c x y = 0) : c x z = c y z /\ True -> True := fun _ => trivial
theorem CmpOk.lex {β : Type} {c d : β -> β -> Int} (hc : CmpOk c) (hd : CmpOk d) : CmpOk (fun x y => if c x y ≠ 0 then c x y else d x y) := by
 refine ⟨fun x => by rw [if_neg (by rw [hc.refl]; simp), hd.refl], fun x y => ?_, fun x y z => ?_⟩
 ·have h1 := hc.anti x y
  by_cases h : c x y = 0
  ·rw [if_neg (by omega), if_neg (by omega)]; exact hd.anti x y
  ·rw [if_pos (by omega), if_pos (by omega)]; exact h1
 ·have axy := hc.anti x y
  have ayz := hc.anti y z
  have axz := hc.anti x z
  intro h1 h2
  have c1 : c x y <= 0 := by split at h1 <;> omega
  have c2 : c y z <= 0 := by split at h2 <;> omega
  have c3 := hc.trans x y z c1 c2
  by_cases h : c x z = 0
  ·have e1 : c x y = 0 := by
    have := hc.trans y z x c2 (by omega)
    omega
   have e2 : c y z = 0 := by
    have := hc.trans z x y (by omega) c1
    omega
   rw [if_neg (by omega)] at h1 h2
   rw [if_neg (by omega)]
   exact hd.trans x y z h1 h2
  ·rw [if_pos (by omega)]
   omega
theorem cmpBytes_ok : CmpOk Go.Lib.compareBytes := by
 refine ⟨cmpB_self, fun x y => cmpB_neg x y, ?_⟩
 intro x
 induction x with
 | nil =>
   intro y z h1 h2
   cases z with
   | nil => exact Int.le_refl _
   | cons c z => show (-1 : Int) <= 0; decide
 | cons a x ih =>
   intro y z h1 h2
   cases y with
   | nil => exact absurd h1 (by show ¬ (1 : Int) <= 0; decide)
   | cons b y =>
     cases z with
     | nil => exact absurd h2 (by show ¬ (1 : Int) <= 0; decide)
     | cons c z =>
       unfold Go.Lib.compareBytes at h1 h2 ⊢
       by_cases ab : a < b
       ·by_cases bc : b < c
        ·rw [if_pos (UInt8.lt_trans ab bc)]; decide
        ·rw [if_neg bc] at h2
         by_cases cb : c < b
         ·rw [if_pos cb] at h2; exact absurd h2 (by decide)
         ·have : b = c := UInt8.le_antisymm (UInt8.not_lt.1 cb) (UInt8.not_lt.1 bc)
          subst this
          rw [if_pos ab]; decide
       ·rw [if_neg ab] at h1
        by_cases ba : b < a
        ·rw [if_pos ba] at h1; exact absurd h1 (by decide)
        ·have : a = b := UInt8.le_antisymm (UInt8.not_lt.1 ba) (UInt8.not_lt.1 ab)
         subst this
         rw [if_neg ba] at h1
         by_cases bc : a < c
         ·rw [if_pos bc]; decide
         ·rw [if_neg bc] at h2 ⊢
          by_cases cb : c < a
          ·rw [if_pos cb] at h2; exact absurd h2 (by decide)
          ·rw [if_neg cb] at h2 ⊢
           exact ih y z h1 h2
theorem cmpS_ok : CmpOk cmpS := by
 refine ⟨fun x => ?_, fun x y => ?_, fun x y z => ?_⟩
 ·unfold cmpS
  cases secF x with
  | none => exact cmpB_self _
  | some a => dsimp only; rw [if_neg (by omega), if_neg (by omega)]; exact cmpB_self _
 ·unfold cmpS
  cases secF x with
  | none => cases secF y with
    | none => exact cmpB_neg _ _
    | some b => rfl
  | some a => cases secF y with
    | none => rfl
    | some b =>
      dsimp only
      by_cases h1 : a < b
      ·rw [if_neg (by omega), if_pos h1, if_pos h1]; decide
      ·by_cases h2 : b < a
       ·rw [if_pos h2, if_neg h1, if_pos h2]
       ·rw [if_neg h2, if_neg h1, if_neg h1, if_neg h2]; exact cmpB_neg _ _
 ·unfold cmpS
  cases hx : secF x with
  | none => cases hy : secF y with
    | none => cases hz : secF z with
      | none => exact cmpBytes_ok.trans _ _ _
      | some c => intro _ _; show (-1 : Int) <= 0; decide
    | some b => cases hz : secF z with
      | none => intro _ h; exact absurd h (show ¬ (1 : Int) <= 0 by decide)
      | some c => intro _ _; show (-1 : Int) <= 0; decide
  | some a => cases hy : secF y with
    | none => intro h; exact absurd h (show ¬ (1 : Int) <= 0 by decide)
    | some b => cases hz : secF z with
      | none => intro _ h; exact absurd h (show ¬ (1 : Int) <= 0 by decide)
      | some c =>
        dsimp only
        intro h1 h2
        by_cases ab : a < b
        ·by_cases cb : c < b
         ·rw [if_neg (by omega), if_pos cb] at h2; exact absurd h2 (by decide)
         ·rw [if_pos (by omega)]; decide
        ·rw [if_neg ab] at h1
         by_cases ba : b < a
         ·rw [if_pos ba] at h1; exact absurd h1 (by decide)
         ·rw [if_neg ba] at h1
          have : a = b := by omega
          subst this
          by_cases ac : a < c
          ·rw [if_pos ac]; decide
          ·rw [if_neg ac] at h2 ⊢
           by_cases ca : c < a
           ·rw [if_pos ca] at h2; exact absurd h2 (by decide)
           ·rw [if_neg ca] at h2 ⊢
            exact cmpBytes_ok.trans _ _ _ h1 h2
structure CmpD where
 prop : ByteArray
 down : Bool
def createdN : ByteArray := ⟨#[99, 114, 101, 97, 116, 101, 100]⟩
def updatedN : ByteArray := ⟨#[117, 112, 100, 97, 116, 101, 100]⟩
def givenN : ByteArray := ⟨#[110, 97, 109, 101, 47, 103, 105, 118, 101, 110]⟩
def surN : ByteArray := ⟨#[110, 97, 109, 101, 47, 115, 117, 114, 110, 97, 109, 101]⟩
def sur2N : ByteArray := ⟨#[110, 97, 109, 101, 47, 115, 117, 114, 110, 97, 109, 101, 50]⟩
def datedB (p : ByteArray) : Bool := decide (p = createdN) || decide (p = updatedN)
def nameN : ByteArray := ⟨#[110, 97, 109, 101]⟩
def compN : ByteArray := ⟨#[99, 111, 109, 112, 111, 110, 101, 110, 116, 115]⟩
def kindN : ByteArray := ⟨#[107, 105, 110, 100]⟩
def valueN : ByteArray := ⟨#[118, 97, 108, 117, 101]⟩
def textM (v : JV) (name : ByteArray) : List ByteArray := match v.get name with | some x => if x.k = 4 then [x.s] else [] | none => []
def partsJ (v : JV) (kind : ByteArray) : List ByteArray := match v.get compN with | some x => if x.k = 5 then (x.l.filter (fun c => decide (kind.size = 0) || decide (textM c kindN = [kind]))).flatMap (fun c => textM c valueN) else [] | none => []
def zeroJ : JV := .mk 0 0 ⟨#[]⟩ [] []
def nameK (v : JV) (p : ByteArray) : ByteArray := (partsJ ((v.get nameN).getD zeroJ) (p.extract 5 p.size)).headD ⟨#[]⟩
def stampK (v : JV) (p : ByteArray) : ByteArray := (textM v p).headD ⟨#[]⟩
def foldC (c : UInt8) : UInt8 := if 65 <= c /\ c <= 90 then c + 32 else c
def foldL (l : List UInt8) : List UInt8 := l.map foldC
def cmpK (c : CmpD) (a b : JV) : Int :=
 let n := if datedB c.prop then cmpS (stampK a c.prop).data.toList (stampK b c.prop).data.toList else Go.Lib.compareBytes (foldL (nameK a c.prop).data.toList) (foldL (nameK b c.prop).data.toList)
 if c.down then -n else n
theorem cmpK_ok (c : CmpD) : CmpOk (cmpK c) := by
 have h : CmpOk (fun a b => if datedB c.prop then cmpS (stampK a c.prop).data.toList (stampK b c.prop).data.toList else Go.Lib.compareBytes (foldL (nameK a c.prop).data.toList) (foldL (nameK b c.prop).data.toList)) := by
  cases datedB c.prop
  ·exact cmpBytes_ok.on (fun a => foldL (nameK a c.prop).data.toList)
  ·exact cmpS_ok.on (fun a => (stampK a c.prop).data.toList)
 unfold cmpK
 cases c.down
 ·exact h
 ·exact h.neg
def cmpO : List CmpD -> ByteArray × JV -> ByteArray × JV -> Int
 | [], a, b => Go.Lib.compareBytes a.1.data.toList b.1.data.toList
 | c :: cs, a, b => if cmpK c a.2 b.2 ≠ 0 then cmpK c a.2 b.2 else cmpO cs a b
theorem cmpO_ok : ∀ cs : List CmpD, CmpOk (cmpO cs)
 | [] => cmpBytes_ok.on (fun a : ByteArray × JV => a.1.data.toList)
 | c :: cs => ((cmpK_ok c).on (fun a : ByteArray × JV => a.2)).lex (cmpO_ok cs)
def aheadJ (cs : List CmpD) (a b : ByteArray × JV) : Bool := decide (cmpO cs a b < 0)
theorem CmpOk.lt {β : Type} {c : β -> β -> Int} (h : CmpOk c) : LtOk (fun a b => decide (c a b < 0)) :=
 ⟨fun a b h1 => by
  have h2 := of_decide_eq_true h1
  have h3 := h.anti a b
  exact decide_eq_false (by omega), fun a b x h1 h2 => by
  have h3 := of_decide_eq_false h1
  have h4 := of_decide_eq_false h2
  have h5 := h.anti b a
  have h6 := h.anti x b
  have h7 := h.trans a b x (by omega) (by omega)
  have h8 := h.anti a x
  exact decide_eq_false (by omega)⟩
theorem aheadJ_ok (cs : List CmpD) : LtOk (aheadJ cs) := (cmpO_ok cs).lt
theorem cmpO_id : ∀ (cs : List CmpD) {a b : ByteArray × JV}, cmpO cs a b = 0 -> a.1 = b.1
 | [], a, b, h => cmpN_eq h
 | c :: cs, a, b, h => by
   unfold cmpO at h
   split at h
   ·contradiction
   ·exact cmpO_id cs h
end
section
open Go Go.RowKit Go.OpenShut
theorem small_any (c : UInt8) (w : World) : Calls Tryz.prog 103 #[.int .u8 c.toNat] w fun e w' => e = .returned (.int .u8 (foldC c).toNat) /\ w = w' := by
 have hc := c.toNat_lt
 have hF : (foldC c).toNat = if 65 <= c.toNat /\ c.toNat <= 90 then c.toNat + 32 else c.toNat := by
  unfold foldC
  have h1 : (65 <= c /\ c <= 90) ↔ (65 <= c.toNat /\ c.toNat <= 90) := by rw [UInt8.le_iff_toNat_le, UInt8.le_iff_toNat_le]; rfl
  by_cases h : 65 <= c.toNat /\ c.toNat <= 90
  ·rw [if_pos (h1.2 h), if_pos h, UInt8.toNat_add]
   show (c.toNat + 32) % 256 = _
   omega
  ·rw [if_neg (fun e => h (h1.1 e)), if_neg h]
 obtain ⟨n, hn⟩ : ∃ n, c.toNat = n := ⟨_, rfl⟩
 obtain ⟨R, hR⟩ : ∃ n, (foldC c).toNat = n := ⟨_, rfl⟩
 rw [hn] at hF hc
 rw [hn, hR]
 rw [hR] at hF
 have HF := Lib.hid hF
 clear hF hR hn
 have hc' : (n : Int) < 256 := by omega
 have n0 : (0 : Int) <= (n : Int) := Int.natCast_nonneg _
 by_cases h1 : 65 <= n
 ·have q1 : decide ((65 : Int) <= (n : Int)) = true := decide_eq_true (by omega)
  by_cases h2 : n <= 90
  ·have q2 : decide ((n : Int) <= 90) = true := decide_eq_true (by omega)
   have HR : Hid (R = n + 32) := by unfold Hid; rw [HF.out, if_pos ⟨h1, h2⟩]
   have h2' : (n : Int) <= 90 := by omega
   go_enter Tryz.func103, Tryz.ntmps103
   go_wp2_with fail
   rw [HR.out]
   go_ret
   exact ⟨by simp, rfl⟩
  ·have q2 : decide ((n : Int) <= 90) = false := decide_eq_false (by omega)
   have HR : Hid (R = n) := by unfold Hid; rw [HF.out, if_neg (fun e => h2 e.2)]
   go_enter Tryz.func103, Tryz.ntmps103
   go_wp2_with fail
   rw [HR.out]
   go_ret
   exact ⟨rfl, rfl⟩
 ·have q1 : decide ((65 : Int) <= (n : Int)) = false := decide_eq_false (by omega)
  have HR : Hid (R = n) := by unfold Hid; rw [HF.out, if_neg (fun e => h1 e.1)]
  go_enter Tryz.func103, Tryz.ntmps103
  go_wp2_with fail
  rw [HR.out]
  go_ret
  exact ⟨rfl, rfl⟩
def encBt (l : List UInt8) : List Value := l.map (fun b => Value.int .u8 b.toNat)
def BtAt (W : World) (g : Nat) (l : List UInt8) : Prop := ∃ cs : Array Value, W.heap[g]? = some (.cells cs 5 (cs.size, cs.size + 1)) /\ cs.toList.take l.length = encBt l /\ l.length <= cs.size
theorem BtAt.lt {W : World} {g : Nat} {l : List UInt8} (h : BtAt W g l) : g < W.heap.size := by
 obtain ⟨cs, h1, _⟩ := h
 exact (Array.getElem?_eq_some_iff.1 h1).1
theorem BtAt.cell {W : World} {g : Nat} {l : List UInt8} (h : BtAt W g l) {j : Nat} (hj : j < l.length) : W.cell? ⟨g, j, none⟩ = some (.int .u8 (l[j].toNat : Int)) := by
 obtain ⟨cs, h1, h2, h3⟩ := h
 rw [cell_of_row W g j _ _ _ h1]
 have h4 := congrArg (fun x => x[j]?) h2
 simp only [List.getElem?_take, if_pos hj] at h4
 rw [<- Array.getElem?_toList, h4]
 unfold encBt
 rw [List.getElem?_map, List.getElem?_eq_getElem hj]
 rfl
theorem BtAt.frozen {W : World} {g : Nat} {l : List UInt8} (h : BtAt W g l) {j : Nat} (hj : j < l.length) : W.frozen? ⟨g, j, none⟩ = false := by
 obtain ⟨cs, h1, h2, h3⟩ := h
 simp [World.frozen?, h1]
 omega
theorem BtAt.set {W : World} {g : Nat} {l : List UInt8} (h : BtAt W g l) {j : Nat} (hj : j < l.length) (c : UInt8) : BtAt (W.setCell ⟨g, j, none⟩ (.int .u8 c.toNat)) g (l.set j c) := by
 obtain ⟨cs, h1, h2, h3⟩ := h
 refine ⟨cs.setIfInBounds j (.int .u8 c.toNat), ?_, ?_, by simpa using h3⟩
 ·simp [World.setCell, Array.getElem?_modify, h1]
  try omega
 ·rw [List.length_set, Array.toList_setIfInBounds, List.take_set, h2]
  unfold encBt
  rw [List.map_set]
theorem BtAt.fresh (w : World) (s : ByteArray) (n : Nat) : BtAt (w.alloc (.cells (bytesRow s n) 5 ((bytesRow s n).size, (bytesRow s n).size + 1))) w.heap.size s.data.toList := by
 refine ⟨bytesRow s n, heap_alloc_at rfl, ?_, ?_⟩
 ·unfold bytesRow encBt
  rw [Array.toList_append, Array.toList_map, List.take_left' (by simp)]
 ·unfold bytesRow
  simp
theorem BtAt.back {W : World} {g : Nat} {l : List UInt8} (h : BtAt W g l) {n : Nat} (hn : n = l.length) (c : Nat) : (convert 130 9 (.slice (some ⟨g, 0, none⟩) n c)).run Tryz.prog W = .ok (.string (toB l)) W := by
 subst hn
 refine run_convert_bytes_back W _ _ _ _ c l Tryz.underlying130 Tryz.underlying5 Tryz.underlying9 (fun j hj => ?_)
 have e : (⟨g, 0, none⟩ : Addr).add j = ⟨g, j, none⟩ := by simp [Addr.add]; try (intro h; exact h.symm)
 rw [e]
 exact h.cell hj
def foldN (l : List UInt8) (k : Nat) : List UInt8 := foldL (l.take k) ++ l.drop k
theorem foldN_len (l : List UInt8) (k : Nat) : (foldN l k).length = l.length := by unfold foldN foldL; rw [List.length_append, List.length_map, List.length_take, List.length_drop]; omega
theorem foldN_get {l : List UInt8} {k : Nat} (h : k < l.length) : (foldN l k)[k]? = some l[k] := by
 unfold foldN foldL
 rw [List.getElem?_append_right (by rw [List.length_map, List.length_take]; omega), List.length_map, List.length_take, show k - min k l.length = 0 by omega, List.getElem?_drop]
 simp [List.getElem?_eq_getElem h]
theorem foldN_succ {l : List UInt8} {k : Nat} (h : k < l.length) : foldN l (k + 1) = (foldN l k).set k (foldC l[k]) := by
 unfold foldN foldL
 have hlen : (List.map foldC (l.take k)).length = k := by rw [List.length_map, List.length_take]; omega
 rw [List.set_append_right _ _ (by omega), hlen, Nat.sub_self, List.take_succ_eq_append_getElem h, List.map_append, List.append_assoc, List.drop_eq_getElem_cons h]
 rfl
theorem foldN_all (l : List UInt8) : foldN l l.length = foldL l := by unfold foldN; rw [List.take_length, List.drop_length, List.append_nil]
theorem fold_any (s : ByteArray) (w : World) (hs : s.size <= maxLen) : Calls Tryz.prog 91 #[.string s] w fun e w' => e = .returned (.string (toB (foldL s.data.toList))) /\ Below w.heap.size w w' := by
 have hsz : s.data.toList.length = s.size := by rw [Array.length_toList]; rfl
 unfold maxLen at hs
 have hconv := run_bytes_of_string (P := Tryz.prog) w 9 130 5 s Tryz.underlying9 Tryz.underlying130 Tryz.underlying5
 have hF := BtAt.fresh w s (grownCap w s.size 0 5)
 have hB : Below w.heap.size w (w.alloc (.cells (bytesRow s (grownCap w s.size 0 5)) 5 ((bytesRow s (grownCap w s.size 0 5)).size, (bytesRow s (grownCap w s.size 0 5)).size + 1))) := (Below.refl _ _).alloc (Nat.le_refl _) _
 obtain ⟨K, hK⟩ : ∃ K, grownCap w s.size 0 5 = K := ⟨_, rfl⟩
 rw [hK] at hconv hF hB
 obtain ⟨C, hC⟩ : ∃ C, bytesRow s K = C := ⟨_, rfl⟩
 rw [hC] at hconv hF hB
 have HF := Lib.hid hF
 have HB := Lib.hid hB
 have HSZ := Lib.hid hsz
 have s0 : (0 : Int) <= (s.size : Int) := Int.natCast_nonneg _
 clear hF hB hK hC hsz
 go_enter Tryz.func91, Tryz.ntmps91
 go_upto_region 2 with fail
 obtain ⟨W1, hW1⟩ : ∃ W1, (w.alloc (.cells C 5 (C.size, C.size + 1))) = W1 := ⟨_, rfl⟩
 rw [hW1] at HF HB
 try rw [hW1]
 clear hconv
 go_wp2_with fail
 have HF1 : Hid (BtAt W1.drew w.heap.size s.data.toList) := HF.out
 have HB1 : Hid (Below w.heap.size w W1.drew) := HB.out.drew
 clear HF HB
 have hw1 : w.heap.size < W1.drew.heap.size := HF1.out.lt
 obtain ⟨W2, hW2⟩ : ∃ W2, W1.drew = W2 := ⟨_, rfl⟩
 rw [hW2] at HF1 HB1 hw1
 rw [hW2]
 clear hW2 hW1 W1 hw1
 go_loopw [10] (fun i wr => ∃ k : Nat, k <= s.size /\ i = .int .i64 (k : Int) /\ Hid (BtAt wr w.heap.size (foldN s.data.toList k)) /\ Hid (Below w.heap.size w wr)) (fun i _ => s.size - (intOf i).toNat)
 case atStart =>
  refine ⟨0, by omega, rfl, ?_, HB1.out⟩
  have e : foldN s.data.toList 0 = s.data.toList := by unfold foldN foldL; simp
  rw [e]
  exact HF1.out
 case round =>
  obtain ⟨k, hk, rfl, hbt, hbl⟩ := hrel
  have hk0 : (0 : Int) <= (k : Int) := Int.natCast_nonneg _
  by_cases hlt : k < s.size
  ·have hks : (k : Int) < (s.size : Int) := by omega
   have q1 : decide ((k : Int) < (s.size : Int)) = true := decide_eq_true hks
   have hlt' : k < s.data.toList.length := by rw [HSZ.out]; exact hlt
   have hj : k < (foldN s.data.toList k).length := by rw [foldN_len]; exact hlt'
   have hcl := hbt.out.cell hj
   have hgx : (foldN s.data.toList k)[k] = s.data.toList[k] := by
    have h1 := foldN_get hlt'
    rw [List.getElem?_eq_getElem hj] at h1
    exact Option.some.inj h1
   have hst := hbt.out.set hj (foldC s.data.toList[k])
   rw [<- foldN_succ hlt'] at hst
   rw [hgx] at hcl
   have hfz := hbt.out.frozen hj
   have hwl := hbt.out.lt
   obtain ⟨c, hc⟩ : ∃ c, s.data.toList[k] = c := ⟨_, rfl⟩
   rw [hc] at hcl hst
   have HST := Lib.hid hst
   have HSM : Hid (∀ W, Calls Tryz.prog 103 #[.int .u8 c.toNat] W fun e w' => e = .returned (.int .u8 (foldC c).toNat) /\ W = w') := fun W => small_any c W
   have hsb := (foldC c).toNat_lt
   obtain ⟨d, hd⟩ : ∃ d, (foldC c).toNat = d := ⟨_, rfl⟩
   rw [hd] at HST HSM hsb
   have hd256 : (d : Int) < 256 := by omega
   have hd0 : (0 : Int) <= (d : Int) := Int.natCast_nonneg _
   clear hst hc hgx hj hlt' hd hsb
   go_wp2_with (first | (go_at_call 103; refine (HSM.out _).mono ?_; rintro e w1 ⟨rfl, rfl⟩) | fail)
   go_roundw
   case rel =>
    refine ⟨k + 1, by omega, by go_num, HST.out, hbl.out.setCell (p := ⟨w.heap.size, k, none⟩) (Nat.le_refl _) _⟩
   case measure => simp [intOf]; omega
  ·obtain rfl : k = s.size := by omega
   have q1 : decide ((s.size : Int) < (s.size : Int)) = false := decide_eq_false (by omega)
   have e : foldN s.data.toList s.size = foldL s.data.toList := by rw [<- HSZ.out]; exact foldN_all _
   rw [e] at hbt
   have hback := hbt.out.back (n := s.size) (by unfold foldL; rw [List.length_map, HSZ.out]) K
   go_wp2_with fail
   go_ret
   exact ⟨rfl, hbl.out⟩
theorem fcomp_any (s t : ByteArray) (w : World) (hs : s.size <= maxLen) (ht : t.size <= maxLen) : Calls Tryz.prog 72 #[.string s, .string t] w fun e w' => e = .returned (.int .i64 (Go.Lib.compareBytes (foldL s.data.toList) (foldL t.data.toList))) /\ Below w.heap.size w w' := by
 have HA : Hid (∀ W, Calls Tryz.prog 91 #[.string s] W fun e w' => e = .returned (.string (toB (foldL s.data.toList))) /\ Below W.heap.size W w') := fun W => fold_any s W hs
 have HB : Hid (∀ W, Calls Tryz.prog 91 #[.string t] W fun e w' => e = .returned (.string (toB (foldL t.data.toList))) /\ Below W.heap.size W w') := fun W => fold_any t W ht
 have HC : Hid (∀ W, Calls Tryz.prog 90 #[.string (toB (foldL s.data.toList)), .string (toB (foldL t.data.toList))] W fun e w' => e = .returned (.int .i64 (Go.Lib.compareBytes (foldL s.data.toList) (foldL t.data.toList))) /\ W = w') := fun W => comp_any _ _ W
 obtain ⟨X, hX⟩ : ∃ X, toB (foldL s.data.toList) = X := ⟨_, rfl⟩
 obtain ⟨Y, hY⟩ : ∃ X, toB (foldL t.data.toList) = X := ⟨_, rfl⟩
 obtain ⟨R, hR⟩ : ∃ X, Go.Lib.compareBytes (foldL s.data.toList) (foldL t.data.toList) = X := ⟨_, rfl⟩
 rw [hX] at HA HC
 rw [hY] at HB HC
 rw [hR] at HC
 rw [hR]
 clear hX hY hR hs ht
 go_enter Tryz.func72, Tryz.ntmps72
 go_wp2_with (first | (go_at_call 91; with_reducible refine (HA.out _).mono ?_; rintro e w1 ⟨rfl, hb1⟩) | (go_at_call 91; with_reducible refine (HB.out _).mono ?_; rintro e w2 ⟨rfl, hb2⟩) | (go_at_call 90; refine (HC.out _).mono ?_; rintro e w3 ⟨rfl, rfl⟩) | fail)
 go_ret
 exact ⟨rfl, hb1.trans (hb2.mono hb1.size)⟩
end
section
open Go.RowKit
def OwnRet {α : Type} (w : World) (t : TypeId) (enc : α -> List Value) (sz : Nat) (xs : List α) (e : Ending) (w' : World) : Prop :=
 ∃ u, e = .returned u /\ Own w' w.heap.size t enc sz u xs /\ Below w.heap.size w w'
end
section
open Go Go.RowKit Go.ChangeShapes Go.WideShapes Go.Deep
section
variable {H : Type} {enc : TypeId × Value -> H} {W : World} {base b0 : Nat} {spare : Nat -> Bool} {held : Bool}
theorem cel1 : Tryz.prog.cellsOf 2 = 1 := by kernel_rfl
theorem cel2 : Tryz.prog.cellsOf 3 = 1 := by kernel_rfl
theorem cel3 : Tryz.prog.cellsOf 9 = 1 := by kernel_rfl
theorem cel4 : Tryz.prog.cellsOf 22 = 1 := by kernel_rfl
theorem cel5 : Tryz.prog.cellsOf 23 = 1 := by kernel_rfl
theorem weights_string {t : TypeId} {s : ByteArray} {R : Nat} (h : ∀ n ∈ (DataW.lit (H := H) (.string s.data.toList)).weights Tryz.prog t, n <= R) : s.size <= R := by
 have := h s.data.toList.length (by simp [DataW.weights])
 simpa using this
theorem open_val : ∀ (fuel : Nat) (cs : List Value) (x : DataW H × List MemPlace), DataW.trod enc Tryz.prog W base spare held fuel 25 cs = some x ->
 ∃ r t, cs = encV r /\ TreeOf W W.heap.size t r /\ ((∀ n ∈ x.1.weights Tryz.prog 25, n <= 140737488351232) -> t.Ok) := by
 intro fuel
 induction fuel using Nat.strongRecOn with
 | ind fuel ih =>
   intro cs x h
   obtain ⟨y0, y1, y2, y3, y4, n, rfl, hx1, hlen, t0, t1, t2, t3, t4⟩ := trodF5 Tryz.underlying25 h
   rw [cellsV] at hlen
   obtain ⟨c0, c1, c2, c3, c4, rfl⟩ : ∃ c0 c1 c2 c3 c4, cs = [c0, c1, c2, c3, c4] := by
    match cs, hlen with
    | [a, b, c, d, e], _ => exact ⟨a, b, c, d, e, rfl⟩
   rw [hx1]
   dsimp only at t0 t1 t2 t3 t4
   rw [cel2] at t0
   rw [cel1] at t1
   rw [cel3] at t2
   rw [cel4] at t3
   rw [cel5] at t4
   simp only [List.drop_zero, List.drop_succ_cons, List.take_succ_cons, List.take_zero] at t0 t1 t2 t3 t4
   obtain ⟨k, e0, f0, w0⟩ := DataW.trod_int Tryz.underlying3 t0
   obtain ⟨n', e1, f1, w1⟩ := DataW.trod_int Tryz.underlying2 t1
   obtain ⟨s, e2, f2, w2⟩ := DataW.trod_string Tryz.underlying9 t2
   simp only [List.cons.injEq, and_true] at e0 e1 e2
   subst e0 e1 e2 f0 f1 f2
   obtain ⟨pl, nl, cl, rs, e3, hr3, hd3⟩ := open_list (Q := fun (r : RV) (d : DataW H) => ∃ t, TreeOf W W.heap.size t r /\ ((∀ n ∈ d.weights Tryz.prog 25, n <= 140737488351232) -> t.Ok)) Tryz.underlying22 cellsV codecV t3
    (fun m hm cs y hy => by
     obtain ⟨r, t, h1, h2⟩ := ih m (by omega) cs y hy
     exact ⟨r, h1, t, h2⟩)
   obtain ⟨pm, nm, cm, rms, e4, hr4, hd4⟩ := open_list (Q := fun (r : RM) (d : DataW H) => ∃ t, TreeOf W W.heap.size t r.v /\ ((∀ n ∈ d.weights Tryz.prog 46, n <= 140737488351232) -> r.name.size <= 140737488351232 /\ t.Ok)) Tryz.underlying23 cellsM codecM t4
    (fun m hm cs y hy => by
     obtain ⟨z0, z1, j, rfl, hy1, hlen, u0, u1⟩ := trodF2 Tryz.underlying46 hy
     rw [cellsM] at hlen
     obtain ⟨a0, a1, a2, a3, a4, a5, rfl⟩ : ∃ a0 a1 a2 a3 a4 a5, cs = [a0, a1, a2, a3, a4, a5] := by
      match cs, hlen with
      | [a, b, c, d, e, f], _ => exact ⟨a, b, c, d, e, f, rfl⟩
     rw [hy1]
     dsimp only at u0 u1
     rw [cel3] at u0
     rw [cellsV] at u1
     simp only [List.drop_zero, List.drop_succ_cons, List.take_succ_cons, List.take_zero] at u0 u1
     obtain ⟨nm, g0, g1, g2⟩ := DataW.trod_string Tryz.underlying9 u0
     simp only [List.cons.injEq, and_true] at g0
     subst g0 g1
     obtain ⟨r, t, h1, h2, h3⟩ := ih j (by omega) _ _ u1
     refine ⟨⟨nm, r⟩, by rw [h1]; rfl, t, h2, fun hw => ⟨weights_string (weights_struct Tryz.underlying46 hw (i := 0) rfl rfl), h3 (weights_struct Tryz.underlying46 hw (i := 1) rfl rfl)⟩⟩)
   simp only [List.cons.injEq, and_true] at e3 e4
   subst e3 e4
   have nl_eq : nl = rs.length := by
    obtain ⟨_, _, e, _⟩ := hr3
    simp only [Value.slice.injEq] at e; exact e.2.1
   have nm_eq : nm = rms.length := by
    obtain ⟨_, _, e, _⟩ := hr4
    simp only [Value.slice.injEq] at e; exact e.2.1
   have hL : ∀ i, i < rs.length -> ∃ t : JV, ∀ q, rs[i]? = some q -> TreeOf W W.heap.size t q /\ ((∀ n ∈ y3.1.weights Tryz.prog 22, n <= 140737488351232) -> t.Ok) := by
    intro i hi
    obtain ⟨q, hq⟩ : ∃ q, rs[i]? = some q := ⟨_, List.getElem?_eq_getElem hi⟩
    rcases hd3 with ⟨rfl, _⟩ | ⟨es, sp, h1, h2, h3⟩
    ·simp at hi
    ·obtain ⟨d, hd, t, ht1, ht2⟩ := h3 i q hq
     refine ⟨t, fun q' hq' => ?_⟩
     rw [hq] at hq'
     cases hq'
     refine ⟨ht1, fun hw => ht2 ?_⟩
     rw [h1] at hw
     exact (weights_slice Tryz.underlying22 hw).2 d (List.mem_of_getElem? hd)
   have hM : ∀ i, i < rms.length -> ∃ p : ByteArray × JV, ∀ q, rms[i]? = some q -> p.1 = q.name /\ TreeOf W W.heap.size p.2 q.v /\ ((∀ n ∈ y4.1.weights Tryz.prog 23, n <= 140737488351232) -> p.1.size <= 140737488351232 /\ p.2.Ok) := by
    intro i hi
    obtain ⟨q, hq⟩ : ∃ q, rms[i]? = some q := ⟨_, List.getElem?_eq_getElem hi⟩
    rcases hd4 with ⟨rfl, _⟩ | ⟨es, sp, h1, h2, h3⟩
    ·simp at hi
    ·obtain ⟨d, hd, t, ht1, ht2⟩ := h3 i q hq
     refine ⟨(q.name, t), fun q' hq' => ?_⟩
     rw [hq] at hq'
     cases hq'
     refine ⟨rfl, ht1, fun hw => ht2 ?_⟩
     rw [h1] at hw
     exact (weights_slice Tryz.underlying23 hw).2 d (List.mem_of_getElem? hd)
   obtain ⟨ts, hts, hts2⟩ := list_of rs.length hL
   obtain ⟨ps, hps, hps2⟩ := list_of rms.length hM
   refine ⟨⟨k, n', s, pl, nl, cl, pm, nm, cm⟩, .mk k n' s ts ps, rfl, ?_, fun hw => ?_⟩
   ·exact TreeOf.mk (r := ⟨k, n', s, pl, nl, cl, pm, nm, cm⟩) hr3 hts (fun i t q h1 h2 => (hts2 i t h1 q h2).1) hr4 hps (fun i p q h1 h2 => (hps2 i p h1 q h2).1) (fun i p q h1 h2 => (hps2 i p h1 q h2).2.1)
   ·have v2 := weights_string (weights_struct Tryz.underlying25 hw (i := 2) rfl rfl)
    have v3 : ∀ n ∈ y3.1.weights Tryz.prog 22, n <= 140737488351232 := weights_struct Tryz.underlying25 hw (i := 3) rfl rfl
    have v4 : ∀ n ∈ y4.1.weights Tryz.prog 23, n <= 140737488351232 := weights_struct Tryz.underlying25 hw (i := 4) rfl rfl
    refine .mk w0 w1 v2 ?_ ?_ (fun i x hx => ?_) (fun i p hp => ?_) (fun i p hp => ?_)
    ·rcases hd3 with ⟨rfl, _⟩ | ⟨es, sp, h1, h2, _⟩
     ·rw [hts]; simp
     ·rw [h1] at v3
      have := (weights_slice Tryz.underlying22 v3).1
      rw [bytesV] at this
      omega
    ·rcases hd4 with ⟨rfl, _⟩ | ⟨es, sp, h1, h2, _⟩
     ·rw [hps]; simp
     ·rw [h1] at v4
      have := (weights_slice Tryz.underlying23 v4).1
      rw [bytesM] at this
      omega
    ·obtain ⟨q, hq⟩ : ∃ q, rs[i]? = some q := ⟨_, List.getElem?_eq_getElem (by have := (List.getElem?_eq_some_iff.1 hx).1; omega)⟩
     exact (hts2 i x hx q hq).2 v3
    ·obtain ⟨q, hq⟩ : ∃ q, rms[i]? = some q := ⟨_, List.getElem?_eq_getElem (by have := (List.getElem?_eq_some_iff.1 hp).1; omega)⟩
     exact ((hps2 i p hp q hq).2.2 v4).1
    ·obtain ⟨q, hq⟩ : ∃ q, rms[i]? = some q := ⟨_, List.getElem?_eq_getElem (by have := (List.getElem?_eq_some_iff.1 hp).1; omega)⟩
     exact ((hps2 i p hp q hq).2.2 v4).2
theorem open_value {v : Value} {d : DataW H} {p : List MemPlace} (hval : Value.okWide Tryz.prog W .any b0 25 v) (h : DataW.Trod enc Tryz.prog W base spare held 25 v d p) :
 ∃ r t, v = RV.val r /\ TreeOf W W.heap.size t r /\ ((∀ n ∈ d.weights Tryz.prog 25, n <= 140737488351232) -> t.Ok) := by
 obtain ⟨cs, rfl, hsz⟩ := okWide_struct Tryz.underlying25 hval
 obtain ⟨fuel, hf⟩ := h
 obtain ⟨r, t, h1, h2, h3⟩ := open_val fuel _ _ hf
 refine ⟨r, t, ?_, h2, h3⟩
 have : cs = (encV r).toArray := by
  apply Array.ext'
  simpa [Value.cells] using h1
 rw [this]
 rfl
end
#print axioms open_value
end
section
open Go.RowKit
theorem ret_bool {a b : Bool} (h : a = b) : Ending.returned (.bool a) = .returned (.bool b) := by rw [h]
def mayB (was what : Int) : Bool := if what = 1 then was == 0 else if what = 2 \/ what = 3 then was != 3 else false
structure En where
 seq : Int
 id : ByteArray
 what : Int
deriving DecidableEq
def En.ok (e : En) : Prop := (Lit.int .i64 e.seq).wf = true /\ e.id.size <= maxLen /\ (Lit.int .i64 e.what).wf = true
theorem toList_beq (a b : ByteArray) : (a.toList == b.toList) = decide (a = b) := by
 rw [ByteArray.toList_eq, ByteArray.toList_eq]
 obtain ⟨⟨x⟩⟩ := a
 obtain ⟨⟨y⟩⟩ := b
 by_cases h : x = y
 ·simp [h]
 ·simp [h]
def En.eqv (a b : En) : Bool := a.seq == b.seq && a.id.toList == b.id.toList && a.what == b.what
def enAt (w : World) (b o : Nat) (e : Option En) : Prop := ∃ x, e = some x /\ w.cell? ⟨b, o, none⟩ = some (.int .i64 x.seq) /\ w.cell? ⟨b, o + 1, none⟩ = some (.string x.id) /\ w.cell? ⟨b, o + 2, none⟩ = some (.int .i64 x.what)
def RdE (w : World) (B : Nat) (v : Value) (es : List En) : Prop :=
 (∀ e ∈ es, e.ok) /\ ∃ (p : Option Addr) (cap : Nat), v = .slice p es.length cap /\ es.length <= cap /\ cap <= maxLen /\ (p = none -> cap = 0) /\
  ∀ a, p = some a -> 0 < es.length -> ∃ b o, a = ⟨b, o, none⟩ /\ b < B /\ ∀ i, i < es.length -> enAt w b (o + i * 3) es[i]?
def sameE : List En -> List En -> Bool
 | [], [] => true
 | a :: l, b :: m => a.eqv b && sameE l m
 | _, _ => false
theorem slice_at {p : Option Addr} {cap n k B : Nat} {C : Nat -> Nat -> Nat -> Prop} (h0 : p = none -> cap = 0)
 (h : ∀ a, p = some a -> 0 < n -> ∃ b o, a = ⟨b, o, none⟩ /\ b < B /\ ∀ i, i < n -> C b o i) (hk : k < n /\ n <= cap) : ∃ b o, p = some ⟨b, o, none⟩ /\ b < B /\ ∀ i, i < n -> C b o i := by
 cases p with
 | none => have := h0 rfl; omega
 | some a => obtain ⟨b, o, rfl, hb, hc⟩ := h a rfl (by omega); exact ⟨b, o, rfl, hb, hc⟩
theorem sameE_snoc {l m : List En} {k : Nat} {x y : En} (hx : l[k]? = some x) (hy : m[k]? = some y) : sameE (l.take (k + 1)) (m.take (k + 1)) = (sameE (l.take k) (m.take k) && x.eqv y) := by
 induction k generalizing l m with
 | zero => cases l <;> cases m <;> simp_all [sameE]
 | succ k ih =>
   cases l with
   | nil => simp at hx
   | cons a l => cases m with
     | nil => simp at hy
     | cons b m => simp only [List.getElem?_cons_succ] at hx hy; simp only [List.take_succ_cons, sameE]; rw [ih hx hy, Bool.and_assoc]
theorem sameE_false {l m : List En} {k : Nat} {x y : En} (hx : l[k]? = some x) (hy : m[k]? = some y) (h : x.eqv y = false) : sameE l m = false := by
 induction k generalizing l m with
 | zero => cases l <;> cases m <;> simp_all [sameE]
 | succ k ih =>
   cases l with
   | nil => simp at hx
   | cons a l => cases m with
     | nil => simp at hy
     | cons b m => simp only [List.getElem?_cons_succ] at hx hy; simp only [sameE]; rw [ih hx hy, Bool.and_false]
theorem sameE_len {l m : List En} (h : l.length ≠ m.length) : sameE l m = false := by
 induction l generalizing m with
 | nil => cases m <;> simp_all [sameE]
 | cons a l ih => cases m with
   | nil => simp [sameE]
   | cons b m => simp only [sameE]; rw [ih (by simpa using h), Bool.and_false]
theorem eqv_eq (a b : En) : a.eqv b = decide (a = b) := by
 obtain ⟨s, i, x⟩ := a
 obtain ⟨t, j, y⟩ := b
 unfold En.eqv
 rw [toList_beq]
 by_cases h1 : s = t <;> by_cases h2 : i = j <;> by_cases h3 : x = y <;> simp [h1, h2, h3]
theorem sameE_eq (l m : List En) : sameE l m = decide (l = m) := by
 induction l generalizing m with
 | nil => cases m <;> simp [sameE]
 | cons a l ih => cases m with
   | nil => simp [sameE]
   | cons b m => simp only [sameE, ih, eqv_eq]; by_cases h1 : a = b <;> by_cases h2 : l = m <;> simp [h1, h2]
end
end Go.Proofs.YtjhginendpjimaaGreatDoor
