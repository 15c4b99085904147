import Derived.Test.YtffhccmppdgmfaaGreatDoorB07
import Derived.Deep.RegionHeld3
import Derived.Test.YtffhccmppdgmfaaGreatDoorB00
import Derived.Shelf.SlSortCmp.KitK
import Derived.Test.YtffhccmppdgmfaaGreatDoorB01
set_option linter.unusedSimpArgs false
set_option linter.unusedVariables false
set_option maxRecDepth 200000
set_option maxHeartbeats 8000000
namespace Go.Proofs.YtffhccmppdgmfaaGreatDoor
section
open Go Go.RowKit Go.OpenShut
theorem numL_low {n : Int} (h0 : 0 <= n) (h1 : n < 10) : numL n = [UInt8.ofNat (48 + n.toNat)] := by
 unfold numL
 rw [if_neg (by omega), natD, if_pos (by omega)]
 have : n.natAbs = n.toNat := by omega
 rw [this]; rfl
theorem numL_lowNeg {n : Int} (h0 : n < 0) (h1 : -10 < n) : numL n = [45, UInt8.ofNat (48 + (-n).toNat)] := by
 unfold numL
 rw [if_pos h0, natD, if_pos (by omega)]
 have : n.natAbs = (-n).toNat := by omega
 rw [this]; rfl
theorem numL_pos {n : Int} (h : 10 <= n) : numL n = numL (n.tdiv 10) ++ [UInt8.ofNat (48 + (n.tmod 10).toNat)] := by
 obtain ⟨m, rfl⟩ := Int.eq_ofNat_of_zero_le (show 0 <= n by omega)
 have e1 : (m : Int).tdiv 10 = ((m / 10 : Nat) : Int) := rfl
 have e2 : (m : Int).tmod 10 = ((m % 10 : Nat) : Int) := rfl
 rw [e1, e2]
 unfold numL
 rw [if_neg (by omega), if_neg (by omega)]
 simp only [List.nil_append, Int.natAbs_natCast, Int.toNat_natCast]
 exact natD_high (by omega)
theorem numL_neg {n : Int} (h : n <= -10) : numL n = numL (n.tdiv 10) ++ [UInt8.ofNat (48 + (0 - n.tmod 10).toNat)] := by
 obtain ⟨m, hm⟩ := Int.eq_ofNat_of_zero_le (show 0 <= -n by omega)
 obtain rfl : n = -(m : Int) := by omega
 have e1 : (-(m : Int)).tdiv 10 = -((m / 10 : Nat) : Int) := by rw [Int.neg_tdiv]; rfl
 have e2 : (-(m : Int)).tmod 10 = -((m % 10 : Nat) : Int) := by rw [Int.neg_tmod]; rfl
 rw [e1, e2]
 unfold numL
 rw [if_pos (by omega), if_pos (by omega)]
 have e3 : (0 - -((m % 10 : Nat) : Int)).toNat = m % 10 := by omega
 rw [e3]
 simp only [Int.natAbs_neg, Int.natAbs_natCast, List.append_assoc]
 rw [natD_high (by omega)]
theorem cell_u8 {W : World} {a : Addr} {i : Int} (c : Nat) (hc : c < 256) (e : (c : Int) = i) (h : W.cell? a = some (.int .u8 i)) : W.cell? a = some (.int .u8 (UInt8.ofNat c).toNat) := by
 rw [h, <- e]
 simp only [UInt8.toNat_ofNat', Nat.reducePow]
 rw [Nat.mod_eq_of_lt hc]
theorem str_two (W : World) (b : Nat) (x y : UInt8) (h : W.cell? ⟨b, 0, none⟩ = some (.int .u8 x.toNat)) (h2 : W.cell? ⟨b, 1, none⟩ = some (.int .u8 y.toNat)) : (convert 160 9 (.slice (some ⟨b, 0, none⟩) 2 2)).run Tryz.prog W = .ok (.string (toB [x, y])) W := by
 refine run_convert_bytes_back W _ _ _ _ 2 [x, y] Tryz.underlying160 Tryz.underlying5 Tryz.underlying9 (fun j hj => ?_)
 have : j = 0 \/ j = 1 := by simp at hj; omega
 rcases this with rfl | rfl
 ·rw [add_eq]
  exact h
 ·rw [add_eq]
  exact h2
def Put3Ret (w : World) (n : Int) (e : Ending) (w' : World) : Prop := e = .returned (.string (toB (numL n))) /\ Below w.heap.size w w'
theorem quo_pos {n : Int} (h : 10 <= n) : 0 <= n % 10 /\ n % 10 <= 9 /\ 0 <= n / 10 /\ n / 10 < n := by omega
theorem numL_pos' {n : Int} (h : 10 <= n) : numL n = numL (n / 10) ++ [UInt8.ofNat (48 + (n % 10).toNat)] := by
 rw [numL_pos h, Int.tdiv_eq_ediv_of_nonneg (by omega), Int.tmod_eq_emod_of_nonneg (by omega)]
end
section
def digU (b : UInt8) : Bool := decide (48 <= b.toNat) && decide (b.toNat <= 57)
def stepD (n : Int) (b : UInt8) : Int := n * 10 + ((b.toNat : Int) - 48)
def valD (l : List UInt8) : Int := l.foldl stepD 0
def dOk (l : List UInt8) : Bool := (!l.isEmpty && l.all digU) && ((decide (l.length = 1) || decide (l.head? ≠ some 48)) && decide (valD l <= 9007199254740991))
def allN (l : List UInt8) : Option Int := if l.head? = some 45 then (if dOk l.tail && decide (l.tail ≠ [48]) then some (0 - valD l.tail) else none) else (if dOk l then some (valD l) else none)
theorem valD_snoc (r : List UInt8) (b : UInt8) : valD (r ++ [b]) = stepD (valD r) b := by unfold valD; rw [List.foldl_append]; rfl
theorem foldD_le : ∀ (l : List UInt8) (n : Int), l.all digU = true -> 0 <= n -> n <= l.foldl stepD n
 | [], n, _, _ => Int.le_refl _
 | b :: l, n, h, h0 => by
   rw [List.all_cons, Bool.and_eq_true] at h
   have hb := h.1
   unfold digU at hb
   rw [Bool.and_eq_true, decide_eq_true_eq, decide_eq_true_eq] at hb
   have h1 : n <= stepD n b := by unfold stepD; omega
   exact Int.le_trans h1 (foldD_le l (stepD n b) h.2 (Int.le_trans h0 h1))
theorem valD_nonneg {l : List UInt8} (h : l.all digU = true) : 0 <= valD l := foldD_le l 0 h (Int.le_refl _)
theorem valD_pos {l : List UInt8} (h : l.all digU = true) (hne : l ≠ []) (h0 : l.head? ≠ some 48) : 1 <= valD l := by
 cases l with
 | nil => exact absurd rfl hne
 | cons b l =>
   rw [List.all_cons, Bool.and_eq_true] at h
   have hb := h.1
   unfold digU at hb
   rw [Bool.and_eq_true, decide_eq_true_eq, decide_eq_true_eq] at hb
   have hb0 : b.toNat ≠ 48 := fun e => h0 (by rw [List.head?_cons]; congr 1; exact UInt8.toNat_inj.1 (by simpa using e))
   have h1 : 1 <= stepD 0 b := by unfold stepD; omega
   exact Int.le_trans h1 (foldD_le l _ h.2 (by omega))
theorem ofNat_dig {b : UInt8} (h : digU b = true) : UInt8.ofNat (48 + (((b.toNat : Int) - 48)).toNat) = b := by
 unfold digU at h
 rw [Bool.and_eq_true, decide_eq_true_eq, decide_eq_true_eq] at h
 have : 48 + (((b.toNat : Int) - 48)).toNat = b.toNat := by omega
 rw [this]
 simp
theorem numL_valD : ∀ (k : Nat) (l : List UInt8), l.length = k -> l.all digU = true -> l ≠ [] -> (l.length = 1 \/ l.head? ≠ some 48) -> numL (valD l) = l
 | 0, l, hk, _, hne, _ => absurd (List.eq_nil_of_length_eq_zero hk) hne
 | k + 1, l, hk, hall, hne, hz => by
   obtain ⟨r, b, rfl⟩ : ∃ r b, l = r ++ [b] := ⟨l.dropLast, l.getLast hne, (List.dropLast_concat_getLast hne).symm⟩
   rw [List.all_append, Bool.and_eq_true] at hall
   have hb : digU b = true := by simpa using hall.2
   have hbb := hb
   unfold digU at hbb
   rw [Bool.and_eq_true, decide_eq_true_eq, decide_eq_true_eq] at hbb
   rw [valD_snoc]
   by_cases hr : r = []
   ·subst hr
    have h1 : stepD (valD []) b = (b.toNat : Int) - 48 := by unfold stepD valD; simp
    rw [h1, numL_low (by omega) (by omega), ofNat_dig hb]
    rfl
   ·have hlr : 0 < r.length := List.length_pos_iff.2 hr
    have hz2 : r.head? ≠ some 48 := by
     rcases hz with h | h
     ·simp at h; exact absurd h hr
     ·cases r with
      | nil => exact absurd rfl hr
      | cons c r => simpa using h
    have hv := valD_pos hall.1 hr hz2
    have hs : stepD (valD r) b = valD r * 10 + ((b.toNat : Int) - 48) := rfl
    rw [hs, numL_pos' (by omega)]
    have h1 : (valD r * 10 + ((b.toNat : Int) - 48)) / 10 = valD r := by omega
    have h2 : (valD r * 10 + ((b.toNat : Int) - 48)) % 10 = (b.toNat : Int) - 48 := by omega
    rw [h1, h2, ofNat_dig hb, numL_valD k r (by simp at hk; exact hk) hall.1 hr (.inr hz2)]
section
variable {α : Type} (lt : α -> α -> Bool)
structure LtOk : Prop where
 asym : ∀ a b, lt a b = true -> lt b a = false
 ntrans : ∀ a b c, lt b a = false -> lt c b = false -> lt c a = false
def childOf (c p : Nat) : Prop := c = 2 * p + 1 \/ c = 2 * p + 2
def HeapF (f : Nat -> α) (n k : Nat) : Prop := ∀ p c, k <= p -> childOf c p -> c < n -> lt (f c) (f p) = false
structure HeapEx (f : Nat -> α) (n k i : Nat) : Prop where
 rest : ∀ p c, k <= p -> p ≠ i -> childOf c p -> c < n -> lt (f c) (f p) = false
 over : ∀ p c, k <= p -> childOf i p -> childOf c i -> c < n -> lt (f c) (f p) = false
 ge : k <= i
def swapF (f : Nat -> α) (i j : Nat) : Nat -> α := fun k => if k = i then f j else if k = j then f i else f k
variable {lt}
theorem HeapEx.start {f : Nat -> α} {n k : Nat} (h : HeapF lt f n (k + 1)) : HeapEx lt f n k k :=
 ⟨fun p c hp hn hc hl => h p c (by omega) hc hl, fun p c hp hi hc hl => by unfold childOf at hi; omega, Nat.le_refl _⟩
theorem HeapEx.leaf {f : Nat -> α} {n k i : Nat} (h : HeapEx lt f n k i) (hi : n <= 2 * i + 1) : HeapF lt f n k := fun p c hp hc hl => by
 by_cases e : p = i
 ·subst e; unfold childOf at hc; omega
 ·exact h.rest p c hp e hc hl
def MinChild (lt : α -> α -> Bool) (f : Nat -> α) (n i j : Nat) : Prop := childOf j i /\ j < n /\ ∀ c, childOf c i -> c < n -> lt (f c) (f j) = false
theorem HeapEx.stop {f : Nat -> α} {n k i j : Nat} (L : LtOk lt) (h : HeapEx lt f n k i) (hj : MinChild lt f n i j) (hl : lt (f j) (f i) = false) : HeapF lt f n k := fun p c hp hc hn => by
 by_cases e : p = i
 ·subst e; exact L.ntrans _ _ _ hl (hj.2.2 c hc hn)
 ·exact h.rest p c hp e hc hn
theorem HeapEx.swap {f : Nat -> α} {n k i j : Nat} (L : LtOk lt) (h : HeapEx lt f n k i) (hj : MinChild lt f n i j) (hl : lt (f j) (f i) = true) : HeapEx lt (swapF f i j) n k j := by
 obtain ⟨hji, hjn, hmin⟩ := hj
 have hij : i < j := by unfold childOf at hji; omega
 have hk := h.ge
 refine ⟨fun p c hp hn hc hcl => ?_, fun p c hp hi hc hcl => ?_, by omega⟩
 ·unfold swapF
  by_cases e : p = i
  ·subst e
   by_cases e2 : c = j
   ·subst e2
    rw [if_neg (by omega), if_pos rfl, if_pos rfl]
    exact L.asym _ _ hl
   ·rw [if_neg (by unfold childOf at hc; omega), if_neg e2, if_pos rfl]
    exact hmin c hc hcl
  ·rw [if_neg (show ¬ p = i from e), if_neg hn]
   by_cases e2 : c = i
   ·subst e2
    rw [if_pos rfl]
    exact h.over p j hp hc hji hjn
   ·by_cases e3 : c = j
    ·subst e3
     exact absurd (by unfold childOf at hc hji; omega) e
    ·rw [if_neg e2, if_neg e3]
     exact h.rest p c hp e hc hcl
 ·have hpi : p = i := by unfold childOf at hi hji; omega
  subst hpi
  unfold swapF
  rw [if_neg (by unfold childOf at hc; omega), if_neg (by unfold childOf at hc; omega), if_pos rfl]
  exact h.rest j c (by omega) (by omega) hc hcl
theorem HeapF.min {f : Nat -> α} {n : Nat} (L : LtOk lt) (h : HeapF lt f n 0) : ∀ i, i < n -> lt (f i) (f 0) = false := by
 intro i
 induction i using Nat.strongRecOn with
 | ind i ih =>
   intro hi
   by_cases h0 : i = 0
   ·subst h0
    cases hl : lt (f 0) (f 0) with
    | false => rfl
    | true => have := L.asym _ _ hl; rw [hl] at this; cases this
   ·have hp : childOf i ((i - 1) / 2) := by unfold childOf; omega
    exact L.ntrans _ _ _ (ih ((i - 1) / 2) (by omega) (by omega)) (h _ i (Nat.zero_le _) hp hi)
theorem HeapF.none {f : Nat -> α} {n : Nat} : HeapF lt f n (n / 2) := fun p c hp hc hn => by unfold childOf at hc; omega
theorem HeapF.mono {f : Nat -> α} {n k k' : Nat} (h : HeapF lt f n k) (hk : k <= k') : HeapF lt f n k' := fun p c hp hc hn => h p c (by omega) hc hn
theorem HeapF.congr {f g : Nat -> α} {n n' k : Nat} (h : HeapF lt f n k) (he : ∀ i, i < n' -> f i = g i) (hn : n' <= n) : HeapF lt g n' k := fun p c hp hc hl => by
 rw [<- he c hl, <- he p (by unfold childOf at hc; omega)]
 exact h p c hp hc (by omega)
def swapL (xs : List α) (i j : Nat) (hi : i < xs.length) (hj : j < xs.length) : List α := (xs.set i xs[j]).set j xs[i]
theorem swapL_len {xs : List α} {i j : Nat} {hi : i < xs.length} {hj : j < xs.length} : (swapL xs i j hi hj).length = xs.length := by simp [swapL]
theorem swapL_get {xs : List α} {i j : Nat} {hi : i < xs.length} {hj : j < xs.length} (hne : i ≠ j) (d : α) : (fun k => (swapL xs i j hi hj).getD k d) = swapF (fun k => xs.getD k d) i j := by
 funext k
 unfold swapL swapF
 simp only [List.getD_eq_getElem?_getD, List.getElem?_set, List.length_set]
 by_cases h1 : k = i
 ·subst h1
  rw [if_neg (fun e => hne e.symm), if_pos rfl, if_pos hi, if_pos rfl, List.getElem?_eq_getElem hj]
 ·rw [if_neg (c := k = i) h1]
  by_cases h2 : k = j
  ·subst h2
   rw [if_pos rfl, if_pos hj, if_pos rfl, List.getElem?_eq_getElem hi]
  ·rw [if_neg (fun e => h2 e.symm), if_neg (fun e => h1 e.symm), if_neg h2]
theorem swapL_perm {xs : List α} {i j : Nat} {hi : i < xs.length} {hj : j < xs.length} : (swapL xs i j hi hj).Perm xs := List.set_set_perm hi hj
structure PopI (lt : α -> α -> Bool) (d : α) (l out xs : List α) : Prop where
 perm : (out ++ xs).Perm l
 heap : HeapF lt (fun k => xs.getD k d) xs.length 0
 sorted : out.Pairwise (fun a b => lt b a = false)
 low : ∀ a ∈ out, ∀ b ∈ xs, lt b a = false
theorem PopI.pop {d : α} {l out xs ys : List α} {x : α} (L : LtOk lt) (h : PopI lt d l out xs) (hx : xs[0]? = some x) (hp : (x :: ys).Perm xs) (hh : HeapF lt (fun k => ys.getD k d) ys.length 0) : PopI lt d l (out ++ [x]) ys := by
 have hxm : x ∈ xs := List.mem_of_getElem? hx
 have hmin : ∀ b ∈ xs, lt b x = false := fun b hb => by
  obtain ⟨i, hi⟩ := List.getElem?_of_mem hb
  have h1 := h.heap.min L i (List.getElem?_eq_some_iff.1 hi).1
  rw [List.getD_eq_getElem?_getD, List.getD_eq_getElem?_getD, hi, hx] at h1
  exact h1
 refine ⟨?_, hh, ?_, ?_⟩
 ·rw [List.append_assoc]
  exact ((List.Perm.append_left out hp).trans h.perm)
 ·rw [List.pairwise_append]
  exact ⟨h.sorted, by simp, fun a ha b hb => by rw [List.mem_singleton.1 hb]; exact h.low a ha x hxm⟩
 ·intro a ha b hb
  have hbx : b ∈ xs := hp.mem_iff.1 (List.mem_cons_of_mem _ hb)
  rcases List.mem_append.1 ha with ha | ha
  ·exact h.low a ha b hbx
  ·rw [List.mem_singleton.1 ha]; exact hmin b hbx
theorem sorted_unique : ∀ (a b : List α), (∀ x ∈ a, ∀ y ∈ a, lt x y = false -> lt y x = false -> x = y) -> a.Perm b -> a.Pairwise (fun x y => lt y x = false) -> b.Pairwise (fun x y => lt y x = false) -> a = b
 | [], b, _, hp, _, _ => by rw [List.Perm.nil_eq hp]
 | x :: a, [], _, hp, _, _ => by have := hp.length_eq; simp at this
 | x :: a, y :: b, ht, hp, ha, hb => by
   rw [List.pairwise_cons] at ha hb
   have hxy : x = y := by
    have hy : y ∈ x :: a := hp.mem_iff.2 (by simp)
    have hx : x ∈ y :: b := hp.mem_iff.1 (by simp)
    rcases List.mem_cons.1 hy with h | h
    ·exact h.symm
    ·rcases List.mem_cons.1 hx with h2 | h2
     ·exact h2
     ·exact ht x (by simp) y hy (hb.1 x h2) (ha.1 y h)
   subst hxy
   rw [sorted_unique a b (fun p hp' q hq => ht p (List.mem_cons_of_mem _ hp') q (List.mem_cons_of_mem _ hq)) (List.Perm.cons_inv hp) ha.2 hb.2]
end
end
section
open Go Go.RowKit
section
variable {α : Type} {enc : α -> List Value} {sz : Nat} {e : TypeId}
theorem grownT {w w' w'' : World} {row : Option Nat} (h : w.grownBy w' row) (k : w'.grownBy w'' row) : w.grownBy w'' row :=
 ⟨k.os.trans h.os, k.tape.trans h.tape, k.output.trans h.output, Nat.le_trans h.size k.size, fun i hi hne => (k.block i (Nat.lt_of_lt_of_le hi h.size) hne).trans (h.block i hi hne)⟩
def putL : List Value -> Nat -> List Value -> List Value
 | cs, _, [] => cs
 | cs, s, v :: vs => putL (cs.set s v) (s + 1) vs
theorem putL_at : ∀ (a b r pre : List Value), a.length = b.length -> putL (pre ++ (a ++ r)) pre.length b = pre ++ (b ++ r)
 | [], [], _, _, _ => rfl
 | [], _ :: _, _, _, h => by cases h
 | _ :: _, [], _, _, h => by cases h
 | x :: a, y :: b, r, pre, h => by
   have ih := putL_at a b r (pre ++ [y]) (by simpa using h)
   rw [List.length_append, List.length_singleton] at ih
   show putL ((pre ++ (x :: (a ++ r))).set pre.length y) (pre.length + 1) b = _
   rw [List.set_append_right _ _ (Nat.le_refl _), Nat.sub_self, List.set_cons_zero, show pre ++ y :: (a ++ r) = (pre ++ [y]) ++ (a ++ r) by simp, ih]
   simp
theorem cellsOf_put (C : Codec enc sz) {xs : List α} {k : Nat} {x y : α} (hx : xs[k]? = some x) : putL (cellsOf enc xs) (k * sz) (enc y) = cellsOf enc (xs.set k y) := by
 obtain ⟨hk, he⟩ := List.getElem?_eq_some_iff.1 hx
 have e1 : xs = xs.take k ++ (x :: xs.drop (k + 1)) := by rw [<- he, <- List.drop_eq_getElem_cons hk, List.take_append_drop]
 have e2 : xs.set k y = xs.take k ++ (y :: xs.drop (k + 1)) := List.set_eq_take_append_cons_drop.trans (if_pos hk)
 have hp : (cellsOf enc (xs.take k)).length = k * sz := by rw [cellsOf_len C, List.length_take, Nat.min_eq_left (Nat.le_of_lt hk)]
 rw [e2]
 conv => lhs; rw [e1]
 rw [cellsOf_append, cellsOf_append]
 show putL (_ ++ (enc x ++ cellsOf enc (xs.drop (k + 1)))) _ _ = _ ++ (enc y ++ cellsOf enc (xs.drop (k + 1)))
 rw [<- hp]
 exact putL_at _ _ _ _ (by rw [C.len, C.len])
theorem ownsRow_put {g n cap base : Nat} : ∀ (vs : List Value) (s : Nat) (w : World) (cs : List Value), w.ownsRow base e sz (.slice (some ⟨g, 0, none⟩) n cap) n cs -> (w.setCells g s vs).ownsRow base e sz (.slice (some ⟨g, 0, none⟩) n cap) n (putL cs s vs) /\ w.grownBy (w.setCells g s vs) (some g)
 | [], s, w, cs, h => ⟨h, World.grownBy.refl w _⟩
 | v :: vs, s, w, cs, h => by
   obtain ⟨h1, h2⟩ := World.ownsRow.stored h s v
   obtain ⟨h3, h4⟩ := ownsRow_put vs (s + 1) _ _ h1
   exact ⟨h3, grownT h2 h4⟩
theorem Own.storeRow (C : Codec enc sz) (P : Program) {w : World} {base g n cap : Nat} {xs : List α} (h : Own w base e enc sz (.slice (some ⟨g, 0, none⟩) n cap) xs) {k : Nat} {x : α} (hx : xs[k]? = some x) (y : α) :
 Sem.run P (storeCells ⟨g, k * sz, none⟩ (enc y) 0) w = .ok () (w.setCells g (k * sz) (enc y)) /\ Own (w.setCells g (k * sz) (enc y)) base e enc sz (.slice (some ⟨g, 0, none⟩) n cap) (xs.set k y) /\ w.grownBy (w.setCells g (k * sz) (enc y)) (some g) := by
 obtain ⟨g', e1, hn, hb, hlt, hc, hf⟩ := Own.at C h hx
 injection e1 with e1
 injection e1 with e1
 subst e1
 subst hn
 have h2 := ownsRow_put (enc y) (k * sz) w _ h
 rw [cellsOf_put C hx] at h2
 refine ⟨?_, ?_, h2.2⟩
 ·refine run_storeCells_cells g (k * sz) (enc y) 0 w (fun j hj => ?_) (fun j _ => hf _) (C.one y)
  rw [C.len] at hj
  obtain ⟨u, hu⟩ : ∃ u, (enc x)[j]? = some u := ⟨_, List.getElem?_eq_getElem (by rw [C.len]; exact hj)⟩
  rw [Nat.add_zero, hc j u hu]
  rfl
 ·have h3 := h2.1
  unfold Own
  rw [List.length_set]
  exact h3
theorem Own.loadRow (C : Codec enc sz) (P : Program) {w : World} {base g n cap : Nat} {xs : List α} (h : Own w base e enc sz (.slice (some ⟨g, 0, none⟩) n cap) xs) {k : Nat} {x : α} (hx : xs[k]? = some x) :
 Sem.run P (loadCellsFrom ⟨g, k * sz, none⟩ 0 sz #[]) w = .ok (enc x).toArray w := by
 obtain ⟨g', e1, hn, hb, hlt, hc, hf⟩ := Own.at C h hx
 injection e1 with e1
 injection e1 with e1
 subst e1
 exact Go.Proofs.run_loadCellsFrom_list P w _ (enc x) sz (C.len x) (fun j v hv => by rw [add_eq]; exact hc j v hv)
theorem Own.drewO {w : World} {base : Nat} {v : Value} {xs : List α} (h : Own w base e enc sz v xs) : Own w.drew base e enc sz v xs := h
theorem Own.swapped (C : Codec enc sz) (P : Program) {w : World} {base g n cap : Nat} {xs : List α} (h : Own w base e enc sz (.slice (some ⟨g, 0, none⟩) n cap) xs) {i j : Nat} {x y : α} (hi : xs[i]? = some x) (hj : xs[j]? = some y) :
 Sem.run P (storeCells ⟨g, i * sz, none⟩ (enc y) 0) w = .ok () (w.setCells g (i * sz) (enc y)) /\
 Sem.run P (storeCells ⟨g, j * sz, none⟩ (enc x) 0) (w.setCells g (i * sz) (enc y)) = .ok () ((w.setCells g (i * sz) (enc y)).setCells g (j * sz) (enc x)) /\
 Own ((w.setCells g (i * sz) (enc y)).setCells g (j * sz) (enc x)) base e enc sz (.slice (some ⟨g, 0, none⟩) n cap) ((xs.set i y).set j x) /\ w.grownBy ((w.setCells g (i * sz) (enc y)).setCells g (j * sz) (enc x)) (some g) := by
 obtain ⟨s1, o1, g1⟩ := Own.storeRow C P h hi y
 obtain ⟨z, hz⟩ : ∃ z, (xs.set i y)[j]? = some z := ⟨_, List.getElem?_eq_getElem (by rw [List.length_set]; exact (List.getElem?_eq_some_iff.1 hj).1)⟩
 obtain ⟨s2, o2, g2⟩ := Own.storeRow C P o1 hz x
 exact ⟨s1, s2, o2, grownT g1 g2⟩
theorem Own.firstN (C : Codec enc sz) {w : World} {base g n cap : Nat} {xs : List α} (h : Own w base e enc sz (.slice (some ⟨g, 0, none⟩) n cap) xs) (m : Nat) (hm : m <= n) : Own w base e enc sz (.slice (some ⟨g, 0, none⟩) m cap) (xs.take m) := by
 obtain ⟨hl, h0⟩ := h
 rcases h0 with ⟨hv, hn⟩ | ⟨g', cap', cur, hv, hg, hh, hnc, hcm, hcs, ht⟩
 ·cases hv
 ·simp only [Value.slice.injEq, Option.some.injEq, Addr.mk.injEq, and_true, true_and] at hv
  obtain ⟨rfl, rfl, rfl⟩ := hv
  have hlen : (xs.take m).length = m := by rw [List.length_take, Nat.min_eq_left hm]
  have hc2 : (cellsOf enc (xs.take m)).length = m * sz := by rw [cellsOf_len C, hlen]
  have e1 : cellsOf enc xs = cellsOf enc (xs.take m) ++ cellsOf enc (xs.drop m) := by rw [<- cellsOf_append, List.take_append_drop]
  have e2 : cellsOf enc (xs.take m) = (cellsOf enc xs).take (m * sz) := by
   rw [e1, <- hc2, List.take_left]
  refine ⟨by rw [cellsOf_len C], .inr ⟨g, cap, cur, by rw [hlen], hg, hh, by rw [hlen]; omega, hcm, hcs, ?_⟩⟩
  rw [hlen, e2, <- ht, List.take_take, Nat.min_eq_left (Nat.mul_le_mul_right sz hm)]
end
end
section
open Go.RowKit Go.OpenShut
theorem refGet_any (t : JV) (r : RV) (name : ByteArray) (w : World) (ht : TreeOf w w.heap.size t r) (ot : t.Ok) :
 Calls Tryz.prog 61 #[r.val, .string name] w (GetRet w (t.get name)) := by
 cases ht with
 | @mk _ l m rs rms hl el hcl hm em hcn hcm =>
 obtain ⟨k, n, s, pl, nl, cl, pm, nm, cm⟩ := r
 cases ot with
 | mk _ _ _ bl bm okl oks okm =>
 dsimp only [RV.val] at *
 have eM := rd_nlen hm
 have hA0 : VAt ((w.alloc (.cells #[.int .i64 k, .int .i64 n, .string s, .slice pl nl cl, .slice pm nm cm] 25)).alloc (.cells #[.int .i64 0, .int .i64 0, .string ⟨#[]⟩, .slice none 0 0, .slice none 0 0] 25)) w.heap.size ⟨k, n, s, pl, nl, cl, pm, nm, cm⟩ := heap_alloc_lt (by simp) (heap_alloc_at rfl)
 have hA1 : VAt ((w.alloc (.cells #[.int .i64 k, .int .i64 n, .string s, .slice pl nl cl, .slice pm nm cm] 25)).alloc (.cells #[.int .i64 0, .int .i64 0, .string ⟨#[]⟩, .slice none 0 0, .slice none 0 0] 25)) (w.heap.size + 1) RV.zero := heap_alloc_at (by simp)
 have hB0 := below2 w (.cells #[.int .i64 k, .int .i64 n, .string s, .slice pl nl cl, .slice pm nm cm] 25) (.cells #[.int .i64 0, .int .i64 0, .string ⟨#[]⟩, .slice none 0 0, .slice none 0 0] 25)
 have HN := Lib.hid hcn
 have HM := Lib.hid hm
 have HV := Lib.hid hcm
 have E2 : Hid (m.length = nm /\ rms.length = nm) := ⟨by omega, by omega⟩
 have hnm : nm <= 1466015503658 := by omega
 have HG6 : Hid (k = 6 -> (JV.mk k n s l m).place name = m.findIdx? (fun p => decide (p.1 = name)) /\ (JV.mk k n s l m).mem = m) := by
  intro h
  have e : (JV.mk k n s l m).mem = m := by show (if k = 6 then m else []) = m; rw [if_pos h]
  exact ⟨by unfold JV.place; rw [e], e⟩
 have HGN : Hid (k ≠ 6 -> (JV.mk k n s l m).get name = none) := by
  intro h
  have e : (JV.mk k n s l m).mem = [] := by show (if k = 6 then m else []) = []; rw [if_neg h]
  unfold JV.get JV.place; rw [e]; rfl
 clear hcl hcn hcm hl hm okl oks okm el em bl bm eM
 go_enter Tryz.func61, Tryz.ntmps61
 go_upto_region 1 with fail
 obtain ⟨W0, hW0⟩ : ∃ W0, ((w.alloc (.cells #[.int .i64 k, .int .i64 n, .string s, .slice pl nl cl, .slice pm nm cm] 25)).alloc (.cells #[.int .i64 0, .int .i64 0, .string ⟨#[]⟩, .slice none 0 0, .slice none 0 0] 25)) = W0 := ⟨_, rfl⟩
 rw [hW0] at hA0 hA1 hB0 ⊢
 clear hW0
 have hz := hA1.lt
 have c0 := hA0.cell 0 rfl
 have c4 := hA0.cell 4 rfl
 obtain ⟨z0, z1, z2, z3, z4⟩ := hA1.cells5
 dsimp only [RV.zero] at c0 c4 z0 z1 z2 z3 z4
 have y0 := hA1.frozen 0
 have y1 := hA1.frozen 1
 have y2 := hA1.frozen 2
 have y3 := hA1.frozen 3
 have y4 := hA1.frozen 4
 have HZ := Lib.hid hA1
 clear hA0 hA1
 by_cases hk : k = 6
 ·subst hk
  have HPL := HG6
  clear HG6 HGN
  go_wp2_with fail
  go_loopw [6] (fun i wr => ∃ k : Nat, k <= nm /\ i = .int .i64 k /\ Hid (∀ (j : Nat) y, j < k -> m[j]? = some y -> decide (y.1 = name) = false) /\ wr = W0) (fun i _ => nm - (intOf i).toNat)
  case atStart => exact ⟨0, Nat.zero_le _, rfl, fun j y h => by omega, rfl⟩
  case round =>
   obtain ⟨k, hk, rfl, hno, rfl⟩ := hrel
   by_cases hlt : k < nm
   ·obtain ⟨tx, htx⟩ : ∃ x, m[k]? = some x := ⟨_, List.getElem?_eq_getElem (by have := E2.out; omega)⟩
    obtain ⟨x, hx⟩ : ∃ x, rms[k]? = some x := ⟨_, List.getElem?_eq_getElem (by have := E2.out; omega)⟩
    obtain ⟨b1, o1, rfl, hb1, hc1⟩ := rd_at' (HM.out.below hB0 (Nat.le_refl _)) hx
    have f0 := hc1 0 _ rfl
    have f1 := hc1 1 _ rfl
    have f2 := hc1 2 _ rfl
    have f3 := hc1 3 _ rfl
    have f4 := hc1 4 _ rfl
    have f5 := hc1 5 _ rfl
    rw [Nat.add_zero] at f0
    have en := HN.out k tx x htx hx
    have HTX := Lib.hid htx
    have HTV := Lib.hid ((HV.out k tx x htx hx).under hB0 (Nat.le_refl _))
    have hk0 : (0 : Int) <= (k : Int) := Int.natCast_nonneg _
    have hk1 : (k : Int) < (nm : Int) := by omega
    clear hc1 htx hx
    by_cases hnx : x.name = name
    ·have hq : (x.name.toList == name.toList) = true := by rw [str_beq]; simpa using hnx
     have hfi := find_at (p := fun p : ByteArray × JV => decide (p.1 = name)) HTX.out (by rw [en]; simpa using hnx) hno.out
     have HG : Hid ((JV.mk 6 n s l m).get name = some tx.2) := by
      unfold Hid JV.get
      rw [(HPL.out (by simp)).1, hfi]
      show ((JV.mk 6 n s l m).mem[k]?).map (·.2) = _
      rw [(HPL.out (by simp)).2, HTX.out]; rfl
     clear hnx en hfi
     go_wp2_with fail
     refine bodyPost_ret (v := .tuple #[RV.val x.v, .bool true]) (by simp [results, Tryz.results61, go_sem, z0, z1, z2, z3, z4]) rfl ⟨x.v, true, rfl, by rw [HG.out]; rfl, ?_, Below.stored hB0 (by omega) x.v⟩
     rw [HG.out]
     exact HTV.out.under (Below.stored (Below.refl _ _) (by omega) x.v) (by have := hB0.size; simp; omega)
    ·have hq : (x.name.toList == name.toList) = false := by rw [str_beq]; simpa using hnx
     have HNX : Hid (∀ (j : Nat) y, j < k + 1 -> m[j]? = some y -> decide (y.1 = name) = false) := by
      intro j y hj hy
      by_cases e : j = k
      ·subst e
       have h := HTX.out
       rw [hy] at h
       cases h
       rw [en]; simpa using hnx
      ·exact hno.out j y (by omega) hy
     clear hnx en
     go_wp2_with fail
     go_roundw
     case rel => exact ⟨k + 1, by omega, by go_num, HNX, trivial⟩
     case measure => simp [intOf]; omega
   ·obtain rfl : k = nm := by omega
    have HF := find_not (p := fun p : ByteArray × JV => decide (p.1 = name)) (l := m) (fun j y hy => hno.out j y (by have := (List.getElem?_eq_some_iff.1 hy).1; have := E2.out; omega) hy)
    have HG : Hid ((JV.mk 6 n s l m).get name = none) := by
     unfold Hid JV.get
     rw [(HPL.out (by simp)).1, HF]; rfl
    clear HF
    go_wp2_with fail
    exact bodyPost_ret (v := .tuple #[RV.val RV.zero, .bool false]) (by simp [results, Tryz.results61, go_sem, RV.zero, z0, z1, z2, z3, z4]) rfl ⟨RV.zero, false, rfl, by rw [HG.out]; rfl, by rw [HG.out]; exact TreeOf.zero _ _, Below.stored hB0 (by omega) RV.zero⟩
 ·have HG := Lib.hid (HGN.out hk)
  have hq : (k == 6) = false := by simpa using hk
  clear HG6 HGN hk
  go_wp2_with fail
  go_loopw [6] (fun i wr => i = .int .i64 0 /\ wr = W0) (fun i _ => 0)
  case atStart => exact ⟨rfl, rfl⟩
  case round =>
   obtain ⟨rfl, rfl⟩ := hrel
   by_cases h0 : 0 < nm
   all_goals
    go_wp2_with fail
    exact bodyPost_ret (v := .tuple #[RV.val RV.zero, .bool false]) (by simp [results, Tryz.results61, go_sem, RV.zero, z0, z1, z2, z3, z4]) rfl ⟨RV.zero, false, rfl, by rw [HG.out]; rfl, by rw [HG.out]; exact TreeOf.zero _ _, Below.stored hB0 (by omega) RV.zero⟩
def GetRetB (w : World) (B : Nat) (o : Option JV) (e : Ending) (w' : World) : Prop :=
 ∃ r b, e = .returned (.tuple #[RV.val r, .bool b]) /\ b = o.isSome /\ TreeOf w' B (o.getD JV.zero) r /\ Below w.heap.size w w'
theorem getB_any (t : JV) (r : RV) (name : ByteArray) (w : World) (B : Nat) (hBw : B <= w.heap.size) (ht : TreeOf w B t r) (ot : t.Ok) :
 Calls Tryz.prog 15 #[r.val, .string name] w (GetRetB w B (t.get name)) := by
 obtain ⟨k, n, s, pl, nl, cl, pm, nm, cm⟩ := r
 dsimp only [RV.val] at *
 have HT := Lib.hid ht
 have HO := Lib.hid ot
 have hA0 : VAt ((w.alloc (.cells #[.int .i64 k, .int .i64 n, .string s, .slice pl nl cl, .slice pm nm cm] 25)).alloc (.cells #[.int .i64 0, .int .i64 0, .string ⟨#[]⟩, .slice none 0 0, .slice none 0 0] 25)) w.heap.size ⟨k, n, s, pl, nl, cl, pm, nm, cm⟩ := heap_alloc_lt (by simp) (heap_alloc_at rfl)
 have hA1 : VAt ((w.alloc (.cells #[.int .i64 k, .int .i64 n, .string s, .slice pl nl cl, .slice pm nm cm] 25)).alloc (.cells #[.int .i64 0, .int .i64 0, .string ⟨#[]⟩, .slice none 0 0, .slice none 0 0] 25)) (w.heap.size + 1) RV.zero := heap_alloc_at (by simp)
 have hB0 := below2 w (.cells #[.int .i64 k, .int .i64 n, .string s, .slice pl nl cl, .slice pm nm cm] 25) (.cells #[.int .i64 0, .int .i64 0, .string ⟨#[]⟩, .slice none 0 0, .slice none 0 0] 25)
 clear ht ot
 go_enter Tryz.func15, Tryz.ntmps15
 go_upto_region 1 with fail
 obtain ⟨W0, hW0⟩ : ∃ W0, ((w.alloc (.cells #[.int .i64 k, .int .i64 n, .string s, .slice pl nl cl, .slice pm nm cm] 25)).alloc (.cells #[.int .i64 0, .int .i64 0, .string ⟨#[]⟩, .slice none 0 0, .slice none 0 0] 25)) = W0 := ⟨_, rfl⟩
 rw [hW0] at hA0 hA1 hB0 ⊢
 clear hW0
 obtain ⟨p0, p1, p2, p3, p4⟩ := hA0.cells5
 go_upto_region 2 with (go_at_call 44; refine (place_any t ⟨k, n, s, pl, nl, cl, pm, nm, cm⟩ name _ (HT.out.under (hB0.mono hBw) (Nat.le_trans hBw hB0.size)) HO.out).mono ?_; rintro e w1 ⟨rfl, hb1⟩)
 have hzz : w.heap.size + 1 < W0.heap.size := hA1.lt
 have HA1 : VAt w1 (w.heap.size + 1) RV.zero := hA1.under hb1 hzz
 have HA0 : VAt w1 w.heap.size ⟨k, n, s, pl, nl, cl, pm, nm, cm⟩ := hA0.under hb1 (by omega)
 have HB1 := hB0.trans (hb1.mono hB0.size)
 have hTw := Lib.hid (HT.out.under (HB1.mono hBw) (Nat.le_refl _))
 clear p0 p1 p2 p3 p4 hA0 hA1 hB0 hb1
 obtain ⟨z0, z1, z2, z3, z4⟩ := HA1.cells5
 have y0 := HA1.frozen 0
 have y1 := HA1.frozen 1
 have y2 := HA1.frozen 2
 have y3 := HA1.frozen 3
 have y4 := HA1.frozen 4
 have p4 := HA0.cell 4 rfl
 dsimp only [RV.zero] at z0 z1 z2 z3 z4 p4
 have HZ := Lib.hid HA1
 clear HA1 HA0
 generalize hp : t.place name = o
 cases o with
 | none =>
   have HG : Hid (t.get name = none) := by unfold Hid JV.get; rw [hp]; rfl
   have hn : placeI (none : Option Nat) = -1 := rfl
   rw [hn]
   clear hp hn
   go_wp2_with fail
   have HZ2 := HZ.out.stored RV.zero
   refine bodyPost_ret (v := .tuple #[RV.val RV.zero, .bool false]) (by simp [results, Tryz.results15, go_sem, RV.zero, z0, z1, z2, z3, z4]) rfl ⟨RV.zero, false, rfl, by rw [HG.out]; rfl, by rw [HG.out]; exact TreeOf.zero _ _, Below.stored HB1 (by omega) RV.zero⟩
 | some i =>
   obtain ⟨p, hm1, hk6, hget⟩ := place_mem hp
   have HG := Lib.hid hget
   have hn : placeI (some i) = (i : Int) := rfl
   rw [hn]
   clear hp hn hget
   have hT2 := hTw.out
   generalize hr : (⟨k, n, s, pl, nl, cl, pm, nm, cm⟩ : RV) = r at hT2
   cases hT2 with
   | @mk _ l m rs rms hl el hcl hm em hcn hcm =>
   subst hr
   dsimp only [JV.m] at *
   have hi := (List.getElem?_eq_some_iff.1 hm1).1
   obtain ⟨q, hq⟩ : ∃ q, rms[i]? = some q := ⟨_, List.getElem?_eq_getElem (by omega)⟩
   obtain ⟨b1, o1, rfl, hb1, hc1⟩ := rd_at' hm hq
   have HTq := Lib.hid (hcm i p q hm1 hq)
   have f0 := hc1 0 _ rfl
   have f1 := hc1 1 _ rfl
   have f2 := hc1 2 _ rfl
   have f3 := hc1 3 _ rfl
   have f4 := hc1 4 _ rfl
   have f5 := hc1 5 _ rfl
   have hi0 : (0 : Int) <= (i : Int) := Int.natCast_nonneg _
   have hi1 : (i : Int) < (nm : Int) := by have := rd_nlen hm; omega
   clear hcl hcn hcm hl hm em el hc1 hm1 hq
   go_wp2_with fail
   have HZ2 := HZ.out.stored q.v
   have HBs : Below w1.heap.size w1 w1 := Below.refl _ _
   refine bodyPost_ret (v := .tuple #[RV.val q.v, .bool true]) (by simp [results, Tryz.results15, go_sem, z0, z1, z2, z3, z4]) rfl ⟨q.v, true, rfl, by rw [HG.out]; rfl, ?_, Below.stored HB1 (by omega) q.v⟩
   rw [HG.out]
   exact HTq.out.under (Below.stored (Below.refl _ _) (by omega) q.v) (Nat.le_refl _)
theorem refGetB_any (t : JV) (r : RV) (name : ByteArray) (w : World) (B : Nat) (hBw : B <= w.heap.size) (ht : TreeOf w B t r) (ot : t.Ok) :
 Calls Tryz.prog 61 #[r.val, .string name] w (GetRetB w B (t.get name)) := by
 cases ht with
 | @mk _ l m rs rms hl el hcl hm em hcn hcm =>
 obtain ⟨k, n, s, pl, nl, cl, pm, nm, cm⟩ := r
 cases ot with
 | mk _ _ _ bl bm okl oks okm =>
 dsimp only [RV.val] at *
 have eM := rd_nlen hm
 have hA0 : VAt ((w.alloc (.cells #[.int .i64 k, .int .i64 n, .string s, .slice pl nl cl, .slice pm nm cm] 25)).alloc (.cells #[.int .i64 0, .int .i64 0, .string ⟨#[]⟩, .slice none 0 0, .slice none 0 0] 25)) w.heap.size ⟨k, n, s, pl, nl, cl, pm, nm, cm⟩ := heap_alloc_lt (by simp) (heap_alloc_at rfl)
 have hA1 : VAt ((w.alloc (.cells #[.int .i64 k, .int .i64 n, .string s, .slice pl nl cl, .slice pm nm cm] 25)).alloc (.cells #[.int .i64 0, .int .i64 0, .string ⟨#[]⟩, .slice none 0 0, .slice none 0 0] 25)) (w.heap.size + 1) RV.zero := heap_alloc_at (by simp)
 have hB0 := below2 w (.cells #[.int .i64 k, .int .i64 n, .string s, .slice pl nl cl, .slice pm nm cm] 25) (.cells #[.int .i64 0, .int .i64 0, .string ⟨#[]⟩, .slice none 0 0, .slice none 0 0] 25)
 have HN := Lib.hid hcn
 have HM := Lib.hid hm
 have HV := Lib.hid hcm
 have E2 : Hid (m.length = nm /\ rms.length = nm) := ⟨by omega, by omega⟩
 have hnm : nm <= 1466015503658 := by omega
 have HG6 : Hid (k = 6 -> (JV.mk k n s l m).place name = m.findIdx? (fun p => decide (p.1 = name)) /\ (JV.mk k n s l m).mem = m) := by
  intro h
  have e : (JV.mk k n s l m).mem = m := by show (if k = 6 then m else []) = m; rw [if_pos h]
  exact ⟨by unfold JV.place; rw [e], e⟩
 have HGN : Hid (k ≠ 6 -> (JV.mk k n s l m).get name = none) := by
  intro h
  have e : (JV.mk k n s l m).mem = [] := by show (if k = 6 then m else []) = []; rw [if_neg h]
  unfold JV.get JV.place; rw [e]; rfl
 clear hcl hcn hcm hl hm okl oks okm el em bl bm eM
 go_enter Tryz.func61, Tryz.ntmps61
 go_upto_region 1 with fail
 obtain ⟨W0, hW0⟩ : ∃ W0, ((w.alloc (.cells #[.int .i64 k, .int .i64 n, .string s, .slice pl nl cl, .slice pm nm cm] 25)).alloc (.cells #[.int .i64 0, .int .i64 0, .string ⟨#[]⟩, .slice none 0 0, .slice none 0 0] 25)) = W0 := ⟨_, rfl⟩
 rw [hW0] at hA0 hA1 hB0 ⊢
 clear hW0
 have hz := hA1.lt
 have c0 := hA0.cell 0 rfl
 have c4 := hA0.cell 4 rfl
 obtain ⟨z0, z1, z2, z3, z4⟩ := hA1.cells5
 dsimp only [RV.zero] at c0 c4 z0 z1 z2 z3 z4
 have y0 := hA1.frozen 0
 have y1 := hA1.frozen 1
 have y2 := hA1.frozen 2
 have y3 := hA1.frozen 3
 have y4 := hA1.frozen 4
 have HZ := Lib.hid hA1
 clear hA0 hA1
 by_cases hk : k = 6
 ·subst hk
  have HPL := HG6
  clear HG6 HGN
  go_wp2_with fail
  go_loopw [6] (fun i wr => ∃ k : Nat, k <= nm /\ i = .int .i64 k /\ Hid (∀ (j : Nat) y, j < k -> m[j]? = some y -> decide (y.1 = name) = false) /\ wr = W0) (fun i _ => nm - (intOf i).toNat)
  case atStart => exact ⟨0, Nat.zero_le _, rfl, fun j y h => by omega, rfl⟩
  case round =>
   obtain ⟨k, hk, rfl, hno, rfl⟩ := hrel
   by_cases hlt : k < nm
   ·obtain ⟨tx, htx⟩ : ∃ x, m[k]? = some x := ⟨_, List.getElem?_eq_getElem (by have := E2.out; omega)⟩
    obtain ⟨x, hx⟩ : ∃ x, rms[k]? = some x := ⟨_, List.getElem?_eq_getElem (by have := E2.out; omega)⟩
    obtain ⟨b1, o1, rfl, hb1, hc1⟩ := rd_at' (HM.out.below (hB0.mono hBw) (Nat.le_refl _)) hx
    have f0 := hc1 0 _ rfl
    have f1 := hc1 1 _ rfl
    have f2 := hc1 2 _ rfl
    have f3 := hc1 3 _ rfl
    have f4 := hc1 4 _ rfl
    have f5 := hc1 5 _ rfl
    rw [Nat.add_zero] at f0
    have en := HN.out k tx x htx hx
    have HTX := Lib.hid htx
    have HTV := Lib.hid ((HV.out k tx x htx hx).under (hB0.mono hBw) (Nat.le_refl _))
    have hk0 : (0 : Int) <= (k : Int) := Int.natCast_nonneg _
    have hk1 : (k : Int) < (nm : Int) := by omega
    clear hc1 htx hx
    by_cases hnx : x.name = name
    ·have hq : (x.name.toList == name.toList) = true := by rw [str_beq]; simpa using hnx
     have hfi := find_at (p := fun p : ByteArray × JV => decide (p.1 = name)) HTX.out (by rw [en]; simpa using hnx) hno.out
     have HG : Hid ((JV.mk 6 n s l m).get name = some tx.2) := by
      unfold Hid JV.get
      rw [(HPL.out (by simp)).1, hfi]
      show ((JV.mk 6 n s l m).mem[k]?).map (·.2) = _
      rw [(HPL.out (by simp)).2, HTX.out]; rfl
     clear hnx en hfi
     go_wp2_with fail
     refine bodyPost_ret (v := .tuple #[RV.val x.v, .bool true]) (by simp [results, Tryz.results61, go_sem, z0, z1, z2, z3, z4]) rfl ⟨x.v, true, rfl, by rw [HG.out]; rfl, ?_, Below.stored hB0 (by omega) x.v⟩
     rw [HG.out]
     exact HTV.out.under (Below.stored (Below.refl _ _) (by omega) x.v) (Nat.le_refl _)
    ·have hq : (x.name.toList == name.toList) = false := by rw [str_beq]; simpa using hnx
     have HNX : Hid (∀ (j : Nat) y, j < k + 1 -> m[j]? = some y -> decide (y.1 = name) = false) := by
      intro j y hj hy
      by_cases e : j = k
      ·subst e
       have h := HTX.out
       rw [hy] at h
       cases h
       rw [en]; simpa using hnx
      ·exact hno.out j y (by omega) hy
     clear hnx en
     go_wp2_with fail
     go_roundw
     case rel => exact ⟨k + 1, by omega, by go_num, HNX, trivial⟩
     case measure => simp [intOf]; omega
   ·obtain rfl : k = nm := by omega
    have HF := find_not (p := fun p : ByteArray × JV => decide (p.1 = name)) (l := m) (fun j y hy => hno.out j y (by have := (List.getElem?_eq_some_iff.1 hy).1; have := E2.out; omega) hy)
    have HG : Hid ((JV.mk 6 n s l m).get name = none) := by
     unfold Hid JV.get
     rw [(HPL.out (by simp)).1, HF]; rfl
    clear HF
    go_wp2_with fail
    exact bodyPost_ret (v := .tuple #[RV.val RV.zero, .bool false]) (by simp [results, Tryz.results61, go_sem, RV.zero, z0, z1, z2, z3, z4]) rfl ⟨RV.zero, false, rfl, by rw [HG.out]; rfl, by rw [HG.out]; exact TreeOf.zero _ _, Below.stored hB0 (by omega) RV.zero⟩
 ·have HG := Lib.hid (HGN.out hk)
  have hq : (k == 6) = false := by simpa using hk
  clear HG6 HGN hk
  go_wp2_with fail
  go_loopw [6] (fun i wr => i = .int .i64 0 /\ wr = W0) (fun i _ => 0)
  case atStart => exact ⟨rfl, rfl⟩
  case round =>
   obtain ⟨rfl, rfl⟩ := hrel
   by_cases h0 : 0 < nm
   all_goals
    go_wp2_with fail
    exact bodyPost_ret (v := .tuple #[RV.val RV.zero, .bool false]) (by simp [results, Tryz.results61, go_sem, RV.zero, z0, z1, z2, z3, z4]) rfl ⟨RV.zero, false, rfl, by rw [HG.out]; rfl, by rw [HG.out]; exact TreeOf.zero _ _, Below.stored hB0 (by omega) RV.zero⟩
end
end Go.Proofs.YtffhccmppdgmfaaGreatDoor
