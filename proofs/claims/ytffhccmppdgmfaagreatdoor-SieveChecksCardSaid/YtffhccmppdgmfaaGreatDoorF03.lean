import Derived.Test.YtffhccmppdgmfaaGreatDoorF02
import Derived.Lib.Bytealg
import Derived.Test.YtffhccmppdgmfaaGreatDoorF00
import Derived.BigQuiet
import Derived.Deep.QuietTactic
import Derived.Shelf.LaysM
import Derived.Shelf.Small.Strs
import Derived.Shelf.Strconv.Clone
import Derived.Shelf.Strings.Count
import Derived.Shelf.Strings.OnBuilder
import Derived.Shelf.Strings.Repeat
import Derived.Shelf.Strings.Trim
import Derived.Shelf.Strings.SlTrimAscii
import Derived.Test.YtffhccmppdgmfaaGreatDoorProg
import Derived.Sort.LotA
import Derived.Shelf.SlSortCmp.Insertion
set_option linter.unusedSimpArgs false
set_option linter.unusedVariables false
set_option maxRecDepth 200000
set_option maxHeartbeats 8000000
namespace Go.Proofs.YtffhccmppdgmfaaGreatDoor
section
def formL : List UInt8 := [48, 48, 48, 48, 45, 48, 48, 45, 48, 48, 84, 48, 48, 58, 48, 48, 58, 48, 48]
def posOk (f c : UInt8) : Bool := if f = 48 then digU c else decide (c = f)
def hdOk (l : List UInt8) : Bool := decide (19 <= l.length) && ((formL.zip l).all (fun p => posOk p.1 p.2))
def numAt (l : List UInt8) (i n : Nat) : Int := valD ((l.drop i).take n)
def tlOk (t : List UInt8) : Bool := decide (t = [90]) || (decide (3 <= t.length) && (decide (t.length <= 11) && (decide (t[0]? = some 46) && (decide (t[t.length - 1]? = some 90) && (decide (t[t.length - 2]? ≠ some 48) && ((t.drop 1).take (t.length - 2)).all digU)))))
def leapB (y : Int) : Bool := (decide (y % 4 = 0) && decide (y % 100 ≠ 0)) || decide (y % 400 = 0)
def monthF (y m : Int) : Int := if m = 4 \/ m = 6 \/ m = 9 \/ m = 11 then 30 else if m = 2 then (if leapB y then 29 else 28) else 31
def aheadF (y : Int) : Int := if y = 0 then 0 else 365 * y + (y - 1) / 4 - (y - 1) / 100 + (y - 1) / 400 + 1
def monthsF (y : Int) : Nat -> Int
 | 0 => 0
 | k + 1 => monthsF y k + monthF y (k + 1 : Nat)
def daysF (y m d : Int) : Option Int := if 0 <= y /\ y <= 9999 /\ 1 <= m /\ m <= 12 /\ 1 <= d /\ d <= monthF y m then some (aheadF y - aheadF 1970 + monthsF y (m.toNat - 1) + d - 1) else none
def secF (l : List UInt8) : Option Int :=
 if hdOk l && (tlOk (l.drop 19) && (decide (numAt l 11 2 <= 23) && (decide (numAt l 14 2 <= 59) && decide (numAt l 17 2 <= 59)))) then (daysF (numAt l 0 4) (numAt l 5 2) (numAt l 8 2)).map (fun D => ((D * 24 + numAt l 11 2) * 60 + numAt l 14 2) * 60 + numAt l 17 2) else none
def partF (l : List UInt8) : List UInt8 := ((l.drop 20).take (l.length - 21)) ++ List.replicate (10 - (l.length - 21)) 48
theorem leap_iff (y : Int) : leapB y = true ↔ (y % 4 = 0 /\ y % 100 ≠ 0) \/ y % 400 = 0 := by unfold leapB; simp
theorem leap_cases (y : Int) : monthF y 2 = 29 /\ leapB y = true \/ monthF y 2 = 28 /\ leapB y = false := by
 unfold monthF
 cases h : leapB y
 ·right; simp
 ·left; simp
theorem month_pos (y m : Int) : 28 <= monthF y m /\ monthF y m <= 31 := by
 unfold monthF
 split
 ·omega
 ·split
  ·split <;> omega
  ·omega
theorem ahead_step {y : Int} (h : 0 <= y) : aheadF (y + 1) = aheadF y + 337 + monthF y 2 := by
 have hl := leap_iff y
 rcases leap_cases y with ⟨e, hb⟩ | ⟨e, hb⟩
 ·rw [e]
  rw [hb] at hl
  have h2 := hl.1 rfl
  unfold aheadF
  rw [if_neg (by omega), show y + 1 - 1 = y by omega]
  by_cases h0 : y = 0
  ·subst h0
   rw [if_pos rfl]; decide
  ·rw [if_neg h0]
   omega
 ·rw [e]
  rw [hb] at hl
  have h2 : ¬ ((y % 4 = 0 /\ y % 100 ≠ 0) \/ y % 400 = 0) := fun h => by have := hl.2 h; cases this
  unfold aheadF
  rw [if_neg (by omega), show y + 1 - 1 = y by omega]
  by_cases h0 : y = 0
  ·subst h0
   exact absurd (.inr rfl) h2
  ·rw [if_neg h0]
   omega
theorem aheadF_bound {y : Int} (h0 : 0 <= y) (h1 : y <= 10000) : 0 <= aheadF y /\ aheadF y <= 3660000 := by
 unfold aheadF
 split <;> omega
theorem monthsF_bound (y : Int) : ∀ k : Nat, 0 <= monthsF y k /\ monthsF y k <= 31 * k
 | 0 => by simp [monthsF]
 | k + 1 => by
   have h := monthsF_bound y k
   have h2 := month_pos y ((k + 1 : Nat) : Int)
   show 0 <= monthsF y k + monthF y ((k + 1 : Nat) : Int) /\ monthsF y k + monthF y ((k + 1 : Nat) : Int) <= _
   omega
def cmpS (a b : List UInt8) : Int :=
 match secF a, secF b with
 | none, none => Go.Lib.compareBytes a b
 | none, some _ => -1
 | some _, none => 1
 | some x, some y => if x < y then -1 else if y < x then 1 else Go.Lib.compareBytes (partF a) (partF b)
theorem tl_digs {l : List UInt8} (h : tlOk (l.drop 19) = true) : l.length <= 30 /\ 20 <= l.length /\ ((l.drop 20).take (l.length - 21)).all digU = true := by
 unfold tlOk at h
 simp only [Bool.or_eq_true, Bool.and_eq_true, decide_eq_true_eq] at h
 rcases h with h | ⟨h1, h2, h3, h4, h5, h6⟩
 ·have hl : (l.drop 19).length = 1 := by rw [h]; rfl
  rw [List.length_drop] at hl
  refine ⟨by omega, by omega, ?_⟩
  rw [show l.length - 21 = 0 by omega]
  rfl
 ·rw [List.length_drop] at h1 h2
  refine ⟨by omega, by omega, ?_⟩
  rw [List.drop_drop, List.length_drop, show 19 + 1 = 20 from rfl, show l.length - 19 - 2 = l.length - 21 by omega] at h6
  exact h6
theorem secF_tl {l : List UInt8} {x : Int} (h : secF l = some x) : hdOk l = true /\ tlOk (l.drop 19) = true := by
 unfold secF at h
 split at h
 ·rename_i hc
  rw [Bool.and_eq_true, Bool.and_eq_true] at hc
  exact ⟨hc.1, hc.2.1⟩
 ·cases h
def numR (l : List UInt8) (i n : Nat) : Int := if ((l.drop i).take n).all digU then numAt l i n else -1
def sepR (l : List UInt8) : Bool := decide (20 <= l.length) && (decide (l[4]? = some 45) && (decide (l[7]? = some 45) && (decide (l[10]? = some 84) && (decide (l[13]? = some 58) && (decide (l[16]? = some 58) && decide (l[l.length - 1]? = some 90))))))
def timeR (h m n : Int) : Bool := (decide (0 <= h) && decide (h <= 23)) && ((decide (0 <= m) && decide (m <= 59)) && (decide (0 <= n) && decide (n <= 59)))
def fracR (l : List UInt8) : Bool := decide (l.length <= 20) || (decide (l[19]? = some 46) && (decide (1 <= l.length - 21) && (decide (l.length - 21 <= 9) && (decide (0 <= numR l 20 (l.length - 21)) && decide (l[l.length - 2]? ≠ some 48)))))
def secR (l : List UInt8) : Option Int :=
 if sepR l then (match daysF (numR l 0 4) (numR l 5 2) (numR l 8 2) with
  | none => none
  | some d => if timeR (numR l 11 2) (numR l 14 2) (numR l 17 2) then (if fracR l then some (d * 86400 + numR l 11 2 * 3600 + numR l 14 2 * 60 + numR l 17 2) else none) else none) else none
theorem numAt_nonneg {l : List UInt8} {i n : Nat} (h : ((l.drop i).take n).all digU = true) : 0 <= numAt l i n := valD_nonneg h
theorem numR_yes {l : List UInt8} {i n : Nat} (h : ((l.drop i).take n).all digU = true) : numR l i n = numAt l i n := by unfold numR; rw [if_pos h]
theorem numR_no {l : List UInt8} {i n : Nat} (h : ((l.drop i).take n).all digU = false) : numR l i n = -1 := by unfold numR; rw [if_neg (by rw [h]; decide)]
theorem numR_dec {l : List UInt8} {i n : Nat} : decide (0 <= numR l i n) = ((l.drop i).take n).all digU := by
 cases h : ((l.drop i).take n).all digU
 ·rw [numR_no h]; rfl
 ·rw [numR_yes h]; exact decide_eq_true (numAt_nonneg h)
theorem one_more {l : List UInt8} {k : Nat} (h : k + 1 <= l.length) : ∃ c r, l = c :: r /\ k <= r.length := by
 cases l with
 | nil => simp at h
 | cons c r => exact ⟨c, r, rfl, by simpa using h⟩
theorem nineteen {l : List UInt8} (h : 19 <= l.length) : ∃ c0 c1 c2 c3 c4 c5 c6 c7 c8 c9 c10 c11 c12 c13 c14 c15 c16 c17 c18 t, l = c0 :: c1 :: c2 :: c3 :: c4 :: c5 :: c6 :: c7 :: c8 :: c9 :: c10 :: c11 :: c12 :: c13 :: c14 :: c15 :: c16 :: c17 :: c18 :: t := by
 obtain ⟨c0, l1, rfl, h1⟩ := one_more (k := 18) h
 obtain ⟨c1, l2, rfl, h2⟩ := one_more (k := 17) h1
 obtain ⟨c2, l3, rfl, h3⟩ := one_more (k := 16) h2
 obtain ⟨c3, l4, rfl, h4⟩ := one_more (k := 15) h3
 obtain ⟨c4, l5, rfl, h5⟩ := one_more (k := 14) h4
 obtain ⟨c5, l6, rfl, h6⟩ := one_more (k := 13) h5
 obtain ⟨c6, l7, rfl, h7⟩ := one_more (k := 12) h6
 obtain ⟨c7, l8, rfl, h8⟩ := one_more (k := 11) h7
 obtain ⟨c8, l9, rfl, h9⟩ := one_more (k := 10) h8
 obtain ⟨c9, l10, rfl, h10⟩ := one_more (k := 9) h9
 obtain ⟨c10, l11, rfl, h11⟩ := one_more (k := 8) h10
 obtain ⟨c11, l12, rfl, h12⟩ := one_more (k := 7) h11
 obtain ⟨c12, l13, rfl, h13⟩ := one_more (k := 6) h12
 obtain ⟨c13, l14, rfl, h14⟩ := one_more (k := 5) h13
 obtain ⟨c14, l15, rfl, h15⟩ := one_more (k := 4) h14
 obtain ⟨c15, l16, rfl, h16⟩ := one_more (k := 3) h15
 obtain ⟨c16, l17, rfl, h17⟩ := one_more (k := 2) h16
 obtain ⟨c17, l18, rfl, h18⟩ := one_more (k := 1) h17
 obtain ⟨c18, l19, rfl, h19⟩ := one_more (k := 0) h18
 exact ⟨_, _, _, _, _, _, _, _, _, _, _, _, _, _, _, _, _, _, _, _, rfl⟩
theorem hdOk_parts {l : List UInt8} (h : 19 <= l.length) : hdOk l = ((decide (l[4]? = some 45) && (decide (l[7]? = some 45) && (decide (l[10]? = some 84) && (decide (l[13]? = some 58) && decide (l[16]? = some 58))))) &&
 ((((l.drop 0).take 4).all digU && (((l.drop 5).take 2).all digU && ((l.drop 8).take 2).all digU)) && (((l.drop 11).take 2).all digU && (((l.drop 14).take 2).all digU && ((l.drop 17).take 2).all digU)))) := by
 obtain ⟨c0, c1, c2, c3, c4, c5, c6, c7, c8, c9, c10, c11, c12, c13, c14, c15, c16, c17, c18, t, rfl⟩ := nineteen h
 unfold hdOk
 rw [decide_eq_true h, Bool.true_and]
 have e : ((formL.zip (c0 :: c1 :: c2 :: c3 :: c4 :: c5 :: c6 :: c7 :: c8 :: c9 :: c10 :: c11 :: c12 :: c13 :: c14 :: c15 :: c16 :: c17 :: c18 :: t)).all (fun p => posOk p.1 p.2)) = (digU c0 && (digU c1 && (digU c2 && (digU c3 && (decide (c4 = 45) && (digU c5 && (digU c6 && (decide (c7 = 45) && (digU c8 && (digU c9 && (decide (c10 = 84) && (digU c11 && (digU c12 && (decide (c13 = 58) && (digU c14 && (digU c15 && (decide (c16 = 58) && (digU c17 && (digU c18 && true))))))))))))))))))) := rfl
 rw [e]
 simp only [List.getElem?_cons_succ, List.getElem?_cons_zero, Option.some.injEq, List.drop_succ_cons, List.drop_zero, List.take_succ_cons, List.take_zero, List.all_cons, List.all_nil, Bool.and_true]
 generalize digU c0 = d0; generalize digU c1 = d1; generalize digU c2 = d2; generalize digU c3 = d3; generalize digU c5 = d5; generalize digU c6 = d6; generalize digU c8 = d8; generalize digU c9 = d9; generalize digU c11 = d11; generalize digU c12 = d12; generalize digU c14 = d14; generalize digU c15 = d15; generalize digU c17 = d17; generalize digU c18 = d18
 generalize decide (c4 = 45) = s4; generalize decide (c7 = 45) = s7; generalize decide (c10 = 84) = s10; generalize decide (c13 = 58) = s13; generalize decide (c16 = 58) = s16
 rw [Bool.eq_iff_iff]
 simp only [Bool.and_eq_true]
 constructor
 ·rintro ⟨h0, h1, h2, h3, h4, h5, h6, h7, h8, h9, h10, h11, h12, h13, h14, h15, h16, h17, h18⟩
  exact ⟨⟨h4, h7, h10, h13, h16⟩, ⟨⟨h0, h1, h2, h3⟩, ⟨h5, h6⟩, h8, h9⟩, ⟨h11, h12⟩, ⟨h14, h15⟩, h17, h18⟩
 ·rintro ⟨⟨h4, h7, h10, h13, h16⟩, ⟨⟨h0, h1, h2, h3⟩, ⟨h5, h6⟩, h8, h9⟩, ⟨h11, h12⟩, ⟨h14, h15⟩, h17, h18⟩
  exact ⟨h0, h1, h2, h3, h4, h5, h6, h7, h8, h9, h10, h11, h12, h13, h14, h15, h16, h17, h18⟩
theorem tl_parts {l : List UInt8} (h : 20 <= l.length) : tlOk (l.drop 19) = (decide (l[l.length - 1]? = some 90) && fracR l) := by
 have hlen : (l.drop 19).length = l.length - 19 := List.length_drop
 have hl : (l.drop 19)[(l.drop 19).length - 1]? = l[l.length - 1]? := by rw [List.getElem?_drop, hlen]; congr 1; omega
 have hl2 : 21 <= l.length -> (l.drop 19)[l.length - 19 - 2]? = l[l.length - 2]? := fun _ => by rw [List.getElem?_drop]; congr 1; omega
 have h0 : (l.drop 19)[0]? = l[19]? := by rw [List.getElem?_drop]
 have hd : ((l.drop 19).drop 1).take ((l.drop 19).length - 2) = (l.drop 20).take (l.length - 21) := by rw [List.drop_drop, hlen]; congr 1
 unfold tlOk fracR
 rw [numR_dec, hl, h0, hd, hlen]
 by_cases h1 : l.length = 20
 ·have hz : decide (l.drop 19 = [90]) = decide (l[l.length - 1]? = some 90) := by
   obtain ⟨x, hx⟩ : ∃ x, l.drop 19 = [x] := by
    match hdr : l.drop 19, hlen with
    | [x], _ => exact ⟨x, rfl⟩
    | [], h2 => rw [h1] at h2; cases h2
    | _ :: _ :: _, h2 => rw [h1] at h2; simp at h2
   have h2 : l[l.length - 1]? = some x := by
    rw [<- hl, hlen, h1, hx]; rfl
   rw [hx, h2]
   simp
  rw [hz, decide_eq_false (p := 3 <= l.length - 19) (by omega), decide_eq_true (p := l.length <= 20) (by omega)]
  simp
 ·have hz : decide (l.drop 19 = [90]) = false := decide_eq_false (fun e => by rw [e] at hlen; simp at hlen; omega)
  rw [hz, decide_eq_false (p := l.length <= 20) (by omega), hl2 (by omega), Bool.false_or, Bool.false_or]
  have e1 : decide (3 <= l.length - 19) = decide (1 <= l.length - 21) := decide_eq_decide.2 (by omega)
  have e2 : decide (l.length - 19 <= 11) = decide (l.length - 21 <= 9) := decide_eq_decide.2 (by omega)
  rw [e1, e2]
  generalize decide (1 <= l.length - 21) = a; generalize decide (l.length - 21 <= 9) = b; generalize decide (l[19]? = some 46) = c; generalize decide (l[l.length - 1]? = some 90) = d; generalize decide (l[l.length - 2]? ≠ some 48) = e; generalize ((l.drop 20).take (l.length - 21)).all digU = f
  cases a <;> cases b <;> cases c <;> cases d <;> cases e <;> cases f <;> rfl
theorem daysF_neg {y m d : Int} (h : y = -1 \/ m = -1 \/ d = -1) : daysF y m d = none := by unfold daysF; rw [if_neg (by omega)]
theorem secR_eq (l : List UInt8) : secR l = secF l := by
 by_cases h20 : 20 <= l.length
 ·have hh := hdOk_parts (l := l) (by omega)
  have ht := tl_parts h20
  unfold secF secR
  rw [hh, ht]
  unfold sepR
  rw [decide_eq_true h20, Bool.true_and]
  cases hs4 : decide (l[4]? = some 45) <;> (try rfl)
  cases hs7 : decide (l[7]? = some 45) <;> (try rfl)
  cases hs10 : decide (l[10]? = some 84) <;> (try rfl)
  cases hs13 : decide (l[13]? = some 58) <;> (try rfl)
  cases hs16 : decide (l[16]? = some 58) <;> (try rfl)
  cases hz : decide (l[l.length - 1]? = some 90)
  ·simp
  ·simp only [Bool.true_and, if_true]
   cases hy : ((l.drop 0).take 4).all digU
   ·rw [numR_no hy, daysF_neg (.inl rfl)]; rfl
   cases hm : ((l.drop 5).take 2).all digU
   ·rw [numR_no hm, daysF_neg (.inr (.inl rfl))]; rfl
   cases hd : ((l.drop 8).take 2).all digU
   ·rw [numR_no hd, daysF_neg (.inr (.inr rfl))]; rfl
   rw [numR_yes hy, numR_yes hm, numR_yes hd]
   unfold timeR
   rw [numR_dec, numR_dec, numR_dec]
   cases hh' : ((l.drop 11).take 2).all digU
   ·cases daysF (numAt l 0 4) (numAt l 5 2) (numAt l 8 2) <;> rfl
   cases hi : ((l.drop 14).take 2).all digU
   ·rw [numR_yes hh']
    cases daysF (numAt l 0 4) (numAt l 5 2) (numAt l 8 2) <;> simp
   cases hn : ((l.drop 17).take 2).all digU
   ·rw [numR_yes hh', numR_yes hi]
    cases daysF (numAt l 0 4) (numAt l 5 2) (numAt l 8 2) <;> simp
   rw [numR_yes hh', numR_yes hi, numR_yes hn]
   simp only [Bool.true_and]
   cases hf : fracR l
   ·simp only [Bool.false_and, if_neg, Bool.false_eq_true, if_false]
    cases daysF (numAt l 0 4) (numAt l 5 2) (numAt l 8 2) <;> simp
   ·simp only [Bool.true_and]
    cases hdd : daysF (numAt l 0 4) (numAt l 5 2) (numAt l 8 2) with
    | none => simp
    | some D =>
      dsimp only
      by_cases hc : (decide (numAt l 11 2 <= 23) && (decide (numAt l 14 2 <= 59) && decide (numAt l 17 2 <= 59))) = true
      ·rw [if_pos hc, if_pos hc, if_true, Option.map_some]
       congr 1
       omega
      ·rw [if_neg hc, if_neg hc]
 ·have h1 : secR l = none := by unfold secR sepR; rw [decide_eq_false h20]; rfl
  have h2 : secF l = none := by
   cases h : secF l with
   | none => rfl
   | some x =>
     obtain ⟨_, ht⟩ := secF_tl h
     have := (tl_digs ht).2.1
     exact absurd this h20
  rw [h1, h2]
def hdStep (p : Nat × List Int) (x : UInt8 × UInt8) : Nat × List Int := if x.1 = 48 then (p.1, p.2.set p.1 (stepD (p.2.getD p.1 0) x.2)) else (p.1 + 1, p.2)
def hdFold (l : List UInt8) (i : Nat) : Nat × List Int := ((formL.zip l).take i).foldl hdStep (0, [0, 0, 0, 0, 0, 0])
def atN (i : Nat) : Nat := ((formL.take i).filter (fun c => decide (c ≠ 48))).length
theorem hdFold_succ {l : List UInt8} {i : Nat} {f c : UInt8} (hf : formL[i]? = some f) (hc : l[i]? = some c) : hdFold l (i + 1) = hdStep (hdFold l i) (f, c) := by
 unfold hdFold
 have hz : (formL.zip l)[i]? = some (f, c) := by rw [List.getElem?_zip_eq_some]; exact ⟨hf, hc⟩
 rw [List.take_add_one, hz, Option.toList_some, List.foldl_append]
 rfl
theorem atN_succ {i : Nat} {f : UInt8} (hf : formL[i]? = some f) : atN (i + 1) = atN i + if f = 48 then 0 else 1 := by
 unfold atN
 rw [List.take_add_one, hf, Option.toList_some, List.filter_append, List.length_append]
 by_cases h : f = 48
 ·simp [h]
 ·simp [h]
theorem atN_lt : ∀ i : Fin 19, atN i.1 <= 5 /\ i.1 - atN i.1 <= 13 /\ atN i.1 <= i.1 := by decide
theorem form_get : ∀ i : Fin 19, ∃ f, formL[i.1]? = some f := fun i => ⟨_, List.getElem?_eq_getElem (show i.1 < formL.length from i.2)⟩
structure HdI (l : List UInt8) (i : Nat) : Prop where
 at' : (hdFold l i).1 = atN i
 len : (hdFold l i).2.length = 6
 low : ∀ x ∈ (hdFold l i).2, 0 <= x /\ x < 10 ^ (i - atN i)
 ok : ((formL.zip l).take i).all (fun p => posOk p.1 p.2) = true
theorem HdI.start (l : List UInt8) : HdI l 0 := ⟨rfl, rfl, fun x hx => by
 have : x ∈ [0, 0, 0, 0, 0, (0 : Int)] := hx
 simp at this
 subst this
 exact ⟨by decide, by decide⟩, rfl⟩
theorem HdI.step {l : List UInt8} {i : Nat} {f c : UInt8} (h : HdI l i) (hi : i < 19) (hf : formL[i]? = some f) (hc : l[i]? = some c) (hp : posOk f c = true) : HdI l (i + 1) := by
 have hs := hdFold_succ hf hc
 have ha := atN_succ hf
 obtain ⟨a1, a2, a3⟩ := atN_lt ⟨i, hi⟩
 dsimp only at a1 a2 a3
 have hok : ((formL.zip l).take (i + 1)).all (fun p => posOk p.1 p.2) = true := by
  have hz : (formL.zip l)[i]? = some (f, c) := by rw [List.getElem?_zip_eq_some]; exact ⟨hf, hc⟩
  rw [List.take_add_one, hz, Option.toList_some, List.all_append, h.ok]
  simp [hp]
 by_cases h48 : f = 48
 ·subst h48
  rw [if_pos rfl] at ha
  unfold hdStep at hs
  rw [if_pos rfl] at hs
  have hd : digU c = true := hp
  unfold digU at hd
  simp only [Bool.and_eq_true, decide_eq_true_eq] at hd
  refine ⟨by rw [hs, ha, Nat.add_zero]; exact h.at', by rw [hs]; simp [h.len], fun x hx => ?_, hok⟩
  rw [hs] at hx
  dsimp only at hx
  have hpow : (10 : Int) ^ (i + 1 - atN (i + 1)) = 10 ^ (i - atN i) * 10 := by rw [ha, show i + 1 - (atN i + 0) = (i - atN i) + 1 by omega, Int.pow_succ]
  rw [hpow]
  rcases List.mem_or_eq_of_mem_set hx with hm | rfl
  ·have := h.low x hm
   omega
  ·have hgm : (hdFold l i).2.getD (hdFold l i).1 0 ∈ (hdFold l i).2 := by
    rw [List.getD_eq_getElem?_getD, List.getElem?_eq_getElem (by rw [h.at', h.len]; omega)]
    exact List.getElem_mem _
   have := h.low _ hgm
   unfold stepD
   omega
 ·rw [if_neg h48] at ha
  unfold hdStep at hs
  rw [if_neg h48] at hs
  refine ⟨by rw [hs, ha, <- h.at'], by rw [hs]; exact h.len, fun x hx => ?_, hok⟩
  rw [hs] at hx
  have := h.low x hx
  rw [ha, show i + 1 - (atN i + 1) = i - atN i by omega]
  exact this
theorem HdI.bound {l : List UInt8} {i : Nat} (h : HdI l i) (hi : i < 19) : 0 <= (hdFold l i).2.getD (atN i) 0 /\ (hdFold l i).2.getD (atN i) 0 < 10000000000000 := by
 obtain ⟨a1, a2, a3⟩ := atN_lt ⟨i, hi⟩
 dsimp only at a1 a2 a3
 have hgm : (hdFold l i).2.getD (atN i) 0 ∈ (hdFold l i).2 := by
  rw [List.getD_eq_getElem?_getD, List.getElem?_eq_getElem (by rw [h.len]; omega)]
  exact List.getElem_mem _
 have := h.low _ hgm
 have h13 : (10 : Int) ^ (i - atN i) <= 10 ^ 13 := by
  have : ∀ k : Nat, k <= 13 -> (10 : Int) ^ k <= 10 ^ 13 := by
   intro k hk
   have h1 : (10 : Nat) ^ k <= 10 ^ 13 := Nat.pow_le_pow_right (by decide) hk
   have h2 : ((10 ^ k : Nat) : Int) <= ((10 ^ 13 : Nat) : Int) := by omega
   simpa using h2
  exact this _ a2
 have h14 : (10 : Int) ^ 13 = 10000000000000 := by decide
 omega
theorem hdFold_end {l : List UInt8} (h : 19 <= l.length) : (hdFold l 19).2 = [numAt l 0 4, numAt l 5 2, numAt l 8 2, numAt l 11 2, numAt l 14 2, numAt l 17 2] := by
 obtain ⟨c0, c1, c2, c3, c4, c5, c6, c7, c8, c9, c10, c11, c12, c13, c14, c15, c16, c17, c18, t, rfl⟩ := nineteen h
 rfl
theorem HdI.fin {l : List UInt8} (h : HdI l 19) (hl : 19 <= l.length) : hdOk l = true := by
 unfold hdOk
 rw [decide_eq_true hl, Bool.true_and]
 have h1 := h.ok
 rw [List.take_of_length_le (by rw [List.length_zip]; show min 19 _ <= 19; omega)] at h1
 exact h1
theorem hd_no {l : List UInt8} {i : Nat} {f c : UInt8} (hf : formL[i]? = some f) (hc : l[i]? = some c) (hp : posOk f c = false) : hdOk l = false := by
 unfold hdOk
 rw [Bool.and_eq_false_iff]
 right
 have hz : (formL.zip l)[i]? = some (f, c) := by rw [List.getElem?_zip_eq_some]; exact ⟨hf, hc⟩
 rw [List.all_eq_false]
 exact ⟨(f, c), List.mem_of_getElem? hz, by rw [hp]; decide⟩
theorem hd_short {l : List UInt8} (h : l.length < 19) : hdOk l = false := by
 unfold hdOk
 rw [decide_eq_false (by omega)]
 rfl
end
section
open Go Go.RowKit Go.OpenShut
theorem ret_intS {a b : Int} (h : a = b) : Ending.returned (.int .i64 a) = .returned (.int .i64 b) := by rw [h]
theorem leap_any (y : Int) (w : World) (h0 : 0 <= y) (h1 : y <= 9999) : Calls Tryz.prog 195 #[.int .i64 y] w fun e w' => e = .returned (.bool (leapB y)) /\ w = w' := by
 obtain ⟨a, ha⟩ : ∃ a, (y % 4 == 0) = a := ⟨_, rfl⟩
 obtain ⟨b, hb⟩ : ∃ a, (y % 100 == 0) = a := ⟨_, rfl⟩
 obtain ⟨c, hc⟩ : ∃ a, (y % 400 == 0) = a := ⟨_, rfl⟩
 have hb2 : (y % 100 != 0) = !b := by unfold bne; rw [hb]
 have HR : Hid (leapB y = ((a && !b) || c)) := by
  unfold Hid leapB
  rw [<- ha, <- hb, <- hc]
  have h : ∀ n : Int, (n == 0) = decide (n = 0) := fun n => by by_cases h : n = 0 <;> simp [h]
  rw [h, h, h]
  simp
 rw [HR.out]
 cases a <;> cases b <;> cases c
 all_goals
  simp only [Bool.not_false, Bool.not_true] at hb2
  go_enter Tryz.func195, Tryz.ntmps195
  go_wp2_with fail
  go_ret
  exact ⟨rfl, rfl⟩
theorem month_any (y m : Int) (w : World) (h0 : 0 <= y) (h1 : y <= 9999) (m0 : 1 <= m) (m1 : m <= 12) : Calls Tryz.prog 176 #[.int .i64 y, .int .i64 m] w fun e w' => e = .returned (.int .i64 (monthF y m)) /\ w = w' := by
 have HL : Hid (∀ W, Calls Tryz.prog 195 #[.int .i64 y] W fun e w' => e = .returned (.bool (leapB y)) /\ W = w') := fun W => leap_any y W h0 h1
 have HM : Hid (monthF y m = if m = 4 \/ m = 6 \/ m = 9 \/ m = 11 then 30 else if m = 2 then (if leapB y then 29 else 28) else 31) := rfl
 obtain ⟨b, hb⟩ : ∃ b, leapB y = b := ⟨_, rfl⟩
 rw [hb] at HL HM
 obtain ⟨R, hR⟩ : ∃ R, monthF y m = R := ⟨_, rfl⟩
 rw [hR] at HM
 rw [hR]
 clear hR hb
 rcases (show m = 1 \/ m = 2 \/ m = 3 \/ m = 4 \/ m = 5 \/ m = 6 \/ m = 7 \/ m = 8 \/ m = 9 \/ m = 10 \/ m = 11 \/ m = 12 by omega) with rfl | rfl | rfl | rfl | rfl | rfl | rfl | rfl | rfl | rfl | rfl | rfl
 all_goals
  cases b
  all_goals
   go_enter Tryz.func176, Tryz.ntmps176
   go_wp2_with (first | (go_at_call 195; refine (HL.out _).mono ?_; rintro e w1 ⟨rfl, rfl⟩) | fail)
   go_ret
   exact ⟨ret_intS (by rw [HM.out]; decide), rfl⟩
theorem aheadS_any (y : Int) (w : World) (h0 : 0 <= y) (h1 : y <= 9999) : Calls Tryz.prog 177 #[.int .i64 y] w fun e w' => e = .returned (.int .i64 (aheadF y)) /\ w = w' := by
 by_cases h : y = 0
 ·subst h
  go_enter Tryz.func177, Tryz.ntmps177
  go_wp2_with fail
  go_ret
  exact ⟨rfl, rfl⟩
 ·have hn : (y == 0) = false := by simpa using h
  have hy1 : 0 <= y - 1 := by omega
  have HA : Hid (aheadF y = 365 * y + (y - 1) / 4 - (y - 1) / 100 + (y - 1) / 400 + 1) := by unfold Hid aheadF; rw [if_neg h]
  obtain ⟨R, hR⟩ : ∃ R, aheadF y = R := ⟨_, rfl⟩
  rw [hR] at HA
  rw [hR]
  clear hR h
  go_enter Tryz.func177, Tryz.ntmps177
  go_wp2_with fail
  go_ret
  refine ⟨ret_intS ?_, rfl⟩
  rw [HA.out]
  try unfold wrap64
  try omega
def dayRet (o : Option Int) : Value := match o with | some n => .tuple #[.int .i64 n, .bool true] | none => .tuple #[.int .i64 0, .bool false]
theorem days_any (y m d : Int) (w : World) (h0 : 0 <= y) (h1 : y <= 9999) (m0 : 0 <= m) (m1 : m <= 99) (d0 : 0 <= d) (d1 : d <= 99) : Calls Tryz.prog 162 #[.int .i64 y, .int .i64 m, .int .i64 d] w fun e w' => e = .returned (dayRet (daysF y m d)) /\ w = w' := by
 have q1 : decide (y < 0) = false := decide_eq_false (by omega)
 have q2 : decide ((9999 : Int) < y) = false := decide_eq_false (by omega)
 obtain ⟨a, ha⟩ : ∃ a, decide (m < 1) = a := ⟨_, rfl⟩
 obtain ⟨b, hb⟩ : ∃ a, decide ((12 : Int) < m) = a := ⟨_, rfl⟩
 obtain ⟨c, hc⟩ : ∃ a, decide (d < 1) = a := ⟨_, rfl⟩
 have HDF : Hid (daysF y m d = if 0 <= y /\ y <= 9999 /\ 1 <= m /\ m <= 12 /\ 1 <= d /\ d <= monthF y m then some (aheadF y - aheadF 1970 + monthsF y (m.toNat - 1) + d - 1) else none) := rfl
 have HABC : Hid (decide (m < 1) = a /\ decide ((12 : Int) < m) = b /\ decide (d < 1) = c) := ⟨ha, hb, hc⟩
 obtain ⟨R, hR⟩ : ∃ R, daysF y m d = R := ⟨_, rfl⟩
 rw [hR] at HDF
 rw [hR]
 clear hR
 cases habc : (a || (b || c)) with
 | true =>
   have HN : Hid (R = none) := by
    unfold Hid
    rw [HDF.out, if_neg]
    rintro ⟨_, _, g1, g2, g3, _⟩
    obtain ⟨x1, x2, x3⟩ := HABC.out
    rw [decide_eq_false (by omega)] at x1 x2 x3
    rw [<- x1, <- x2, <- x3] at habc
    cases habc
   rw [HN.out]
   cases a <;> cases b <;> cases c <;> simp only [Bool.or_true, Bool.or_false, Bool.or_self, reduceCtorEq] at habc
   all_goals
    go_enter Tryz.func162, Tryz.ntmps162
    go_wp2_with fail
    refine bodyPost_ret (v := .tuple #[.int .i64 0, .bool false]) (by simp [results, Tryz.results162, go_sem]) rfl ⟨rfl, rfl⟩
 | false =>
   obtain rfl : a = false := by cases a <;> simp_all
   obtain rfl : b = false := by cases b <;> simp_all
   obtain rfl : c = false := by cases c <;> simp_all
   have m0' := of_decide_eq_false ha
   have m1' := of_decide_eq_false hb
   have d0' := of_decide_eq_false hc
   clear habc
   have HMO : Hid (∀ (k : Int) W, 1 <= k -> k <= 12 -> Calls Tryz.prog 176 #[.int .i64 y, .int .i64 k] W fun e w' => e = .returned (.int .i64 (monthF y k)) /\ W = w') := fun k W g1 g2 => month_any y k W h0 h1 g1 g2
   have HAH : Hid (∀ W, Calls Tryz.prog 177 #[.int .i64 y] W fun e w' => e = .returned (.int .i64 (aheadF y)) /\ W = w') := fun W => aheadS_any y W h0 h1
   have HA7 : Hid (∀ W, Calls Tryz.prog 177 #[.int .i64 1970] W fun e w' => e = .returned (.int .i64 (aheadF 1970)) /\ W = w') := fun W => aheadS_any 1970 W (by decide) (by decide)
   have HMB := Lib.hid (month_pos y)
   have HAB := Lib.hid (aheadF_bound h0 (show y <= 10000 by omega))
   have e7 : aheadF 1970 = 719528 := by decide
   rw [e7] at HA7 HDF
   have HM := Lib.hid (HMO.out m)
   obtain ⟨M, hM⟩ : ∃ M, monthF y m = M := ⟨_, rfl⟩
   rw [hM] at HM HDF
   obtain ⟨e, he⟩ : ∃ a, decide (M < d) = a := ⟨_, rfl⟩
   have hmb := HMB.out m
   rw [hM] at hmb
   cases e with
   | true =>
     have hed := of_decide_eq_true he
     have HN : Hid (R = none) := by
      unfold Hid
      rw [HDF.out, if_neg (by omega)]
     rw [HN.out]
     go_enter Tryz.func162, Tryz.ntmps162
     go_wp2_with (first | (go_at_call 176; refine (HM.out _ (by omega) (by omega)).mono ?_; rintro e w1 ⟨rfl, rfl⟩) | fail)
     refine bodyPost_ret (v := .tuple #[.int .i64 0, .bool false]) (by simp [results, Tryz.results162, go_sem]) rfl ⟨rfl, rfl⟩
   | false =>
     have hed := of_decide_eq_false he
     obtain ⟨A, hA⟩ : ∃ A, aheadF y = A := ⟨_, rfl⟩
     rw [hA] at HAH HAB HDF
     have HN : Hid (R = some (A - 719528 + monthsF y (m.toNat - 1) + d - 1)) := by
      unfold Hid
      rw [HDF.out, if_pos (by omega)]
     have hab := HAB.out
     go_enter Tryz.func162, Tryz.ntmps162
     go_upto_region 3 with (first | (go_at_call 176; refine (HM.out _ (by omega) (by omega)).mono ?_; rintro e w1 ⟨rfl, rfl⟩) | fail)
     go_wp2_with (first | (go_at_call 177; (with_reducible refine (HAH.out _).mono ?_); rintro e w1 ⟨rfl, rfl⟩) | (go_at_call 177; (with_reducible refine (HA7.out _).mono ?_); rintro e w1 ⟨rfl, rfl⟩) | fail)
     go_loop [8, 9] (fun n k => ∃ j : Nat, (j : Int) + 1 <= m /\ k = .int .i64 ((j + 1 : Nat) : Int) /\ n = .int .i64 (A - 719528 + monthsF y j)) (fun _ k => m.toNat - (intOf k).toNat)
     case atStart => exact ⟨0, by omega, rfl, by simp [monthsF]⟩
     case round =>
      obtain ⟨j, hj, rfl, rfl⟩ := hrel
      have hms := monthsF_bound y j
      have HSU : Hid (monthsF y (j + 1) = monthsF y j + monthF y ((j + 1 : Nat) : Int)) := rfl
      obtain ⟨S, hS⟩ : ∃ S, monthsF y j = S := ⟨_, rfl⟩
      rw [hS] at hms HSU
      rw [hS]
      have HSE := Lib.hid hS
      clear hS
      have hj0 : (0 : Int) <= (j : Int) := Int.natCast_nonneg _
      by_cases hlt : (j : Int) + 1 < m
      ·have HMJ := Lib.hid (HMO.out ((j + 1 : Nat) : Int))
       have hmb2 := HMB.out ((j + 1 : Nat) : Int)
       obtain ⟨T, hT⟩ : ∃ T, monthF y ((j + 1 : Nat) : Int) = T := ⟨_, rfl⟩
       rw [hT] at HMJ HSU hmb2
       have hlt2 : decide (((j + 1 : Nat) : Int) < m) = true := decide_eq_true (by omega)
       clear hT
       go_wp2_with (first | (go_at_call 176; refine (HMJ.out _ (by omega) (by omega)).mono ?_; rintro e w1 ⟨rfl, rfl⟩) | fail)
       go_round
       case rel => exact ⟨j + 1, by omega, by go_num, by rw [HSU.out]; exact congrArg (Value.int IntKind.i64) (by omega)⟩
       case measure => simp [intOf]; omega
      ·have hlt2 : decide (((j + 1 : Nat) : Int) < m) = false := decide_eq_false (by omega)
       have HJ : Hid (m.toNat - 1 = j) := by unfold Hid; omega
       rw [HJ.out, HSE.out] at HN
       go_wp2_with fail
       rw [HN.out]
       refine bodyPost_ret (v := .tuple #[.int .i64 (A - 719528 + S + d - 1), .bool true]) (by simp [results, Tryz.results162, go_sem]) rfl ⟨rfl, rfl⟩
theorem get_optS {s : ByteArray} {k : Nat} (h : k < s.size) : s.data.toList[k]? = some s[k] := by simp [h, ByteArray.getElem_eq_getElem_data]
def hdCells (ns : List Int) : Array Value := (ns.map (Value.int .i64)).toArray
def HdAt (W : World) (g : Nat) (ns : List Int) : Prop := W.heap[g]? = some (.cells (hdCells ns) 177 (0, 0))
theorem HdAt.cell {W : World} {g : Nat} {ns : List Int} (h : HdAt W g ns) {j : Nat} {x : Int} (hx : ns[j]? = some x) : W.cell? ⟨g, j, none⟩ = some (.int .i64 x) := by
 unfold HdAt at h
 rw [cell_of_row W g j _ _ _ h]
 unfold hdCells
 simp [hx]
theorem HdAt.lt {W : World} {g : Nat} {ns : List Int} (h : HdAt W g ns) : g < W.heap.size := (Array.getElem?_eq_some_iff.1 h).1
theorem HdAt.frozen {W : World} {g : Nat} {ns : List Int} (h : HdAt W g ns) (j : Nat) : W.frozen? ⟨g, j, none⟩ = false := by
 unfold HdAt at h
 simp [World.frozen?, h]
theorem HdAt.set {W : World} {g : Nat} {ns : List Int} (h : HdAt W g ns) (j : Nat) (x : Int) : HdAt (W.setCell ⟨g, j, none⟩ (.int .i64 x)) g (ns.set j x) := by
 unfold HdAt at h ⊢
 simp [World.setCell, Array.getElem?_modify, h, hdCells, List.map_set]
theorem HdAt.keep {W W' : World} {g : Nat} {ns : List Int} (h : HdAt W g ns) (hb : W'.heap[g]? = W.heap[g]?) : HdAt W' g ns := hb.trans h
structure HdS (w : World) (l : List UInt8) (i : Nat) (W : World) : Prop where
 nums : HdAt W (w.heap.size + 1) (hdFold l i).2
 zero : HdAt W w.heap.size [0, 0, 0, 0, 0, 0]
 below : Below w.heap.size w W
theorem HdS.drewN {w W : World} {l : List UInt8} {i : Nat} (h : HdS w l i W) (n : Nat) : HdS w l i (W.drewN n) := ⟨h.nums, h.zero, bdn h.below n⟩
theorem form_sep : ∀ i : Fin 19, ∀ f, formL[i.1]? = some f -> f ≠ 48 -> digU f = false := by
 have h : ∀ f ∈ formL, f ≠ 48 -> digU f = false := by decide
 exact fun i f hf hn => h f (List.mem_of_getElem? hf) hn
theorem head_test {i : Nat} (hi : i < 19) {f c : UInt8} (hf : formL[i]? = some f) : posOk f c = !((digU c != decide (f = 48)) || (!digU c && decide (c ≠ f))) := by
 unfold posOk
 by_cases h : f = 48
 ·rw [if_pos h, decide_eq_true h]
  cases hd : digU c with
  | true => rfl
  | false => rfl
 ·rw [if_neg h, decide_eq_false h]
  by_cases hc : c = f
  ·have hd := form_sep ⟨i, hi⟩ f hf h
   rw [hc, hd]
   simp
  ·rw [decide_eq_false hc, decide_eq_true hc]
   cases digU c <;> rfl
theorem Below.six {B : Nat} {w W : World} {g : Nat} (h : Below B w W) (hg : B <= g) (a b c d x y : Value) : Below B w ((((((W.setCell ⟨g, 0, none⟩ a).setCell ⟨g, 1, none⟩ b).setCell ⟨g, 2, none⟩ c).setCell ⟨g, 3, none⟩ d).setCell ⟨g, 4, none⟩ x).setCell ⟨g, 5, none⟩ y) :=
 (((((h.setCell (p := ⟨g, 0, none⟩) hg _).setCell (p := ⟨g, 1, none⟩) hg _).setCell (p := ⟨g, 2, none⟩) hg _).setCell (p := ⟨g, 3, none⟩) hg _).setCell (p := ⟨g, 4, none⟩) hg _).setCell (p := ⟨g, 5, none⟩) hg _
def headRet (l : List UInt8) (e : Ending) : Prop := if hdOk l = true then e = .returned (.tuple #[.agg #[.int .i64 (numAt l 0 4), .int .i64 (numAt l 5 2), .int .i64 (numAt l 8 2), .int .i64 (numAt l 11 2), .int .i64 (numAt l 14 2), .int .i64 (numAt l 17 2)], .bool true]) else ∃ a b c d x y : Int, e = .returned (.tuple #[.agg #[.int .i64 a, .int .i64 b, .int .i64 c, .int .i64 d, .int .i64 x, .int .i64 y], .bool false])
theorem six {ns : List Int} (h : ns.length = 6) : ∃ a b c d x y, ns = [a, b, c, d, x, y] := by
 match ns, h with
 | [a, b, c, d, x, y], _ => exact ⟨a, b, c, d, x, y, rfl⟩
theorem head_any (s : ByteArray) (w : World) (hs : s.size <= maxLen) : Calls Tryz.prog 160 #[.string s] w fun e w' => headRet s.data.toList e /\ Below w.heap.size w w' := by
 have hsz : s.data.toList.length = s.size := by rw [Array.length_toList]; rfl
 unfold maxLen at hs
 obtain ⟨W0, hW0⟩ : ∃ W0, (w.alloc (.cells #[.int .i64 0, .int .i64 0, .int .i64 0, .int .i64 0, .int .i64 0, .int .i64 0] 177)).alloc (.cells #[.int .i64 0, .int .i64 0, .int .i64 0, .int .i64 0, .int .i64 0, .int .i64 0] 177) = W0 := ⟨_, rfl⟩
 have hS0 : HdS w s.data.toList 0 W0 := by
  rw [<- hW0]
  exact ⟨heap_alloc_at (by simp), heap_alloc_lt (by simp) (heap_alloc_at rfl), below2 w _ _⟩
 have HW := Lib.hid hW0
 have HS0 := Lib.hid hS0
 have HGE : Hid (∀ k, (h : k < s.size) -> s.data.toList[k]? = some s[k]) := fun k h => get_optS h
 have HSZ := Lib.hid hsz
 have s0 : (0 : Int) <= (s.size : Int) := Int.natCast_nonneg _
 clear hW0 hS0 hsz
 by_cases h19 : s.size < 19
 ·have q1 : decide ((s.size : Int) < 19) = true := decide_eq_true (by omega)
  have HNO : Hid (hdOk s.data.toList = false) := hd_short (by rw [HSZ.out]; exact h19)
  have c0 := HS0.out.nums.cell (j := 0) rfl
  have c1 := HS0.out.nums.cell (j := 1) rfl
  have c2 := HS0.out.nums.cell (j := 2) rfl
  have c3 := HS0.out.nums.cell (j := 3) rfl
  have c4 := HS0.out.nums.cell (j := 4) rfl
  have c5 := HS0.out.nums.cell (j := 5) rfl
  have z0 := HS0.out.zero.cell (j := 0) rfl
  have z1 := HS0.out.zero.cell (j := 1) rfl
  have z2 := HS0.out.zero.cell (j := 2) rfl
  have z3 := HS0.out.zero.cell (j := 3) rfl
  have z4 := HS0.out.zero.cell (j := 4) rfl
  have z5 := HS0.out.zero.cell (j := 5) rfl
  have y := HS0.out.zero.frozen
  go_enter Tryz.func160, Tryz.ntmps160
  go_upto_region 2 with fail
  rw [HW.out]
  clear HW
  go_wp2_with fail
  refine bodyPost_ret (v := .tuple #[.agg #[.int .i64 0, .int .i64 0, .int .i64 0, .int .i64 0, .int .i64 0, .int .i64 0], .bool false]) (by simp [results, Tryz.results160, go_sem, z0, z1, z2, z3, z4, z5]) rfl ⟨?_, Below.six HS0.out.below (Nat.le_refl _) _ _ _ _ _ _⟩
  unfold headRet
  rw [if_neg (by rw [HNO.out]; decide)]
  exact ⟨_, _, _, _, _, _, rfl⟩
 ·have q1 : decide ((s.size : Int) < 19) = false := decide_eq_false (by omega)
  have hlen : 19 <= s.data.toList.length := by rw [HSZ.out]; omega
  have HL := Lib.hid hlen
  have h19' : (19 : Int) <= (s.size : Int) := by omega
  have hw0 := HS0.out.below.size
  have hw1 := HS0.out.nums.lt
  clear hlen
  go_enter Tryz.func160, Tryz.ntmps160
  go_upto_region 2 with fail
  rw [HW.out]
  clear HW
  go_wp2_with fail
  go_loopw [5, 12] (fun a i wr => ∃ k : Nat, k <= 19 /\ i = .int .i64 (k : Int) /\ a = .int .i64 ((atN k : Nat) : Int) /\ Hid (HdI s.data.toList k /\ HdS w s.data.toList k wr)) (fun _ i _ => 19 - (intOf i).toNat)
  case atStart => exact ⟨0, by omega, rfl, rfl, HdI.start _, HS0.out⟩
  case round =>
   obtain ⟨k, hk, rfl, rfl, hH⟩ := hrel
   have HI := Lib.hid hH.out.1
   have HS := Lib.hid hH.out.2
   have hk0 : (0 : Int) <= (k : Int) := Int.natCast_nonneg _
   clear hH
   by_cases hlt : k < 19
   ·have hk19 : (k : Int) < 19 := by omega
    have hks : k < s.size := by omega
    have hks' : (k : Int) < (s.size : Int) := by omega
    obtain ⟨f, hf⟩ := form_get ⟨k, hlt⟩
    dsimp only at hf
    have hg := HGE.out k hks
    obtain ⟨c, hc⟩ : ∃ c, s[k] = c := ⟨_, rfl⟩
    rw [hc] at hg
    have HF := Lib.hid hf
    have HC := Lib.hid hg
    have hfb : ({ data := #[48, 48, 48, 48, 45, 48, 48, 45, 48, 48, 84, 48, 48, 58, 48, 48, 58, 48, 48] } : ByteArray)[k]'hlt = f := by
     have h1 : formL[k]? = some (({ data := #[48, 48, 48, 48, 45, 48, 48, 45, 48, 48, 84, 48, 48, 58, 48, 48, 58, 48, 48] } : ByteArray)[k]'hlt) := get_optS (s := { data := #[48, 48, 48, 48, 45, 48, 48, 45, 48, 48, 84, 48, 48, 58, 48, 48, 58, 48, 48] }) hlt
     rw [hf] at h1
     exact (Option.some.inj h1).symm
    have ha5 := (atN_lt ⟨k, hlt⟩).1
    dsimp only at ha5
    have HA1 := Lib.hid (atN_succ hf)
    obtain ⟨d, hd⟩ : ∃ d, digU c = d := ⟨_, rfl⟩
    have HDG : Hid (digU c = (decide (48 <= c.toNat) && decide (c.toNat <= 57))) := rfl
    have HD := Lib.hid hd
    obtain ⟨z, hz⟩ : ∃ z, atN k = z := ⟨_, rfl⟩
    rw [hz] at ha5
    have hz0 : (0 : Int) <= (z : Int) := Int.natCast_nonneg _
    have hz5 : (z : Int) < 6 := by omega
    rw [hz]
    have HZ := Lib.hid hz
    clear hg hf hd hz
    go_upto_region 8 with fail
    go_cut [7] from 15 to 24 (fun v wq => v = .bool d /\ wq = wr)
    case first =>
     obtain ⟨x, hx⟩ : ∃ b, decide ((48 : Int) <= ((c.toNat : Nat) : Int)) = b := ⟨_, rfl⟩
     obtain ⟨y, hy⟩ : ∃ b, decide (((c.toNat : Nat) : Int) <= 57) = b := ⟨_, rfl⟩
     have HXY : Hid (d = (x && y)) := by
      unfold Hid
      rw [<- HD.out, HDG.out, <- hx, <- hy]
      congr 1
      ·exact decide_eq_decide.2 (by omega)
      ·exact decide_eq_decide.2 (by omega)
     cases x <;> cases y
     all_goals
      go_wp2_with fail
      go_meet
      exact ⟨by rw [HXY.out]; rfl, rfl⟩
    case rest =>
    obtain ⟨rfl, hwc⟩ := hcut
    obtain rfl : wr = wc := hwc.symm
    obtain ⟨fb, hfb2⟩ : ∃ b, (((f.toNat : Nat) : Int) == 48) = b := ⟨_, rfl⟩
    obtain ⟨cf, hcf⟩ : ∃ b, (((c.toNat : Nat) : Int) != ((f.toNat : Nat) : Int)) = b := ⟨_, rfl⟩
    have HFB : Hid (decide (f = 48) = fb) := by
     unfold Hid
     rw [<- hfb2]
     by_cases h : f = 48
     ·rw [decide_eq_true h, h]; rfl
     ·have h2 : ¬ f.toNat = 48 := fun e => h (UInt8.toNat_inj.1 e)
      rw [decide_eq_false h]
      simp
      omega
    have HCF : Hid (decide (c ≠ f) = cf) := by
     unfold Hid
     rw [<- hcf]
     by_cases h : c = f
     ·rw [h]; simp
     ·have h2 : ¬ c.toNat = f.toNat := fun e => h (UInt8.toNat_inj.1 e)
      rw [decide_eq_true h]
      simp
      omega
    have hcf2 : (((c.toNat : Nat) : Int) == ((f.toNat : Nat) : Int)) = !cf := by
     rw [<- hcf]
     unfold bne
     simp
    have HPO : Hid (posOk f c = !((d != fb) || (!d && cf))) := by
     unfold Hid
     rw [head_test hlt HF.out, HD.out, HFB.out, HCF.out]
    obtain ⟨bad, hbad⟩ : ∃ b, ((d != fb) || (!d && cf)) = b := ⟨_, rfl⟩
    rw [hbad] at HPO
    have HBD := Lib.hid hbad
    clear hbad
    go_upto_region 9 with fail
    go_cut [41] from 25 to 41 (fun v wq => v = .bool bad /\ ∃ q, wq = wr.drewN q)
    case first =>
     cases d <;> cases fb <;> cases cf
     all_goals
      simp only [Bool.not_false, Bool.not_true] at hcf2
      go_wp2_with fail
      go_quiet (fail)
      go_wp2_with fail
      go_meet
      exact ⟨by rw [<- HBD.out]; rfl, _, rfl⟩
    case rest =>
    obtain ⟨rfl, q, hwc⟩ := hcut
    obtain ⟨W9, hW9⟩ : ∃ W, wr.drewN q = W := ⟨_, rfl⟩
    rw [hW9] at hwc
    obtain rfl : W9 = wc := hwc.symm
    have HS9 : Hid (HdS w s.data.toList k W9) := by rw [<- hW9]; exact HS.out.drewN q
    clear hW9 HS hfb2 hcf hcf2
    obtain ⟨a0, a1, a2, a3, a4, a5, hns⟩ := six HI.out.len
    have hN := HS9.out.nums
    have hZe := HS9.out.zero
    cases bad
    ·have HIS := Lib.hid (HI.out.step hlt HF.out HC.out (by rw [HPO.out]; rfl))
     have HST := Lib.hid (hdFold_succ HF.out HC.out)
     have hat : (hdFold s.data.toList k).1 = z := HI.out.at'.trans HZ.out
     have HAT := Lib.hid hat
     clear hat
     cases d
     ·have hfb : fb = false := by
       have h := HBD.out
       cases fb
       ·rfl
       ·cases h
      have hne : f ≠ 48 := by
       have h := HFB.out
       rw [hfb] at h
       exact of_decide_eq_false h
      have HNE := Lib.hid hne
      have HAS : Hid (atN (k + 1) = z + 1) := by unfold Hid; rw [HA1.out, if_neg hne, HZ.out]
      clear hN hZe hns hfb hne
      go_wp2_with fail
      go_roundw
      case rel =>
       refine ⟨k + 1, by omega, by go_num, by rw [HAS.out]; go_num, HIS.out, ⟨?_, HS9.out.zero, HS9.out.below⟩⟩
       rw [HST.out]
       unfold hdStep
       rw [if_neg HNE.out]
       exact HS9.out.nums
      case measure => simp [intOf]; omega
     ·have hfb : fb = true := by
       have h := HBD.out
       cases fb
       ·cases h
       ·rfl
      have hne : f = 48 := by
       have h := HFB.out
       rw [hfb] at h
       exact of_decide_eq_true h
      have HNE := Lib.hid hne
      have HAS : Hid (atN (k + 1) = z) := by unfold Hid; rw [HA1.out, if_pos hne, HZ.out]; rfl
      obtain ⟨hb0, hb1⟩ := HI.out.bound hlt
      rw [HZ.out] at hb0 hb1
      have hgx : (hdFold s.data.toList k).2[z]? = some ((hdFold s.data.toList k).2.getD z 0) := by
       rw [List.getD_eq_getElem?_getD, List.getElem?_eq_getElem (by rw [HI.out.len]; omega)]
       rfl
      have cz := hN.cell hgx
      have hfz := hN.frozen z
      obtain ⟨n, hn⟩ : ∃ n, (hdFold s.data.toList k).2.getD z 0 = n := ⟨_, rfl⟩
      rw [hn] at cz hb0 hb1
      have HNN := Lib.hid hn
      have hdd := HD.out
      unfold digU at hdd
      simp only [Bool.and_eq_true, decide_eq_true_eq] at hdd
      have hE : n * 10 + (((c.toNat : Nat) : Int) - 48) % 256 = stepD n c := by
       unfold stepD
       omega
      have HE := Lib.hid hE
      have hlw := hN.lt
      clear hN hZe hns hfb hne hgx hn hdd hE
      go_upto_region 13 with fail
      go_region
      go_wp2_with fail
      go_roundw
      case rel =>
       refine ⟨k + 1, by omega, by go_num, by rw [HAS.out], HIS.out, ?_⟩
       have hset := HS9.out.nums.set z (stepD n c)
       have hg := grownBy_set W9 (w.heap.size + 1) z (.int .i64 (stepD n c))
       have hzz : HdAt (W9.setCell ⟨w.heap.size + 1, z, none⟩ (.int .i64 (stepD n c))) w.heap.size [0, 0, 0, 0, 0, 0] := HS9.out.zero.keep (hg.block _ (by omega) (fun e => by injection e with e; omega))
       have hbb := Below.setCell HS9.out.below (p := ⟨w.heap.size + 1, z, none⟩) (Nat.le_succ _) (.int .i64 (stepD n c))
       rw [HE.out]
       refine ⟨?_, hzz, hbb.drew⟩
       rw [HST.out]
       unfold hdStep
       rw [if_pos HNE.out, HAT.out, HNN.out]
       exact hset
      case measure => simp [intOf]; omega
    ·have HNO : Hid (hdOk s.data.toList = false) := hd_no HF.out HC.out (by rw [HPO.out]; rfl)
     rw [hns] at hN
     have c0 := hN.cell (j := 0) rfl
     have c1 := hN.cell (j := 1) rfl
     have c2 := hN.cell (j := 2) rfl
     have c3 := hN.cell (j := 3) rfl
     have c4 := hN.cell (j := 4) rfl
     have c5 := hN.cell (j := 5) rfl
     have z0 := hZe.cell (j := 0) rfl
     have z1 := hZe.cell (j := 1) rfl
     have z2 := hZe.cell (j := 2) rfl
     have z3 := hZe.cell (j := 3) rfl
     have z4 := hZe.cell (j := 4) rfl
     have z5 := hZe.cell (j := 5) rfl
     have y := hZe.frozen
     have hlw := hN.lt
     clear hN hZe hns
     go_wp2_with fail
     refine bodyPost_ret (v := .tuple #[.agg #[.int .i64 a0, .int .i64 a1, .int .i64 a2, .int .i64 a3, .int .i64 a4, .int .i64 a5], .bool false]) (by simp [results, Tryz.results160, go_sem, z0, z1, z2, z3, z4, z5]) rfl ⟨?_, Below.six HS9.out.below (Nat.le_refl _) _ _ _ _ _ _⟩
     unfold headRet
     rw [if_neg (by rw [HNO.out]; decide)]
     exact ⟨_, _, _, _, _, _, rfl⟩
   ·obtain rfl : k = 19 := by omega
    have HYES : Hid (hdOk s.data.toList = true) := HI.out.fin HL.out
    have hN := HS.out.nums
    have hZe := HS.out.zero
    rw [hdFold_end HL.out] at hN
    obtain ⟨m0, hm0⟩ : ∃ n, numAt s.data.toList 0 4 = n := ⟨_, rfl⟩
    obtain ⟨m1, hm1⟩ : ∃ n, numAt s.data.toList 5 2 = n := ⟨_, rfl⟩
    obtain ⟨m2, hm2⟩ : ∃ n, numAt s.data.toList 8 2 = n := ⟨_, rfl⟩
    obtain ⟨m3, hm3⟩ : ∃ n, numAt s.data.toList 11 2 = n := ⟨_, rfl⟩
    obtain ⟨m4, hm4⟩ : ∃ n, numAt s.data.toList 14 2 = n := ⟨_, rfl⟩
    obtain ⟨m5, hm5⟩ : ∃ n, numAt s.data.toList 17 2 = n := ⟨_, rfl⟩
    rw [hm0, hm1, hm2, hm3, hm4, hm5] at hN
    have HMM := Lib.hid (And.intro hm0 (And.intro hm1 (And.intro hm2 (And.intro hm3 (And.intro hm4 hm5)))))
    have c0 := hN.cell (j := 0) rfl
    have c1 := hN.cell (j := 1) rfl
    have c2 := hN.cell (j := 2) rfl
    have c3 := hN.cell (j := 3) rfl
    have c4 := hN.cell (j := 4) rfl
    have c5 := hN.cell (j := 5) rfl
    have z0 := hZe.cell (j := 0) rfl
    have z1 := hZe.cell (j := 1) rfl
    have z2 := hZe.cell (j := 2) rfl
    have z3 := hZe.cell (j := 3) rfl
    have z4 := hZe.cell (j := 4) rfl
    have z5 := hZe.cell (j := 5) rfl
    have y := hZe.frozen
    clear hN hZe hm0 hm1 hm2 hm3 hm4 hm5
    go_wp2_with fail
    refine bodyPost_ret (v := .tuple #[.agg #[.int .i64 m0, .int .i64 m1, .int .i64 m2, .int .i64 m3, .int .i64 m4, .int .i64 m5], .bool true]) (by simp [results, Tryz.results160, go_sem, z0, z1, z2, z3, z4, z5]) rfl ⟨?_, Below.six HS.out.below (Nat.le_refl _) _ _ _ _ _ _⟩
    unfold headRet
    obtain ⟨g0, g1, g2, g3, g4, g5⟩ := HMM.out
    rw [if_pos HYES.out, g0, g1, g2, g3, g4, g5]
end
section
open Go Go.Shelf
def lays160_ren : Go.Shelf.Ren := ⟨fun | 160 => 163 | 232 => 179 | 231 => 178 | 227 => 180 | 234 => 182 | 233 => 181 | 236 => 184 | 235 => 183 | 228 => 196 | 271 => 199 | 151 => 198 | 197 => 197 | 120 => 209 | 152 => 208 | 260 => 207 | 137 => 104 | 119 => 216 | 224 => 167 | 225 => 166 | 217 => 137 | 266 => 153 | n => n, fun | 9 => 9 | 4 => 4 | 3 => 3 | 5 => 5 | 117 => 195 | 116 => 194 | 0 => 0 | 124 => 198 | 21 => 21 | 105 => 172 | 46 => 58 | 119 => 231 | 139 => 234 | 138 => 233 | n => n, fun | 3 => 2 | 4 => 3 | n => n⟩
theorem lays160 : Go.Proofs.Lays.n160 Tryz.prog lays160_ren := {
 mixed := by kernel_rfl
 f119 := Tryz.func216.trans (congrArg some (by kernel_rfl))
 f120 := Tryz.func209.trans (congrArg some (by kernel_rfl))
 f137 := Tryz.func104.trans (congrArg some (by kernel_rfl))
 f151 := Tryz.func198.trans (congrArg some (by kernel_rfl))
 f152 := Tryz.func208.trans (congrArg some (by kernel_rfl))
 f160 := Tryz.func163.trans (congrArg some (by kernel_rfl))
 f197 := Tryz.func197.trans (congrArg some (by kernel_rfl))
 f217 := Tryz.func137.trans (congrArg some (by kernel_rfl))
 f224 := Tryz.func167.trans (congrArg some (by kernel_rfl))
 f225 := Tryz.func166.trans (congrArg some (by kernel_rfl))
 f227 := Tryz.func180.trans (congrArg some (by kernel_rfl))
 f228 := Tryz.func196.trans (congrArg some (by kernel_rfl))
 f231 := Tryz.func178.trans (congrArg some (by kernel_rfl))
 f232 := Tryz.func179.trans (congrArg some (by kernel_rfl))
 f233 := Tryz.func181.trans (congrArg some (by kernel_rfl))
 f234 := Tryz.func182.trans (congrArg some (by kernel_rfl))
 f235 := Tryz.func183.trans (congrArg some (by kernel_rfl))
 f236 := Tryz.func184.trans (congrArg some (by kernel_rfl))
 f260 := Tryz.func207.trans (congrArg some (by kernel_rfl))
 f266 := Tryz.func153.trans (congrArg some (by kernel_rfl))
 f271 := Tryz.func199.trans (congrArg some (by kernel_rfl))
 t0 := Tryz.underlying0
 a0 := Tryz.isAgg0
 z0 := Tryz.sizeOf0
 v0 := Tryz.zeroValue0
 t3 := Tryz.underlying3
 a3 := Tryz.isAgg3
 z3 := Tryz.sizeOf3
 v3 := Tryz.zeroValue3
 t4 := Tryz.underlying4
 a4 := Tryz.isAgg4
 z4 := Tryz.sizeOf4
 v4 := Tryz.zeroValue4
 t5 := Tryz.underlying5
 a5 := Tryz.isAgg5
 z5 := Tryz.sizeOf5
 v5 := Tryz.zeroValue5
 t9 := Tryz.underlying9
 a9 := Tryz.isAgg9
 z9 := Tryz.sizeOf9
 v9 := Tryz.zeroValue9
 t21 := Tryz.underlying21
 a21 := Tryz.isAgg21
 z21 := Tryz.sizeOf21
 v21 := Tryz.zeroValue21
 t46 := Tryz.underlying58
 a46 := Tryz.isAgg58
 z46 := Tryz.sizeOf58
 v46 := Tryz.zeroValue58
 t105 := Tryz.underlying172
 a105 := Tryz.isAgg172
 z105 := Tryz.sizeOf172
 v105 := Tryz.zeroValue172
 t116 := Tryz.underlying194
 a116 := Tryz.isAgg194
 z116 := Tryz.sizeOf194
 t117 := Tryz.underlying195
 a117 := Tryz.isAgg195
 z117 := Tryz.sizeOf195
 v117 := Tryz.zeroValue195
 t119 := Tryz.underlying231
 a119 := Tryz.isAgg231
 z119 := Tryz.sizeOf231
 t124 := Tryz.underlying198
 a124 := Tryz.isAgg198
 z124 := Tryz.sizeOf198
 v124 := Tryz.zeroValue198
 t138 := Tryz.underlying233
 a138 := Tryz.isAgg233
 z138 := Tryz.sizeOf233
 v138 := Tryz.zeroValue233
 t139 := Tryz.underlying234
 a139 := Tryz.isAgg234
 z139 := Tryz.sizeOf234
 v139 := Tryz.zeroValue234
 g3 := by kernel_rfl
 g4 := by kernel_rfl }
def lays106_ren : Go.Shelf.Ren := ⟨fun | 106 => 143 | 213 => 159 | 265 => 175 | n => n, fun | 9 => 9 | 3 => 3 | n => n, fun | n => n⟩
theorem lays106 : Go.Proofs.Lays.n106 Tryz.prog lays106_ren := {
 mixed := by kernel_rfl
 f106 := Tryz.func143.trans (congrArg some (by kernel_rfl))
 f213 := Tryz.func159.trans (congrArg some (by kernel_rfl))
 f265 := Tryz.func175.trans (congrArg some (by kernel_rfl))
 t3 := Tryz.underlying3
 a3 := Tryz.isAgg3
 z3 := Tryz.sizeOf3
 v3 := Tryz.zeroValue3
 t9 := Tryz.underlying9
 a9 := Tryz.isAgg9
 z9 := Tryz.sizeOf9
 v9 := Tryz.zeroValue9 }
open Go.RowKit in
theorem strings_Compare (a b : ByteArray) (w : World) :
 Calls Tryz.prog 143 #[.string a, .string b] w fun e w' => e = .returned (.int .i64 (Lib.compareBytes a.data.toList b.data.toList)) /\ w' = w := Any.strings_Compare lays106 a b w
def lays138_ren : Go.Shelf.Ren := ⟨fun | 138 => 165 | 195 => 190 | 218 => 191 | 143 => 132 | 219 => 151 | 217 => 137 | 225 => 166 | 224 => 167 | 267 => 168 | 266 => 153 | 314 => 192 | n => n, fun | 9 => 9 | 3 => 3 | 4 => 4 | 5 => 5 | 0 => 0 | 46 => 58 | 146 => 211 | 51 => 210 | n => n, fun | 1 => 1 | n => n⟩
theorem lays138 : Go.Proofs.Lays.n138 Tryz.prog lays138_ren := {
 mixed := by kernel_rfl
 f138 := Tryz.func165.trans (congrArg some (by kernel_rfl))
 f143 := Tryz.func132.trans (congrArg some (by kernel_rfl))
 f195 := Tryz.func190.trans (congrArg some (by kernel_rfl))
 f217 := Tryz.func137.trans (congrArg some (by kernel_rfl))
 f218 := Tryz.func191.trans (congrArg some (by kernel_rfl))
 f219 := Tryz.func151.trans (congrArg some (by kernel_rfl))
 f224 := Tryz.func167.trans (congrArg some (by kernel_rfl))
 f225 := Tryz.func166.trans (congrArg some (by kernel_rfl))
 f266 := Tryz.func153.trans (congrArg some (by kernel_rfl))
 f267 := Tryz.func168.trans (congrArg some (by kernel_rfl))
 f314 := Tryz.func192.trans (congrArg some (by kernel_rfl))
 t0 := Tryz.underlying0
 a0 := Tryz.isAgg0
 z0 := Tryz.sizeOf0
 v0 := Tryz.zeroValue0
 t3 := Tryz.underlying3
 a3 := Tryz.isAgg3
 z3 := Tryz.sizeOf3
 v3 := Tryz.zeroValue3
 t4 := Tryz.underlying4
 a4 := Tryz.isAgg4
 z4 := Tryz.sizeOf4
 v4 := Tryz.zeroValue4
 t5 := Tryz.underlying5
 a5 := Tryz.isAgg5
 z5 := Tryz.sizeOf5
 v5 := Tryz.zeroValue5
 t9 := Tryz.underlying9
 a9 := Tryz.isAgg9
 z9 := Tryz.sizeOf9
 v9 := Tryz.zeroValue9
 t46 := Tryz.underlying58
 a46 := Tryz.isAgg58
 z46 := Tryz.sizeOf58
 v46 := Tryz.zeroValue58
 t51 := Tryz.underlying210
 a51 := Tryz.isAgg210
 z51 := Tryz.sizeOf210
 v51 := Tryz.zeroValue210
 t146 := Tryz.underlying211
 a146 := Tryz.isAgg211
 z146 := Tryz.sizeOf211
 v146 := Tryz.zeroValue211
 g1 := by kernel_rfl }
open Go.RowKit Go.Lib in
theorem strings_Count_one (s : ByteArray) (c : UInt8) (w : World) :
 Calls Tryz.prog 165 #[.string s, .string ⟨#[c]⟩] w fun e w' => e = .returned (.int .i64 (Lib.countByte s.data.toList c)) /\ w' = w := Any.strings_Count_one lays138 s c w
def lays105_ren : Go.Shelf.Ren := ⟨fun | 105 => 164 | 212 => 185 | 99 => 157 | 165 => 186 | 166 => 187 | 170 => 188 | 169 => 189 | 263 => 200 | 264 => 201 | 206 => 174 | 240 => 202 | 241 => 203 | 276 => 210 | 277 => 211 | n => n, fun | 9 => 9 | 3 => 3 | 4 => 4 | 20 => 20 | 0 => 0 | 46 => 58 | 109 => 199 | 5 => 5 | 72 => 203 | 76 => 207 | 51 => 210 | 146 => 211 | 53 => 218 | 148 => 219 | 70 => 201 | 37 => 160 | 75 => 206 | 127 => 164 | 164 => 225 | 80 => 209 | n => n, fun | n => n⟩
theorem lays105 : Go.Proofs.Lays.n105 Tryz.prog lays105_ren := {
 mixed := by kernel_rfl
 f99 := Tryz.func157.trans (congrArg some (by kernel_rfl))
 f105 := Tryz.func164.trans (congrArg some (by kernel_rfl))
 f165 := Tryz.func186.trans (congrArg some (by kernel_rfl))
 f166 := Tryz.func187.trans (congrArg some (by kernel_rfl))
 f169 := Tryz.func189.trans (congrArg some (by kernel_rfl))
 f170 := Tryz.func188.trans (congrArg some (by kernel_rfl))
 f206 := Tryz.func174.trans (congrArg some (by kernel_rfl))
 f212 := Tryz.func185.trans (congrArg some (by kernel_rfl))
 f240 := Tryz.func202.trans (congrArg some (by kernel_rfl))
 f241 := Tryz.func203.trans (congrArg some (by kernel_rfl))
 f263 := Tryz.func200.trans (congrArg some (by kernel_rfl))
 f264 := Tryz.func201.trans (congrArg some (by kernel_rfl))
 f276 := Tryz.func210.trans (congrArg some (by kernel_rfl))
 f277 := Tryz.func211.trans (congrArg some (by kernel_rfl))
 t0 := Tryz.underlying0
 a0 := Tryz.isAgg0
 z0 := Tryz.sizeOf0
 v0 := Tryz.zeroValue0
 t3 := Tryz.underlying3
 a3 := Tryz.isAgg3
 z3 := Tryz.sizeOf3
 v3 := Tryz.zeroValue3
 t4 := Tryz.underlying4
 a4 := Tryz.isAgg4
 z4 := Tryz.sizeOf4
 v4 := Tryz.zeroValue4
 t5 := Tryz.underlying5
 a5 := Tryz.isAgg5
 z5 := Tryz.sizeOf5
 v5 := Tryz.zeroValue5
 t9 := Tryz.underlying9
 a9 := Tryz.isAgg9
 z9 := Tryz.sizeOf9
 v9 := Tryz.zeroValue9
 t20 := Tryz.underlying20
 a20 := Tryz.isAgg20
 z20 := Tryz.sizeOf20
 v20 := Tryz.zeroValue20
 t37 := Tryz.underlying160
 a37 := Tryz.isAgg160
 z37 := Tryz.sizeOf160
 v37 := Tryz.zeroValue160
 t46 := Tryz.underlying58
 a46 := Tryz.isAgg58
 z46 := Tryz.sizeOf58
 v46 := Tryz.zeroValue58
 t51 := Tryz.underlying210
 a51 := Tryz.isAgg210
 z51 := Tryz.sizeOf210
 v51 := Tryz.zeroValue210
 t53 := Tryz.underlying218
 a53 := Tryz.isAgg218
 z53 := Tryz.sizeOf218
 v53 := Tryz.zeroValue218
 t70 := Tryz.underlying201
 a70 := Tryz.isAgg201
 z70 := Tryz.sizeOf201
 v70 := Tryz.zeroValue201
 t72 := Tryz.underlying203
 a72 := Tryz.isAgg203
 z72 := Tryz.sizeOf203
 v72 := Tryz.zeroValue203
 t75 := Tryz.underlying206
 a75 := Tryz.isAgg206
 z75 := Tryz.sizeOf206
 v75 := Tryz.zeroValue206
 t76 := Tryz.underlying207
 a76 := Tryz.isAgg207
 z76 := Tryz.sizeOf207
 v76 := Tryz.zeroValue207
 t109 := Tryz.underlying199
 a109 := Tryz.isAgg199
 z109 := Tryz.sizeOf199
 v109 := Tryz.zeroValue199
 t127 := Tryz.underlying164
 a127 := Tryz.isAgg164
 z127 := Tryz.sizeOf164
 v127 := Tryz.zeroValue164
 t146 := Tryz.underlying211
 a146 := Tryz.isAgg211
 z146 := Tryz.sizeOf211
 v146 := Tryz.zeroValue211
 t148 := Tryz.underlying219
 a148 := Tryz.isAgg219
 z148 := Tryz.sizeOf219
 v148 := Tryz.zeroValue219
 t164 := Tryz.underlying225
 a164 := Tryz.isAgg225
 z164 := Tryz.sizeOf225
 v164 := Tryz.zeroValue225 }
theorem Builder_Extra_105 : Builder.Extra Tryz.prog lays105_ren := {
 sizeBuilder := by kernel_rfl
 liesBuilder := by kernel_rfl
 t5 := Tryz.underlying5
 a5 := Tryz.isAgg5
 z5 := Tryz.sizeOf5
 v5 := Tryz.zeroValue5
 infoByte := by kernel_rfl
 cellsByte := by kernel_rfl
 sizeByte := by kernel_rfl
 neB5 := by decide }
open Go.RowKit Go.Lib in
theorem strings_Repeat (s : ByteArray) (c : Nat) (w : World) (hc : c <= 9223372036854775807) (hlen : s.size * c <= 140737488355328) :
 Calls Tryz.prog 164 #[.string s, .int .i64 c] w fun e w' => e = .returned (.string ⟨(Lib.repeatL s.data.toList c).toArray⟩) /\ Below w.heap.size w w' := Any.strings_Repeat lays105 Builder_Extra_105 s c w hc hlen
end
section
section
variable {α : Type} (lt : α -> α -> Bool)
structure LtOk : Prop where
 asym : ∀ a b, lt a b = true -> lt b a = false
 ntrans : ∀ a b c, lt b a = false -> lt c b = false -> lt c a = false
def childOf (c p : Nat) : Prop := c = 2 * p + 1 \/ c = 2 * p + 2
def HeapF (f : Nat -> α) (n k : Nat) : Prop := ∀ p c, k <= p -> childOf c p -> c < n -> lt (f c) (f p) = false
structure HeapEx (f : Nat -> α) (n k i : Nat) : Prop where
 rest : ∀ p c, k <= p -> p ≠ i -> childOf c p -> c < n -> lt (f c) (f p) = false
 over : ∀ p c, k <= p -> childOf i p -> childOf c i -> c < n -> lt (f c) (f p) = false
 ge : k <= i
variable {lt}
theorem HeapEx.start {f : Nat -> α} {n k : Nat} (h : HeapF lt f n (k + 1)) : HeapEx lt f n k k :=
 ⟨fun p c hp hn hc hl => h p c (by omega) hc hl, fun p c hp hi hc hl => by unfold childOf at hi; omega, Nat.le_refl _⟩
theorem HeapEx.leaf {f : Nat -> α} {n k i : Nat} (h : HeapEx lt f n k i) (hi : n <= 2 * i + 1) : HeapF lt f n k := fun p c hp hc hl => by
 by_cases e : p = i
 ·subst e; unfold childOf at hc; omega
 ·exact h.rest p c hp e hc hl
def MinChild (lt : α -> α -> Bool) (f : Nat -> α) (n i j : Nat) : Prop := childOf j i /\ j < n /\ ∀ c, childOf c i -> c < n -> lt (f c) (f j) = false
theorem HeapEx.stop {f : Nat -> α} {n k i j : Nat} (L : LtOk lt) (h : HeapEx lt f n k i) (hj : MinChild lt f n i j) (hl : lt (f j) (f i) = false) : HeapF lt f n k := fun p c hp hc hn => by
 by_cases e : p = i
 ·subst e; exact L.ntrans _ _ _ hl (hj.2.2 c hc hn)
 ·exact h.rest p c hp e hc hn
theorem HeapF.mono {f : Nat -> α} {n k k' : Nat} (h : HeapF lt f n k) (hk : k <= k') : HeapF lt f n k' := fun p c hp hc hn => h p c (by omega) hc hn
end
end
section
open Go.Sort Go.Proofs
variable {α : Type} [Inhabited α] {lt l1 l2 : α -> α -> Bool}
def OKb (lt : α -> α -> Bool) (tg : α -> Nat) (d : Array α) (lo hi : Nat) : Prop := SortedIn lt lo hi d /\ ∀ t, lo <= t -> t < hi -> lo <= tg d[t]! /\ tg d[t]! < hi
theorem OKb.out {tg : α -> Nat} {d d' : Array α} {lo hi a b : Nat} (h : OKb lt tg d lo hi) (hp : PermIn a b d d') (ho : hi <= a \/ b <= lo) : OKb lt tg d' lo hi := by
 refine ⟨fun i j h1 h2 h3 => ?_, fun t h1 h2 => ?_⟩
 ·rw [hp.2.1 i (by omega), hp.2.1 j (by omega)]; exact h.1 i j h1 h2 h3
 ·rw [hp.2.1 t (by omega)]; exact h.2 t h1 h2
def BlkFrom (lt : α -> α -> Bool) (tg : α -> Nat) (bs n q0 : Nat) (d : Array α) : Prop := ∀ q, q0 <= q -> q * bs < n -> OKb lt tg d (q * bs) (min (q * bs + bs) n)
def BlkTo (lt : α -> α -> Bool) (tg : α -> Nat) (bs n q0 : Nat) (d : Array α) : Prop := ∀ q, q < q0 -> q * bs < n -> OKb lt tg d (q * bs) (min (q * bs + bs) n)
theorem BlkTo.step {tg : α -> Nat} {bs n q : Nat} {d d' : Array α} (h : BlkTo lt tg bs n q d) (hp : PermIn (q * bs) (min (q * bs + bs) n) d d') (hn : OKb lt tg d' (q * bs) (min (q * bs + bs) n)) : BlkTo lt tg bs n (q + 1) d' := by
 intro p hpq hpn
 by_cases e : p = q
 ·rw [e]; exact hn
 ·refine (h p (by omega) hpn).out hp (.inl ?_)
  have : (p + 1) * bs <= q * bs := Nat.mul_le_mul_right _ (by omega)
  rw [Nat.add_mul, Nat.one_mul] at this
  exact Nat.le_trans (Nat.min_le_left _ _) this
theorem BlkFrom.step {tg : α -> Nat} {bs n q hi : Nat} {d d' : Array α} {lo : Nat} (h : BlkFrom lt tg bs n q d) (hp : PermIn lo hi d d') (q' : Nat) (hq : q <= q') (hhi : hi <= q' * bs) : BlkFrom lt tg bs n q' d' := by
 intro p hpq hpn
 refine (h p (by omega) hpn).out hp (.inr ?_)
 exact Nat.le_trans hhi (Nat.mul_le_mul_right _ hpq)
theorem BlkTo.all {tg : α -> Nat} {bs n q : Nat} {d : Array α} (h : BlkTo lt tg bs n q d) (hq : n <= q * bs) : BlkFrom lt tg bs n 0 d := fun p _ hpn => h p (by
 apply Nat.lt_of_not_le
 intro hc
 have := Nat.mul_le_mul_right bs hc
 omega) hpn
section
variable {tg : α -> Nat} {cf : α -> α -> Int} {d d0 : Array α} {n q bs a : Nat}
end
end
end Go.Proofs.YtffhccmppdgmfaaGreatDoor
