import Derived.Test.YtfgjimpmpckgpaaGreatDoorSg23
import Derived.Test.YtfgjimpmpckgpaaGreatDoorSg12
set_option linter.unusedSimpArgs false
set_option linter.unusedVariables false
set_option maxRecDepth 200000
set_option maxHeartbeats 8000000
namespace Go.Proofs.YtfgjimpmpckgpaaGreatDoor
section
def fromN (l : List UInt8) : Nat := if l.head? = some 45 then 1 else 0
def digsN (l : List UInt8) : List UInt8 := (l.drop (fromN l)).takeWhile digU
def endN (l : List UInt8) : Nat := fromN l + (digsN l).length
def signN (l : List UInt8) : Int := if l.head? = some 45 then 0 - valD (digsN l) else valD (digsN l)
theorem takeWhile_len {p : UInt8 -> Bool} : ∀ (l : List UInt8), (l.takeWhile p).length = l.length -> l.takeWhile p = l
 | [], _ => rfl
 | b :: l, h => by
   rw [List.takeWhile_cons] at h ⊢
   split at h
   ·rename_i hb
    simp only [List.length_cons, Nat.add_right_cancel_iff] at h
    rw [if_pos hb, takeWhile_len l h]
   ·simp at h
theorem takeWhile_all {p : UInt8 -> Bool} : ∀ (l : List UInt8), (l.takeWhile p).all p = true
 | [] => rfl
 | b :: l => by
   rw [List.takeWhile_cons]
   split
   ·rename_i hb
    rw [List.all_cons, hb, takeWhile_all l]
    rfl
   ·rfl
theorem takeWhile_of_all {p : UInt8 -> Bool} : ∀ (l : List UInt8), l.all p = true -> l.takeWhile p = l
 | [], _ => rfl
 | b :: l, h => by
   rw [List.all_cons, Bool.and_eq_true] at h
   rw [List.takeWhile_cons, if_pos h.1, takeWhile_of_all l h.2]
theorem dOk_all {l : List UInt8} (h : dOk l = true) : l.all digU = true := by
 unfold dOk at h
 rw [Bool.and_eq_true, Bool.and_eq_true] at h
 exact h.1.2
theorem dOk_ne {l : List UInt8} (h : dOk l = true) : l ≠ [] := by
 rintro rfl
 exact absurd h (by decide)
theorem dOk_head {l : List UInt8} (h : dOk l = true) : l.length = 1 \/ l.head? ≠ some 48 := by
 unfold dOk at h
 rw [Bool.and_eq_true, Bool.and_eq_true, Bool.and_eq_true, Bool.or_eq_true, decide_eq_true_eq, decide_eq_true_eq] at h
 exact h.2.1
theorem allN_eq (l : List UInt8) : allN l = if (dOk (digsN l) && decide (endN l = l.length)) && decide (l ≠ [45, 48]) then some (signN l) else none := by
 unfold allN endN signN digsN fromN
 by_cases hm : l.head? = some 45
 ·obtain ⟨r, rfl⟩ : ∃ r, l = 45 :: r := by
   cases l with
   | nil => simp at hm
   | cons b r => exact ⟨r, by simp at hm; rw [hm]⟩
  simp only [List.head?_cons, if_true, List.tail_cons, List.drop_succ_cons, List.drop_zero, List.length_cons]
  by_cases hl : (r.takeWhile digU).length = r.length
  ·rw [takeWhile_len r hl]
   have h1 : decide (1 + r.length = r.length + 1) = true := decide_eq_true (by omega)
   rw [h1, Bool.and_true]
   have h2 : decide ((45 : UInt8) :: r ≠ [45, 48]) = decide (r ≠ [48]) := by
    by_cases h : r = [48]
    ·subst h; rfl
    ·simp [h]
   rw [h2]
   congr
  ·have h1 : decide (1 + (r.takeWhile digU).length = r.length + 1) = false := decide_eq_false (by omega)
   have h2 : dOk r = false := by
    cases hd : dOk r with
    | false => rfl
    | true => exact absurd (by rw [takeWhile_of_all r (dOk_all hd)]) hl
   simp [h1, h2]
 ·simp only [hm, if_false, List.drop_zero, Nat.zero_add]
  by_cases hl : (l.takeWhile digU).length = l.length
  ·rw [takeWhile_len l hl]
   have h2 : l ≠ [45, 48] := fun e => hm (by rw [e]; rfl)
   rw [decide_eq_true rfl, decide_eq_true h2, Bool.and_true, Bool.and_true]
  ·have h2 : dOk l = false := by
    cases hd : dOk l with
    | false => rfl
    | true => exact absurd (by rw [takeWhile_of_all l (dOk_all hd)]) hl
   simp [hl, h2]
theorem numL_sign {l : List UInt8} (hd : dOk (digsN l) = true) (he : endN l = l.length) : decide (numL (signN l) = l) = decide (l ≠ [45, 48]) := by
 have hn := numL_valD _ (digsN l) rfl (dOk_all hd) (dOk_ne hd) (dOk_head hd)
 have hnn := valD_nonneg (dOk_all hd)
 unfold signN
 unfold endN at he
 by_cases hm : l.head? = some 45
 ·obtain ⟨r, rfl⟩ : ∃ r, l = 45 :: r := by
   cases l with
   | nil => simp at hm
   | cons b r => exact ⟨r, by simp at hm; rw [hm]⟩
  have hr : digsN (45 :: r) = r := by
   unfold digsN fromN at he ⊢
   simp only [List.head?_cons, if_true, List.drop_succ_cons, List.drop_zero, List.length_cons] at he ⊢
   exact takeWhile_len r (by omega)
  rw [hr] at hn hnn hd ⊢
  rw [if_pos hm]
  by_cases h0 : valD r = 0
  ·have hr48 : r = [48] := by
    rw [h0] at hn
    rw [<- hn, numL_low (by decide) (by decide)]
    rfl
   subst hr48
   rw [h0, show (0 : Int) - 0 = 0 from rfl, numL_low (by decide) (by decide)]
   simp
  ·have h1 : numL (0 - valD r) = 45 :: r := by
    unfold numL at hn ⊢
    rw [if_neg (by omega)] at hn
    rw [if_pos (by omega)]
    have : (0 - valD r).natAbs = (valD r).natAbs := by omega
    rw [this]
    simp only [List.nil_append] at hn
    rw [hn]
    rfl
   have h3 : r ≠ [48] := fun e => h0 (by rw [e]; rfl)
   rw [h1]
   simp [h3]
 ·have hr : digsN l = l := by
   unfold digsN fromN at he ⊢
   simp only [hm, if_false, List.drop_zero, Nat.zero_add] at he ⊢
   exact takeWhile_len l he
  rw [hr] at hn ⊢
  have h3 : l ≠ [45, 48] := fun e => hm (by rw [e]; rfl)
  rw [if_neg hm, hn]
  simp [h3]
def gstep (p : Int × Bool) (b : UInt8) : Int × Bool := if p.2 = true then p else if 900719925474099 < p.1 then (p.1, true) else (stepD p.1 b, false)
def gfold (l : List UInt8) : Int × Bool := l.foldl gstep (0, false)
theorem gfold_snoc (r : List UInt8) (b : UInt8) : gfold (r ++ [b]) = gstep (gfold r) b := by unfold gfold; rw [List.foldl_append]; rfl
theorem gfold_is : ∀ (k : Nat) (l : List UInt8), l.length = k -> l.all digU = true -> ((gfold l).2 = false -> (gfold l).1 = valD l) /\ ((gfold l).2 = true -> 9007199254740991 < valD l) /\ 0 <= (gfold l).1 /\ (gfold l).1 <= 9007199254740999
 | 0, l, hk, _ => by
   obtain rfl := List.eq_nil_of_length_eq_zero hk
   exact ⟨fun _ => rfl, fun h => (by cases h), (by decide), (by decide)⟩
 | k + 1, l, hk, hall => by
   have hne : l ≠ [] := fun e => by rw [e] at hk; cases hk
   obtain ⟨r, b, rfl⟩ : ∃ r b, l = r ++ [b] := ⟨l.dropLast, l.getLast hne, (List.dropLast_concat_getLast hne).symm⟩
   rw [List.all_append, Bool.and_eq_true] at hall
   have hb : digU b = true := by simpa using hall.2
   unfold digU at hb
   rw [Bool.and_eq_true, decide_eq_true_eq, decide_eq_true_eq] at hb
   obtain ⟨h1, h2, h3, h4⟩ := gfold_is k r (by simp at hk; exact hk) hall.1
   have h0 := valD_nonneg hall.1
   rw [gfold_snoc, valD_snoc]
   unfold gstep
   cases hg : (gfold r).2 with
   | true =>
     have := h2 hg
     rw [if_pos rfl]
     refine ⟨fun h => (by rw [hg] at h; cases h), fun _ => ?_, h3, h4⟩
     unfold stepD
     omega
   | false =>
     have e1 := h1 hg
     rw [if_neg (by simp)]
     by_cases hc : 900719925474099 < (gfold r).1
     ·rw [if_pos hc]
      refine ⟨fun h => (by cases h), fun _ => ?_, h3, h4⟩
      unfold stepD
      omega
     ·rw [if_neg hc]
      refine ⟨fun _ => by rw [e1], fun h => (by cases h), ?_, ?_⟩
      ·show 0 <= stepD _ _
       unfold stepD
       omega
      ·show stepD _ _ <= _
       unfold stepD
       omega
theorem gfold_great {l : List UInt8} (h : l.all digU = true) : ((gfold l).2 || decide (9007199254740991 < (gfold l).1)) = decide (9007199254740991 < valD l) := by
 obtain ⟨h1, h2, _, _⟩ := gfold_is _ l rfl h
 cases hg : (gfold l).2 with
 | true => rw [decide_eq_true (h2 hg)]; rfl
 | false => rw [h1 hg]; rfl
def letU (card : Bool) : UInt8 := if card then 99 else 98
def seqL (card : Bool) : List UInt8 -> Option Int
 | [] => none
 | c :: r => if c = letU card then (match allN r with | some n => if 0 <= n then some n else none | none => none) else none
def seqI (card : Bool) (s : ByteArray) : Option Int := seqL card s.data.toList
theorem dOk_safe {l : List UInt8} (h : dOk l = true) : valD l <= 9007199254740991 := by
 unfold dOk at h
 rw [Bool.and_eq_true, Bool.and_eq_true, Bool.and_eq_true, Bool.or_eq_true, decide_eq_true_eq, decide_eq_true_eq, decide_eq_true_eq] at h
 exact h.2.2
theorem allN_some {l : List UInt8} {n : Int} (h : allN l = some n) : numL n = l /\ n <= 9007199254740991 /\ -9007199254740991 <= n := by
 rw [allN_eq] at h
 split at h
 ·rename_i hc
  rw [Bool.and_eq_true, Bool.and_eq_true] at hc
  obtain ⟨⟨h1, h2⟩, h3⟩ := hc
  have e : signN l = n := Option.some.inj h
  have h4 := numL_sign h1 (of_decide_eq_true h2)
  rw [h3, e] at h4
  have h5 := dOk_safe h1
  have h6 := valD_nonneg (dOk_all h1)
  refine ⟨of_decide_eq_true h4, ?_, ?_⟩
  ·rw [<- e]; unfold signN; split <;> omega
  ·rw [<- e]; unfold signN; split <;> omega
 ·cases h
theorem seqL_cons (card : Bool) (c : UInt8) (r : List UInt8) : seqL card (c :: r) = if c = letU card then (match allN r with | some n => if 0 <= n then some n else none | none => none) else none := rfl
theorem seq_state {card : Bool} {c : UInt8} {r : List UInt8} {n : Int} (h : allN r = some n) (h0 : 0 <= n) : decide (stateB card n = toB (c :: r)) = decide (c = letU card) := by
 obtain ⟨h1, h2, _⟩ := allN_some h
 have e : stateB card n = toB (letU card :: r) := by
  unfold stateB safeN
  rw [decide_eq_true h0, decide_eq_true h2, h1]
  cases card <;> rfl
 rw [e]
 by_cases hc : c = letU card
 ·rw [hc]; simp
 ·rw [decide_eq_false hc]
  refine decide_eq_false (fun h => hc ?_)
  have h3 : (toB (letU card :: r)).data.toList = (toB (c :: r)).data.toList := by rw [h]
  have h4 : letU card :: r = c :: r := by simpa [toB] using h3
  exact (List.cons.inj h4).1.symm
end
end Go.Proofs.YtfgjimpmpckgpaaGreatDoor
