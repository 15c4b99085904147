import Derived.Test.YtffhccmppdgmfaaGreatDoorD03
import Derived.Test.YtffhccmppdgmfaaGreatDoorD01
import Derived.BigQuiet
import Derived.Deep.QuietTactic
import Derived.Shelf.LaysM
import Derived.Shelf.Small.Strs
import Derived.Shelf.Strconv.Clone
import Derived.Shelf.Strings.Count
import Derived.Shelf.Strings.OnBuilder
import Derived.Shelf.Strings.Repeat
import Derived.Shelf.Strings.Trim
import Derived.Shelf.Strings.SlTrimAscii
import Derived.Test.YtffhccmppdgmfaaGreatDoorProg
set_option linter.unusedSimpArgs false
set_option linter.unusedVariables false
set_option maxRecDepth 200000
set_option maxHeartbeats 8000000
namespace Go.Proofs.YtffhccmppdgmfaaGreatDoor
section
open Go Go.RowKit Go.OpenShut
theorem ret_intS {a b : Int} (h : a = b) : Ending.returned (.int .i64 a) = .returned (.int .i64 b) := by rw [h]
theorem leap_any (y : Int) (w : World) (h0 : 0 <= y) (h1 : y <= 9999) : Calls Tryz.prog 195 #[.int .i64 y] w fun e w' => e = .returned (.bool (leapB y)) /\ w = w' := by
 obtain ⟨a, ha⟩ : ∃ a, (y % 4 == 0) = a := ⟨_, rfl⟩
 obtain ⟨b, hb⟩ : ∃ a, (y % 100 == 0) = a := ⟨_, rfl⟩
 obtain ⟨c, hc⟩ : ∃ a, (y % 400 == 0) = a := ⟨_, rfl⟩
 have hb2 : (y % 100 != 0) = !b := by unfold bne; rw [hb]
 have HR : Hid (leapB y = ((a && !b) || c)) := by
  unfold Hid leapB
  rw [<- ha, <- hb, <- hc]
  have h : ∀ n : Int, (n == 0) = decide (n = 0) := fun n => by by_cases h : n = 0 <;> simp [h]
  rw [h, h, h]
  simp
 rw [HR.out]
 cases a <;> cases b <;> cases c
 all_goals
  simp only [Bool.not_false, Bool.not_true] at hb2
  go_enter Tryz.func195, Tryz.ntmps195
  go_wp2_with fail
  go_ret
  exact ⟨rfl, rfl⟩
theorem month_any (y m : Int) (w : World) (h0 : 0 <= y) (h1 : y <= 9999) (m0 : 1 <= m) (m1 : m <= 12) : Calls Tryz.prog 176 #[.int .i64 y, .int .i64 m] w fun e w' => e = .returned (.int .i64 (monthF y m)) /\ w = w' := by
 have HL : Hid (∀ W, Calls Tryz.prog 195 #[.int .i64 y] W fun e w' => e = .returned (.bool (leapB y)) /\ W = w') := fun W => leap_any y W h0 h1
 have HM : Hid (monthF y m = if m = 4 \/ m = 6 \/ m = 9 \/ m = 11 then 30 else if m = 2 then (if leapB y then 29 else 28) else 31) := rfl
 obtain ⟨b, hb⟩ : ∃ b, leapB y = b := ⟨_, rfl⟩
 rw [hb] at HL HM
 obtain ⟨R, hR⟩ : ∃ R, monthF y m = R := ⟨_, rfl⟩
 rw [hR] at HM
 rw [hR]
 clear hR hb
 rcases (show m = 1 \/ m = 2 \/ m = 3 \/ m = 4 \/ m = 5 \/ m = 6 \/ m = 7 \/ m = 8 \/ m = 9 \/ m = 10 \/ m = 11 \/ m = 12 by omega) with rfl | rfl | rfl | rfl | rfl | rfl | rfl | rfl | rfl | rfl | rfl | rfl
 all_goals
  cases b
  all_goals
   go_enter Tryz.func176, Tryz.ntmps176
   go_wp2_with (first | (go_at_call 195; refine (HL.out _).mono ?_; rintro e w1 ⟨rfl, rfl⟩) | fail)
   go_ret
   exact ⟨ret_intS (by rw [HM.out]; decide), rfl⟩
theorem aheadS_any (y : Int) (w : World) (h0 : 0 <= y) (h1 : y <= 9999) : Calls Tryz.prog 177 #[.int .i64 y] w fun e w' => e = .returned (.int .i64 (aheadF y)) /\ w = w' := by
 by_cases h : y = 0
 ·subst h
  go_enter Tryz.func177, Tryz.ntmps177
  go_wp2_with fail
  go_ret
  exact ⟨rfl, rfl⟩
 ·have hn : (y == 0) = false := by simpa using h
  have hy1 : 0 <= y - 1 := by omega
  have HA : Hid (aheadF y = 365 * y + (y - 1) / 4 - (y - 1) / 100 + (y - 1) / 400 + 1) := by unfold Hid aheadF; rw [if_neg h]
  obtain ⟨R, hR⟩ : ∃ R, aheadF y = R := ⟨_, rfl⟩
  rw [hR] at HA
  rw [hR]
  clear hR h
  go_enter Tryz.func177, Tryz.ntmps177
  go_wp2_with fail
  go_ret
  refine ⟨ret_intS ?_, rfl⟩
  rw [HA.out]
  try unfold wrap64
  try omega
def dayRet (o : Option Int) : Value := match o with | some n => .tuple #[.int .i64 n, .bool true] | none => .tuple #[.int .i64 0, .bool false]
theorem days_any (y m d : Int) (w : World) (h0 : 0 <= y) (h1 : y <= 9999) (m0 : 0 <= m) (m1 : m <= 99) (d0 : 0 <= d) (d1 : d <= 99) : Calls Tryz.prog 162 #[.int .i64 y, .int .i64 m, .int .i64 d] w fun e w' => e = .returned (dayRet (daysF y m d)) /\ w = w' := by
 have q1 : decide (y < 0) = false := decide_eq_false (by omega)
 have q2 : decide ((9999 : Int) < y) = false := decide_eq_false (by omega)
 obtain ⟨a, ha⟩ : ∃ a, decide (m < 1) = a := ⟨_, rfl⟩
 obtain ⟨b, hb⟩ : ∃ a, decide ((12 : Int) < m) = a := ⟨_, rfl⟩
 obtain ⟨c, hc⟩ : ∃ a, decide (d < 1) = a := ⟨_, rfl⟩
 have HDF : Hid (daysF y m d = if 0 <= y /\ y <= 9999 /\ 1 <= m /\ m <= 12 /\ 1 <= d /\ d <= monthF y m then some (aheadF y - aheadF 1970 + monthsF y (m.toNat - 1) + d - 1) else none) := rfl
 have HABC : Hid (decide (m < 1) = a /\ decide ((12 : Int) < m) = b /\ decide (d < 1) = c) := ⟨ha, hb, hc⟩
 obtain ⟨R, hR⟩ : ∃ R, daysF y m d = R := ⟨_, rfl⟩
 rw [hR] at HDF
 rw [hR]
 clear hR
 cases habc : (a || (b || c)) with
 | true =>
   have HN : Hid (R = none) := by
    unfold Hid
    rw [HDF.out, if_neg]
    rintro ⟨_, _, g1, g2, g3, _⟩
    obtain ⟨x1, x2, x3⟩ := HABC.out
    rw [decide_eq_false (by omega)] at x1 x2 x3
    rw [<- x1, <- x2, <- x3] at habc
    cases habc
   rw [HN.out]
   cases a <;> cases b <;> cases c <;> simp only [Bool.or_true, Bool.or_false, Bool.or_self, reduceCtorEq] at habc
   all_goals
    go_enter Tryz.func162, Tryz.ntmps162
    go_wp2_with fail
    refine bodyPost_ret (v := .tuple #[.int .i64 0, .bool false]) (by simp [results, Tryz.results162, go_sem]) rfl ⟨rfl, rfl⟩
 | false =>
   obtain rfl : a = false := by cases a <;> simp_all
   obtain rfl : b = false := by cases b <;> simp_all
   obtain rfl : c = false := by cases c <;> simp_all
   have m0' := of_decide_eq_false ha
   have m1' := of_decide_eq_false hb
   have d0' := of_decide_eq_false hc
   clear habc
   have HMO : Hid (∀ (k : Int) W, 1 <= k -> k <= 12 -> Calls Tryz.prog 176 #[.int .i64 y, .int .i64 k] W fun e w' => e = .returned (.int .i64 (monthF y k)) /\ W = w') := fun k W g1 g2 => month_any y k W h0 h1 g1 g2
   have HAH : Hid (∀ W, Calls Tryz.prog 177 #[.int .i64 y] W fun e w' => e = .returned (.int .i64 (aheadF y)) /\ W = w') := fun W => aheadS_any y W h0 h1
   have HA7 : Hid (∀ W, Calls Tryz.prog 177 #[.int .i64 1970] W fun e w' => e = .returned (.int .i64 (aheadF 1970)) /\ W = w') := fun W => aheadS_any 1970 W (by decide) (by decide)
   have HMB := Lib.hid (month_pos y)
   have HAB := Lib.hid (aheadF_bound h0 (show y <= 10000 by omega))
   have e7 : aheadF 1970 = 719528 := by decide
   rw [e7] at HA7 HDF
   have HM := Lib.hid (HMO.out m)
   obtain ⟨M, hM⟩ : ∃ M, monthF y m = M := ⟨_, rfl⟩
   rw [hM] at HM HDF
   obtain ⟨e, he⟩ : ∃ a, decide (M < d) = a := ⟨_, rfl⟩
   have hmb := HMB.out m
   rw [hM] at hmb
   cases e with
   | true =>
     have hed := of_decide_eq_true he
     have HN : Hid (R = none) := by
      unfold Hid
      rw [HDF.out, if_neg (by omega)]
     rw [HN.out]
     go_enter Tryz.func162, Tryz.ntmps162
     go_wp2_with (first | (go_at_call 176; refine (HM.out _ (by omega) (by omega)).mono ?_; rintro e w1 ⟨rfl, rfl⟩) | fail)
     refine bodyPost_ret (v := .tuple #[.int .i64 0, .bool false]) (by simp [results, Tryz.results162, go_sem]) rfl ⟨rfl, rfl⟩
   | false =>
     have hed := of_decide_eq_false he
     obtain ⟨A, hA⟩ : ∃ A, aheadF y = A := ⟨_, rfl⟩
     rw [hA] at HAH HAB HDF
     have HN : Hid (R = some (A - 719528 + monthsF y (m.toNat - 1) + d - 1)) := by
      unfold Hid
      rw [HDF.out, if_pos (by omega)]
     have hab := HAB.out
     go_enter Tryz.func162, Tryz.ntmps162
     go_upto_region 3 with (first | (go_at_call 176; refine (HM.out _ (by omega) (by omega)).mono ?_; rintro e w1 ⟨rfl, rfl⟩) | fail)
     go_wp2_with (first | (go_at_call 177; (with_reducible refine (HAH.out _).mono ?_); rintro e w1 ⟨rfl, rfl⟩) | (go_at_call 177; (with_reducible refine (HA7.out _).mono ?_); rintro e w1 ⟨rfl, rfl⟩) | fail)
     go_loop [8, 9] (fun n k => ∃ j : Nat, (j : Int) + 1 <= m /\ k = .int .i64 ((j + 1 : Nat) : Int) /\ n = .int .i64 (A - 719528 + monthsF y j)) (fun _ k => m.toNat - (intOf k).toNat)
     case atStart => exact ⟨0, by omega, rfl, by simp [monthsF]⟩
     case round =>
      obtain ⟨j, hj, rfl, rfl⟩ := hrel
      have hms := monthsF_bound y j
      have HSU : Hid (monthsF y (j + 1) = monthsF y j + monthF y ((j + 1 : Nat) : Int)) := rfl
      obtain ⟨S, hS⟩ : ∃ S, monthsF y j = S := ⟨_, rfl⟩
      rw [hS] at hms HSU
      rw [hS]
      have HSE := Lib.hid hS
      clear hS
      have hj0 : (0 : Int) <= (j : Int) := Int.natCast_nonneg _
      by_cases hlt : (j : Int) + 1 < m
      ·have HMJ := Lib.hid (HMO.out ((j + 1 : Nat) : Int))
       have hmb2 := HMB.out ((j + 1 : Nat) : Int)
       obtain ⟨T, hT⟩ : ∃ T, monthF y ((j + 1 : Nat) : Int) = T := ⟨_, rfl⟩
       rw [hT] at HMJ HSU hmb2
       have hlt2 : decide (((j + 1 : Nat) : Int) < m) = true := decide_eq_true (by omega)
       clear hT
       go_wp2_with (first | (go_at_call 176; refine (HMJ.out _ (by omega) (by omega)).mono ?_; rintro e w1 ⟨rfl, rfl⟩) | fail)
       go_round
       case rel => exact ⟨j + 1, by omega, by go_num, by rw [HSU.out]; exact congrArg (Value.int IntKind.i64) (by omega)⟩
       case measure => simp [intOf]; omega
      ·have hlt2 : decide (((j + 1 : Nat) : Int) < m) = false := decide_eq_false (by omega)
       have HJ : Hid (m.toNat - 1 = j) := by unfold Hid; omega
       rw [HJ.out, HSE.out] at HN
       go_wp2_with fail
       rw [HN.out]
       refine bodyPost_ret (v := .tuple #[.int .i64 (A - 719528 + S + d - 1), .bool true]) (by simp [results, Tryz.results162, go_sem]) rfl ⟨rfl, rfl⟩
theorem get_optS {s : ByteArray} {k : Nat} (h : k < s.size) : s.data.toList[k]? = some s[k] := by simp [h, ByteArray.getElem_eq_getElem_data]
def hdCells (ns : List Int) : Array Value := (ns.map (Value.int .i64)).toArray
def HdAt (W : World) (g : Nat) (ns : List Int) : Prop := W.heap[g]? = some (.cells (hdCells ns) 177 (0, 0))
theorem HdAt.cell {W : World} {g : Nat} {ns : List Int} (h : HdAt W g ns) {j : Nat} {x : Int} (hx : ns[j]? = some x) : W.cell? ⟨g, j, none⟩ = some (.int .i64 x) := by
 unfold HdAt at h
 rw [cell_of_row W g j _ _ _ h]
 unfold hdCells
 simp [hx]
theorem HdAt.lt {W : World} {g : Nat} {ns : List Int} (h : HdAt W g ns) : g < W.heap.size := (Array.getElem?_eq_some_iff.1 h).1
theorem HdAt.frozen {W : World} {g : Nat} {ns : List Int} (h : HdAt W g ns) (j : Nat) : W.frozen? ⟨g, j, none⟩ = false := by
 unfold HdAt at h
 simp [World.frozen?, h]
theorem HdAt.set {W : World} {g : Nat} {ns : List Int} (h : HdAt W g ns) (j : Nat) (x : Int) : HdAt (W.setCell ⟨g, j, none⟩ (.int .i64 x)) g (ns.set j x) := by
 unfold HdAt at h ⊢
 simp [World.setCell, Array.getElem?_modify, h, hdCells, List.map_set]
theorem HdAt.keep {W W' : World} {g : Nat} {ns : List Int} (h : HdAt W g ns) (hb : W'.heap[g]? = W.heap[g]?) : HdAt W' g ns := hb.trans h
structure HdS (w : World) (l : List UInt8) (i : Nat) (W : World) : Prop where
 nums : HdAt W (w.heap.size + 1) (hdFold l i).2
 zero : HdAt W w.heap.size [0, 0, 0, 0, 0, 0]
 below : Below w.heap.size w W
theorem HdS.drewN {w W : World} {l : List UInt8} {i : Nat} (h : HdS w l i W) (n : Nat) : HdS w l i (W.drewN n) := ⟨h.nums, h.zero, bdn h.below n⟩
theorem form_sep : ∀ i : Fin 19, ∀ f, formL[i.1]? = some f -> f ≠ 48 -> digU f = false := by
 have h : ∀ f ∈ formL, f ≠ 48 -> digU f = false := by decide
 exact fun i f hf hn => h f (List.mem_of_getElem? hf) hn
theorem head_test {i : Nat} (hi : i < 19) {f c : UInt8} (hf : formL[i]? = some f) : posOk f c = !((digU c != decide (f = 48)) || (!digU c && decide (c ≠ f))) := by
 unfold posOk
 by_cases h : f = 48
 ·rw [if_pos h, decide_eq_true h]
  cases hd : digU c with
  | true => rfl
  | false => rfl
 ·rw [if_neg h, decide_eq_false h]
  by_cases hc : c = f
  ·have hd := form_sep ⟨i, hi⟩ f hf h
   rw [hc, hd]
   simp
  ·rw [decide_eq_false hc, decide_eq_true hc]
   cases digU c <;> rfl
theorem Below.six {B : Nat} {w W : World} {g : Nat} (h : Below B w W) (hg : B <= g) (a b c d x y : Value) : Below B w ((((((W.setCell ⟨g, 0, none⟩ a).setCell ⟨g, 1, none⟩ b).setCell ⟨g, 2, none⟩ c).setCell ⟨g, 3, none⟩ d).setCell ⟨g, 4, none⟩ x).setCell ⟨g, 5, none⟩ y) :=
 (((((h.setCell (p := ⟨g, 0, none⟩) hg _).setCell (p := ⟨g, 1, none⟩) hg _).setCell (p := ⟨g, 2, none⟩) hg _).setCell (p := ⟨g, 3, none⟩) hg _).setCell (p := ⟨g, 4, none⟩) hg _).setCell (p := ⟨g, 5, none⟩) hg _
def headRet (l : List UInt8) (e : Ending) : Prop := if hdOk l = true then e = .returned (.tuple #[.agg #[.int .i64 (numAt l 0 4), .int .i64 (numAt l 5 2), .int .i64 (numAt l 8 2), .int .i64 (numAt l 11 2), .int .i64 (numAt l 14 2), .int .i64 (numAt l 17 2)], .bool true]) else ∃ a b c d x y : Int, e = .returned (.tuple #[.agg #[.int .i64 a, .int .i64 b, .int .i64 c, .int .i64 d, .int .i64 x, .int .i64 y], .bool false])
theorem six {ns : List Int} (h : ns.length = 6) : ∃ a b c d x y, ns = [a, b, c, d, x, y] := by
 match ns, h with
 | [a, b, c, d, x, y], _ => exact ⟨a, b, c, d, x, y, rfl⟩
theorem head_any (s : ByteArray) (w : World) (hs : s.size <= maxLen) : Calls Tryz.prog 160 #[.string s] w fun e w' => headRet s.data.toList e /\ Below w.heap.size w w' := by
 have hsz : s.data.toList.length = s.size := by rw [Array.length_toList]; rfl
 unfold maxLen at hs
 obtain ⟨W0, hW0⟩ : ∃ W0, (w.alloc (.cells #[.int .i64 0, .int .i64 0, .int .i64 0, .int .i64 0, .int .i64 0, .int .i64 0] 177)).alloc (.cells #[.int .i64 0, .int .i64 0, .int .i64 0, .int .i64 0, .int .i64 0, .int .i64 0] 177) = W0 := ⟨_, rfl⟩
 have hS0 : HdS w s.data.toList 0 W0 := by
  rw [<- hW0]
  exact ⟨heap_alloc_at (by simp), heap_alloc_lt (by simp) (heap_alloc_at rfl), below2 w _ _⟩
 have HW := Lib.hid hW0
 have HS0 := Lib.hid hS0
 have HGE : Hid (∀ k, (h : k < s.size) -> s.data.toList[k]? = some s[k]) := fun k h => get_optS h
 have HSZ := Lib.hid hsz
 have s0 : (0 : Int) <= (s.size : Int) := Int.natCast_nonneg _
 clear hW0 hS0 hsz
 by_cases h19 : s.size < 19
 ·have q1 : decide ((s.size : Int) < 19) = true := decide_eq_true (by omega)
  have HNO : Hid (hdOk s.data.toList = false) := hd_short (by rw [HSZ.out]; exact h19)
  have c0 := HS0.out.nums.cell (j := 0) rfl
  have c1 := HS0.out.nums.cell (j := 1) rfl
  have c2 := HS0.out.nums.cell (j := 2) rfl
  have c3 := HS0.out.nums.cell (j := 3) rfl
  have c4 := HS0.out.nums.cell (j := 4) rfl
  have c5 := HS0.out.nums.cell (j := 5) rfl
  have z0 := HS0.out.zero.cell (j := 0) rfl
  have z1 := HS0.out.zero.cell (j := 1) rfl
  have z2 := HS0.out.zero.cell (j := 2) rfl
  have z3 := HS0.out.zero.cell (j := 3) rfl
  have z4 := HS0.out.zero.cell (j := 4) rfl
  have z5 := HS0.out.zero.cell (j := 5) rfl
  have y := HS0.out.zero.frozen
  go_enter Tryz.func160, Tryz.ntmps160
  go_upto_region 2 with fail
  rw [HW.out]
  clear HW
  go_wp2_with fail
  refine bodyPost_ret (v := .tuple #[.agg #[.int .i64 0, .int .i64 0, .int .i64 0, .int .i64 0, .int .i64 0, .int .i64 0], .bool false]) (by simp [results, Tryz.results160, go_sem, z0, z1, z2, z3, z4, z5]) rfl ⟨?_, Below.six HS0.out.below (Nat.le_refl _) _ _ _ _ _ _⟩
  unfold headRet
  rw [if_neg (by rw [HNO.out]; decide)]
  exact ⟨_, _, _, _, _, _, rfl⟩
 ·have q1 : decide ((s.size : Int) < 19) = false := decide_eq_false (by omega)
  have hlen : 19 <= s.data.toList.length := by rw [HSZ.out]; omega
  have HL := Lib.hid hlen
  have h19' : (19 : Int) <= (s.size : Int) := by omega
  have hw0 := HS0.out.below.size
  have hw1 := HS0.out.nums.lt
  clear hlen
  go_enter Tryz.func160, Tryz.ntmps160
  go_upto_region 2 with fail
  rw [HW.out]
  clear HW
  go_wp2_with fail
  go_loopw [5, 12] (fun a i wr => ∃ k : Nat, k <= 19 /\ i = .int .i64 (k : Int) /\ a = .int .i64 ((atN k : Nat) : Int) /\ Hid (HdI s.data.toList k /\ HdS w s.data.toList k wr)) (fun _ i _ => 19 - (intOf i).toNat)
  case atStart => exact ⟨0, by omega, rfl, rfl, HdI.start _, HS0.out⟩
  case round =>
   obtain ⟨k, hk, rfl, rfl, hH⟩ := hrel
   have HI := Lib.hid hH.out.1
   have HS := Lib.hid hH.out.2
   have hk0 : (0 : Int) <= (k : Int) := Int.natCast_nonneg _
   clear hH
   by_cases hlt : k < 19
   ·have hk19 : (k : Int) < 19 := by omega
    have hks : k < s.size := by omega
    have hks' : (k : Int) < (s.size : Int) := by omega
    obtain ⟨f, hf⟩ := form_get ⟨k, hlt⟩
    dsimp only at hf
    have hg := HGE.out k hks
    obtain ⟨c, hc⟩ : ∃ c, s[k] = c := ⟨_, rfl⟩
    rw [hc] at hg
    have HF := Lib.hid hf
    have HC := Lib.hid hg
    have hfb : ({ data := #[48, 48, 48, 48, 45, 48, 48, 45, 48, 48, 84, 48, 48, 58, 48, 48, 58, 48, 48] } : ByteArray)[k]'hlt = f := by
     have h1 : formL[k]? = some (({ data := #[48, 48, 48, 48, 45, 48, 48, 45, 48, 48, 84, 48, 48, 58, 48, 48, 58, 48, 48] } : ByteArray)[k]'hlt) := get_optS (s := { data := #[48, 48, 48, 48, 45, 48, 48, 45, 48, 48, 84, 48, 48, 58, 48, 48, 58, 48, 48] }) hlt
     rw [hf] at h1
     exact (Option.some.inj h1).symm
    have ha5 := (atN_lt ⟨k, hlt⟩).1
    dsimp only at ha5
    have HA1 := Lib.hid (atN_succ hf)
    obtain ⟨d, hd⟩ : ∃ d, digU c = d := ⟨_, rfl⟩
    have HDG : Hid (digU c = (decide (48 <= c.toNat) && decide (c.toNat <= 57))) := rfl
    have HD := Lib.hid hd
    obtain ⟨z, hz⟩ : ∃ z, atN k = z := ⟨_, rfl⟩
    rw [hz] at ha5
    have hz0 : (0 : Int) <= (z : Int) := Int.natCast_nonneg _
    have hz5 : (z : Int) < 6 := by omega
    rw [hz]
    have HZ := Lib.hid hz
    clear hg hf hd hz
    go_upto_region 8 with fail
    go_cut [7] from 15 to 24 (fun v wq => v = .bool d /\ wq = wr)
    case first =>
     obtain ⟨x, hx⟩ : ∃ b, decide ((48 : Int) <= ((c.toNat : Nat) : Int)) = b := ⟨_, rfl⟩
     obtain ⟨y, hy⟩ : ∃ b, decide (((c.toNat : Nat) : Int) <= 57) = b := ⟨_, rfl⟩
     have HXY : Hid (d = (x && y)) := by
      unfold Hid
      rw [<- HD.out, HDG.out, <- hx, <- hy]
      congr 1
      ·exact decide_eq_decide.2 (by omega)
      ·exact decide_eq_decide.2 (by omega)
     cases x <;> cases y
     all_goals
      go_wp2_with fail
      go_meet
      exact ⟨by rw [HXY.out]; rfl, rfl⟩
    case rest =>
    obtain ⟨rfl, hwc⟩ := hcut
    obtain rfl : wr = wc := hwc.symm
    obtain ⟨fb, hfb2⟩ : ∃ b, (((f.toNat : Nat) : Int) == 48) = b := ⟨_, rfl⟩
    obtain ⟨cf, hcf⟩ : ∃ b, (((c.toNat : Nat) : Int) != ((f.toNat : Nat) : Int)) = b := ⟨_, rfl⟩
    have HFB : Hid (decide (f = 48) = fb) := by
     unfold Hid
     rw [<- hfb2]
     by_cases h : f = 48
     ·rw [decide_eq_true h, h]; rfl
     ·have h2 : ¬ f.toNat = 48 := fun e => h (UInt8.toNat_inj.1 e)
      rw [decide_eq_false h]
      simp
      omega
    have HCF : Hid (decide (c ≠ f) = cf) := by
     unfold Hid
     rw [<- hcf]
     by_cases h : c = f
     ·rw [h]; simp
     ·have h2 : ¬ c.toNat = f.toNat := fun e => h (UInt8.toNat_inj.1 e)
      rw [decide_eq_true h]
      simp
      omega
    have hcf2 : (((c.toNat : Nat) : Int) == ((f.toNat : Nat) : Int)) = !cf := by
     rw [<- hcf]
     unfold bne
     simp
    have HPO : Hid (posOk f c = !((d != fb) || (!d && cf))) := by
     unfold Hid
     rw [head_test hlt HF.out, HD.out, HFB.out, HCF.out]
    obtain ⟨bad, hbad⟩ : ∃ b, ((d != fb) || (!d && cf)) = b := ⟨_, rfl⟩
    rw [hbad] at HPO
    have HBD := Lib.hid hbad
    clear hbad
    go_upto_region 9 with fail
    go_cut [41] from 25 to 41 (fun v wq => v = .bool bad /\ ∃ q, wq = wr.drewN q)
    case first =>
     cases d <;> cases fb <;> cases cf
     all_goals
      simp only [Bool.not_false, Bool.not_true] at hcf2
      go_wp2_with fail
      go_quiet (fail)
      go_wp2_with fail
      go_meet
      exact ⟨by rw [<- HBD.out]; rfl, _, rfl⟩
    case rest =>
    obtain ⟨rfl, q, hwc⟩ := hcut
    obtain ⟨W9, hW9⟩ : ∃ W, wr.drewN q = W := ⟨_, rfl⟩
    rw [hW9] at hwc
    obtain rfl : W9 = wc := hwc.symm
    have HS9 : Hid (HdS w s.data.toList k W9) := by rw [<- hW9]; exact HS.out.drewN q
    clear hW9 HS hfb2 hcf hcf2
    obtain ⟨a0, a1, a2, a3, a4, a5, hns⟩ := six HI.out.len
    have hN := HS9.out.nums
    have hZe := HS9.out.zero
    cases bad
    ·have HIS := Lib.hid (HI.out.step hlt HF.out HC.out (by rw [HPO.out]; rfl))
     have HST := Lib.hid (hdFold_succ HF.out HC.out)
     have hat : (hdFold s.data.toList k).1 = z := HI.out.at'.trans HZ.out
     have HAT := Lib.hid hat
     clear hat
     cases d
     ·have hfb : fb = false := by
       have h := HBD.out
       cases fb
       ·rfl
       ·cases h
      have hne : f ≠ 48 := by
       have h := HFB.out
       rw [hfb] at h
       exact of_decide_eq_false h
      have HNE := Lib.hid hne
      have HAS : Hid (atN (k + 1) = z + 1) := by unfold Hid; rw [HA1.out, if_neg hne, HZ.out]
      clear hN hZe hns hfb hne
      go_wp2_with fail
      go_roundw
      case rel =>
       refine ⟨k + 1, by omega, by go_num, by rw [HAS.out]; go_num, HIS.out, ⟨?_, HS9.out.zero, HS9.out.below⟩⟩
       rw [HST.out]
       unfold hdStep
       rw [if_neg HNE.out]
       exact HS9.out.nums
      case measure => simp [intOf]; omega
     ·have hfb : fb = true := by
       have h := HBD.out
       cases fb
       ·cases h
       ·rfl
      have hne : f = 48 := by
       have h := HFB.out
       rw [hfb] at h
       exact of_decide_eq_true h
      have HNE := Lib.hid hne
      have HAS : Hid (atN (k + 1) = z) := by unfold Hid; rw [HA1.out, if_pos hne, HZ.out]; rfl
      obtain ⟨hb0, hb1⟩ := HI.out.bound hlt
      rw [HZ.out] at hb0 hb1
      have hgx : (hdFold s.data.toList k).2[z]? = some ((hdFold s.data.toList k).2.getD z 0) := by
       rw [List.getD_eq_getElem?_getD, List.getElem?_eq_getElem (by rw [HI.out.len]; omega)]
       rfl
      have cz := hN.cell hgx
      have hfz := hN.frozen z
      obtain ⟨n, hn⟩ : ∃ n, (hdFold s.data.toList k).2.getD z 0 = n := ⟨_, rfl⟩
      rw [hn] at cz hb0 hb1
      have HNN := Lib.hid hn
      have hdd := HD.out
      unfold digU at hdd
      simp only [Bool.and_eq_true, decide_eq_true_eq] at hdd
      have hE : n * 10 + (((c.toNat : Nat) : Int) - 48) % 256 = stepD n c := by
       unfold stepD
       omega
      have HE := Lib.hid hE
      have hlw := hN.lt
      clear hN hZe hns hfb hne hgx hn hdd hE
      go_upto_region 13 with fail
      go_region
      go_wp2_with fail
      go_roundw
      case rel =>
       refine ⟨k + 1, by omega, by go_num, by rw [HAS.out], HIS.out, ?_⟩
       have hset := HS9.out.nums.set z (stepD n c)
       have hg := grownBy_set W9 (w.heap.size + 1) z (.int .i64 (stepD n c))
       have hzz : HdAt (W9.setCell ⟨w.heap.size + 1, z, none⟩ (.int .i64 (stepD n c))) w.heap.size [0, 0, 0, 0, 0, 0] := HS9.out.zero.keep (hg.block _ (by omega) (fun e => by injection e with e; omega))
       have hbb := Below.setCell HS9.out.below (p := ⟨w.heap.size + 1, z, none⟩) (Nat.le_succ _) (.int .i64 (stepD n c))
       rw [HE.out]
       refine ⟨?_, hzz, hbb.drew⟩
       rw [HST.out]
       unfold hdStep
       rw [if_pos HNE.out, HAT.out, HNN.out]
       exact hset
      case measure => simp [intOf]; omega
    ·have HNO : Hid (hdOk s.data.toList = false) := hd_no HF.out HC.out (by rw [HPO.out]; rfl)
     rw [hns] at hN
     have c0 := hN.cell (j := 0) rfl
     have c1 := hN.cell (j := 1) rfl
     have c2 := hN.cell (j := 2) rfl
     have c3 := hN.cell (j := 3) rfl
     have c4 := hN.cell (j := 4) rfl
     have c5 := hN.cell (j := 5) rfl
     have z0 := hZe.cell (j := 0) rfl
     have z1 := hZe.cell (j := 1) rfl
     have z2 := hZe.cell (j := 2) rfl
     have z3 := hZe.cell (j := 3) rfl
     have z4 := hZe.cell (j := 4) rfl
     have z5 := hZe.cell (j := 5) rfl
     have y := hZe.frozen
     have hlw := hN.lt
     clear hN hZe hns
     go_wp2_with fail
     refine bodyPost_ret (v := .tuple #[.agg #[.int .i64 a0, .int .i64 a1, .int .i64 a2, .int .i64 a3, .int .i64 a4, .int .i64 a5], .bool false]) (by simp [results, Tryz.results160, go_sem, z0, z1, z2, z3, z4, z5]) rfl ⟨?_, Below.six HS9.out.below (Nat.le_refl _) _ _ _ _ _ _⟩
     unfold headRet
     rw [if_neg (by rw [HNO.out]; decide)]
     exact ⟨_, _, _, _, _, _, rfl⟩
   ·obtain rfl : k = 19 := by omega
    have HYES : Hid (hdOk s.data.toList = true) := HI.out.fin HL.out
    have hN := HS.out.nums
    have hZe := HS.out.zero
    rw [hdFold_end HL.out] at hN
    obtain ⟨m0, hm0⟩ : ∃ n, numAt s.data.toList 0 4 = n := ⟨_, rfl⟩
    obtain ⟨m1, hm1⟩ : ∃ n, numAt s.data.toList 5 2 = n := ⟨_, rfl⟩
    obtain ⟨m2, hm2⟩ : ∃ n, numAt s.data.toList 8 2 = n := ⟨_, rfl⟩
    obtain ⟨m3, hm3⟩ : ∃ n, numAt s.data.toList 11 2 = n := ⟨_, rfl⟩
    obtain ⟨m4, hm4⟩ : ∃ n, numAt s.data.toList 14 2 = n := ⟨_, rfl⟩
    obtain ⟨m5, hm5⟩ : ∃ n, numAt s.data.toList 17 2 = n := ⟨_, rfl⟩
    rw [hm0, hm1, hm2, hm3, hm4, hm5] at hN
    have HMM := Lib.hid (And.intro hm0 (And.intro hm1 (And.intro hm2 (And.intro hm3 (And.intro hm4 hm5)))))
    have c0 := hN.cell (j := 0) rfl
    have c1 := hN.cell (j := 1) rfl
    have c2 := hN.cell (j := 2) rfl
    have c3 := hN.cell (j := 3) rfl
    have c4 := hN.cell (j := 4) rfl
    have c5 := hN.cell (j := 5) rfl
    have z0 := hZe.cell (j := 0) rfl
    have z1 := hZe.cell (j := 1) rfl
    have z2 := hZe.cell (j := 2) rfl
    have z3 := hZe.cell (j := 3) rfl
    have z4 := hZe.cell (j := 4) rfl
    have z5 := hZe.cell (j := 5) rfl
    have y := hZe.frozen
    clear hN hZe hm0 hm1 hm2 hm3 hm4 hm5
    go_wp2_with fail
    refine bodyPost_ret (v := .tuple #[.agg #[.int .i64 m0, .int .i64 m1, .int .i64 m2, .int .i64 m3, .int .i64 m4, .int .i64 m5], .bool true]) (by simp [results, Tryz.results160, go_sem, z0, z1, z2, z3, z4, z5]) rfl ⟨?_, Below.six HS.out.below (Nat.le_refl _) _ _ _ _ _ _⟩
    unfold headRet
    obtain ⟨g0, g1, g2, g3, g4, g5⟩ := HMM.out
    rw [if_pos HYES.out, g0, g1, g2, g3, g4, g5]
end
section
open Go Go.Shelf
def lays160_ren : Go.Shelf.Ren := ⟨fun | 160 => 163 | 232 => 179 | 231 => 178 | 227 => 180 | 234 => 182 | 233 => 181 | 236 => 184 | 235 => 183 | 228 => 196 | 271 => 199 | 151 => 198 | 197 => 197 | 120 => 209 | 152 => 208 | 260 => 207 | 137 => 104 | 119 => 216 | 224 => 167 | 225 => 166 | 217 => 137 | 266 => 153 | n => n, fun | 9 => 9 | 4 => 4 | 3 => 3 | 5 => 5 | 117 => 195 | 116 => 194 | 0 => 0 | 124 => 198 | 21 => 21 | 105 => 172 | 46 => 58 | 119 => 231 | 139 => 234 | 138 => 233 | n => n, fun | 3 => 2 | 4 => 3 | n => n⟩
theorem lays160 : Go.Proofs.Lays.n160 Tryz.prog lays160_ren := {
 mixed := by kernel_rfl
 f119 := Tryz.func216.trans (congrArg some (by kernel_rfl))
 f120 := Tryz.func209.trans (congrArg some (by kernel_rfl))
 f137 := Tryz.func104.trans (congrArg some (by kernel_rfl))
 f151 := Tryz.func198.trans (congrArg some (by kernel_rfl))
 f152 := Tryz.func208.trans (congrArg some (by kernel_rfl))
 f160 := Tryz.func163.trans (congrArg some (by kernel_rfl))
 f197 := Tryz.func197.trans (congrArg some (by kernel_rfl))
 f217 := Tryz.func137.trans (congrArg some (by kernel_rfl))
 f224 := Tryz.func167.trans (congrArg some (by kernel_rfl))
 f225 := Tryz.func166.trans (congrArg some (by kernel_rfl))
 f227 := Tryz.func180.trans (congrArg some (by kernel_rfl))
 f228 := Tryz.func196.trans (congrArg some (by kernel_rfl))
 f231 := Tryz.func178.trans (congrArg some (by kernel_rfl))
 f232 := Tryz.func179.trans (congrArg some (by kernel_rfl))
 f233 := Tryz.func181.trans (congrArg some (by kernel_rfl))
 f234 := Tryz.func182.trans (congrArg some (by kernel_rfl))
 f235 := Tryz.func183.trans (congrArg some (by kernel_rfl))
 f236 := Tryz.func184.trans (congrArg some (by kernel_rfl))
 f260 := Tryz.func207.trans (congrArg some (by kernel_rfl))
 f266 := Tryz.func153.trans (congrArg some (by kernel_rfl))
 f271 := Tryz.func199.trans (congrArg some (by kernel_rfl))
 t0 := Tryz.underlying0
 a0 := Tryz.isAgg0
 z0 := Tryz.sizeOf0
 v0 := Tryz.zeroValue0
 t3 := Tryz.underlying3
 a3 := Tryz.isAgg3
 z3 := Tryz.sizeOf3
 v3 := Tryz.zeroValue3
 t4 := Tryz.underlying4
 a4 := Tryz.isAgg4
 z4 := Tryz.sizeOf4
 v4 := Tryz.zeroValue4
 t5 := Tryz.underlying5
 a5 := Tryz.isAgg5
 z5 := Tryz.sizeOf5
 v5 := Tryz.zeroValue5
 t9 := Tryz.underlying9
 a9 := Tryz.isAgg9
 z9 := Tryz.sizeOf9
 v9 := Tryz.zeroValue9
 t21 := Tryz.underlying21
 a21 := Tryz.isAgg21
 z21 := Tryz.sizeOf21
 v21 := Tryz.zeroValue21
 t46 := Tryz.underlying58
 a46 := Tryz.isAgg58
 z46 := Tryz.sizeOf58
 v46 := Tryz.zeroValue58
 t105 := Tryz.underlying172
 a105 := Tryz.isAgg172
 z105 := Tryz.sizeOf172
 v105 := Tryz.zeroValue172
 t116 := Tryz.underlying194
 a116 := Tryz.isAgg194
 z116 := Tryz.sizeOf194
 t117 := Tryz.underlying195
 a117 := Tryz.isAgg195
 z117 := Tryz.sizeOf195
 v117 := Tryz.zeroValue195
 t119 := Tryz.underlying231
 a119 := Tryz.isAgg231
 z119 := Tryz.sizeOf231
 t124 := Tryz.underlying198
 a124 := Tryz.isAgg198
 z124 := Tryz.sizeOf198
 v124 := Tryz.zeroValue198
 t138 := Tryz.underlying233
 a138 := Tryz.isAgg233
 z138 := Tryz.sizeOf233
 v138 := Tryz.zeroValue233
 t139 := Tryz.underlying234
 a139 := Tryz.isAgg234
 z139 := Tryz.sizeOf234
 v139 := Tryz.zeroValue234
 g3 := by kernel_rfl
 g4 := by kernel_rfl }
def lays106_ren : Go.Shelf.Ren := ⟨fun | 106 => 143 | 213 => 159 | 265 => 175 | n => n, fun | 9 => 9 | 3 => 3 | n => n, fun | n => n⟩
theorem lays106 : Go.Proofs.Lays.n106 Tryz.prog lays106_ren := {
 mixed := by kernel_rfl
 f106 := Tryz.func143.trans (congrArg some (by kernel_rfl))
 f213 := Tryz.func159.trans (congrArg some (by kernel_rfl))
 f265 := Tryz.func175.trans (congrArg some (by kernel_rfl))
 t3 := Tryz.underlying3
 a3 := Tryz.isAgg3
 z3 := Tryz.sizeOf3
 v3 := Tryz.zeroValue3
 t9 := Tryz.underlying9
 a9 := Tryz.isAgg9
 z9 := Tryz.sizeOf9
 v9 := Tryz.zeroValue9 }
open Go.RowKit in
theorem strings_Compare (a b : ByteArray) (w : World) :
 Calls Tryz.prog 143 #[.string a, .string b] w fun e w' => e = .returned (.int .i64 (Lib.compareBytes a.data.toList b.data.toList)) /\ w' = w := Any.strings_Compare lays106 a b w
def lays138_ren : Go.Shelf.Ren := ⟨fun | 138 => 165 | 195 => 190 | 218 => 191 | 143 => 132 | 219 => 151 | 217 => 137 | 225 => 166 | 224 => 167 | 267 => 168 | 266 => 153 | 314 => 192 | n => n, fun | 9 => 9 | 3 => 3 | 4 => 4 | 5 => 5 | 0 => 0 | 46 => 58 | 146 => 211 | 51 => 210 | n => n, fun | 1 => 1 | n => n⟩
theorem lays138 : Go.Proofs.Lays.n138 Tryz.prog lays138_ren := {
 mixed := by kernel_rfl
 f138 := Tryz.func165.trans (congrArg some (by kernel_rfl))
 f143 := Tryz.func132.trans (congrArg some (by kernel_rfl))
 f195 := Tryz.func190.trans (congrArg some (by kernel_rfl))
 f217 := Tryz.func137.trans (congrArg some (by kernel_rfl))
 f218 := Tryz.func191.trans (congrArg some (by kernel_rfl))
 f219 := Tryz.func151.trans (congrArg some (by kernel_rfl))
 f224 := Tryz.func167.trans (congrArg some (by kernel_rfl))
 f225 := Tryz.func166.trans (congrArg some (by kernel_rfl))
 f266 := Tryz.func153.trans (congrArg some (by kernel_rfl))
 f267 := Tryz.func168.trans (congrArg some (by kernel_rfl))
 f314 := Tryz.func192.trans (congrArg some (by kernel_rfl))
 t0 := Tryz.underlying0
 a0 := Tryz.isAgg0
 z0 := Tryz.sizeOf0
 v0 := Tryz.zeroValue0
 t3 := Tryz.underlying3
 a3 := Tryz.isAgg3
 z3 := Tryz.sizeOf3
 v3 := Tryz.zeroValue3
 t4 := Tryz.underlying4
 a4 := Tryz.isAgg4
 z4 := Tryz.sizeOf4
 v4 := Tryz.zeroValue4
 t5 := Tryz.underlying5
 a5 := Tryz.isAgg5
 z5 := Tryz.sizeOf5
 v5 := Tryz.zeroValue5
 t9 := Tryz.underlying9
 a9 := Tryz.isAgg9
 z9 := Tryz.sizeOf9
 v9 := Tryz.zeroValue9
 t46 := Tryz.underlying58
 a46 := Tryz.isAgg58
 z46 := Tryz.sizeOf58
 v46 := Tryz.zeroValue58
 t51 := Tryz.underlying210
 a51 := Tryz.isAgg210
 z51 := Tryz.sizeOf210
 v51 := Tryz.zeroValue210
 t146 := Tryz.underlying211
 a146 := Tryz.isAgg211
 z146 := Tryz.sizeOf211
 v146 := Tryz.zeroValue211
 g1 := by kernel_rfl }
open Go.RowKit Go.Lib in
theorem strings_Count_one (s : ByteArray) (c : UInt8) (w : World) :
 Calls Tryz.prog 165 #[.string s, .string ⟨#[c]⟩] w fun e w' => e = .returned (.int .i64 (Lib.countByte s.data.toList c)) /\ w' = w := Any.strings_Count_one lays138 s c w
def lays105_ren : Go.Shelf.Ren := ⟨fun | 105 => 164 | 212 => 185 | 99 => 157 | 165 => 186 | 166 => 187 | 170 => 188 | 169 => 189 | 263 => 200 | 264 => 201 | 206 => 174 | 240 => 202 | 241 => 203 | 276 => 210 | 277 => 211 | n => n, fun | 9 => 9 | 3 => 3 | 4 => 4 | 20 => 20 | 0 => 0 | 46 => 58 | 109 => 199 | 5 => 5 | 72 => 203 | 76 => 207 | 51 => 210 | 146 => 211 | 53 => 218 | 148 => 219 | 70 => 201 | 37 => 160 | 75 => 206 | 127 => 164 | 164 => 225 | 80 => 209 | n => n, fun | n => n⟩
theorem lays105 : Go.Proofs.Lays.n105 Tryz.prog lays105_ren := {
 mixed := by kernel_rfl
 f99 := Tryz.func157.trans (congrArg some (by kernel_rfl))
 f105 := Tryz.func164.trans (congrArg some (by kernel_rfl))
 f165 := Tryz.func186.trans (congrArg some (by kernel_rfl))
 f166 := Tryz.func187.trans (congrArg some (by kernel_rfl))
 f169 := Tryz.func189.trans (congrArg some (by kernel_rfl))
 f170 := Tryz.func188.trans (congrArg some (by kernel_rfl))
 f206 := Tryz.func174.trans (congrArg some (by kernel_rfl))
 f212 := Tryz.func185.trans (congrArg some (by kernel_rfl))
 f240 := Tryz.func202.trans (congrArg some (by kernel_rfl))
 f241 := Tryz.func203.trans (congrArg some (by kernel_rfl))
 f263 := Tryz.func200.trans (congrArg some (by kernel_rfl))
 f264 := Tryz.func201.trans (congrArg some (by kernel_rfl))
 f276 := Tryz.func210.trans (congrArg some (by kernel_rfl))
 f277 := Tryz.func211.trans (congrArg some (by kernel_rfl))
 t0 := Tryz.underlying0
 a0 := Tryz.isAgg0
 z0 := Tryz.sizeOf0
 v0 := Tryz.zeroValue0
 t3 := Tryz.underlying3
 a3 := Tryz.isAgg3
 z3 := Tryz.sizeOf3
 v3 := Tryz.zeroValue3
 t4 := Tryz.underlying4
 a4 := Tryz.isAgg4
 z4 := Tryz.sizeOf4
 v4 := Tryz.zeroValue4
 t5 := Tryz.underlying5
 a5 := Tryz.isAgg5
 z5 := Tryz.sizeOf5
 v5 := Tryz.zeroValue5
 t9 := Tryz.underlying9
 a9 := Tryz.isAgg9
 z9 := Tryz.sizeOf9
 v9 := Tryz.zeroValue9
 t20 := Tryz.underlying20
 a20 := Tryz.isAgg20
 z20 := Tryz.sizeOf20
 v20 := Tryz.zeroValue20
 t37 := Tryz.underlying160
 a37 := Tryz.isAgg160
 z37 := Tryz.sizeOf160
 v37 := Tryz.zeroValue160
 t46 := Tryz.underlying58
 a46 := Tryz.isAgg58
 z46 := Tryz.sizeOf58
 v46 := Tryz.zeroValue58
 t51 := Tryz.underlying210
 a51 := Tryz.isAgg210
 z51 := Tryz.sizeOf210
 v51 := Tryz.zeroValue210
 t53 := Tryz.underlying218
 a53 := Tryz.isAgg218
 z53 := Tryz.sizeOf218
 v53 := Tryz.zeroValue218
 t70 := Tryz.underlying201
 a70 := Tryz.isAgg201
 z70 := Tryz.sizeOf201
 v70 := Tryz.zeroValue201
 t72 := Tryz.underlying203
 a72 := Tryz.isAgg203
 z72 := Tryz.sizeOf203
 v72 := Tryz.zeroValue203
 t75 := Tryz.underlying206
 a75 := Tryz.isAgg206
 z75 := Tryz.sizeOf206
 v75 := Tryz.zeroValue206
 t76 := Tryz.underlying207
 a76 := Tryz.isAgg207
 z76 := Tryz.sizeOf207
 v76 := Tryz.zeroValue207
 t109 := Tryz.underlying199
 a109 := Tryz.isAgg199
 z109 := Tryz.sizeOf199
 v109 := Tryz.zeroValue199
 t127 := Tryz.underlying164
 a127 := Tryz.isAgg164
 z127 := Tryz.sizeOf164
 v127 := Tryz.zeroValue164
 t146 := Tryz.underlying211
 a146 := Tryz.isAgg211
 z146 := Tryz.sizeOf211
 v146 := Tryz.zeroValue211
 t148 := Tryz.underlying219
 a148 := Tryz.isAgg219
 z148 := Tryz.sizeOf219
 v148 := Tryz.zeroValue219
 t164 := Tryz.underlying225
 a164 := Tryz.isAgg225
 z164 := Tryz.sizeOf225
 v164 := Tryz.zeroValue225 }
theorem Builder_Extra_105 : Builder.Extra Tryz.prog lays105_ren := {
 sizeBuilder := by kernel_rfl
 liesBuilder := by kernel_rfl
 t5 := Tryz.underlying5
 a5 := Tryz.isAgg5
 z5 := Tryz.sizeOf5
 v5 := Tryz.zeroValue5
 infoByte := by kernel_rfl
 cellsByte := by kernel_rfl
 sizeByte := by kernel_rfl
 neB5 := by decide }
open Go.RowKit Go.Lib in
theorem strings_Repeat (s : ByteArray) (c : Nat) (w : World) (hc : c <= 9223372036854775807) (hlen : s.size * c <= 140737488355328) :
 Calls Tryz.prog 164 #[.string s, .int .i64 c] w fun e w' => e = .returned (.string ⟨(Lib.repeatL s.data.toList c).toArray⟩) /\ Below w.heap.size w w' := Any.strings_Repeat lays105 Builder_Extra_105 s c w hc hlen
end
section
open Go Go.RowKit Go.OpenShut
def digsB : ByteArray := ⟨#[48, 49, 50, 51, 52, 53, 54, 55, 56, 57]⟩
theorem digs_contains (c : UInt8) : digsB.data.toList.contains c = digU c := by
 have h : ∀ n : Fin 256, (digsB.data.toList.contains (UInt8.ofNat n.1)) = digU (UInt8.ofNat n.1) := by decide +kernel
 have h2 := h ⟨c.toNat, c.toNat_lt⟩
 simpa using h2
def m_all (l : List UInt8) (p : UInt8 -> Bool) : Prop := ∀ x ∈ l, p x = true
theorem trim_empty (l cs : List UInt8) : (Lib.trimS l cs = []) ↔ l.all (cs.contains ·) = true := by
 have hd : ∀ m : List UInt8, m.dropWhile (cs.contains ·) = [] ↔ m.all (cs.contains ·) = true := by
  intro m
  induction m with
  | nil => simp
  | cons a m ih =>
    rw [List.dropWhile_cons, List.all_cons]
    cases h : cs.contains a
    ·simp
    ·simp only [if_true, Bool.true_and]
     exact ih
 have hsub : ∀ m : List UInt8, m.all (cs.contains ·) = true -> (m.reverse.dropWhile (cs.contains ·)).reverse = [] := by
  intro m hm
  have : m.reverse.all (cs.contains ·) = true := by rw [List.all_reverse]; exact hm
  rw [(hd _).2 this]
  rfl
 unfold Lib.trimS Lib.trimLeftS Lib.trimRightS
 rw [hd]
 constructor
 ·intro h
  rw [List.all_reverse] at h
  have h2 : m_all l.reverse (cs.contains ·) := by
   intro x hx
   by_cases hx2 : x ∈ l.reverse.dropWhile (cs.contains ·)
   ·exact List.all_eq_true.1 h x hx2
   ·have h3 := List.takeWhile_append_dropWhile (p := (cs.contains ·)) (l := l.reverse)
    rw [<- h3] at hx
    rcases List.mem_append.1 hx with h4 | h4
    ·exact List.all_eq_true.1 List.all_takeWhile x h4
    ·exact absurd h4 hx2
  rw [List.all_eq_true]
  intro x hx
  exact h2 x (List.mem_reverse.2 hx)
 ·intro h
  rw [hsub l h]
  rfl
theorem trim_digs (s : ByteArray) (w : World) (hs : s.size <= 9223372036854775807) : Calls Tryz.prog 163 #[.string s, .string digsB] w fun e w' => ∃ T : ByteArray, e = .returned (.string T) /\ T.toList.isEmpty = s.data.toList.all digU /\ Below w.heap.size w w' := by
 refine (Any.strings_Trim_laid lays160 (by kernel_rfl) s digsB w hs (by decide) (fun j b h => ?_)).mono (fun e w' h => ?_)
 ·have hall : digsB.data.toList.all (fun b => decide (b.toNat < 128)) = true := by decide +kernel
  exact of_decide_eq_true (List.all_eq_true.1 hall b (List.mem_of_getElem? h))
 ·refine ⟨_, h.1, ?_, h.2⟩
  rw [ByteArray.toList_eq]
  have e : (fun c => digsB.data.toList.contains c) = digU := funext digs_contains
  have h2 := trim_empty s.data.toList digsB.data.toList
  rw [show (s.data.toList.all (digsB.data.toList.contains ·)) = s.data.toList.all digU from congrArg _ e] at h2
  cases ha : s.data.toList.all digU with
  | true => rw [h2.2 ha]; rfl
  | false =>
    cases ht : Lib.trimS s.data.toList digsB.data.toList with
    | nil => rw [h2.1 ht] at ha; cases ha
    | cons a r => rfl
theorem tail_any (s : ByteArray) (w : World) (hs : s.size <= maxLen) : Calls Tryz.prog 161 #[.string s] w fun e w' => e = .returned (.bool (tlOk s.data.toList)) /\ Below w.heap.size w w' := by
 have hsz : s.data.toList.length = s.size := by rw [Array.length_toList]; rfl
 unfold maxLen at hs
 have s0 : (0 : Int) <= (s.size : Int) := Int.natCast_nonneg _
 obtain ⟨bz, hbz⟩ : ∃ b, (s.toList == [90]) = b := ⟨_, rfl⟩
 have HBZ : Hid (decide (s.data.toList = [90]) = bz) := by
  unfold Hid
  rw [<- hbz, ByteArray.toList_eq]
  by_cases h : s.data.toList = [90]
  ·rw [decide_eq_true h, h]; rfl
  ·rw [decide_eq_false h]; simpa using h
 have HTL : Hid (tlOk s.data.toList = (decide (s.data.toList = [90]) || (decide (3 <= s.data.toList.length) && (decide (s.data.toList.length <= 11) && (decide (s.data.toList[0]? = some 46) && (decide (s.data.toList[s.data.toList.length - 1]? = some 90) && (decide (s.data.toList[s.data.toList.length - 2]? ≠ some 48) && ((s.data.toList.drop 1).take (s.data.toList.length - 2)).all digU))))))) := rfl
 rw [HBZ.out, hsz] at HTL
 have HGE : Hid (∀ k, (h : k < s.size) -> s.data.toList[k]? = some s[k]) := fun k h => get_optS h
 obtain ⟨R, hR⟩ : ∃ R, tlOk s.data.toList = R := ⟨_, rfl⟩
 rw [hR] at HTL
 rw [hR]
 clear hR
 cases bz with
 | true =>
   have HRR : Hid (R = true) := by unfold Hid; rw [HTL.out]; rfl
   rw [HRR.out]
   clear hsz
   go_enter Tryz.func161, Tryz.ntmps161
   go_wp2_with fail
   go_ret
   exact ⟨rfl, Below.refl _ _⟩
 | false =>
   by_cases h3 : s.size < 3
   ·have q : decide ((s.size : Int) - 2 < 1) = true := decide_eq_true (by omega)
    have q' : (s.size : Int) - 2 < 1 := by omega
    have HRR : Hid (R = false) := by unfold Hid; rw [HTL.out, decide_eq_false (p := 3 <= s.size) (by omega)]; rfl
    rw [HRR.out]
    clear hsz
    go_enter Tryz.func161, Tryz.ntmps161
    go_wp2_with fail
    go_ret
    exact ⟨rfl, Below.refl _ _⟩
   ·obtain ⟨K, hK⟩ : ∃ K, s.size = K + 2 := ⟨s.size - 2, by omega⟩
    have hK1 : 1 <= K := by omega
    have HK := Lib.hid hK
    have hKs : (s.size : Int) - 2 = (K : Int) := by omega
    have b0 : 0 < s.size := by omega
    have bk : K < s.size := by omega
    have bz' : K + 1 < s.size := by omega
    have b0' : (0 : Int) < (s.size : Int) := by omega
    have bk' : (K : Int) < (s.size : Int) := by omega
    have bz2 : (K : Int) + 1 < (s.size : Int) := by omega
    have bz3 : (K : Int) + 1 <= (s.size : Int) := by omega
    have hK0 : (1 : Int) <= (K : Int) := by omega
    have hK00 : (0 : Int) <= (K : Int) := by omega
    have q1 : decide ((K : Int) < 1) = false := decide_eq_false (by omega)
    obtain ⟨e2, he2⟩ : ∃ b, decide ((9 : Int) < (K : Int)) = b := ⟨_, rfl⟩
    have g0 := HGE.out 0 b0
    have gk := HGE.out K bk
    have gz := HGE.out (K + 1) bz'
    obtain ⟨c0, hc0⟩ : ∃ c, s[0] = c := ⟨_, rfl⟩
    obtain ⟨ck, hck⟩ : ∃ c, s[K] = c := ⟨_, rfl⟩
    obtain ⟨cz, hcz⟩ : ∃ c, s[K + 1] = c := ⟨_, rfl⟩
    rw [hc0] at g0
    rw [hck] at gk
    rw [hcz] at gz
    have hdn : ∀ (c : UInt8) (k : UInt8), (((c.toNat : Nat) : Int) == ((k.toNat : Nat) : Int)) = decide (c = k) := fun c k => by
     by_cases h : c = k
     ·rw [decide_eq_true h, h]; simp
     ·rw [decide_eq_false h]
      have h2 : ¬ c.toNat = k.toNat := fun e => h (UInt8.toNat_inj.1 e)
      simp
      omega
    obtain ⟨x0, hx0⟩ : ∃ b, (((c0.toNat : Nat) : Int) == 46) = b := ⟨_, rfl⟩
    obtain ⟨xz, hxz⟩ : ∃ b, (((cz.toNat : Nat) : Int) == 90) = b := ⟨_, rfl⟩
    obtain ⟨xk, hxk⟩ : ∃ b, (((ck.toNat : Nat) : Int) == 48) = b := ⟨_, rfl⟩
    have hx0n : (((c0.toNat : Nat) : Int) != 46) = !x0 := by unfold bne; rw [hx0]
    have hxzn : (((cz.toNat : Nat) : Int) != 90) = !xz := by unfold bne; rw [hxz]
    have HX0 : Hid (decide (c0 = 46) = x0) := by unfold Hid; rw [<- hx0]; exact (hdn c0 46).symm
    have HXZ : Hid (decide (cz = 90) = xz) := by unfold Hid; rw [<- hxz]; exact (hdn cz 90).symm
    have HXK : Hid (decide (ck = 48) = xk) := by unfold Hid; rw [<- hxk]; exact (hdn ck 48).symm
    have HTR : Hid (∀ W, Calls Tryz.prog 163 #[.string (s.extract 1 (K + 1)), .string digsB] W fun e w' => ∃ T : ByteArray, e = .returned (.string T) /\ T.toList.isEmpty = (s.extract 1 (K + 1)).data.toList.all digU /\ Below W.heap.size W w') := fun W => trim_digs _ W (by rw [<- str_len, Lib.extract_data]; simp; omega)
    rw [Lib.extract_data] at HTR
    have HR2 : Hid (R = (!(e2 || (!x0 || (!xz || xk))) && ((s.data.toList.drop 1).take K).all digU)) := by
     unfold Hid
     rw [HTL.out, hK, show K + 2 - 1 = K + 1 by omega, show K + 2 - 2 = K by omega, g0, gk, gz, decide_eq_true (p := 3 <= K + 2) (by omega)]
     have e : decide (K + 2 <= 11) = !e2 := by
      rw [<- he2]
      by_cases h : 9 < K
      ·rw [decide_eq_false (by omega), decide_eq_true (by omega)]; rfl
      ·rw [decide_eq_true (by omega), decide_eq_false (by omega)]; rfl
     have e0 : decide (some c0 = some 46) = x0 := by rw [<- HX0.out]; simp
     have ez : decide (some cz = some 90) = xz := by rw [<- HXZ.out]; simp
     have ek : decide (some ck ≠ some 48) = !xk := by rw [<- HXK.out]; simp
     rw [e, e0, ez, ek]
     cases e2 <;> cases x0 <;> cases xz <;> cases xk <;> simp
    rw [show K + 1 - 1 = K by omega] at HTR
    obtain ⟨dg, hdg⟩ : ∃ b, ((s.data.toList.drop 1).take K).all digU = b := ⟨_, rfl⟩
    rw [hdg] at HTR HR2
    obtain ⟨bad, hbad⟩ : ∃ b, (e2 || (!x0 || (!xz || xk))) = b := ⟨_, rfl⟩
    rw [hbad] at HR2
    have HBD := Lib.hid hbad
    unfold digsB at HTR
    clear hbad hdg hdn hsz hK h3 g0 gk gz HTL
    go_enter Tryz.func161, Tryz.ntmps161
    go_upto_region 4 with fail
    try rw [hKs]
    go_cut [32] from 9 to 32 (fun v wr => v = .bool bad /\ wr = w)
    case first =>
     cases e2 <;> cases x0 <;> cases xz <;> cases xk
     all_goals
      simp only [Bool.not_false, Bool.not_true] at hx0n hxzn
      go_wp2_with fail
      go_meet
      exact ⟨by rw [<- HBD.out]; rfl, rfl⟩
    case rest =>
    obtain ⟨rfl, hwc⟩ := hcut
    obtain rfl : w = wc := hwc.symm
    cases bad with
    | true =>
      have HRR : Hid (R = false) := by unfold Hid; rw [HR2.out]; rfl
      go_wp2_with fail
      rw [HRR.out]
      go_ret
      exact ⟨rfl, Below.refl _ _⟩
    | false =>
      have HRR : Hid (R = dg) := by unfold Hid; rw [HR2.out]; rfl
      go_wp2_with (first | (go_at_call 163; refine (HTR.out _).mono ?_; rintro e w1 ⟨T, rfl, hT, hb1⟩) | fail)
      rw [HRR.out]
      go_ret
      exact ⟨rfl, hb1⟩
theorem valD_lt : ∀ (k : Nat) (l : List UInt8), l.length = k -> l.all digU = true -> valD l < 10 ^ k
 | 0, l, hk, _ => by
   obtain rfl := List.eq_nil_of_length_eq_zero hk
   decide
 | k + 1, l, hk, h => by
   have hne : l ≠ [] := fun e => by rw [e] at hk; cases hk
   obtain ⟨r, b, rfl⟩ : ∃ r b, l = r ++ [b] := ⟨l.dropLast, l.getLast hne, (List.dropLast_concat_getLast hne).symm⟩
   rw [List.all_append, Bool.and_eq_true] at h
   have hb : digU b = true := by simpa using h.2
   unfold digU at hb
   simp only [Bool.and_eq_true, decide_eq_true_eq] at hb
   have ih := valD_lt k r (by simp at hk; exact hk) h.1
   rw [valD_snoc, Int.pow_succ]
   unfold stepD
   omega
theorem numAt_lt {l : List UInt8} {i n : Nat} (h : ((l.drop i).take n).all digU = true) : 0 <= numAt l i n /\ numAt l i n < 10 ^ n := by
 refine ⟨valD_nonneg h, ?_⟩
 have h1 := valD_lt _ _ rfl h
 have h2 : ((l.drop i).take n).length <= n := List.length_take_le _ _
 have h3 : (10 : Nat) ^ ((l.drop i).take n).length <= 10 ^ n := Nat.pow_le_pow_right (by decide) h2
 have h4 : (((10 : Nat) ^ ((l.drop i).take n).length : Nat) : Int) <= ((10 ^ n : Nat) : Int) := by omega
 have h5 : ((10 : Int) ^ ((l.drop i).take n).length) <= 10 ^ n := by simpa using h4
 exact Int.lt_of_lt_of_le h1 h5
theorem hd_nums {l : List UInt8} (h : hdOk l = true) : 19 <= l.length /\ (0 <= numAt l 0 4 /\ numAt l 0 4 <= 9999) /\ (0 <= numAt l 5 2 /\ numAt l 5 2 <= 99) /\ (0 <= numAt l 8 2 /\ numAt l 8 2 <= 99) /\ (0 <= numAt l 11 2 /\ numAt l 11 2 <= 99) /\ (0 <= numAt l 14 2 /\ numAt l 14 2 <= 99) /\ (0 <= numAt l 17 2 /\ numAt l 17 2 <= 99) := by
 have hl : 19 <= l.length := by
  unfold hdOk at h
  rw [Bool.and_eq_true] at h
  exact of_decide_eq_true h.1
 have hp := hdOk_parts hl
 rw [h] at hp
 have hp := hp.symm
 simp only [Bool.and_eq_true] at hp
 obtain ⟨_, ⟨a, b, c⟩, d, e, f⟩ := hp
 have p4 : (10 : Int) ^ 4 = 10000 := by decide
 have p2 : (10 : Int) ^ 2 = 100 := by decide
 have h1 := numAt_lt a
 have h2 := numAt_lt b
 have h3 := numAt_lt c
 have h4 := numAt_lt d
 have h5 := numAt_lt e
 have h6 := numAt_lt f
 omega
theorem daysF_bound {y m d D : Int} (h : daysF y m d = some D) : -800000 <= D /\ D <= 4000000 := by
 unfold daysF at h
 split at h
 ·rename_i hc
  have h1 := aheadF_bound hc.1 (show y <= 10000 by omega)
  have h2 := monthsF_bound y (m.toNat - 1)
  have h3 := month_pos y m
  have e7 : aheadF 1970 = 719528 := by decide
  rw [e7] at h
  have := Option.some.inj h
  omega
 ·cases h
theorem hd_alloc (w : World) (a b c d x y : Int) : HdAt (w.alloc (.cells #[.int .i64 a, .int .i64 b, .int .i64 c, .int .i64 d, .int .i64 x, .int .i64 y] 177)) w.heap.size [a, b, c, d, x, y] := heap_alloc_at rfl
def secRet (o : Option Int) : Value := match o with | some n => .tuple #[.int .i64 n, .bool true] | none => .tuple #[.int .i64 0, .bool false]
theorem seconds_any (s : ByteArray) (w : World) (hs : s.size <= maxLen) : Calls Tryz.prog 144 #[.string s] w fun e w' => e = .returned (secRet (secF s.data.toList)) /\ Below w.heap.size w w' := by
 have hsz : s.data.toList.length = s.size := by rw [Array.length_toList]; rfl
 have HHD : Hid (∀ W, Calls Tryz.prog 160 #[.string s] W fun e w' => headRet s.data.toList e /\ Below W.heap.size W w') := fun W => head_any s W hs
 have HSF : Hid (secF s.data.toList = if hdOk s.data.toList && (tlOk (s.data.toList.drop 19) && (decide (numAt s.data.toList 11 2 <= 23) && (decide (numAt s.data.toList 14 2 <= 59) && decide (numAt s.data.toList 17 2 <= 59)))) then (daysF (numAt s.data.toList 0 4) (numAt s.data.toList 5 2) (numAt s.data.toList 8 2)).map (fun D => ((D * 24 + numAt s.data.toList 11 2) * 60 + numAt s.data.toList 14 2) * 60 + numAt s.data.toList 17 2) else none) := rfl
 have HTL : Hid (19 <= s.size -> ∀ W, Calls Tryz.prog 161 #[.string (s.extract 19 s.size)] W fun e w' => e = .returned (.bool (tlOk (s.data.toList.drop 19))) /\ Below W.heap.size W w') := fun h W => (tail_any (s.extract 19 s.size) W (by rw [<- str_len, Lib.extract_data]; simp; omega)).mono (fun e w' h => by
  rw [Lib.extract_data, List.take_of_length_le (by rw [List.length_drop]; omega)] at h
  exact h)
 obtain ⟨R, hR⟩ : ∃ R, secF s.data.toList = R := ⟨_, rfl⟩
 rw [hR] at HSF
 rw [hR]
 clear hR
 unfold maxLen at hs
 have s0 : (0 : Int) <= (s.size : Int) := Int.natCast_nonneg _
 cases hok : hdOk s.data.toList with
 | false =>
   have HRR : Hid (R = none) := by unfold Hid; rw [HSF.out, hok]; rfl
   have HNO := Lib.hid hok
   clear hok hsz
   go_enter Tryz.func144, Tryz.ntmps144
   go_wp2_with (first | (go_at_call 160; refine (HHD.out _).mono ?_; rintro e w1 ⟨hh, hb1⟩; unfold headRet at hh; rw [if_neg (by rw [HNO.out]; decide)] at hh; obtain ⟨a, b, c, d, x, y, rfl⟩ := hh) | fail)
   rw [HRR.out]
   refine bodyPost_ret (v := .tuple #[.int .i64 0, .bool false]) (by simp [results, Tryz.results144, go_sem]) rfl ⟨rfl, hb1.alloc hb1.size _⟩
 | true =>
   obtain ⟨hl, ⟨y0, y1⟩, ⟨m0, m1⟩, ⟨d0, d1⟩, ⟨h0, h1⟩, ⟨i0, i1⟩, ⟨n0, n1⟩⟩ := hd_nums hok
   have h19 : 19 <= s.size := by omega
   have HT2 := Lib.hid (HTL.out h19)
   have h19' : (19 : Int) <= (s.size : Int) := by omega
   have HDA : Hid (∀ W, Calls Tryz.prog 162 #[.int .i64 (numAt s.data.toList 0 4), .int .i64 (numAt s.data.toList 5 2), .int .i64 (numAt s.data.toList 8 2)] W fun e w' => e = .returned (dayRet (daysF (numAt s.data.toList 0 4) (numAt s.data.toList 5 2) (numAt s.data.toList 8 2))) /\ W = w') := fun W => days_any _ _ _ W y0 y1 m0 m1 d0 d1
   have HH2 : Hid (∀ W, Calls Tryz.prog 160 #[.string s] W fun e w' => e = .returned (.tuple #[.agg #[.int .i64 (numAt s.data.toList 0 4), .int .i64 (numAt s.data.toList 5 2), .int .i64 (numAt s.data.toList 8 2), .int .i64 (numAt s.data.toList 11 2), .int .i64 (numAt s.data.toList 14 2), .int .i64 (numAt s.data.toList 17 2)], .bool true]) /\ Below W.heap.size W w') := fun W => (HHD.out W).mono (fun e w' h => by
    obtain ⟨h2, h3⟩ := h
    unfold headRet at h2
    rw [if_pos hok] at h2
    exact ⟨h2, h3⟩)
   have HDB : Hid (∀ D, daysF (numAt s.data.toList 0 4) (numAt s.data.toList 5 2) (numAt s.data.toList 8 2) = some D -> -800000 <= D /\ D <= 4000000) := fun D h => daysF_bound h
   rw [hok] at HSF
   clear hok HHD HTL hl hsz
   obtain ⟨Y, hY⟩ : ∃ n, numAt s.data.toList 0 4 = n := ⟨_, rfl⟩
   obtain ⟨M, hM⟩ : ∃ n, numAt s.data.toList 5 2 = n := ⟨_, rfl⟩
   obtain ⟨D, hD⟩ : ∃ n, numAt s.data.toList 8 2 = n := ⟨_, rfl⟩
   obtain ⟨H, hH⟩ : ∃ n, numAt s.data.toList 11 2 = n := ⟨_, rfl⟩
   obtain ⟨I, hI⟩ : ∃ n, numAt s.data.toList 14 2 = n := ⟨_, rfl⟩
   obtain ⟨C, hC⟩ : ∃ n, numAt s.data.toList 17 2 = n := ⟨_, rfl⟩
   obtain ⟨tl, htl⟩ : ∃ b, tlOk (s.data.toList.drop 19) = b := ⟨_, rfl⟩
   obtain ⟨o, ho⟩ : ∃ o, daysF Y M D = o := ⟨_, rfl⟩
   rw [hY, hM, hD] at HDA HSF HDB HH2
   rw [hH, hI, hC] at HSF HH2
   rw [ho] at HDA HSF HDB
   rw [htl] at HSF HT2
   rw [hH] at h0 h1
   rw [hI] at i0 i1
   rw [hC] at n0 n1
   clear hY hM hD hH hI hC htl ho y0 y1 m0 m1 d0 d1
   obtain ⟨a3, ha3⟩ : ∃ b, decide ((23 : Int) < H) = b := ⟨_, rfl⟩
   obtain ⟨a4, ha4⟩ : ∃ b, decide ((59 : Int) < I) = b := ⟨_, rfl⟩
   obtain ⟨a5, ha5⟩ : ∃ b, decide ((59 : Int) < C) = b := ⟨_, rfl⟩
   have HSF2 : Hid (R = if (tl && (!a3 && (!a4 && !a5))) then o.map (fun D => ((D * 24 + H) * 60 + I) * 60 + C) else none) := by
    unfold Hid
    rw [HSF.out, Bool.true_and, <- ha3, <- ha4, <- ha5]
    have e : ∀ n k : Int, decide (n <= k) = !decide (k < n) := fun n k => by
     by_cases h : n <= k
     ·rw [decide_eq_true h, decide_eq_false (by omega)]; rfl
     ·rw [decide_eq_false h, decide_eq_true (by omega)]; rfl
    rw [e H 23, e I 59, e C 59]
   clear HSF
   cases hall : (tl && (!a3 && (!a4 && !a5))) with
   | false =>
     have HRR : Hid (R = none) := by unfold Hid; rw [HSF2.out, hall]; rfl
     cases tl <;> cases a3 <;> cases a4 <;> cases a5 <;> simp only [Bool.and_true, Bool.and_false, Bool.true_and, Bool.false_and, Bool.not_true, Bool.not_false, Bool.and_self, reduceCtorEq] at hall
     all_goals
      go_enter Tryz.func144, Tryz.ntmps144
      go_wp2_with (first | (go_at_call 160; refine (HH2.out _).mono ?_; rintro e w1 ⟨rfl, hb1⟩) | (go_at_call 161; refine (HT2.out _).mono ?_; rintro e w2 ⟨rfl, hb2⟩; (have g3 : w2.cell? ⟨w1.heap.size, 3, none⟩ = some (.int .i64 H) := bcs hb2 (by simp) ((hd_alloc _ _ _ _ _ _ _).cell rfl)); (have g4 : w2.cell? ⟨w1.heap.size, 4, none⟩ = some (.int .i64 I) := bcs hb2 (by simp) ((hd_alloc _ _ _ _ _ _ _).cell rfl)); (have g5 : w2.cell? ⟨w1.heap.size, 5, none⟩ = some (.int .i64 C) := bcs hb2 (by simp) ((hd_alloc _ _ _ _ _ _ _).cell rfl))) | fail)
      rw [HRR.out]
      refine bodyPost_ret (v := .tuple #[.int .i64 0, .bool false]) (by simp [results, Tryz.results144, go_sem]) rfl ⟨rfl, (hb1.alloc hb1.size _).trans (hb2.mono (by simp; have := hb1.size; omega))⟩
   | true =>
     cases tl <;> cases a3 <;> cases a4 <;> cases a5 <;> simp only [Bool.and_true, Bool.and_false, Bool.true_and, Bool.false_and, Bool.not_true, Bool.not_false, Bool.and_self, reduceCtorEq] at hall
     have l3 := of_decide_eq_false ha3
     have l4 := of_decide_eq_false ha4
     have l5 := of_decide_eq_false ha5
     cases o with
     | none =>
       have HRR : Hid (R = none) := by unfold Hid; rw [HSF2.out]; rfl
       have HDN : Hid (∀ W, Calls Tryz.prog 162 #[.int .i64 Y, .int .i64 M, .int .i64 D] W fun e w' => e = .returned (.tuple #[.int .i64 0, .bool false]) /\ W = w') := HDA.out
       clear HDA HDB HSF2
       go_enter Tryz.func144, Tryz.ntmps144
       go_wp2_with (first | (go_at_call 160; refine (HH2.out _).mono ?_; rintro e w1 ⟨rfl, hb1⟩) | (go_at_call 161; refine (HT2.out _).mono ?_; rintro e w2 ⟨rfl, hb2⟩; (have g0 : w2.cell? ⟨w1.heap.size, 0, none⟩ = some (.int .i64 Y) := bcs hb2 (by simp) ((hd_alloc _ _ _ _ _ _ _).cell rfl)); (have g1 : w2.cell? ⟨w1.heap.size, 1, none⟩ = some (.int .i64 M) := bcs hb2 (by simp) ((hd_alloc _ _ _ _ _ _ _).cell rfl)); (have g2 : w2.cell? ⟨w1.heap.size, 2, none⟩ = some (.int .i64 D) := bcs hb2 (by simp) ((hd_alloc _ _ _ _ _ _ _).cell rfl)); (have g3 : w2.cell? ⟨w1.heap.size, 3, none⟩ = some (.int .i64 H) := bcs hb2 (by simp) ((hd_alloc _ _ _ _ _ _ _).cell rfl)); (have g4 : w2.cell? ⟨w1.heap.size, 4, none⟩ = some (.int .i64 I) := bcs hb2 (by simp) ((hd_alloc _ _ _ _ _ _ _).cell rfl)); (have g5 : w2.cell? ⟨w1.heap.size, 5, none⟩ = some (.int .i64 C) := bcs hb2 (by simp) ((hd_alloc _ _ _ _ _ _ _).cell rfl))) | (go_at_call 162; refine (HDN.out _).mono ?_; rintro e w3 ⟨rfl, rfl⟩) | fail)
       rw [HRR.out]
       refine bodyPost_ret (v := .tuple #[.int .i64 0, .bool false]) (by simp [results, Tryz.results144, go_sem]) rfl ⟨rfl, (hb1.alloc hb1.size _).trans (hb2.mono (by simp; have := hb1.size; omega))⟩
     | some N =>
       obtain ⟨N0, N1⟩ := HDB.out N rfl
       have HRR : Hid (R = some (((N * 24 + H) * 60 + I) * 60 + C)) := by unfold Hid; rw [HSF2.out]; rfl
       have HDN : Hid (∀ W, Calls Tryz.prog 162 #[.int .i64 Y, .int .i64 M, .int .i64 D] W fun e w' => e = .returned (.tuple #[.int .i64 N, .bool true]) /\ W = w') := HDA.out
       clear HDA HDB HSF2
       go_enter Tryz.func144, Tryz.ntmps144
       go_wp2_with (first | (go_at_call 160; refine (HH2.out _).mono ?_; rintro e w1 ⟨rfl, hb1⟩) | (go_at_call 161; refine (HT2.out _).mono ?_; rintro e w2 ⟨rfl, hb2⟩; (have g0 : w2.cell? ⟨w1.heap.size, 0, none⟩ = some (.int .i64 Y) := bcs hb2 (by simp) ((hd_alloc _ _ _ _ _ _ _).cell rfl)); (have g1 : w2.cell? ⟨w1.heap.size, 1, none⟩ = some (.int .i64 M) := bcs hb2 (by simp) ((hd_alloc _ _ _ _ _ _ _).cell rfl)); (have g2 : w2.cell? ⟨w1.heap.size, 2, none⟩ = some (.int .i64 D) := bcs hb2 (by simp) ((hd_alloc _ _ _ _ _ _ _).cell rfl)); (have g3 : w2.cell? ⟨w1.heap.size, 3, none⟩ = some (.int .i64 H) := bcs hb2 (by simp) ((hd_alloc _ _ _ _ _ _ _).cell rfl)); (have g4 : w2.cell? ⟨w1.heap.size, 4, none⟩ = some (.int .i64 I) := bcs hb2 (by simp) ((hd_alloc _ _ _ _ _ _ _).cell rfl)); (have g5 : w2.cell? ⟨w1.heap.size, 5, none⟩ = some (.int .i64 C) := bcs hb2 (by simp) ((hd_alloc _ _ _ _ _ _ _).cell rfl))) | (go_at_call 162; refine (HDN.out _).mono ?_; rintro e w3 ⟨rfl, rfl⟩) | fail)
       rw [HRR.out]
       refine bodyPost_ret (v := .tuple #[.int .i64 (((N * 24 + H) * 60 + I) * 60 + C), .bool true]) (by simp [results, Tryz.results144, go_sem]) rfl ⟨rfl, (hb1.alloc hb1.size _).trans (hb2.mono (by simp; have := hb1.size; omega))⟩
end
end Go.Proofs.YtffhccmppdgmfaaGreatDoor
