import Derived.Test.YtffhccmppdgmfaaGreatDoorF03
import Derived.Test.YtffhccmppdgmfaaGreatDoorProg
import Derived.Sort.LotA
import Derived.Shelf.SlSortCmp.Insertion
import Derived.Shelf.SlSortCmp.KitK
import Derived.Sort.WalkB2
import Derived.Sort.WalkB12
import Derived.Deep.LoopGhost
import Derived.WalkKit
import Derived.Lib.Hide
import Derived.Shelf.SlSortCmp.QuietGrown
import Derived.Deep.Cut
import Derived.Deep.CutRange
import Derived.Test.YtffhccmppdgmfaaGreatDoorF00
import Derived.Sort.OwnSorted
import Derived.Lib.Strings
import Derived.Lib.Bytealg
import Derived.Test.YtffhccmppdgmfaaGreatDoorF02
set_option linter.unusedSimpArgs false
set_option linter.unusedVariables false
set_option maxRecDepth 200000
set_option maxHeartbeats 8000000
namespace Go.Proofs.YtffhccmppdgmfaaGreatDoor
section
open Go Go.RowKit Go.OpenShut
def digsB : ByteArray := ⟨#[48, 49, 50, 51, 52, 53, 54, 55, 56, 57]⟩
theorem digs_contains (c : UInt8) : digsB.data.toList.contains c = digU c := by
 have h : ∀ n : Fin 256, (digsB.data.toList.contains (UInt8.ofNat n.1)) = digU (UInt8.ofNat n.1) := by decide +kernel
 have h2 := h ⟨c.toNat, c.toNat_lt⟩
 simpa using h2
def m_all (l : List UInt8) (p : UInt8 -> Bool) : Prop := ∀ x ∈ l, p x = true
theorem trim_empty (l cs : List UInt8) : (Lib.trimS l cs = []) ↔ l.all (cs.contains ·) = true := by
 have hd : ∀ m : List UInt8, m.dropWhile (cs.contains ·) = [] ↔ m.all (cs.contains ·) = true := by
  intro m
  induction m with
  | nil => simp
  | cons a m ih =>
    rw [List.dropWhile_cons, List.all_cons]
    cases h : cs.contains a
    ·simp
    ·simp only [if_true, Bool.true_and]
     exact ih
 have hsub : ∀ m : List UInt8, m.all (cs.contains ·) = true -> (m.reverse.dropWhile (cs.contains ·)).reverse = [] := by
  intro m hm
  have : m.reverse.all (cs.contains ·) = true := by rw [List.all_reverse]; exact hm
  rw [(hd _).2 this]
  rfl
 unfold Lib.trimS Lib.trimLeftS Lib.trimRightS
 rw [hd]
 constructor
 ·intro h
  rw [List.all_reverse] at h
  have h2 : m_all l.reverse (cs.contains ·) := by
   intro x hx
   by_cases hx2 : x ∈ l.reverse.dropWhile (cs.contains ·)
   ·exact List.all_eq_true.1 h x hx2
   ·have h3 := List.takeWhile_append_dropWhile (p := (cs.contains ·)) (l := l.reverse)
    rw [<- h3] at hx
    rcases List.mem_append.1 hx with h4 | h4
    ·exact List.all_eq_true.1 List.all_takeWhile x h4
    ·exact absurd h4 hx2
  rw [List.all_eq_true]
  intro x hx
  exact h2 x (List.mem_reverse.2 hx)
 ·intro h
  rw [hsub l h]
  rfl
theorem trim_digs (s : ByteArray) (w : World) (hs : s.size <= 9223372036854775807) : Calls Tryz.prog 163 #[.string s, .string digsB] w fun e w' => ∃ T : ByteArray, e = .returned (.string T) /\ T.toList.isEmpty = s.data.toList.all digU /\ Below w.heap.size w w' := by
 refine (Any.strings_Trim_laid lays160 (by kernel_rfl) s digsB w hs (by decide) (fun j b h => ?_)).mono (fun e w' h => ?_)
 ·have hall : digsB.data.toList.all (fun b => decide (b.toNat < 128)) = true := by decide +kernel
  exact of_decide_eq_true (List.all_eq_true.1 hall b (List.mem_of_getElem? h))
 ·refine ⟨_, h.1, ?_, h.2⟩
  rw [ByteArray.toList_eq]
  have e : (fun c => digsB.data.toList.contains c) = digU := funext digs_contains
  have h2 := trim_empty s.data.toList digsB.data.toList
  rw [show (s.data.toList.all (digsB.data.toList.contains ·)) = s.data.toList.all digU from congrArg _ e] at h2
  cases ha : s.data.toList.all digU with
  | true => rw [h2.2 ha]; rfl
  | false =>
    cases ht : Lib.trimS s.data.toList digsB.data.toList with
    | nil => rw [h2.1 ht] at ha; cases ha
    | cons a r => rfl
theorem tail_any (s : ByteArray) (w : World) (hs : s.size <= maxLen) : Calls Tryz.prog 161 #[.string s] w fun e w' => e = .returned (.bool (tlOk s.data.toList)) /\ Below w.heap.size w w' := by
 have hsz : s.data.toList.length = s.size := by rw [Array.length_toList]; rfl
 unfold maxLen at hs
 have s0 : (0 : Int) <= (s.size : Int) := Int.natCast_nonneg _
 obtain ⟨bz, hbz⟩ : ∃ b, (s.toList == [90]) = b := ⟨_, rfl⟩
 have HBZ : Hid (decide (s.data.toList = [90]) = bz) := by
  unfold Hid
  rw [<- hbz, ByteArray.toList_eq]
  by_cases h : s.data.toList = [90]
  ·rw [decide_eq_true h, h]; rfl
  ·rw [decide_eq_false h]; simpa using h
 have HTL : Hid (tlOk s.data.toList = (decide (s.data.toList = [90]) || (decide (3 <= s.data.toList.length) && (decide (s.data.toList.length <= 11) && (decide (s.data.toList[0]? = some 46) && (decide (s.data.toList[s.data.toList.length - 1]? = some 90) && (decide (s.data.toList[s.data.toList.length - 2]? ≠ some 48) && ((s.data.toList.drop 1).take (s.data.toList.length - 2)).all digU))))))) := rfl
 rw [HBZ.out, hsz] at HTL
 have HGE : Hid (∀ k, (h : k < s.size) -> s.data.toList[k]? = some s[k]) := fun k h => get_optS h
 obtain ⟨R, hR⟩ : ∃ R, tlOk s.data.toList = R := ⟨_, rfl⟩
 rw [hR] at HTL
 rw [hR]
 clear hR
 cases bz with
 | true =>
   have HRR : Hid (R = true) := by unfold Hid; rw [HTL.out]; rfl
   rw [HRR.out]
   clear hsz
   go_enter Tryz.func161, Tryz.ntmps161
   go_wp2_with fail
   go_ret
   exact ⟨rfl, Below.refl _ _⟩
 | false =>
   by_cases h3 : s.size < 3
   ·have q : decide ((s.size : Int) - 2 < 1) = true := decide_eq_true (by omega)
    have q' : (s.size : Int) - 2 < 1 := by omega
    have HRR : Hid (R = false) := by unfold Hid; rw [HTL.out, decide_eq_false (p := 3 <= s.size) (by omega)]; rfl
    rw [HRR.out]
    clear hsz
    go_enter Tryz.func161, Tryz.ntmps161
    go_wp2_with fail
    go_ret
    exact ⟨rfl, Below.refl _ _⟩
   ·obtain ⟨K, hK⟩ : ∃ K, s.size = K + 2 := ⟨s.size - 2, by omega⟩
    have hK1 : 1 <= K := by omega
    have HK := Lib.hid hK
    have hKs : (s.size : Int) - 2 = (K : Int) := by omega
    have b0 : 0 < s.size := by omega
    have bk : K < s.size := by omega
    have bz' : K + 1 < s.size := by omega
    have b0' : (0 : Int) < (s.size : Int) := by omega
    have bk' : (K : Int) < (s.size : Int) := by omega
    have bz2 : (K : Int) + 1 < (s.size : Int) := by omega
    have bz3 : (K : Int) + 1 <= (s.size : Int) := by omega
    have hK0 : (1 : Int) <= (K : Int) := by omega
    have hK00 : (0 : Int) <= (K : Int) := by omega
    have q1 : decide ((K : Int) < 1) = false := decide_eq_false (by omega)
    obtain ⟨e2, he2⟩ : ∃ b, decide ((9 : Int) < (K : Int)) = b := ⟨_, rfl⟩
    have g0 := HGE.out 0 b0
    have gk := HGE.out K bk
    have gz := HGE.out (K + 1) bz'
    obtain ⟨c0, hc0⟩ : ∃ c, s[0] = c := ⟨_, rfl⟩
    obtain ⟨ck, hck⟩ : ∃ c, s[K] = c := ⟨_, rfl⟩
    obtain ⟨cz, hcz⟩ : ∃ c, s[K + 1] = c := ⟨_, rfl⟩
    rw [hc0] at g0
    rw [hck] at gk
    rw [hcz] at gz
    have hdn : ∀ (c : UInt8) (k : UInt8), (((c.toNat : Nat) : Int) == ((k.toNat : Nat) : Int)) = decide (c = k) := fun c k => by
     by_cases h : c = k
     ·rw [decide_eq_true h, h]; simp
     ·rw [decide_eq_false h]
      have h2 : ¬ c.toNat = k.toNat := fun e => h (UInt8.toNat_inj.1 e)
      simp
      omega
    obtain ⟨x0, hx0⟩ : ∃ b, (((c0.toNat : Nat) : Int) == 46) = b := ⟨_, rfl⟩
    obtain ⟨xz, hxz⟩ : ∃ b, (((cz.toNat : Nat) : Int) == 90) = b := ⟨_, rfl⟩
    obtain ⟨xk, hxk⟩ : ∃ b, (((ck.toNat : Nat) : Int) == 48) = b := ⟨_, rfl⟩
    have hx0n : (((c0.toNat : Nat) : Int) != 46) = !x0 := by unfold bne; rw [hx0]
    have hxzn : (((cz.toNat : Nat) : Int) != 90) = !xz := by unfold bne; rw [hxz]
    have HX0 : Hid (decide (c0 = 46) = x0) := by unfold Hid; rw [<- hx0]; exact (hdn c0 46).symm
    have HXZ : Hid (decide (cz = 90) = xz) := by unfold Hid; rw [<- hxz]; exact (hdn cz 90).symm
    have HXK : Hid (decide (ck = 48) = xk) := by unfold Hid; rw [<- hxk]; exact (hdn ck 48).symm
    have HTR : Hid (∀ W, Calls Tryz.prog 163 #[.string (s.extract 1 (K + 1)), .string digsB] W fun e w' => ∃ T : ByteArray, e = .returned (.string T) /\ T.toList.isEmpty = (s.extract 1 (K + 1)).data.toList.all digU /\ Below W.heap.size W w') := fun W => trim_digs _ W (by rw [<- str_len, Lib.extract_data]; simp; omega)
    rw [Lib.extract_data] at HTR
    have HR2 : Hid (R = (!(e2 || (!x0 || (!xz || xk))) && ((s.data.toList.drop 1).take K).all digU)) := by
     unfold Hid
     rw [HTL.out, hK, show K + 2 - 1 = K + 1 by omega, show K + 2 - 2 = K by omega, g0, gk, gz, decide_eq_true (p := 3 <= K + 2) (by omega)]
     have e : decide (K + 2 <= 11) = !e2 := by
      rw [<- he2]
      by_cases h : 9 < K
      ·rw [decide_eq_false (by omega), decide_eq_true (by omega)]; rfl
      ·rw [decide_eq_true (by omega), decide_eq_false (by omega)]; rfl
     have e0 : decide (some c0 = some 46) = x0 := by rw [<- HX0.out]; simp
     have ez : decide (some cz = some 90) = xz := by rw [<- HXZ.out]; simp
     have ek : decide (some ck ≠ some 48) = !xk := by rw [<- HXK.out]; simp
     rw [e, e0, ez, ek]
     cases e2 <;> cases x0 <;> cases xz <;> cases xk <;> simp
    rw [show K + 1 - 1 = K by omega] at HTR
    obtain ⟨dg, hdg⟩ : ∃ b, ((s.data.toList.drop 1).take K).all digU = b := ⟨_, rfl⟩
    rw [hdg] at HTR HR2
    obtain ⟨bad, hbad⟩ : ∃ b, (e2 || (!x0 || (!xz || xk))) = b := ⟨_, rfl⟩
    rw [hbad] at HR2
    have HBD := Lib.hid hbad
    unfold digsB at HTR
    clear hbad hdg hdn hsz hK h3 g0 gk gz HTL
    go_enter Tryz.func161, Tryz.ntmps161
    go_upto_region 4 with fail
    try rw [hKs]
    go_cut [32] from 9 to 32 (fun v wr => v = .bool bad /\ wr = w)
    case first =>
     cases e2 <;> cases x0 <;> cases xz <;> cases xk
     all_goals
      simp only [Bool.not_false, Bool.not_true] at hx0n hxzn
      go_wp2_with fail
      go_meet
      exact ⟨by rw [<- HBD.out]; rfl, rfl⟩
    case rest =>
    obtain ⟨rfl, hwc⟩ := hcut
    obtain rfl : w = wc := hwc.symm
    cases bad with
    | true =>
      have HRR : Hid (R = false) := by unfold Hid; rw [HR2.out]; rfl
      go_wp2_with fail
      rw [HRR.out]
      go_ret
      exact ⟨rfl, Below.refl _ _⟩
    | false =>
      have HRR : Hid (R = dg) := by unfold Hid; rw [HR2.out]; rfl
      go_wp2_with (first | (go_at_call 163; refine (HTR.out _).mono ?_; rintro e w1 ⟨T, rfl, hT, hb1⟩) | fail)
      rw [HRR.out]
      go_ret
      exact ⟨rfl, hb1⟩
theorem valD_lt : ∀ (k : Nat) (l : List UInt8), l.length = k -> l.all digU = true -> valD l < 10 ^ k
 | 0, l, hk, _ => by
   obtain rfl := List.eq_nil_of_length_eq_zero hk
   decide
 | k + 1, l, hk, h => by
   have hne : l ≠ [] := fun e => by rw [e] at hk; cases hk
   obtain ⟨r, b, rfl⟩ : ∃ r b, l = r ++ [b] := ⟨l.dropLast, l.getLast hne, (List.dropLast_concat_getLast hne).symm⟩
   rw [List.all_append, Bool.and_eq_true] at h
   have hb : digU b = true := by simpa using h.2
   unfold digU at hb
   simp only [Bool.and_eq_true, decide_eq_true_eq] at hb
   have ih := valD_lt k r (by simp at hk; exact hk) h.1
   rw [valD_snoc, Int.pow_succ]
   unfold stepD
   omega
theorem numAt_lt {l : List UInt8} {i n : Nat} (h : ((l.drop i).take n).all digU = true) : 0 <= numAt l i n /\ numAt l i n < 10 ^ n := by
 refine ⟨valD_nonneg h, ?_⟩
 have h1 := valD_lt _ _ rfl h
 have h2 : ((l.drop i).take n).length <= n := List.length_take_le _ _
 have h3 : (10 : Nat) ^ ((l.drop i).take n).length <= 10 ^ n := Nat.pow_le_pow_right (by decide) h2
 have h4 : (((10 : Nat) ^ ((l.drop i).take n).length : Nat) : Int) <= ((10 ^ n : Nat) : Int) := by omega
 have h5 : ((10 : Int) ^ ((l.drop i).take n).length) <= 10 ^ n := by simpa using h4
 exact Int.lt_of_lt_of_le h1 h5
theorem hd_nums {l : List UInt8} (h : hdOk l = true) : 19 <= l.length /\ (0 <= numAt l 0 4 /\ numAt l 0 4 <= 9999) /\ (0 <= numAt l 5 2 /\ numAt l 5 2 <= 99) /\ (0 <= numAt l 8 2 /\ numAt l 8 2 <= 99) /\ (0 <= numAt l 11 2 /\ numAt l 11 2 <= 99) /\ (0 <= numAt l 14 2 /\ numAt l 14 2 <= 99) /\ (0 <= numAt l 17 2 /\ numAt l 17 2 <= 99) := by
 have hl : 19 <= l.length := by
  unfold hdOk at h
  rw [Bool.and_eq_true] at h
  exact of_decide_eq_true h.1
 have hp := hdOk_parts hl
 rw [h] at hp
 have hp := hp.symm
 simp only [Bool.and_eq_true] at hp
 obtain ⟨_, ⟨a, b, c⟩, d, e, f⟩ := hp
 have p4 : (10 : Int) ^ 4 = 10000 := by decide
 have p2 : (10 : Int) ^ 2 = 100 := by decide
 have h1 := numAt_lt a
 have h2 := numAt_lt b
 have h3 := numAt_lt c
 have h4 := numAt_lt d
 have h5 := numAt_lt e
 have h6 := numAt_lt f
 omega
theorem daysF_bound {y m d D : Int} (h : daysF y m d = some D) : -800000 <= D /\ D <= 4000000 := by
 unfold daysF at h
 split at h
 ·rename_i hc
  have h1 := aheadF_bound hc.1 (show y <= 10000 by omega)
  have h2 := monthsF_bound y (m.toNat - 1)
  have h3 := month_pos y m
  have e7 : aheadF 1970 = 719528 := by decide
  rw [e7] at h
  have := Option.some.inj h
  omega
 ·cases h
theorem hd_alloc (w : World) (a b c d x y : Int) : HdAt (w.alloc (.cells #[.int .i64 a, .int .i64 b, .int .i64 c, .int .i64 d, .int .i64 x, .int .i64 y] 177)) w.heap.size [a, b, c, d, x, y] := heap_alloc_at rfl
def secRet (o : Option Int) : Value := match o with | some n => .tuple #[.int .i64 n, .bool true] | none => .tuple #[.int .i64 0, .bool false]
theorem seconds_any (s : ByteArray) (w : World) (hs : s.size <= maxLen) : Calls Tryz.prog 144 #[.string s] w fun e w' => e = .returned (secRet (secF s.data.toList)) /\ Below w.heap.size w w' := by
 have hsz : s.data.toList.length = s.size := by rw [Array.length_toList]; rfl
 have HHD : Hid (∀ W, Calls Tryz.prog 160 #[.string s] W fun e w' => headRet s.data.toList e /\ Below W.heap.size W w') := fun W => head_any s W hs
 have HSF : Hid (secF s.data.toList = if hdOk s.data.toList && (tlOk (s.data.toList.drop 19) && (decide (numAt s.data.toList 11 2 <= 23) && (decide (numAt s.data.toList 14 2 <= 59) && decide (numAt s.data.toList 17 2 <= 59)))) then (daysF (numAt s.data.toList 0 4) (numAt s.data.toList 5 2) (numAt s.data.toList 8 2)).map (fun D => ((D * 24 + numAt s.data.toList 11 2) * 60 + numAt s.data.toList 14 2) * 60 + numAt s.data.toList 17 2) else none) := rfl
 have HTL : Hid (19 <= s.size -> ∀ W, Calls Tryz.prog 161 #[.string (s.extract 19 s.size)] W fun e w' => e = .returned (.bool (tlOk (s.data.toList.drop 19))) /\ Below W.heap.size W w') := fun h W => (tail_any (s.extract 19 s.size) W (by rw [<- str_len, Lib.extract_data]; simp; omega)).mono (fun e w' h => by
  rw [Lib.extract_data, List.take_of_length_le (by rw [List.length_drop]; omega)] at h
  exact h)
 obtain ⟨R, hR⟩ : ∃ R, secF s.data.toList = R := ⟨_, rfl⟩
 rw [hR] at HSF
 rw [hR]
 clear hR
 unfold maxLen at hs
 have s0 : (0 : Int) <= (s.size : Int) := Int.natCast_nonneg _
 cases hok : hdOk s.data.toList with
 | false =>
   have HRR : Hid (R = none) := by unfold Hid; rw [HSF.out, hok]; rfl
   have HNO := Lib.hid hok
   clear hok hsz
   go_enter Tryz.func144, Tryz.ntmps144
   go_wp2_with (first | (go_at_call 160; refine (HHD.out _).mono ?_; rintro e w1 ⟨hh, hb1⟩; unfold headRet at hh; rw [if_neg (by rw [HNO.out]; decide)] at hh; obtain ⟨a, b, c, d, x, y, rfl⟩ := hh) | fail)
   rw [HRR.out]
   refine bodyPost_ret (v := .tuple #[.int .i64 0, .bool false]) (by simp [results, Tryz.results144, go_sem]) rfl ⟨rfl, hb1.alloc hb1.size _⟩
 | true =>
   obtain ⟨hl, ⟨y0, y1⟩, ⟨m0, m1⟩, ⟨d0, d1⟩, ⟨h0, h1⟩, ⟨i0, i1⟩, ⟨n0, n1⟩⟩ := hd_nums hok
   have h19 : 19 <= s.size := by omega
   have HT2 := Lib.hid (HTL.out h19)
   have h19' : (19 : Int) <= (s.size : Int) := by omega
   have HDA : Hid (∀ W, Calls Tryz.prog 162 #[.int .i64 (numAt s.data.toList 0 4), .int .i64 (numAt s.data.toList 5 2), .int .i64 (numAt s.data.toList 8 2)] W fun e w' => e = .returned (dayRet (daysF (numAt s.data.toList 0 4) (numAt s.data.toList 5 2) (numAt s.data.toList 8 2))) /\ W = w') := fun W => days_any _ _ _ W y0 y1 m0 m1 d0 d1
   have HH2 : Hid (∀ W, Calls Tryz.prog 160 #[.string s] W fun e w' => e = .returned (.tuple #[.agg #[.int .i64 (numAt s.data.toList 0 4), .int .i64 (numAt s.data.toList 5 2), .int .i64 (numAt s.data.toList 8 2), .int .i64 (numAt s.data.toList 11 2), .int .i64 (numAt s.data.toList 14 2), .int .i64 (numAt s.data.toList 17 2)], .bool true]) /\ Below W.heap.size W w') := fun W => (HHD.out W).mono (fun e w' h => by
    obtain ⟨h2, h3⟩ := h
    unfold headRet at h2
    rw [if_pos hok] at h2
    exact ⟨h2, h3⟩)
   have HDB : Hid (∀ D, daysF (numAt s.data.toList 0 4) (numAt s.data.toList 5 2) (numAt s.data.toList 8 2) = some D -> -800000 <= D /\ D <= 4000000) := fun D h => daysF_bound h
   rw [hok] at HSF
   clear hok HHD HTL hl hsz
   obtain ⟨Y, hY⟩ : ∃ n, numAt s.data.toList 0 4 = n := ⟨_, rfl⟩
   obtain ⟨M, hM⟩ : ∃ n, numAt s.data.toList 5 2 = n := ⟨_, rfl⟩
   obtain ⟨D, hD⟩ : ∃ n, numAt s.data.toList 8 2 = n := ⟨_, rfl⟩
   obtain ⟨H, hH⟩ : ∃ n, numAt s.data.toList 11 2 = n := ⟨_, rfl⟩
   obtain ⟨I, hI⟩ : ∃ n, numAt s.data.toList 14 2 = n := ⟨_, rfl⟩
   obtain ⟨C, hC⟩ : ∃ n, numAt s.data.toList 17 2 = n := ⟨_, rfl⟩
   obtain ⟨tl, htl⟩ : ∃ b, tlOk (s.data.toList.drop 19) = b := ⟨_, rfl⟩
   obtain ⟨o, ho⟩ : ∃ o, daysF Y M D = o := ⟨_, rfl⟩
   rw [hY, hM, hD] at HDA HSF HDB HH2
   rw [hH, hI, hC] at HSF HH2
   rw [ho] at HDA HSF HDB
   rw [htl] at HSF HT2
   rw [hH] at h0 h1
   rw [hI] at i0 i1
   rw [hC] at n0 n1
   clear hY hM hD hH hI hC htl ho y0 y1 m0 m1 d0 d1
   obtain ⟨a3, ha3⟩ : ∃ b, decide ((23 : Int) < H) = b := ⟨_, rfl⟩
   obtain ⟨a4, ha4⟩ : ∃ b, decide ((59 : Int) < I) = b := ⟨_, rfl⟩
   obtain ⟨a5, ha5⟩ : ∃ b, decide ((59 : Int) < C) = b := ⟨_, rfl⟩
   have HSF2 : Hid (R = if (tl && (!a3 && (!a4 && !a5))) then o.map (fun D => ((D * 24 + H) * 60 + I) * 60 + C) else none) := by
    unfold Hid
    rw [HSF.out, Bool.true_and, <- ha3, <- ha4, <- ha5]
    have e : ∀ n k : Int, decide (n <= k) = !decide (k < n) := fun n k => by
     by_cases h : n <= k
     ·rw [decide_eq_true h, decide_eq_false (by omega)]; rfl
     ·rw [decide_eq_false h, decide_eq_true (by omega)]; rfl
    rw [e H 23, e I 59, e C 59]
   clear HSF
   cases hall : (tl && (!a3 && (!a4 && !a5))) with
   | false =>
     have HRR : Hid (R = none) := by unfold Hid; rw [HSF2.out, hall]; rfl
     cases tl <;> cases a3 <;> cases a4 <;> cases a5 <;> simp only [Bool.and_true, Bool.and_false, Bool.true_and, Bool.false_and, Bool.not_true, Bool.not_false, Bool.and_self, reduceCtorEq] at hall
     all_goals
      go_enter Tryz.func144, Tryz.ntmps144
      go_wp2_with (first | (go_at_call 160; refine (HH2.out _).mono ?_; rintro e w1 ⟨rfl, hb1⟩) | (go_at_call 161; refine (HT2.out _).mono ?_; rintro e w2 ⟨rfl, hb2⟩; (have g3 : w2.cell? ⟨w1.heap.size, 3, none⟩ = some (.int .i64 H) := bcs hb2 (by simp) ((hd_alloc _ _ _ _ _ _ _).cell rfl)); (have g4 : w2.cell? ⟨w1.heap.size, 4, none⟩ = some (.int .i64 I) := bcs hb2 (by simp) ((hd_alloc _ _ _ _ _ _ _).cell rfl)); (have g5 : w2.cell? ⟨w1.heap.size, 5, none⟩ = some (.int .i64 C) := bcs hb2 (by simp) ((hd_alloc _ _ _ _ _ _ _).cell rfl))) | fail)
      rw [HRR.out]
      refine bodyPost_ret (v := .tuple #[.int .i64 0, .bool false]) (by simp [results, Tryz.results144, go_sem]) rfl ⟨rfl, (hb1.alloc hb1.size _).trans (hb2.mono (by simp; have := hb1.size; omega))⟩
   | true =>
     cases tl <;> cases a3 <;> cases a4 <;> cases a5 <;> simp only [Bool.and_true, Bool.and_false, Bool.true_and, Bool.false_and, Bool.not_true, Bool.not_false, Bool.and_self, reduceCtorEq] at hall
     have l3 := of_decide_eq_false ha3
     have l4 := of_decide_eq_false ha4
     have l5 := of_decide_eq_false ha5
     cases o with
     | none =>
       have HRR : Hid (R = none) := by unfold Hid; rw [HSF2.out]; rfl
       have HDN : Hid (∀ W, Calls Tryz.prog 162 #[.int .i64 Y, .int .i64 M, .int .i64 D] W fun e w' => e = .returned (.tuple #[.int .i64 0, .bool false]) /\ W = w') := HDA.out
       clear HDA HDB HSF2
       go_enter Tryz.func144, Tryz.ntmps144
       go_wp2_with (first | (go_at_call 160; refine (HH2.out _).mono ?_; rintro e w1 ⟨rfl, hb1⟩) | (go_at_call 161; refine (HT2.out _).mono ?_; rintro e w2 ⟨rfl, hb2⟩; (have g0 : w2.cell? ⟨w1.heap.size, 0, none⟩ = some (.int .i64 Y) := bcs hb2 (by simp) ((hd_alloc _ _ _ _ _ _ _).cell rfl)); (have g1 : w2.cell? ⟨w1.heap.size, 1, none⟩ = some (.int .i64 M) := bcs hb2 (by simp) ((hd_alloc _ _ _ _ _ _ _).cell rfl)); (have g2 : w2.cell? ⟨w1.heap.size, 2, none⟩ = some (.int .i64 D) := bcs hb2 (by simp) ((hd_alloc _ _ _ _ _ _ _).cell rfl)); (have g3 : w2.cell? ⟨w1.heap.size, 3, none⟩ = some (.int .i64 H) := bcs hb2 (by simp) ((hd_alloc _ _ _ _ _ _ _).cell rfl)); (have g4 : w2.cell? ⟨w1.heap.size, 4, none⟩ = some (.int .i64 I) := bcs hb2 (by simp) ((hd_alloc _ _ _ _ _ _ _).cell rfl)); (have g5 : w2.cell? ⟨w1.heap.size, 5, none⟩ = some (.int .i64 C) := bcs hb2 (by simp) ((hd_alloc _ _ _ _ _ _ _).cell rfl))) | (go_at_call 162; refine (HDN.out _).mono ?_; rintro e w3 ⟨rfl, rfl⟩) | fail)
       rw [HRR.out]
       refine bodyPost_ret (v := .tuple #[.int .i64 0, .bool false]) (by simp [results, Tryz.results144, go_sem]) rfl ⟨rfl, (hb1.alloc hb1.size _).trans (hb2.mono (by simp; have := hb1.size; omega))⟩
     | some N =>
       obtain ⟨N0, N1⟩ := HDB.out N rfl
       have HRR : Hid (R = some (((N * 24 + H) * 60 + I) * 60 + C)) := by unfold Hid; rw [HSF2.out]; rfl
       have HDN : Hid (∀ W, Calls Tryz.prog 162 #[.int .i64 Y, .int .i64 M, .int .i64 D] W fun e w' => e = .returned (.tuple #[.int .i64 N, .bool true]) /\ W = w') := HDA.out
       clear HDA HDB HSF2
       go_enter Tryz.func144, Tryz.ntmps144
       go_wp2_with (first | (go_at_call 160; refine (HH2.out _).mono ?_; rintro e w1 ⟨rfl, hb1⟩) | (go_at_call 161; refine (HT2.out _).mono ?_; rintro e w2 ⟨rfl, hb2⟩; (have g0 : w2.cell? ⟨w1.heap.size, 0, none⟩ = some (.int .i64 Y) := bcs hb2 (by simp) ((hd_alloc _ _ _ _ _ _ _).cell rfl)); (have g1 : w2.cell? ⟨w1.heap.size, 1, none⟩ = some (.int .i64 M) := bcs hb2 (by simp) ((hd_alloc _ _ _ _ _ _ _).cell rfl)); (have g2 : w2.cell? ⟨w1.heap.size, 2, none⟩ = some (.int .i64 D) := bcs hb2 (by simp) ((hd_alloc _ _ _ _ _ _ _).cell rfl)); (have g3 : w2.cell? ⟨w1.heap.size, 3, none⟩ = some (.int .i64 H) := bcs hb2 (by simp) ((hd_alloc _ _ _ _ _ _ _).cell rfl)); (have g4 : w2.cell? ⟨w1.heap.size, 4, none⟩ = some (.int .i64 I) := bcs hb2 (by simp) ((hd_alloc _ _ _ _ _ _ _).cell rfl)); (have g5 : w2.cell? ⟨w1.heap.size, 5, none⟩ = some (.int .i64 C) := bcs hb2 (by simp) ((hd_alloc _ _ _ _ _ _ _).cell rfl))) | (go_at_call 162; refine (HDN.out _).mono ?_; rintro e w3 ⟨rfl, rfl⟩) | fail)
       rw [HRR.out]
       refine bodyPost_ret (v := .tuple #[.int .i64 (((N * 24 + H) * 60 + I) * 60 + C), .bool true]) (by simp [results, Tryz.results144, go_sem]) rfl ⟨rfl, (hb1.alloc hb1.size _).trans (hb2.mono (by simp; have := hb1.size; omega))⟩
theorem tl_form {t : List UInt8} (h : tlOk t = true) : t = [90] \/ ∃ D, t = 46 :: (D ++ [90]) /\ D ≠ [] /\ D.all digU = true /\ D.length <= 9 := by
 unfold tlOk at h
 simp only [Bool.or_eq_true, Bool.and_eq_true, decide_eq_true_eq] at h
 rcases h with h | ⟨h1, h2, h3, h4, _, h6⟩
 ·exact .inl h
 ·obtain ⟨c, r, rfl, hr⟩ := one_more (k := 2) (l := t) (by omega)
  have hne : r ≠ [] := fun e => by rw [e] at hr; simp at hr
  obtain ⟨D, z, rfl⟩ : ∃ D z, r = D ++ [z] := ⟨r.dropLast, r.getLast hne, (List.dropLast_concat_getLast hne).symm⟩
  simp only [List.length_append, List.length_cons, List.length_nil] at hr h1 h2 h4 h6
  have hc : c = 46 := by simpa using h3
  have hz : z = 90 := by
   rw [show D.length + (0 + 1) + 1 - 1 = (D.length + 0) + 1 by omega, List.getElem?_cons_succ, List.getElem?_append_right (by omega), show D.length - D.length = 0 by omega] at h4
   simpa using h4
  rw [List.drop_succ_cons, List.drop_zero, show D.length + (0 + 1) + 1 - 2 = D.length by omega, List.take_left] at h6
  subst hc
  subst hz
  refine .inr ⟨D, rfl, fun e => ?_, h6, by omega⟩
  rw [e] at hr
  simp at hr
theorem dig_not {c : UInt8} (h : digU c = true) : ([46, 90] : List UInt8).contains c = false := by
 cases hc : ([46, 90] : List UInt8).contains c with
 | false => rfl
 | true =>
   have : c ∈ ([46, 90] : List UInt8) := List.contains_iff_mem.1 hc
   simp at this
   rcases this with rfl | rfl
   ·cases h
   ·cases h
theorem dropW_stop {l : List UInt8} (hd : l ≠ []) (h : l.all digU = true) (r : List UInt8) : (l ++ r).dropWhile (([46, 90] : List UInt8).contains ·) = l ++ r := by
 cases l with
 | nil => exact absurd rfl hd
 | cons a m =>
   rw [List.all_cons, Bool.and_eq_true] at h
   rw [List.cons_append, List.dropWhile_cons, if_neg (by rw [dig_not h.1]; decide)]
theorem trim_form {D : List UInt8} (hd : D ≠ []) (h : D.all digU = true) : Lib.trimS (46 :: (D ++ [90])) [46, 90] = D := by
 unfold Lib.trimS Lib.trimLeftS Lib.trimRightS
 have e1 : (46 :: (D ++ [90])).reverse = 90 :: (D.reverse ++ [46]) := by simp
 have e2 : (90 :: (D.reverse ++ [46])).dropWhile (([46, 90] : List UInt8).contains ·) = D.reverse ++ [46] := by
  rw [List.dropWhile_cons, if_pos (by decide)]
  exact dropW_stop (by simpa using hd) (by rw [List.all_reverse]; exact h) _
 rw [e1, e2, List.reverse_append, List.reverse_reverse]
 show (46 :: D).dropWhile _ = D
 rw [List.dropWhile_cons, if_pos (by decide)]
 have := dropW_stop hd h []
 rw [List.append_nil] at this
 exact this
theorem no_dot : ∀ f ∈ formL, posOk f 46 = false := by decide
theorem hd_count {l : List UInt8} (h : hdOk l = true) : (l.take 19).count 46 = 0 := by
 rw [List.count_eq_zero]
 intro hm
 obtain ⟨i, hi, he⟩ := List.mem_iff_getElem.1 hm
 rw [List.length_take] at hi
 have hil : i < 19 := by omega
 have hl : l[i]? = some 46 := by
  rw [List.getElem_take] at he
  rw [<- he]
  exact List.getElem?_eq_getElem _
 obtain ⟨f, hf⟩ := form_get ⟨i, hil⟩
 unfold hdOk at h
 rw [Bool.and_eq_true] at h
 have hz : (formL.zip l)[i]? = some (f, 46) := by rw [List.getElem?_zip_eq_some]; exact ⟨hf, hl⟩
 have h2 := List.all_eq_true.1 h.2 _ (List.mem_of_getElem? hz)
 dsimp only at h2
 rw [no_dot f (List.mem_of_getElem? hf)] at h2
 cases h2
theorem dig_count {D : List UInt8} (h : D.all digU = true) : D.count 46 = 0 := by
 rw [List.count_eq_zero]
 intro hm
 have := List.all_eq_true.1 h _ hm
 cases this
theorem part_law {l : List UInt8} (hh : hdOk l = true) (ht : tlOk (l.drop 19) = true) : Lib.trimS (l.drop 19) [46, 90] = (l.drop 20).take (l.length - 21) /\ (11 : Int) - (l.length - 19 : Nat) + (l.count 46 : Nat) = ((10 - (l.length - 21) : Nat) : Int) /\ 20 <= l.length /\ l.length <= 30 := by
 have hc := hd_count hh
 have hs : l.count 46 = (l.drop 19).count 46 := by
  conv => lhs; rw [<- List.take_append_drop 19 l]
  rw [List.count_append, hc, Nat.zero_add]
 have hdr : l.drop 20 = (l.drop 19).drop 1 := by rw [List.drop_drop]
 have hlen : (l.drop 19).length = l.length - 19 := List.length_drop
 rw [hs, hdr]
 rcases tl_form ht with h | ⟨D, h, h1, h2, h3⟩
 ·rw [h] at hlen ⊢
  have : l.length = 20 := by simp at hlen; omega
  rw [this]
  exact ⟨by decide, by decide, by omega, by omega⟩
 ·rw [h] at hlen ⊢
  have hl : l.length = 21 + D.length := by simp at hlen; omega
  have hn : 1 <= D.length := by
   cases D with
   | nil => exact absurd rfl h1
   | cons a r => simp
  refine ⟨?_, ?_, by omega, by omega⟩
  ·rw [trim_form h1 h2, hl, List.drop_succ_cons, List.drop_zero, show 21 + D.length - 21 = D.length by omega, List.take_left]
  ·rw [List.count_cons, List.count_append, dig_count h2, hl]
   show (11 : Int) - ((21 + D.length - 19 : Nat) : Int) + 1 = _
   omega
theorem repeatL_one (c : UInt8) (n : Nat) : Lib.repeatL [c] n = List.replicate n c := by
 induction n with
 | zero => rfl
 | succ n ih => rw [List.replicate_succ, <- ih]; rfl
theorem part_any (s : ByteArray) (w : World) (hh : hdOk s.data.toList = true) (ht : tlOk (s.data.toList.drop 19) = true) : Calls Tryz.prog 145 #[.string s] w fun e w' => e = .returned (.string ⟨(partF s.data.toList).toArray⟩) /\ Below w.heap.size w w' := by
 obtain ⟨h1, h2, h3, h4⟩ := part_law hh ht
 have hsz : s.data.toList.length = s.size := by rw [Array.length_toList]; rfl
 rw [hsz] at h1 h2 h3 h4
 have h19 : 19 <= s.size := by omega
 have h19' : (19 : Int) <= (s.size : Int) := by omega
 have HTR : Hid (∀ W, Calls Tryz.prog 163 #[.string (s.extract 19 s.size), .string ⟨#[46, 90]⟩] W fun e w' => e = .returned (.string ⟨((s.data.toList.drop 20).take (s.size - 21)).toArray⟩) /\ Below W.heap.size W w') := fun W =>
  (Any.strings_Trim_laid lays160 (by kernel_rfl) (s.extract 19 s.size) ⟨#[46, 90]⟩ W (by rw [<- str_len, Lib.extract_data]; simp; omega) (by decide) (fun j b h => by
   have hall : ([46, 90] : List UInt8).all (fun b => decide (b.toNat < 128)) = true := by decide
   exact of_decide_eq_true (List.all_eq_true.1 hall b (List.mem_of_getElem? h)))).mono (fun e w' h => by
    rw [Lib.extract_data, List.take_of_length_le (by rw [List.length_drop, hsz]; omega)] at h
    refine ⟨h.1.trans ?_, h.2⟩
    rw [<- h1])
 have HCO : Hid (∀ W, Calls Tryz.prog 165 #[.string s, .string ⟨#[46]⟩] W fun e w' => e = .returned (.int .i64 ((s.data.toList.count 46 : Nat) : Int)) /\ W = w') := fun W => (strings_Count_one s 46 W).mono (fun e w' h => ⟨h.1, h.2.symm⟩)
 have HRP : Hid (∀ W, Calls Tryz.prog 164 #[.string ⟨#[48]⟩, .int .i64 ((10 - (s.size - 21) : Nat) : Int)] W fun e w' => e = .returned (.string ⟨(List.replicate (10 - (s.size - 21)) 48).toArray⟩) /\ Below W.heap.size W w') := fun W => (strings_Repeat ⟨#[48]⟩ _ W (by omega) (by show 1 * _ <= _; omega)).mono (fun e w' h => ⟨h.1.trans (by rw [show (⟨#[48]⟩ : ByteArray).data.toList = [48] from rfl, repeatL_one]), h.2⟩)
 have HPF : Hid ((⟨(partF s.data.toList).toArray⟩ : ByteArray) = ⟨((s.data.toList.drop 20).take (s.size - 21)).toArray⟩ ++ ⟨(List.replicate (10 - (s.size - 21)) 48).toArray⟩) := by
  unfold Hid partF
  rw [hsz]
  apply ByteArray.ext
  simp
 obtain ⟨c, hc⟩ : ∃ c : Nat, s.data.toList.count 46 = c := ⟨_, rfl⟩
 obtain ⟨T, hT⟩ : ∃ T : ByteArray, ⟨((s.data.toList.drop 20).take (s.size - 21)).toArray⟩ = T := ⟨_, rfl⟩
 obtain ⟨Q, hQ⟩ : ∃ Q : ByteArray, ⟨(List.replicate (10 - (s.size - 21)) 48).toArray⟩ = Q := ⟨_, rfl⟩
 have hTs : T.size <= 10 := by rw [<- hT, <- str_len]; simp; try omega
 have hQs : Q.size <= 10 := by rw [<- hQ, <- str_len]; simp; try omega
 rw [hT] at HTR HPF
 rw [hQ] at HRP HPF
 rw [hc] at HCO h2
 have HN := Lib.hid h2
 have hcb : (c : Int) <= 1000 := by omega
 have hc0 : (0 : Int) <= (c : Int) := Int.natCast_nonneg _
 have hw : IntKind.i64.wrap (IntKind.i64.wrap (11 - ((s.size - 19 : Nat) : Int)) + (c : Int)) = ((10 - (s.size - 21) : Nat) : Int) := by
  rw [<- h2]
  have b : ((s.size - 19 : Nat) : Int) <= 11 := by omega
  have b0 : (0 : Int) <= ((s.size - 19 : Nat) : Int) := Int.natCast_nonneg _
  generalize ((s.size - 19 : Nat) : Int) = n at b b0
  rw [IntKind.wrap_i64 (11 - n), IntKind.wrap_i64]; omega
 rw [<- hw] at HRP
 clear hT hQ hc h1 h2 hsz hh ht hw HN
 go_enter Tryz.func145, Tryz.ntmps145
 go_upto_region 1 with fail
 go_region_with
  (first
   | (go_at_call 163; refine (HTR.out _).mono ?_; rintro e w1 ⟨rfl, hb1⟩)
   | (go_at_call 165; refine (HCO.out _).mono ?_; rintro e w2 ⟨rfl, rfl⟩)
   | (go_at_call 164; refine (HRP.out _).mono ?_; rintro e w3 ⟨rfl, hb3⟩)
   | fail)
 all_goals
  first
   | go_ret
   | (go_wp2_with fail; go_ret)
  refine ⟨by rw [HPF.out]; rfl, ?_⟩
  first
   | exact (((Below.refl _ _).drew).trans (hb1.mono (Nat.le_refl _))).trans (hb3.mono hb1.size)
   | exact (hb1.trans (hb3.mono hb1.size))
   | (trace_state; fail)
theorem comp_any (a b : ByteArray) (W : World) : Calls Tryz.prog 143 #[.string a, .string b] W fun e w' => e = .returned (.int .i64 (Lib.compareBytes a.data.toList b.data.toList)) /\ W = w' := (strings_Compare a b W).mono (fun e w' h => ⟨h.1, h.2.symm⟩)
theorem scomp_any (s t : ByteArray) (w : World) (hs : s.size <= maxLen) (ht : t.size <= maxLen) : Calls Tryz.prog 111 #[.string s, .string t] w fun e w' => e = .returned (.int .i64 (cmpS s.data.toList t.data.toList)) /\ Below w.heap.size w w' := by
 have HSA : Hid (∀ W, Calls Tryz.prog 144 #[.string s] W fun e w' => e = .returned (secRet (secF s.data.toList)) /\ Below W.heap.size W w') := fun W => seconds_any s W hs
 have HSB : Hid (∀ W, Calls Tryz.prog 144 #[.string t] W fun e w' => e = .returned (secRet (secF t.data.toList)) /\ Below W.heap.size W w') := fun W => seconds_any t W ht
 have HCM : Hid (∀ W, Calls Tryz.prog 143 #[.string s, .string t] W fun e w' => e = .returned (.int .i64 (Lib.compareBytes s.data.toList t.data.toList)) /\ W = w') := fun W => comp_any s t W
 have HR : Hid (cmpS s.data.toList t.data.toList = match secF s.data.toList, secF t.data.toList with
  | none, none => Go.Lib.compareBytes s.data.toList t.data.toList
  | none, some _ => -1
  | some _, none => 1
  | some x, some y => if x < y then -1 else if y < x then 1 else Go.Lib.compareBytes (partF s.data.toList) (partF t.data.toList)) := rfl
 obtain ⟨R, hR⟩ : ∃ R, cmpS s.data.toList t.data.toList = R := ⟨_, rfl⟩
 rw [hR] at HR
 rw [hR]
 clear hR
 have HPA : Hid (∀ x, secF s.data.toList = some x -> ∀ W, Calls Tryz.prog 145 #[.string s] W fun e w' => e = .returned (.string ⟨(partF s.data.toList).toArray⟩) /\ Below W.heap.size W w') := fun x h W => part_any s W (secF_tl h).1 (secF_tl h).2
 have HPB : Hid (∀ x, secF t.data.toList = some x -> ∀ W, Calls Tryz.prog 145 #[.string t] W fun e w' => e = .returned (.string ⟨(partF t.data.toList).toArray⟩) /\ Below W.heap.size W w') := fun x h W => part_any t W (secF_tl h).1 (secF_tl h).2
 have HCP : Hid (∀ W, Calls Tryz.prog 143 #[.string ⟨(partF s.data.toList).toArray⟩, .string ⟨(partF t.data.toList).toArray⟩] W fun e w' => e = .returned (.int .i64 (Lib.compareBytes (partF s.data.toList) (partF t.data.toList))) /\ W = w') := fun W => comp_any _ _ W
 obtain ⟨PA, hPA⟩ : ∃ P : ByteArray, ⟨(partF s.data.toList).toArray⟩ = P := ⟨_, rfl⟩
 obtain ⟨PB, hPB⟩ : ∃ P : ByteArray, ⟨(partF t.data.toList).toArray⟩ = P := ⟨_, rfl⟩
 obtain ⟨cp, hcp⟩ : ∃ n, Go.Lib.compareBytes (partF s.data.toList) (partF t.data.toList) = n := ⟨_, rfl⟩
 obtain ⟨cm, hcm⟩ : ∃ n, Go.Lib.compareBytes s.data.toList t.data.toList = n := ⟨_, rfl⟩
 rw [hPA] at HPA HCP
 rw [hPB] at HPB HCP
 rw [hcp] at HCP HR
 rw [hcm] at HCM HR
 obtain ⟨oa, hoa⟩ : ∃ o, secF s.data.toList = o := ⟨_, rfl⟩
 obtain ⟨ob, hob⟩ : ∃ o, secF t.data.toList = o := ⟨_, rfl⟩
 rw [hoa] at HSA HPA HR
 rw [hob] at HSB HPB HR
 clear hPA hPB hcp hcm hoa hob hs ht
 cases oa with
 | none => cases ob with
   | none =>
     have HRR : Hid (R = cm) := HR.out
     clear HR HPA HPB HCP
     unfold secRet at HSA HSB
     go_enter Tryz.func111, Tryz.ntmps111
     go_wp2_with (first | (go_at_call 144; with_reducible refine (HSA.out _).mono ?_; rintro e w1 ⟨rfl, hb1⟩) | (go_at_call 144; with_reducible refine (HSB.out _).mono ?_; rintro e w2 ⟨rfl, hb2⟩) | (go_at_call 143; refine (HCM.out _).mono ?_; rintro e w3 ⟨rfl, rfl⟩) | fail)
     rw [HRR.out]
     go_ret
     exact ⟨rfl, hb1.trans (hb2.mono hb1.size)⟩
   | some y =>
     have HRR : Hid (R = -1) := HR.out
     clear HR HPA HPB HCP HCM
     unfold secRet at HSA HSB
     go_enter Tryz.func111, Tryz.ntmps111
     go_wp2_with (first | (go_at_call 144; with_reducible refine (HSA.out _).mono ?_; rintro e w1 ⟨rfl, hb1⟩) | (go_at_call 144; with_reducible refine (HSB.out _).mono ?_; rintro e w2 ⟨rfl, hb2⟩) | fail)
     rw [HRR.out]
     go_ret
     exact ⟨rfl, hb1.trans (hb2.mono hb1.size)⟩
 | some x => cases ob with
   | none =>
     have HRR : Hid (R = 1) := HR.out
     clear HR HPA HPB HCP HCM
     unfold secRet at HSA HSB
     go_enter Tryz.func111, Tryz.ntmps111
     go_wp2_with (first | (go_at_call 144; with_reducible refine (HSA.out _).mono ?_; rintro e w1 ⟨rfl, hb1⟩) | (go_at_call 144; with_reducible refine (HSB.out _).mono ?_; rintro e w2 ⟨rfl, hb2⟩) | fail)
     rw [HRR.out]
     go_ret
     exact ⟨rfl, hb1.trans (hb2.mono hb1.size)⟩
   | some y =>
     have HQA := Lib.hid (HPA.out x rfl)
     have HQB := Lib.hid (HPB.out y rfl)
     clear HPA HPB HCM
     unfold secRet at HSA HSB
     by_cases hxy : x < y
     ·have HRR : Hid (R = -1) := HR.out.trans (if_pos hxy)
      have q1 : decide (x < y) = true := decide_eq_true hxy
      clear HR HCP HQA HQB
      go_enter Tryz.func111, Tryz.ntmps111
      go_wp2_with (first | (go_at_call 144; with_reducible refine (HSA.out _).mono ?_; rintro e w1 ⟨rfl, hb1⟩) | (go_at_call 144; with_reducible refine (HSB.out _).mono ?_; rintro e w2 ⟨rfl, hb2⟩) | fail)
      rw [HRR.out]
      go_ret
      exact ⟨rfl, hb1.trans (hb2.mono hb1.size)⟩
     ·have q1 : decide (x < y) = false := decide_eq_false hxy
      by_cases hyx : y < x
      ·have HRR : Hid (R = 1) := HR.out.trans ((if_neg hxy).trans (if_pos hyx))
       have q2 : decide (y < x) = true := decide_eq_true hyx
       clear HR HCP HQA HQB
       go_enter Tryz.func111, Tryz.ntmps111
       go_wp2_with (first | (go_at_call 144; with_reducible refine (HSA.out _).mono ?_; rintro e w1 ⟨rfl, hb1⟩) | (go_at_call 144; with_reducible refine (HSB.out _).mono ?_; rintro e w2 ⟨rfl, hb2⟩) | fail)
       rw [HRR.out]
       go_ret
       exact ⟨rfl, hb1.trans (hb2.mono hb1.size)⟩
      ·have HRR : Hid (R = cp) := HR.out.trans ((if_neg hxy).trans (if_neg hyx))
       have q2 : decide (y < x) = false := decide_eq_false hyx
       clear HR
       go_enter Tryz.func111, Tryz.ntmps111
       go_wp2_with (first | (go_at_call 144; with_reducible refine (HSA.out _).mono ?_; rintro e w1 ⟨rfl, hb1⟩) | (go_at_call 144; with_reducible refine (HSB.out _).mono ?_; rintro e w2 ⟨rfl, hb2⟩) | (go_at_call 145; with_reducible refine (HQA.out _).mono ?_; rintro e w3 ⟨rfl, hb3⟩) | (go_at_call 145; with_reducible refine (HQB.out _).mono ?_; rintro e w4 ⟨rfl, hb4⟩) | (go_at_call 143; refine (HCP.out _).mono ?_; rintro e w5 ⟨rfl, rfl⟩) | fail)
       rw [HRR.out]
       go_ret
       have h12 := hb1.trans (hb2.mono hb1.size)
       have h123 := h12.trans (hb3.mono h12.size)
       exact ⟨rfl, h123.trans (hb4.mono h123.size)⟩
end
section
open Go.Sort Go.Proofs
variable {β : Type} {cf : β -> β -> Int}
def tlt (cf : β -> β -> Int) (x y : β × Nat) : Bool := decide (cf x.1 y.1 < 0) || (!decide (cf y.1 x.1 < 0) && decide (x.2 < y.2))
theorem tlt_iff (x y : β × Nat) : tlt cf x y = true ↔ (cf x.1 y.1 < 0 \/ (¬ cf y.1 x.1 < 0 /\ x.2 < y.2)) := by simp [tlt]
structure Cmp (cf : β -> β -> Int) : Prop where
 irrefl : ∀ x, ¬ cf x x < 0
 asymm : ∀ x y, cf x y < 0 -> ¬ cf y x < 0
 ntrans : ∀ x y z, ¬ cf x y < 0 -> ¬ cf y z < 0 -> ¬ cf x z < 0
theorem Cmp.trans (C : Cmp cf) {x y z : β} (h1 : cf x y < 0) (h2 : cf y z < 0) : cf x z < 0 := by
 by_cases h : cf x z < 0
 ·exact h
 ·exact absurd h1 (C.ntrans x z y h (C.asymm _ _ h2))
theorem Cmp.lt_of_lt_of_le (C : Cmp cf) {x y z : β} (h1 : cf x y < 0) (h2 : ¬ cf z y < 0) : cf x z < 0 := by
 by_cases h : cf x z < 0
 ·exact h
 ·exact absurd h1 (C.ntrans x z y h h2)
def IsStable (cf : β -> β -> Int) (xs ys : List β) : Prop :=
 ∃ ts : List (β × Nat), ts.Perm xs.zipIdx /\ ts.Pairwise (fun x y => tlt cf x y = true) /\ ys = ts.map (·.1)
theorem IsStable.nil : IsStable cf [] [] := ⟨[], by simp, List.Pairwise.nil, rfl⟩
theorem IsStable.snoc (C : Cmp cf) {xs A B : List β} (h : IsStable cf xs (A ++ B)) {p : β} (hA : ∀ a, A.getLast? = some a -> ¬ cf p a < 0) (hB : ∀ b ∈ B, cf p b < 0) : IsStable cf (xs ++ [p]) (A ++ p :: B) := by
 obtain ⟨ts, hp, hs, he⟩ := h
 obtain ⟨tA, tB, rfl, rfl, rfl⟩ : ∃ tA tB, ts = tA ++ tB /\ A = tA.map (·.1) /\ B = tB.map (·.1) := by
  obtain ⟨tA, tB, h1, h2, h3⟩ := List.map_eq_append_iff.1 he.symm
  exact ⟨tA, tB, h1, h2.symm, h3.symm⟩
 rw [List.pairwise_append] at hs
 obtain ⟨sA, sB, sAB⟩ := hs
 have htag : ∀ x ∈ tA ++ tB, x.2 < xs.length := fun x hx => by
  have := hp.mem_iff.1 hx
  have := List.mem_zipIdx this
  omega
 refine ⟨tA ++ (p, xs.length) :: tB, ?_, ?_, by simp⟩
 ·have h1 : (tA ++ (p, xs.length) :: tB).Perm ((p, xs.length) :: (tA ++ tB)) := List.perm_middle
  rw [List.zipIdx_append]
  refine h1.trans (((List.perm_cons _).2 hp).trans ?_)
  have : [p].zipIdx xs.length = [(p, xs.length)] := rfl
  simp only [Nat.zero_add, this]
  exact (List.perm_append_singleton _ _).symm
 ·rw [List.pairwise_append]
  refine ⟨sA, ?_, ?_⟩
  ·rw [List.pairwise_cons]
   exact ⟨fun b hb => by rw [tlt_iff]; exact .inl (hB b.1 (List.mem_map.2 ⟨b, hb, rfl⟩)), sB⟩
  ·intro a ha b hb
   rcases List.mem_cons.1 hb with rfl | hb
   ·rw [tlt_iff]
    right
    refine ⟨?_, htag a (by simp [ha])⟩
    cases hl : tA.getLast? with
    | none => rw [List.getLast?_eq_none_iff] at hl; rw [hl] at ha; cases ha
    | some z =>
      have hz := hA z.1 (by rw [List.getLast?_map, hl]; rfl)
      obtain ⟨t0, rfl⟩ := List.getLast?_eq_some_iff.1 hl
      rw [List.pairwise_append] at sA
      rcases List.mem_append.1 ha with ha | ha
      ·have := sA.2.2 a ha z (by simp)
       exact C.ntrans _ _ _ hz (by rw [tlt_iff] at this; rcases this with h | h; exact C.asymm _ _ h; exact h.1)
      ·simp at ha; rw [ha]; exact hz
   ·exact sAB a ha b hb
end
section
open Go.Shelf Go.RowKit Go.Lib Go.Sort
theorem cmpB_neg : ∀ a b : List UInt8, compareBytes b a = - compareBytes a b
 | [], [] => rfl
 | [], _ :: _ => rfl
 | _ :: _, [] => rfl
 | x :: a, y :: b => by
   have ih := cmpB_neg a b
   unfold compareBytes
   by_cases h1 : x < y
   ·have h2 : ¬ y < x := fun h => UInt8.lt_irrefl x (UInt8.lt_trans h1 h)
    simp [h1, h2]
   ·by_cases h2 : y < x
    ·simp [h1, h2]
    ·simp [h1, h2, ih]
theorem cmpB_ntrans : ∀ a b c : List UInt8, ¬ compareBytes a b < 0 -> ¬ compareBytes b c < 0 -> ¬ compareBytes a c < 0
 | [], [], c, _, h2 => h2
 | [], _ :: _, _, h1, _ => by simp [compareBytes] at h1
 | _ :: _, _, [], _, _ => by simp [compareBytes]
 | x :: a, [], z :: c, _, h2 => by simp [compareBytes] at h2
 | x :: a, y :: b, z :: c, h1, h2 => by
   have ih := cmpB_ntrans a b c
   unfold compareBytes at h1 h2 ⊢
   by_cases hxy : x < y
   ·simp [hxy] at h1
   ·by_cases hyz : y < z
    ·simp [hyz] at h2
    ·have hxz : ¬ x < z := fun h => by
      have h3 := UInt8.le_trans (UInt8.not_lt.1 hyz) (UInt8.not_lt.1 hxy)
      exact absurd h (UInt8.not_lt.2 h3)
     simp only [if_neg hxy, if_neg hyz, if_neg hxz] at h1 h2 ⊢
     by_cases hzx : z < x
     ·simp [hzx]
     ·have hyx : ¬ y < x := fun h => hzx (UInt8.lt_of_le_of_lt (UInt8.not_lt.1 hyz) h)
      have hzy : ¬ z < y := fun h => hzx (UInt8.lt_of_lt_of_le h (UInt8.not_lt.1 hxy))
      simp only [if_neg hyx, if_neg hzy, if_neg hzx] at h1 h2 ⊢
      exact ih h1 h2
def cmpN (a b : ByteArray) : Int := compareBytes a.data.toList b.data.toList
theorem cmpN_neg (a b : ByteArray) : cmpN b a = - cmpN a b := cmpB_neg _ _
end
section
open Go.RowKit Go.OpenShut
section
variable {α : Type} {e : TypeId} {enc : α -> List Value} {sz : Nat}
theorem Own.same {w w' : World} {base : Nat} {v : Value} {xs : List α} (h : Own w base e enc sz v xs) (hk : ∀ k, v.ownBlock = some k -> w'.heap[k]? = w.heap[k]?) : Own w' base e enc sz v xs := by
 obtain ⟨hl, h⟩ := h
 refine ⟨hl, ?_⟩
 rcases h with h | ⟨g, cap, cur, rfl, hg, hh, r⟩
 ·exact .inl h
 ·exact .inr ⟨g, cap, cur, rfl, hg, (hk g rfl).trans hh, r⟩
end
inductive LoneV (w : World) : (Nat -> Prop) -> JV -> RV -> Prop
 | mk {S : Nat -> Prop} {r : RV} {l : List JV} {m : List (ByteArray × JV)} {rs : List RV} {rms : List RM} (F : Nat ⊕ Nat -> Nat -> Prop)
  (hl : Own w 0 25 encV 5 (.slice r.pl r.nl r.cl) rs) (hm : Own w 0 32 encM 6 (.slice r.pm r.nm r.cm) rms)
  (sl : ∀ k, (Value.slice r.pl r.nl r.cl).ownBlock = some k -> S k) (sm : ∀ k, (Value.slice r.pm r.nm r.cm).ownBlock = some k -> S k)
  (dr : ∀ k, (Value.slice r.pl r.nl r.cl).ownBlock = some k -> (Value.slice r.pm r.nm r.cm).ownBlock ≠ some k)
  (el : l.length = rs.length) (em : m.length = rms.length)
  (cn : ∀ (i : Nat) (p : ByteArray × JV) (q : RM), m[i]? = some p -> rms[i]? = some q -> p.1 = q.name)
  (cl : ∀ (i : Nat) (t : JV) (q : RV), l[i]? = some t -> rs[i]? = some q -> LoneV w (F (.inl i)) t q)
  (cm : ∀ (i : Nat) (p : ByteArray × JV) (q : RM), m[i]? = some p -> rms[i]? = some q -> LoneV w (F (.inr i)) p.2 q.v)
  (ff : ∀ a k, F a k -> S k /\ (Value.slice r.pl r.nl r.cl).ownBlock ≠ some k /\ (Value.slice r.pm r.nm r.cm).ownBlock ≠ some k)
  (dd : ∀ a b k, F a k -> F b k -> a = b) : LoneV w S (.mk r.k r.n r.s l m) r
theorem LoneV.same {w w' : World} {S : Nat -> Prop} {t : JV} {r : RV} (h : LoneV w S t r) (hk : ∀ k, S k -> w'.heap[k]? = w.heap[k]?) : LoneV w' S t r := by
 induction h with
 | mk F hl hm sl sm dr el em cn cl cm ff dd ih1 ih2 =>
   exact .mk F (hl.same fun k e => hk k (sl k e)) (hm.same fun k e => hk k (sm k e)) sl sm dr el em cn
    (fun i t q h1 h2 => ih1 i t q h1 h2 fun k hf => hk k (ff _ k hf).1) (fun i p q h1 h2 => ih2 i p q h1 h2 fun k hf => hk k (ff _ k hf).1) ff dd
theorem LoneV.mono {w : World} {S S' : Nat -> Prop} {t : JV} {r : RV} (h : LoneV w S t r) (hs : ∀ k, S k -> S' k) : LoneV w S' t r := by
 cases h with
 | mk F hl hm sl sm dr el em cn cl cm ff dd =>
   exact .mk F hl hm (fun k e => hs k (sl k e)) (fun k e => hs k (sm k e)) dr el em cn cl cm (fun a k hf => ⟨hs k (ff a k hf).1, (ff a k hf).2⟩) dd
theorem LoneV.under {w w' : World} {S : Nat -> Prop} {B : Nat} {t : JV} {r : RV} (h : LoneV w S t r) (hb : Below B w w') (hs : ∀ k, S k -> k < B) : LoneV w' S t r := h.same fun k hk => hb.block k (hs k hk)
theorem LoneV.tree {w : World} {S : Nat -> Prop} {t : JV} {r : RV} (h : LoneV w S t r) : TreeOf w w.heap.size t r := by
 induction h with
 | mk F hl hm sl sm dr el em cn cl cm ff dd ih1 ih2 => exact .mk (hl.rd codecV) el ih1 (hm.rd codecM) em cn ih2
def Fresh (w w' : World) (k : Nat) : Prop := w.heap.size <= k /\ k < w'.heap.size
structure Parts (W : World) (b0 g : Nat) (D : Nat ⊕ Nat -> Prop) (l : List JV) (m : List (ByteArray × JV)) (ds : List RV) (dms : List RM) (r : RV) (F : Nat ⊕ Nat -> Nat -> Prop) : Prop where
 box : VAt W g r
 ownL : Own W b0 25 encV 5 (.slice r.pl r.nl r.cl) ds
 ownM : Own W b0 32 encM 6 (.slice r.pm r.nm r.cm) dms
 bL : ∀ k, (Value.slice r.pl r.nl r.cl).ownBlock = some k -> k ≠ g
 bM : ∀ k, (Value.slice r.pm r.nm r.cm).ownBlock = some k -> k ≠ g
 dr : ∀ k, (Value.slice r.pl r.nl r.cl).ownBlock = some k -> (Value.slice r.pm r.nm r.cm).ownBlock ≠ some k
 los : b0 <= W.heap.size
 el : l.length = ds.length
 em : m.length = dms.length
 cn : ∀ (i : Nat) (p : ByteArray × JV) (q : RM), m[i]? = some p -> dms[i]? = some q -> p.1 = q.name
 cl : ∀ (i : Nat) (t : JV) (q : RV), D (.inl i) -> l[i]? = some t -> ds[i]? = some q -> LoneV W (F (.inl i)) t q
 cm : ∀ (i : Nat) (p : ByteArray × JV) (q : RM), D (.inr i) -> m[i]? = some p -> dms[i]? = some q -> LoneV W (F (.inr i)) p.2 q.v
 ff : ∀ a k, F a k -> (b0 <= k /\ k < W.heap.size) /\ k ≠ g /\ (Value.slice r.pl r.nl r.cl).ownBlock ≠ some k /\ (Value.slice r.pm r.nm r.cm).ownBlock ≠ some k
 dd : ∀ a b k, F a k -> F b k -> a = b
theorem Parts.drewN {W : World} {b0 g : Nat} {D : Nat ⊕ Nat -> Prop} {l : List JV} {m : List (ByteArray × JV)} {ds : List RV} {dms : List RM} {r : RV} {F : Nat ⊕ Nat -> Nat -> Prop} (h : Parts W b0 g D l m ds dms r F) (n : Nat) : Parts (W.drewN n) b0 g D l m ds dms r F :=
 ⟨h.box, h.ownL, h.ownM, h.bL, h.bM, h.dr, h.los, h.el, h.em, h.cn, fun i t q h1 h2 h3 => (h.cl i t q h1 h2 h3).same fun _ _ => rfl, fun i t q h1 h2 h3 => (h.cm i t q h1 h2 h3).same fun _ _ => rfl, h.ff, h.dd⟩
theorem Parts.below {W W' : World} {b0 g : Nat} {D : Nat ⊕ Nat -> Prop} {l : List JV} {m : List (ByteArray × JV)} {ds : List RV} {dms : List RM} {r : RV} {F : Nat ⊕ Nat -> Nat -> Prop} (h : Parts W b0 g D l m ds dms r F) (hb : Below W.heap.size W W') : Parts W' b0 g D l m ds dms r F :=
 have hs := hb.size
 ⟨h.box.under hb h.box.lt, h.ownL.below hb (Nat.le_refl _), h.ownM.below hb (Nat.le_refl _), h.bL, h.bM, h.dr, Nat.le_trans h.los hs, h.el, h.em, h.cn, fun i t q h1 h2 h3 => (h.cl i t q h1 h2 h3).under hb fun k hk => (h.ff _ k hk).1.2, fun i t q h1 h2 h3 => (h.cm i t q h1 h2 h3).under hb fun k hk => (h.ff _ k hk).1.2, fun a k hk => ⟨⟨(h.ff a k hk).1.1, Nat.lt_of_lt_of_le (h.ff a k hk).1.2 hs⟩, (h.ff a k hk).2⟩, h.dd⟩
theorem Parts.whole {W : World} {b0 g : Nat} {D : Nat ⊕ Nat -> Prop} {l : List JV} {m : List (ByteArray × JV)} {ds : List RV} {dms : List RM} {r : RV} {F : Nat ⊕ Nat -> Nat -> Prop} (h : Parts W b0 g D l m ds dms r F) (hD : ∀ i, (i < l.length -> D (.inl i)) /\ (i < m.length -> D (.inr i))) : LoneV W (fun k => b0 <= k /\ k < W.heap.size) (.mk r.k r.n r.s l m) r :=
 .mk F (h.ownL.mono (Nat.zero_le _)) (h.ownM.mono (Nat.zero_le _)) (fun k e => h.ownL.lt k e) (fun k e => h.ownM.lt k e) h.dr h.el h.em h.cn
  (fun i t q h1 h2 => h.cl i t q ((hD i).1 (List.getElem?_eq_some_iff.1 h1).1) h1 h2) (fun i p q h1 h2 => h.cm i p q ((hD i).2 (List.getElem?_eq_some_iff.1 h1).1) h1 h2)
  (fun a k hk => ⟨(h.ff a k hk).1, (h.ff a k hk).2.2⟩) h.dd
end
section
open Go Go.RowKit Go.OpenShut
section
variable {α : Type} {enc : α -> List Value} {sz : Nat}
def RdI (w : World) (S : Nat -> Prop) (enc : α -> List Value) (sz : Nat) (v : Value) (xs : List α) : Prop :=
 ∃ (p : Option Addr) (cap : Nat), v = .slice p xs.length cap /\ xs.length <= cap /\ cap <= maxLen /\ (p = none -> cap = 0) /\
   ∀ a, p = some a -> 0 < xs.length -> ∃ b o, a = ⟨b, o, none⟩ /\ S b /\ RowAt w b o enc sz xs
theorem RdI.same {w w' : World} {S : Nat -> Prop} {v : Value} {xs : List α} (h : RdI w S enc sz v xs) (hk : ∀ k, S k -> w'.heap[k]? = w.heap[k]?) : RdI w' S enc sz v xs := by
 obtain ⟨p, cap, h1, h2, h3, h4, h5⟩ := h
 refine ⟨p, cap, h1, h2, h3, h4, fun a ha h0 => ?_⟩
 obtain ⟨b, o, e, hb, hr⟩ := h5 a ha h0
 exact ⟨b, o, e, hb, fun i x hx j u hu => (World.cell?_of_block (w := w) (a := ⟨b, o + i * sz + j, none⟩) (hk b hb)).trans (hr i x hx j u hu)⟩
theorem RdI.mono {w : World} {S S' : Nat -> Prop} {v : Value} {xs : List α} (h : RdI w S enc sz v xs) (hs : ∀ k, S k -> S' k) : RdI w S' enc sz v xs := by
 obtain ⟨p, cap, h1, h2, h3, h4, h5⟩ := h
 refine ⟨p, cap, h1, h2, h3, h4, fun a ha h0 => ?_⟩
 obtain ⟨b, o, e, hb, hr⟩ := h5 a ha h0
 exact ⟨b, o, e, hs b hb, hr⟩
theorem RdI.rd {w : World} {S : Nat -> Prop} {B : Nat} {v : Value} {xs : List α} (h : RdI w S enc sz v xs) (hs : ∀ k, S k -> k < B) : Rd w B enc sz v xs := by
 obtain ⟨p, cap, h1, h2, h3, h4, h5⟩ := h
 refine ⟨p, cap, h1, h2, h3, h4, fun a ha h0 => ?_⟩
 obtain ⟨b, o, e, hb, hr⟩ := h5 a ha h0
 exact ⟨b, o, e, hs b hb, hr⟩
theorem RdI.nil (w : World) (S : Nat -> Prop) : RdI w S enc sz (.slice none 0 0) ([] : List α) := ⟨none, 0, rfl, Nat.le_refl _, Nat.zero_le _, fun _ => rfl, fun a h _ => by cases h⟩
theorem Own.rdI (C : Codec enc sz) {w : World} {base : Nat} {e : TypeId} {S : Nat -> Prop} {v : Value} {xs : List α} (h : Own w base e enc sz v xs) (hs : ∀ k, v.ownBlock = some k -> S k) : RdI w S enc sz v xs := by
 have hrd := h.rd C
 obtain ⟨p, cap, h1, h2, h3, h4, h5⟩ := hrd
 refine ⟨p, cap, h1, h2, h3, h4, fun a ha h0 => ?_⟩
 obtain ⟨b, o, e, hb, hr⟩ := h5 a ha h0
 exact ⟨b, o, e, hs b (by rw [h1, ha, e]; rfl), hr⟩
end
inductive TreeS (w : World) (S : Nat -> Prop) : JV -> RV -> Prop
 | mk {r : RV} {l : List JV} {m : List (ByteArray × JV)} {rs : List RV} {rms : List RM} (hl : RdI w S encV 5 (.slice r.pl r.nl r.cl) rs) (el : l.length = rs.length) (cl : ∀ (i : Nat) (t : JV) (q : RV), l[i]? = some t -> rs[i]? = some q -> TreeS w S t q)
  (hm : RdI w S encM 6 (.slice r.pm r.nm r.cm) rms) (em : m.length = rms.length) (cn : ∀ (i : Nat) (p : ByteArray × JV) (q : RM), m[i]? = some p -> rms[i]? = some q -> p.1 = q.name)
  (cm : ∀ (i : Nat) (p : ByteArray × JV) (q : RM), m[i]? = some p -> rms[i]? = some q -> TreeS w S p.2 q.v) : TreeS w S (.mk r.k r.n r.s l m) r
theorem TreeS.same {w w' : World} {S : Nat -> Prop} {t : JV} {r : RV} (h : TreeS w S t r) (hk : ∀ k, S k -> w'.heap[k]? = w.heap[k]?) : TreeS w' S t r := by
 induction h with
 | mk hl el cl hm em cn cm ih1 ih2 => exact .mk (hl.same hk) el ih1 (hm.same hk) em cn ih2
theorem TreeS.mono {w : World} {S S' : Nat -> Prop} {t : JV} {r : RV} (h : TreeS w S t r) (hs : ∀ k, S k -> S' k) : TreeS w S' t r := by
 induction h with
 | mk hl el cl hm em cn cm ih1 ih2 => exact .mk (hl.mono hs) el ih1 (hm.mono hs) em cn ih2
theorem TreeS.tree {w : World} {S : Nat -> Prop} {B : Nat} {t : JV} {r : RV} (h : TreeS w S t r) (hs : ∀ k, S k -> k < B) : TreeOf w B t r := by
 induction h with
 | mk hl el cl hm em cn cm ih1 ih2 => exact .mk (hl.rd hs) el ih1 (hm.rd hs) em cn ih2
theorem TreeS.leaf (w : World) (S : Nat -> Prop) (k n : Int) (s : ByteArray) : TreeS w S (.mk k n s [] []) ⟨k, n, s, none, 0, 0, none, 0, 0⟩ :=
 .mk (r := ⟨k, n, s, none, 0, 0, none, 0, 0⟩) (rs := []) (rms := []) (RdI.nil _ _) rfl (fun i t q h => by simp at h) (RdI.nil _ _) rfl (fun i p q h => by simp at h) (fun i p q h => by simp at h)
structure GrL (w : World) (base : Nat) (v : Value) (l : List JV) : Prop where
 ex : ∃ rs, Own w base 25 encV 5 v rs /\ l.length = rs.length /\ ∀ (i : Nat) (t : JV) (q : RV), l[i]? = some t -> rs[i]? = some q -> TreeS w (fun k => base <= k /\ k < w.heap.size /\ v.ownBlock ≠ some k) t q
structure GrM (w : World) (base : Nat) (v : Value) (m : List (ByteArray × JV)) : Prop where
 ex : ∃ rms, Own w base 32 encM 6 v rms /\ m.length = rms.length /\ (∀ (i : Nat) (p : ByteArray × JV) (q : RM), m[i]? = some p -> rms[i]? = some q -> p.1 = q.name) /\ ∀ (i : Nat) (p : ByteArray × JV) (q : RM), m[i]? = some p -> rms[i]? = some q -> TreeS w (fun k => base <= k /\ k < w.heap.size /\ v.ownBlock ≠ some k) p.2 q.v
theorem GrL.nil (w : World) (base : Nat) : GrL w base (.slice none 0 0) [] := ⟨[], Own.nil _ _ _, rfl, fun i t q h => by simp at h⟩
theorem GrM.nil (w : World) (base : Nat) : GrM w base (.slice none 0 0) [] := ⟨[], Own.nil _ _ _, rfl, fun i t q h => by simp at h, fun i t q h => by simp at h⟩
theorem GrL.out {w w' : World} {base : Nat} {v : Value} {l : List JV} (h : GrL w base v l) (hk : ∀ k, base <= k -> k < w.heap.size -> w'.heap[k]? = w.heap[k]?) (hs : w.heap.size <= w'.heap.size) : GrL w' base v l := by
 obtain ⟨rs, h1, h2, h3⟩ := h.ex
 exact ⟨rs, h1.same (fun k e => hk k (h1.lt k e).1 (h1.lt k e).2), h2, fun i t q a b => ((h3 i t q a b).same (fun k e => hk k e.1 e.2.1)).mono (fun k e => ⟨e.1, by omega, e.2.2⟩)⟩
theorem GrM.out {w w' : World} {base : Nat} {v : Value} {m : List (ByteArray × JV)} (h : GrM w base v m) (hk : ∀ k, base <= k -> k < w.heap.size -> w'.heap[k]? = w.heap[k]?) (hs : w.heap.size <= w'.heap.size) : GrM w' base v m := by
 obtain ⟨rs, h1, h2, h4, h3⟩ := h.ex
 exact ⟨rs, h1.same (fun k e => hk k (h1.lt k e).1 (h1.lt k e).2), h2, h4, fun i t q a b => ((h3 i t q a b).same (fun k e => hk k e.1 e.2.1)).mono (fun k e => ⟨e.1, by omega, e.2.2⟩)⟩
theorem snoc_get {α : Type} {l : List α} {x a : α} {j : Nat} (h : (l ++ [x])[j]? = some a) : (j < l.length /\ l[j]? = some a) \/ (j = l.length /\ a = x) := by
 by_cases hj : j < l.length
 ·rw [List.getElem?_append_left hj] at h; exact .inl ⟨hj, h⟩
 ·rw [List.getElem?_append_right (by omega)] at h
  have h2 : j - l.length = 0 := by have := (List.getElem?_eq_some_iff.1 h).1; simp at this; omega
  rw [h2] at h
  simp at h
  exact .inr ⟨by omega, h.symm⟩
theorem GrL.snoc {w1 w2 : World} {base : Nat} {v v2 : Value} {l : List JV} {t : JV} {q : RV} {rs : List RV} (h1 : Own w1 base 25 encV 5 v rs) (h2 : l.length = rs.length) (h3 : ∀ (i : Nat) (t : JV) (q : RV), l[i]? = some t -> rs[i]? = some q -> TreeS w1 (fun k => base <= k /\ k < w1.heap.size /\ v.ownBlock ≠ some k) t q)
 (ht : TreeS w1 (fun k => base <= k /\ k < w1.heap.size /\ v.ownBlock ≠ some k) t q) (ho : Own w2 base 25 encV 5 v2 (rs ++ [q])) (hg : w1.grownBy w2 v.ownBlock) (hat : ∀ k, v2.ownBlock = some k -> v.ownBlock = some k \/ w1.heap.size <= k) : GrL w2 base v2 (l ++ [t]) := by
 have hs := hg.size
 have key : ∀ (t : JV) (q : RV), TreeS w1 (fun k => base <= k /\ k < w1.heap.size /\ v.ownBlock ≠ some k) t q -> TreeS w2 (fun k => base <= k /\ k < w2.heap.size /\ v2.ownBlock ≠ some k) t q :=
  fun t q h => (h.same (fun k e => hg.block k e.2.1 (fun e2 => e.2.2 e2.symm))).mono (fun k e => ⟨e.1, by omega, fun e2 => by
   rcases hat k e2 with h | h
   ·exact e.2.2 h
   ·omega⟩)
 refine ⟨rs ++ [q], ho, by simp [h2], fun i t' q' a b => ?_⟩
 rcases snoc_get a with ⟨ha, a⟩ | ⟨ha, rfl⟩
 ·rcases snoc_get b with ⟨hb, b⟩ | ⟨hb, _⟩
  ·exact key _ _ (h3 i t' q' a b)
  ·omega
 ·rcases snoc_get b with ⟨hb, b⟩ | ⟨hb, rfl⟩
  ·omega
  ·exact key _ _ ht
theorem GrM.snoc {w1 w2 : World} {base : Nat} {v v2 : Value} {m : List (ByteArray × JV)} {n : ByteArray} {t : JV} {q : RV} {rms : List RM} (h1 : Own w1 base 32 encM 6 v rms) (h2 : m.length = rms.length) (h4 : ∀ (i : Nat) (p : ByteArray × JV) (q : RM), m[i]? = some p -> rms[i]? = some q -> p.1 = q.name)
 (h3 : ∀ (i : Nat) (p : ByteArray × JV) (q : RM), m[i]? = some p -> rms[i]? = some q -> TreeS w1 (fun k => base <= k /\ k < w1.heap.size /\ v.ownBlock ≠ some k) p.2 q.v)
 (ht : TreeS w1 (fun k => base <= k /\ k < w1.heap.size /\ v.ownBlock ≠ some k) t q) (ho : Own w2 base 32 encM 6 v2 (rms ++ [⟨n, q⟩])) (hg : w1.grownBy w2 v.ownBlock) (hat : ∀ k, v2.ownBlock = some k -> v.ownBlock = some k \/ w1.heap.size <= k) : GrM w2 base v2 (m ++ [(n, t)]) := by
 have hs := hg.size
 have key : ∀ (t : JV) (q : RV), TreeS w1 (fun k => base <= k /\ k < w1.heap.size /\ v.ownBlock ≠ some k) t q -> TreeS w2 (fun k => base <= k /\ k < w2.heap.size /\ v2.ownBlock ≠ some k) t q :=
  fun t q h => (h.same (fun k e => hg.block k e.2.1 (fun e2 => e.2.2 e2.symm))).mono (fun k e => ⟨e.1, by omega, fun e2 => by
   rcases hat k e2 with h | h
   ·exact e.2.2 h
   ·omega⟩)
 refine ⟨rms ++ [⟨n, q⟩], ho, by simp [h2], fun i p' q' a b => ?_, fun i p' q' a b => ?_⟩
 ·rcases snoc_get a with ⟨ha, a⟩ | ⟨ha, rfl⟩
  ·rcases snoc_get b with ⟨hb, b⟩ | ⟨hb, _⟩
   ·exact h4 i p' q' a b
   ·omega
  ·rcases snoc_get b with ⟨hb, b⟩ | ⟨hb, rfl⟩
   ·omega
   ·rfl
 ·rcases snoc_get a with ⟨ha, a⟩ | ⟨ha, rfl⟩
  ·rcases snoc_get b with ⟨hb, b⟩ | ⟨hb, _⟩
   ·exact key _ _ (h3 i p' q' a b)
   ·omega
  ·rcases snoc_get b with ⟨hb, b⟩ | ⟨hb, rfl⟩
   ·omega
   ·exact key _ _ ht
theorem GrL.whole {w : World} {base : Nat} {p : Option Addr} {n c : Nat} {l : List JV} (h : GrL w base (.slice p n c) l) : TreeS w (fun k => base <= k /\ k < w.heap.size) (.mk 5 0 ⟨#[]⟩ l []) ⟨5, 0, ⟨#[]⟩, p, n, c, none, 0, 0⟩ := by
 obtain ⟨rs, h1, h2, h3⟩ := h.ex
 exact .mk (r := ⟨5, 0, ⟨#[]⟩, p, n, c, none, 0, 0⟩) (rs := rs) (rms := []) (h1.rdI codecV (fun k e => h1.lt k e)) h2 (fun i t q a b => (h3 i t q a b).mono (fun k e => ⟨e.1, e.2.1⟩)) (RdI.nil _ _) rfl (fun i p q h => by simp at h) (fun i p q h => by simp at h)
theorem GrM.whole {w : World} {base : Nat} {p : Option Addr} {n c : Nat} {m : List (ByteArray × JV)} (h : GrM w base (.slice p n c) m) : TreeS w (fun k => base <= k /\ k < w.heap.size) (.mk 6 0 ⟨#[]⟩ [] m) ⟨6, 0, ⟨#[]⟩, none, 0, 0, p, n, c⟩ := by
 obtain ⟨rs, h1, h2, h4, h3⟩ := h.ex
 exact .mk (r := ⟨6, 0, ⟨#[]⟩, none, 0, 0, p, n, c⟩) (rs := []) (rms := rs) (RdI.nil _ _) rfl (fun i p q h => by simp at h) (h1.rdI codecM (fun k e => h1.lt k e)) h2 h4 (fun i t q a b => (h3 i t q a b).mono (fun k e => ⟨e.1, e.2.1⟩))
abbrev RM.obj (r : RM) : Obj := .cells #[.string r.name, .int .i64 r.v.k, .int .i64 r.v.n, .string r.v.s, .slice r.v.pl r.v.nl r.v.cl, .slice r.v.pm r.v.nm r.v.cm] 32
end
end Go.Proofs.YtffhccmppdgmfaaGreatDoor
