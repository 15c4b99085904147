import Derived.Test.YtffhccmppdgmfaaGreatDoorD21
import Derived.Test.YtffhccmppdgmfaaGreatDoorD11
set_option linter.unusedSimpArgs false
set_option linter.unusedVariables false
set_option maxRecDepth 200000
set_option maxHeartbeats 8000000
namespace Go.Proofs.YtffhccmppdgmfaaGreatDoor
section
open Go Go.RowKit Go.OpenShut
theorem anyS_step {pb : ByteArray -> Bool} {ts : List ByteArray} {k : Nat} {x : ByteArray} (h : anyS pb (ts.take k) = false) (hx : ts[k]? = some x) : anyS pb (ts.take (k + 1)) = pb x := by
 unfold anyS at h ⊢
 rw [List.take_add_one, hx, Option.toList_some, List.any_append, h]
 simp
theorem anyS_some {pb : ByteArray -> Bool} {ts : List ByteArray} {k : Nat} (h : anyS pb (ts.take k) = true) : anyS pb ts = true := by
 unfold anyS at h ⊢
 rw [List.any_eq_true] at h ⊢
 obtain ⟨x, h1, h2⟩ := h
 exact ⟨x, List.mem_of_mem_take h1, h2⟩
theorem rmatch_any (w : World) (q : ByteArray) (p : Option Addr) (n c : Nat) (ts : List ByteArray) (hq : q.size <= 1000000) (hv : Rd w w.heap.size encS 1 (.slice p n c) ts) (hlen : ts.length <= 100000000)
 (hts : ∀ t ∈ ts, t.size <= 4000000000) :
 Calls Tryz.prog 126 #[.string q, .slice p n c] w fun e w' => e = .returned (.bool (matchF q.data.toList ts)) /\ Below w.heap.size w w' := by
 have hn := rd_nlen hv
 subst hn
 have HT : Hid (Calls Tryz.prog 148 #[.string q] w fun e w' => ∃ p1 c1, e = .returned (.slice p1 ((termsF q.data.toList).map toB).length c1) /\ Rd w' w'.heap.size encS 1 (.slice p1 ((termsF q.data.toList).map toB).length c1) ((termsF q.data.toList).map toB) /\ Below w.heap.size w w') := by
  refine (rterms_any w q hq).mono ?_
  rintro e w1 ⟨v, rfl, ho, hb⟩
  obtain ⟨a, cap, rfl, _⟩ := ho.len
  exact ⟨_, _, rfl, (ho.rd codecS), hb⟩
 have hT1 : ((termsF q.data.toList).map toB).length <= 1000000 := by
  rw [List.length_map]
  have h1 := termsF_len q.data.toList
  have h2 : q.data.toList.length = q.size := by rw [Array.length_toList]; rfl
  omega
 have hT2 : Hid (∀ t ∈ (termsF q.data.toList).map toB, t.size <= 1000000) := by
  intro t ht
  obtain ⟨u, hu, rfl⟩ := List.mem_map.1 ht
  have h1 := termsF_each hu
  have h2 : q.data.toList.length = q.size := by rw [Array.length_toList]; rfl
  rw [toB_size]
  omega
 rw [matchF_all]
 obtain ⟨T, hTT⟩ : ∃ T, (termsF q.data.toList).map toB = T := ⟨_, rfl⟩
 rw [hTT] at HT hT1 hT2 ⊢
 clear hTT
 obtain ⟨FS, hFS⟩ : ∃ FS, ts.map (fun s => toB (foldL s.data.toList)) = FS := ⟨_, rfl⟩
 have HFL : Hid (FS.length = ts.length) := by unfold Hid; rw [<- hFS, List.length_map]
 have HFK : Hid (∀ (k : Nat) x, ts[k]? = some x -> FS[k]? = some (toB (foldL x.data.toList))) := fun k x hx => by rw [<- hFS, List.getElem?_map, hx]; rfl
 have hfz : ∀ x : ByteArray, (toB (foldL x.data.toList)).size = x.size := fun x => by
  rw [toB_size]
  unfold foldL
  rw [List.length_map, Array.length_toList]
  rfl
 have HF1 : Hid (∀ (i : Nat) x, ts[i]? = some x -> ∀ W, Calls Tryz.prog 149 #[.string x] W fun e w' => e = .returned (.string (toB (foldL x.data.toList))) /\ Below W.heap.size W w') := fun i x hx W => rfold_any x W (by have := hts x (List.mem_of_getElem? hx); omega)
 have HF2 : Hid (∀ (i : Nat) x, T[i]? = some x -> ∀ W, Calls Tryz.prog 149 #[.string x] W fun e w' => e = .returned (.string (toB (foldL x.data.toList))) /\ Below W.heap.size W w') := fun i x hx W => rfold_any x W (by have := hT2.out x (List.mem_of_getElem? hx); omega)
 have HIN : Hid (∀ (i : Nat) x, ts[i]? = some x -> ∀ (j : Nat) y, T[j]? = some y -> ∀ W, Calls Tryz.prog 150 #[.string (toB (foldL x.data.toList)), .string (toB (foldL y.data.toList))] W fun e w' => e = .returned (.bool (hasF x.data.toList y.data.toList)) /\ W = w') := fun i x hx j y hy W => by
  have := rin_any (toB (foldL x.data.toList)) (toB (foldL y.data.toList)) W (by rw [hfz]; have := hts x (List.mem_of_getElem? hx); omega) (by rw [hfz]; have := hT2.out y (List.mem_of_getElem? hy); omega)
  rw [toB_list, toB_list] at this
  exact this
 have HV := Lib.hid hv
 clear hv hts hT2 hfz hFS
 go_enter Tryz.func126, Tryz.ntmps126
 go_wp2_with (go_at_call 148; (with_reducible refine HT.out.mono ?_); rintro e w1 ⟨p1, c1, rfl, hr1, hb1⟩)
 have HR := Lib.hid hr1
 have HB1 := Lib.hid hb1
 have t0 : (0 : Int) <= (T.length : Int) := Int.natCast_nonneg _
 have ts0 : (0 : Int) <= (ts.length : Int) := Int.natCast_nonneg _
 clear hr1 hb1 HT
 go_loopw [6, 7] (fun u i wr => ∃ k : Nat, k <= ts.length /\ i = .int .i64 (k : Int) /\ Hid (Own wr w1.heap.size 9 encS 1 u (FS.take k) /\ Below w1.heap.size w1 wr)) (fun _ i _ => ts.length - (intOf i).toNat)
 case atStart => exact ⟨0, Nat.zero_le _, rfl, Own.nil _ _ _, Below.refl _ _⟩
 case round =>
  obtain ⟨k, hk, rfl, hH⟩ := hrel
  have hk0 : (0 : Int) <= (k : Int) := Int.natCast_nonneg _
  have HO := Lib.hid hH.out.1
  have HB := Lib.hid hH.out.2
  clear hH
  have HTL : Hid ((FS.take k).length = k) := by unfold Hid; rw [List.length_take, HFL.out]; omega
  obtain ⟨p0, c0, rfl⟩ : ∃ p c, u6 = Value.slice p k c := by
   obtain ⟨a, cap, h, _⟩ := HO.out.len
   rw [HTL.out] at h
   exact ⟨a, cap, h⟩
  by_cases hlt : k < ts.length
  ·have hks : (k : Int) < (ts.length : Int) := by omega
   by_cases hT0 : T.length = 0
   ·have hte : T = [] := List.length_eq_zero_iff.1 hT0
    subst hte
    go_wp2_with fail
    go_loopw [8] (fun i wq => i = .int .i64 0 /\ Below w1.heap.size w1 wq) (fun i _ => 0)
    case atStart => exact ⟨rfl, HB.out⟩
    case round =>
     obtain ⟨rfl, hbq⟩ := hrel
     go_wp2_with fail
     go_ret
     exact ⟨rfl, HB1.out.trans (hbq.mono HB1.out.size)⟩
   ·have hT1' : (0 : Int) < (T.length : Int) := by omega
    obtain ⟨x, hx⟩ : ∃ x, ts[k]? = some x := ⟨_, List.getElem?_eq_getElem hlt⟩
    obtain ⟨b1, o1, rfl, hb1', hc1⟩ := rd_at' (HV.out.below (HB1.out.trans (HB.out.mono HB1.out.size)) (Nat.le_refl _)) hx
    have f0 := hc1 0 _ rfl
    rw [Nat.add_zero] at f0
    try rw [Nat.mul_one] at f0
    have HTK : Hid (FS.take (k + 1) = FS.take k ++ [toB (foldL x.data.toList)]) := by
     unfold Hid
     rw [List.take_add_one, HFK.out k x hx]
     rfl
    have HF := Lib.hid (HF1.out k x hx)
    obtain ⟨X, hX⟩ : ∃ X, toB (foldL x.data.toList) = X := ⟨_, rfl⟩
    rw [hX] at HTK HF
    clear hX hx hc1
    go_wp2_with (first
     | (go_at_call 149; (with_reducible refine (HF.out _).mono ?_); rintro e w4 ⟨rfl, hb4⟩; (have HB4 : Hid (Below w1.heap.size w1 w4) := HB.out.trans (hb4.mono HB.out.size)); (have HOA : Hid (Own (w4.alloc (.cells #[.string X] 9)) w1.heap.size 9 encS 1 (.slice p0 k c0) (FS.take k)) := (HO.out.below hb4 (Nat.le_refl _)).alloc _); (have HRB : Hid (Rd (w4.alloc (.cells #[.string X] 9)) (w4.heap.size + 1) encS 1 (.slice (some ⟨w4.heap.size, 0, none⟩) 1 1) [X]) := Rd.block (xs := [X]) codecS (heap_alloc_at rfl) rfl (Nat.lt_succ_self _) (show 1 <= maxLen by decide)); (have HBS : Hid (w1.heap.size <= (w4.alloc (.cells #[.string X] 9)).heap.size) := (by have := HB4.out.size; unfold Hid; rw [World.size_alloc]; omega)))
     | (at_builtin; refine wpList_append_rd slS codecS _ rfl _ _ rfl rfl rfl HOA.out HRB.out (by have := HTL.out; simp only [List.length_singleton]; unfold maxLen; omega) (by have := HTL.out; simp only [List.length_singleton]; omega) HBS.out ?_; intro v5 w5 ho5 hg5 hat5; (have HO5 := Lib.hid ho5); (have HB5 := Lib.hid (Below.appended (HB4.out.alloc HB4.out.size _) hg5 HOA.out HBS.out)); clear ho5 hg5 hat5))
    go_roundw
    case rel => exact ⟨k + 1, by omega, by go_num, by rw [HTK.out]; exact HO5.out, HB5.out⟩
    case measure => simp [intOf]; omega
  ·obtain rfl : k = ts.length := by omega
   have HRF : Hid (Rd wr wr.heap.size encS 1 (.slice p0 ts.length c0) FS) := by
    have h := HO.out.rd codecS
    rw [List.take_of_length_le (by have := HFL.out; omega)] at h
    exact h
   clear HO HTL HF1
   obtain ⟨wa, rfl⟩ : ∃ wa : World, wa = wr := ⟨_, rfl⟩
   go_wp2_with fail
   go_loopw [8] (fun i wq => ∃ j : Nat, j <= T.length /\ i = .int .i64 (j : Int) /\ Hid (∀ (m : Nat) y, m < j -> T[m]? = some y -> anyS (fun s => hasF s.data.toList y.data.toList) ts = true) /\ Hid (Below wa.heap.size wa wq)) (fun i _ => T.length - (intOf i).toNat)
   case atStart => exact ⟨0, Nat.zero_le _, rfl, fun m y h => by omega, Below.refl _ _⟩
   case round =>
    obtain ⟨j, hj, rfl, HYES, HBJ⟩ := hrel
    have hj0 : (0 : Int) <= (j : Int) := Int.natCast_nonneg _
    by_cases hjt : j < T.length
    ·have hj1 : (j : Int) < (T.length : Int) := by omega
     obtain ⟨y, hy⟩ : ∃ y, T[j]? = some y := ⟨_, List.getElem?_eq_getElem hjt⟩
     have HY := Lib.hid hy
     have HFY := Lib.hid (HF2.out j y hy)
     have HPB : Hid (∀ (i : Nat) x, ts[i]? = some x -> ∀ W, Calls Tryz.prog 150 #[.string (toB (foldL x.data.toList)), .string (toB (foldL y.data.toList))] W fun e w' => e = .returned (.bool (hasF x.data.toList y.data.toList)) /\ W = w') := fun i x hx W => HIN.out i x hx j y hy W
     clear hy
     obtain ⟨wb, rfl⟩ : ∃ wb : World, wb = wr := ⟨_, rfl⟩
     obtain ⟨Y, hYY⟩ : ∃ Y, toB (foldL y.data.toList) = Y := ⟨_, rfl⟩
     rw [hYY] at HFY HPB
     clear hYY
     go_wp2_with fail
     go_loopw [9, 10] (fun s i wq => ∃ (b : Bool) (k : Nat), k <= ts.length /\ s = .bool b /\ i = .int .i64 (k : Int) /\ Hid (anyS (fun s => hasF s.data.toList y.data.toList) (ts.take k) = b) /\ Hid (Below wb.heap.size wb wq)) (fun _ i _ => ts.length - (intOf i).toNat)
     case atStart => exact ⟨false, 0, Nat.zero_le _, rfl, rfl, rfl, Below.refl _ _⟩
     case round =>
      obtain ⟨b, k, hk, rfl, rfl, HAN, HBK⟩ := hrel
      have hk0 : (0 : Int) <= (k : Int) := Int.natCast_nonneg _
      have HBA : Hid (Below wa.heap.size wa wr) := HBJ.out.trans (HBK.out.mono HBJ.out.size)
      by_cases hkl : k < ts.length
      ·have hk1 : (k : Int) < (ts.length : Int) := by omega
       cases b with
       | true =>
         have HYT := Lib.hid (anyS_some HAN.out)
         go_wp2_with fail
         go_roundw
         case rel =>
          refine ⟨j + 1, by omega, by go_num, ?_, HBA.out⟩
          intro m z hm hz
          by_cases e : m = j
          ·subst e
           have h2 := HY.out
           rw [hz] at h2
           cases h2
           exact HYT.out
          ·exact HYES.out m z (by omega) hz
         case measure => simp [intOf]; omega
       | false =>
         obtain ⟨x, hx⟩ : ∃ x, ts[k]? = some x := ⟨_, List.getElem?_eq_getElem hkl⟩
         have HPX := Lib.hid (HPB.out k x hx)
         have HST := Lib.hid (anyS_step HAN.out hx)
         have hfx := HFK.out k x hx
         obtain ⟨XF, hXF⟩ : ∃ Y, toB (foldL x.data.toList) = Y := ⟨_, rfl⟩
         rw [hXF] at HPX hfx
         obtain ⟨R, hR⟩ : ∃ Y, hasF x.data.toList y.data.toList = Y := ⟨_, rfl⟩
         rw [hR] at HPX
         have HST2 : Hid (anyS (fun s => hasF s.data.toList y.data.toList) (ts.take (k + 1)) = R) := HST.out.trans hR
         obtain ⟨b1, o1, rfl, hb1', hc1⟩ := rd_at' (HRF.out.below HBA.out (Nat.le_refl _)) hfx
         obtain ⟨b2, o2, rfl, hb2', hc2⟩ := rd_at' (HR.out.below (HB.out.trans (HBA.out.mono HB.out.size)) (Nat.le_refl _)) HY.out
         have f0 := hc1 0 _ rfl
         have g0 := hc2 0 _ rfl
         rw [Nat.add_zero] at f0 g0
         try rw [Nat.mul_one] at f0
         try rw [Nat.mul_one] at g0
         have hzf := (cell_some f0).2
         clear hx hfx hXF hR hc1 hc2 HST HAN
         go_upto_region 14 with fail
         go_region_with (first
          | (go_at_call 149; (with_reducible refine (HFY.out _).mono ?_); rintro e w4 ⟨rfl, hb4⟩; (have f1 := bcs hb4 hzf f0))
          | (go_at_call 150; (with_reducible refine (HPX.out _).mono ?_); rintro e w5 ⟨rfl, rfl⟩))
         all_goals
          go_wp2_with fail
          go_roundw
          case rel => exact ⟨R, k + 1, by omega, rfl, by go_num, HST2.out, HBK.out.drew.trans (hb4.mono HBK.out.size)⟩
          case measure => simp [intOf]; omega
      ·obtain rfl : k = ts.length := by omega
       have HAE : Hid (anyS (fun s => hasF s.data.toList y.data.toList) ts = b) := by
        have h := HAN.out
        rw [List.take_length] at h
        exact h
       cases b with
       | true =>
         go_wp2_with fail
         go_roundw
         case rel =>
          refine ⟨j + 1, by omega, by go_num, ?_, HBA.out⟩
          intro m z hm hz
          by_cases e : m = j
          ·subst e
           have h2 := HY.out
           rw [hz] at h2
           cases h2
           exact HAE.out
          ·exact HYES.out m z (by omega) hz
         case measure => simp [intOf]; omega
       | false =>
         have HNO := Lib.hid (all_no (p := fun t => anyS (fun s => hasF s.data.toList t.data.toList) ts) HY.out HAE.out)
         go_wp2_with fail
         go_ret
         exact ⟨ret_boolI HNO.out.symm, HB1.out.trans ((HB.out.trans (HBA.out.mono HB.out.size)).mono HB1.out.size)⟩
    ·obtain rfl : j = T.length := by omega
     have HF := Lib.hid (all_yes (p := fun t => anyS (fun s => hasF s.data.toList t.data.toList) ts) (l := T) (fun m y hy => HYES.out m y (List.getElem?_eq_some_iff.1 hy).1 hy))
     go_wp2_with fail
     go_ret
     exact ⟨ret_boolI HF.out.symm, HB1.out.trans ((HB.out.trans (HBJ.out.mono HB.out.size)).mono HB1.out.size)⟩
end
end Go.Proofs.YtffhccmppdgmfaaGreatDoor
