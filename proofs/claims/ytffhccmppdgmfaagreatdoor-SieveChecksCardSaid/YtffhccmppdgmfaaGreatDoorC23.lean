import Derived.Test.YtffhccmppdgmfaaGreatDoorC18
set_option linter.unusedSimpArgs false
set_option linter.unusedVariables false
set_option maxRecDepth 200000
set_option maxHeartbeats 8000000
namespace Go.Proofs.YtffhccmppdgmfaaGreatDoor
section
open Go Go.RowKit Go.OpenShut
theorem askV_yes {n : ByteArray} (h : askB n = true) : ∃ k, askV n = some (fnV k) := by
 unfold askV
 repeat' split
 all_goals first | exact ⟨_, rfl⟩ | skip
 rename_i h1 h2 h3 h4 h5 h6 h7 h8
 unfold askB stampB at h
 simp [h1, h2, h3, h4, h5, h6, h7, h8] at h
theorem askV_no {n : ByteArray} (h : askB n = false) : askV n = none := by
 unfold askB stampB at h
 simp only [Bool.or_eq_false_iff, decide_eq_false_iff_not] at h
 obtain ⟨h1, h2, h3, h4, h5, h6, h7, h8⟩ := h
 unfold askV
 rw [if_neg h8, if_neg h7, if_neg h6, if_neg h5, if_neg h4, if_neg h3, if_neg h2, if_neg h1]
theorem func_some (k : Nat) (w : World) : (binOp BinOp.eql 133 (.func (.func k) #[] #[]) .nilFunc).run Tryz.prog w = .ok (.bool false) w := by kernel_rfl
theorem func_nil (w : World) : (binOp BinOp.eql 133 .nilFunc .nilFunc).run Tryz.prog w = .ok (.bool true) w := by kernel_rfl
theorem rightC_of (n : ByteArray) (x : JV) : rightC n x = ((decide (x.k = 4) && (decide (x.s.size <= 255) && (decide (x.s.size <= 64) || !isFieldB n))) && ((!decide (n = svInBook) || idB x.s) && (!stampB n || (secF x.s.data.toList).isSome))) := by
 unfold rightC
 cases decide (x.k = 4) <;> cases decide (x.s.size <= 255) <;> cases decide (x.s.size <= 64) <;> cases isFieldB n <;> rfl
theorem cond_any (name : ByteArray) (x : JV) (r : RV) (hk : r.k = x.k) (hs : r.s = x.s) (hsn : name.size <= maxLen) (hss : x.s.size <= maxLen) (w : World) (hall : AllAt w) :
 Calls Tryz.prog 87 #[RM.val ⟨name, r⟩] w fun e w' => e = .returned (.int .i64 (condE name x)) /\ Below w.heap.size w w' := by
 obtain ⟨k, n, s, pl, nl, cl, pm, nm, cm⟩ := r
 dsimp only [RM.val] at *
 subst hk hs
 have hh : (w.alloc (.cells #[.string name, .int .i64 x.k, .int .i64 n, .string x.s, .slice pl nl cl, .slice pm nm cm] 32)).heap[w.heap.size]? = some (.cells #[.string name, .int .i64 x.k, .int .i64 n, .string x.s, .slice pl nl cl, .slice pm nm cm] 32) := heap_alloc_at rfl
 have hb0 : Below w.heap.size w (w.alloc (.cells #[.string name, .int .i64 x.k, .int .i64 n, .string x.s, .slice pl nl cl, .slice pm nm cm] 32)) := (Below.refl _ _).alloc (Nat.le_refl _) _
 have HFI : Hid (∀ W, Below w.heap.size w W -> Calls Tryz.prog 114 #[.string name] W fun e w' => e = .returned (.bool (isFieldB name)) /\ W = w') := fun W hW => field_is name W (hall.below hW)
 have HID : Hid (∀ W, Calls Tryz.prog 115 #[.string x.s] W fun e w' => e = .returned (.bool (idB x.s)) /\ w' = W) := fun W => identIs_any x.s W hss
 have HST : Hid (∀ W, Calls Tryz.prog 116 #[.string x.s] W fun e w' => e = .returned (.bool (secF x.s.data.toList).isSome) /\ Below W.heap.size W w') := fun W => stampIs_any x.s W hss
 have HAV : Hid (∀ W b, AsksAt W b -> (Instr.lookup 131 (.map (some b)) (.string name) false).run Tryz.prog W = .ok ((askV name).getD .nilFunc) W) := fun W b h => h.look hsn
 have HAY : Hid (askB name = true -> ∃ k, askV name = some (fnV k)) := askV_yes
 have HAN : Hid (askB name = false -> askV name = none) := askV_no
 have HE : Hid (condE name x = if askB name || isFieldB name then (if ((decide (x.k = 4) && (decide (x.s.size <= 255) && (decide (x.s.size <= 64) || !isFieldB name))) && ((!decide (name = svInBook) || idB x.s) && (!stampB name || (secF x.s.data.toList).isSome))) then 0 else 1) else 200) := by
  unfold Hid
  rw [<- rightC_of]
  rfl
 obtain ⟨E, hE⟩ : ∃ E, condE name x = E := ⟨_, rfl⟩
 obtain ⟨A, hA⟩ : ∃ A, askB name = A := ⟨_, rfl⟩
 obtain ⟨F, hF⟩ : ∃ A, isFieldB name = A := ⟨_, rfl⟩
 obtain ⟨I, hI⟩ : ∃ A, idB x.s = A := ⟨_, rfl⟩
 obtain ⟨T, hT⟩ : ∃ A, (secF x.s.data.toList).isSome = A := ⟨_, rfl⟩
 obtain ⟨av, hav⟩ : ∃ a, askV name = a := ⟨_, rfl⟩
 rw [hE, hA, hF, hI, hT] at HE
 rw [hE]
 rw [hF] at HFI
 rw [hI] at HID
 rw [hT] at HST
 rw [hA] at HAY HAN
 rw [hav] at HAV HAY HAN
 obtain ⟨K, hK⟩ : ∃ K, x.k = K := ⟨_, rfl⟩
 obtain ⟨S, hS⟩ : ∃ S, x.s = S := ⟨_, rfl⟩
 rw [hK, hS] at HE hh hb0
 rw [hS] at HID HST
 rw [hK, hS]
 obtain ⟨W0, hW0⟩ : ∃ W, w.alloc (.cells #[.string name, .int .i64 K, .int .i64 n, .string S, .slice pl nl cl, .slice pm nm cm] 32) = W := ⟨_, rfl⟩
 rw [hW0] at hh hb0
 have HB0 := Lib.hid hb0
 have hw0 := hb0.size
 have hz := (Array.getElem?_eq_some_iff.1 hh).1
 have a0 : W0.cell? ⟨w.heap.size, 0, none⟩ = some (.string name) := (cell_of_row W0 w.heap.size 0 _ _ _ hh).trans rfl
 have a1 : W0.cell? ⟨w.heap.size, 1, none⟩ = some (.int .i64 K) := (cell_of_row W0 w.heap.size 1 _ _ _ hh).trans rfl
 have a3 : W0.cell? ⟨w.heap.size, 3, none⟩ = some (.string S) := (cell_of_row W0 w.heap.size 3 _ _ _ hh).trans rfl
 have hsz : (0 : Int) <= (S.size : Int) := Int.natCast_nonneg _
 clear hh hb0 hE hA hF hI hT hav hK hS hall hss
 go_enter Tryz.func87, Tryz.ntmps87
 go_upto_region 1 with fail
 try rw [hW0]
 clear hW0
 have hb00 : Below W0.heap.size W0 W0.drew := (Below.refl _ _).drew
 have HF0 : Hid (∀ W, Below W0.heap.size W0 W -> Calls Tryz.prog 114 #[.string name] W fun e w' => e = .returned (.bool F) /\ W = w') := fun W hW => HFI.out W (HB0.out.trans (hW.mono hw0))
 go_cut [14] from 4 to 14 (fun v wx => v = .bool (!A && !F) /\ Hid (Below W0.heap.size W0 wx))
 case first =>
  cases A with
  | true =>
    obtain ⟨kk, hkk⟩ := HAY.out rfl
    rw [hkk] at HAV
    unfold fnV at HAV
    dsimp only [Option.getD] at HAV
    clear hkk HAY HAN
    have hfs := func_some
    first
     | (go_region_with
      (first
       | (go_at_call 93
          (with_reducible refine (asks_any _).mono ?_)
          rintro e w1 ⟨b, rfl, hA1, hlb, hb1'⟩
          have hb1 : Below W0.heap.size W0 w1 := hb00.trans hb1'
          have hlk := HAV.out w1 b hA1
          have c0 := bcs hb1 hz a0)
       | fail))
     | fail
    all_goals go_wp2_with fail
    all_goals go_meet
    all_goals exact ⟨rfl, hb1⟩
  | false =>
    rw [HAN.out rfl] at HAV
    dsimp only [Option.getD] at HAV
    clear HAY HAN
    have hfs := func_nil
    go_region_law
     (first
      | (go_simp; go_at_call 93
         (with_reducible refine (asks_any _).mono ?_)
         rintro e w1 ⟨b, rfl, hA1, hlb, hb1'⟩
         have hb1 : Below W0.heap.size W0 w1 := hb00.trans hb1'
         have hlk := HAV.out w1 b hA1
         have c0 := bcs hb1 hz a0)
      | (go_simp; go_at_call 114
         (with_reducible refine (HF0.out _ hb1).mono ?_)
         rintro e w2 ⟨rfl, rfl⟩)
      | fail)
    all_goals go_wp2_with fail
    all_goals go_meet
    all_goals exact ⟨rfl, hb1⟩
 case rest =>
 obtain ⟨rfl, HB1⟩ := hcut
 obtain ⟨W1, rfl⟩ : ∃ W, W = wc := ⟨_, rfl⟩
 have c0 := bcs HB1.out hz a0
 have c1 := bcs HB1.out hz a1
 have c3 := bcs HB1.out hz a3
 have hz1 := Nat.lt_of_lt_of_le hz HB1.out.size
 have HBW : Hid (Below w.heap.size w W1) := HB0.out.trans (HB1.out.mono hw0)
 have hw1 := HBW.out.size
 have HF1 : Hid (Calls Tryz.prog 114 #[.string name] W1 fun e w' => e = .returned (.bool F) /\ W1 = w') := HFI.out W1 HBW.out
 clear a0 a1 a3 hz HF0 HAV HAY HAN HFI hb00 HB1 HB0
 by_cases hAF : (A || F) = true
 ·have hn : (!A && !F) = false := by revert hAF; cases A <;> cases F <;> decide
  rw [hn]
  obtain ⟨k4, hk4⟩ : ∃ b, decide (K = 4) = b := ⟨_, rfl⟩
  obtain ⟨c255, h255⟩ : ∃ b, decide (S.size <= 255) = b := ⟨_, rfl⟩
  obtain ⟨c64, h64⟩ : ∃ b, decide (S.size <= 64) = b := ⟨_, rfl⟩
  have q4 : (K == 4) = k4 := by rw [<- hk4]; rfl
  have q255 : decide ((S.size : Int) <= 255) = c255 := by rw [<- h255]; exact decide_eq_decide.2 (by omega)
  have q64 : decide ((S.size : Int) <= 64) = c64 := by rw [<- h64]; exact decide_eq_decide.2 (by omega)
  have q255' : decide (S.size <= 255) = c255 := h255
  have q64' : decide (S.size <= 64) = c64 := h64
  have HE1 : Hid (E = if ((k4 && (c255 && (c64 || !F))) && ((!decide (name = svInBook) || I) && (!stampB name || T))) then 0 else 1) := by
   unfold Hid
   rw [HE.out, if_pos hAF, hk4, h255, h64]
  clear hk4 h255 h64 hAF HE hn
  go_upto_region 3 with fail
  go_cut [3] from 15 to 38 (fun v wx => v = .bool (k4 && (c255 && (c64 || !F))) /\ W1 = wx)
  case first =>
   cases k4 <;> cases c255 <;> cases c64
   all_goals
    go_wp2_with (go_at_call 114; (with_reducible refine HF1.out.mono ?_); rintro e w2 ⟨rfl, rfl⟩)
    go_meet
    exact ⟨rfl, rfl⟩
  case rest =>
  obtain ⟨rfl, rfl⟩ := hcut
  obtain ⟨R, hR⟩ : ∃ R, (k4 && (c255 && (c64 || !F))) = R := ⟨_, rfl⟩
  rw [hR] at HE1 ⊢
  clear hR q4 q255 q64 q255' q64' HF1
  have HID1 := Lib.hid (HID.out W1)
  have HST1 := Lib.hid (HST.out W1)
  clear HID HST
  by_cases h1 : name = svInBook
  ·have HE2 : Hid (E = if R && I then 0 else 1) := by
    unfold Hid
    rw [HE1.out, h1]
    cases R <;> cases I <;> rfl
   subst h1
   unfold svInBook at c0 ⊢
   clear HE1
   cases R <;> cases I
   all_goals
    go_wp2_with (go_at_call 115; (with_reducible refine HID1.out.mono ?_); rintro e w2 ⟨rfl, rfl⟩)
    go_ret
    exact ⟨by rw [HE2.out]; rfl, HBW.out⟩
  by_cases h2 : stampB name = true
  ·have HE2 : Hid (E = if R && T then 0 else 1) := by
    unfold Hid
    rw [HE1.out, decide_eq_false h1, h2]
    cases R <;> cases T <;> rfl
   have h3 : name = svCrBef \/ name = svCrAft \/ name = svUpBef \/ name = svUpAft := by
    unfold stampB at h2
    simpa using h2
   clear h1 h2 HE1
   rcases h3 with rfl | rfl | rfl | rfl
   all_goals
    try unfold svCrBef at *
    try unfold svCrAft at *
    try unfold svUpBef at *
    try unfold svUpAft at *
    cases R <;> cases T
   all_goals
    go_wp2_with (go_at_call 116; (with_reducible refine HST1.out.mono ?_); rintro e w2 ⟨rfl, hb2⟩)
    go_ret
    first
     | exact ⟨by rw [HE2.out]; rfl, HBW.out.trans (hb2.mono hw1)⟩
     | exact ⟨by rw [HE2.out]; rfl, HBW.out⟩
  ·have HE2 : Hid (E = if R then 0 else 1) := by
    unfold Hid
    rw [HE1.out, decide_eq_false h1, Bool.eq_false_iff.2 h2]
    cases R <;> rfl
   unfold stampB at h2
   simp only [Bool.or_eq_true, decide_eq_true_eq, not_or] at h2
   obtain ⟨n2, n3, n4, n5⟩ := h2
   have q1 : (name.toList == [105, 110, 65, 100, 100, 114, 101, 115, 115, 66, 111, 111, 107]) = false := by rw [<- bytes_dec]; exact decide_eq_false h1
   have q2 : (name.toList == [99, 114, 101, 97, 116, 101, 100, 66, 101, 102, 111, 114, 101]) = false := by rw [<- bytes_dec]; exact decide_eq_false n2
   have q3 : (name.toList == [99, 114, 101, 97, 116, 101, 100, 65, 102, 116, 101, 114]) = false := by rw [<- bytes_dec]; exact decide_eq_false n3
   have q4 : (name.toList == [117, 112, 100, 97, 116, 101, 100, 66, 101, 102, 111, 114, 101]) = false := by rw [<- bytes_dec]; exact decide_eq_false n4
   have q5 : (name.toList == [117, 112, 100, 97, 116, 101, 100, 65, 102, 116, 101, 114]) = false := by rw [<- bytes_dec]; exact decide_eq_false n5
   clear h1 n2 n3 n4 n5 HE1
   cases R
   all_goals
    go_wp2_with fail
    go_ret
    exact ⟨by rw [HE2.out]; rfl, HBW.out⟩
 ·have hn : (!A && !F) = true := by revert hAF; cases A <;> cases F <;> decide
  have HE2 : Hid (E = 200) := by unfold Hid; rw [HE.out, if_neg hAF]
  rw [hn]
  clear hAF HE hn
  go_wp2_with fail
  go_ret
  exact ⟨by rw [HE2.out]; rfl, HBW.out⟩
end
end Go.Proofs.YtffhccmppdgmfaaGreatDoor
