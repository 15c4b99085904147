import Derived.Test.YtffhccmppdgmfaaGreatDoorD20
import Derived.Test.YtffhccmppdgmfaaGreatDoorD21
import Derived.Test.YtffhccmppdgmfaaGreatDoorD29
import Derived.Test.YtffhccmppdgmfaaGreatDoorD13
set_option linter.unusedSimpArgs false
set_option linter.unusedVariables false
set_option maxRecDepth 200000
set_option maxHeartbeats 8000000
namespace Go.Proofs.YtffhccmppdgmfaaGreatDoor
section
open Go Go.RowKit Go.OpenShut
theorem sieveHolds_any (f v : JV) (r q : RV) (nm : ByteArray) (w : World) (hf : TreeOf w w.heap.size f r) (of : f.Ok) (hv : TreeOf w w.heap.size v q) (ov : v.Ok) (hall : AllAt w) (hmax : MaxAt w) :
 Calls Tryz.prog 5 #[r.val, q.val, .string nm] w fun e w' => e = .returned (.bool true) /\ Below w.heap.size w w' := by
 obtain ⟨W0, hW0⟩ : ∃ W0, (w.alloc (.cells #[.int .i64 r.k, .int .i64 r.n, .string r.s, .slice r.pl r.nl r.cl, .slice r.pm r.nm r.cm] 25)).alloc (.cells #[.int .i64 q.k, .int .i64 q.n, .string q.s, .slice q.pl q.nl q.cl, .slice q.pm q.nm q.cm] 25) = W0 := ⟨_, rfl⟩
 have hA0 : VAt W0 w.heap.size r := by rw [<- hW0]; exact heap_alloc_lt (by simp) (heap_alloc_at rfl)
 have hC0 : VAt W0 (w.heap.size + 1) q := by rw [<- hW0]; exact heap_alloc_at (by simp)
 have hB0 : Below w.heap.size w W0 := by rw [<- hW0]; exact below2 w _ _
 have hw0 := hB0.size
 have hf0 : TreeOf W0 W0.heap.size f r := hf.under hB0 hw0
 have hv0 : TreeOf W0 W0.heap.size v q := hv.under hB0 hw0
 have hall0 := hall.below hB0
 have hmax0 := hmax.below hB0
 have HVA : Hid (∀ W, Below W0.heap.size W0 W -> VAt W w.heap.size r) := fun W hb => hA0.under hb hA0.lt
 have HVC : Hid (∀ W, Below W0.heap.size W0 W -> VAt W (w.heap.size + 1) q) := fun W hb => hC0.under hb hC0.lt
 have HAW : Hid (∀ W, Below W0.heap.size W0 W -> Calls Tryz.prog 17 #[] W fun e w' => e = .returned (.bool true) /\ Below W.heap.size W w') := fun W hb => awake20_any W (hall0.below hb) (hmax0.below hb)
 have HF : Hid (∀ W, Below W0.heap.size W0 W -> Calls Tryz.prog 21 #[r.val, q.val] W fun e w' => ∃ b : Bool, e = .returned (.bool b) /\ Hid (b = true -> (OwnN f /\ countT f <= 300) /\ OwnN v /\ countT v <= 800) /\ Below W.heap.size W w') := fun W hb => few20_any f v r q W (hf0.under hb hb.size) of (hv0.under hb hb.size) ov
 have HLF : Hid (∀ W, Below W0.heap.size W0 W -> Calls Tryz.prog 22 #[r.val, .int .i64 2000] W fun e w' => ∃ b : Bool, e = .returned (.bool b) /\ Hid (b = true -> sizeT f <= 2000) /\ Below W.heap.size W w') := fun W hb => light20_any f r 2000 W (by decide) (hf0.under hb hb.size) of
 have HLV : Hid (∀ W, Below W0.heap.size W0 W -> Calls Tryz.prog 22 #[q.val, .int .i64 8000] W fun e w' => ∃ b : Bool, e = .returned (.bool b) /\ Hid (b = true -> sizeT v <= 8000) /\ Below W.heap.size W w') := fun W hb => light20_any v q 8000 W (by decide) (hv0.under hb hb.size) ov
 have HSH : Hid (((OwnN f /\ countT f <= 300) /\ OwnN v /\ countT v <= 800) -> sizeT v <= 8000 -> ∀ W, Below W0.heap.size W0 W -> Calls Tryz.prog 23 #[r.val, q.val] W fun e w' => e = .returned (.bool (holdsJ f v)) /\ Below W.heap.size W w') := fun h1 h2 W hb => svHolds_any f v r q W W0.heap.size hb.size (hf0.under hb (Nat.le_refl _)) (hv0.under hb (Nat.le_refl _)) of ov (by omega) (by omega) (by omega) (fun h => h1.1.1.2 (by rw [h]; decide)) (hall0.below hb) (hmax0.below hb)
 have HRH : Hid (((OwnN f /\ countT f <= 300) /\ OwnN v /\ countT v <= 800) -> sizeT v <= 8000 -> ∀ W, Below W0.heap.size W0 W -> Calls Tryz.prog 24 #[r.val, q.val] W fun e w' => e = .returned (.bool (holdsJ f v)) /\ Below W.heap.size W w') := fun h1 h2 W hb => rHolds_any f v r q W W0.heap.size hb.size (hf0.under hb (Nat.le_refl _)) (hv0.under hb (Nat.le_refl _)) of ov (by omega) (by omega) (fun h => h1.1.1.2 (by rw [h]; decide))
 have HST : Hid (countT v <= 800 -> ∀ W, Below W0.heap.size W0 W -> Calls Tryz.prog 26 #[q.val, .string nm] W (OwnRet W 9 encS 1 (textsJ v nm))) := fun h1 W hb => svtexts_any v q nm W W0.heap.size hb.size (hv0.under hb (Nat.le_refl _)) ov (by omega) (hall0.below hb)
 have HRT : Hid (countT v <= 800 -> ∀ W, Below W0.heap.size W0 W -> Calls Tryz.prog 27 #[q.val, .string nm] W (OwnRet W 9 encS 1 (textsJ v nm))) := fun h1 W hb => rtexts_any v q nm W W0.heap.size hb.size (hv0.under hb (Nat.le_refl _)) ov (by omega)
 obtain ⟨E, hE⟩ : ∃ E, holdsJ f v = E := ⟨_, rfl⟩
 obtain ⟨T, hT⟩ : ∃ E, textsJ v nm = E := ⟨_, rfl⟩
 rw [hE] at HSH HRH
 rw [hT] at HST HRT
 obtain ⟨c0, c1, c2, c3, c4⟩ := hA0.cells5
 obtain ⟨d0, d1, d2, d3, d4⟩ := hC0.cells5
 have HB0 := Lib.hid hB0
 have hb0 : Below W0.heap.size W0 W0 := Below.refl _ _
 clear hf hv of ov hall hmax hA0 hC0 hf0 hv0 hall0 hmax0 hE hT hB0
 go_enter Tryz.func5, Tryz.ntmps5
 go_upto_region 1 with fail
 try rw [hW0]
 clear hW0
 go_wp2_with (first
  | (go_at_call 17; (first
   | ((with_reducible refine (HAW.out _ hb4).mono ?_); rintro e w9 ⟨rfl, hbE⟩; (have hb9 := hb4.trans (hbE.mono hb4.size)))
   | ((with_reducible refine (HAW.out _ hb3).mono ?_); rintro e w9 ⟨rfl, hbE⟩; (have hb9 := hb3.trans (hbE.mono hb3.size)))
   | ((with_reducible refine (HAW.out _ hb2).mono ?_); rintro e w9 ⟨rfl, hbE⟩; (have hb9 := hb2.trans (hbE.mono hb2.size)))
   | ((with_reducible refine (HAW.out _ hb0).mono ?_); rintro e w1 ⟨rfl, hbA⟩; (have hb1 := hb0.trans (hbA.mono hb0.size)); (have hA1 := HVA.out _ hb1); (have hC1 := HVC.out _ hb1); (obtain ⟨c0, c1, c2, c3, c4⟩ := hA1.cells5); (obtain ⟨d0, d1, d2, d3, d4⟩ := hC1.cells5); clear hA1 hC1)))
  | (go_at_call 21; refine (HF.out _ hb1).mono ?_; rintro e w2 ⟨b1, rfl, HL1, hbB⟩; (have hb2 := hb1.trans (hbB.mono hb1.size)); (have hA2 := HVA.out _ hb2); (have hC2 := HVC.out _ hb2); (obtain ⟨c0, c1, c2, c3, c4⟩ := hA2.cells5); (obtain ⟨d0, d1, d2, d3, d4⟩ := hC2.cells5); clear hA2 hC2; cases b1)
  | (go_at_call 22; refine (HLF.out _ hb2).mono ?_; rintro e w3 ⟨b2, rfl, HL2, hbC⟩; (have hb3 := hb2.trans (hbC.mono hb2.size)); (have hA3 := HVA.out _ hb3); (have hC3 := HVC.out _ hb3); (obtain ⟨c0, c1, c2, c3, c4⟩ := hA3.cells5); (obtain ⟨d0, d1, d2, d3, d4⟩ := hC3.cells5); clear hA3 hC3; cases b2)
  | (go_at_call 22; refine (HLV.out _ hb3).mono ?_; rintro e w4 ⟨b3, rfl, HL3, hbD⟩; (have hb4 := hb3.trans (hbD.mono hb3.size)); (have hA4 := HVA.out _ hb4); (have hC4 := HVC.out _ hb4); (obtain ⟨c0, c1, c2, c3, c4⟩ := hA4.cells5); (obtain ⟨d0, d1, d2, d3, d4⟩ := hC4.cells5); clear hA4 hC4; cases b3))
 ·go_ret
  exact ⟨rfl, HB0.out.trans (hb9.mono hw0)⟩
 ·go_ret
  exact ⟨rfl, HB0.out.trans (hb9.mono hw0)⟩
 ·go_ret
  exact ⟨rfl, HB0.out.trans (hb9.mono hw0)⟩
 have HSH2 := Lib.hid (HSH.out (HL1.out (by trivial)) (HL3.out (by trivial)))
 have HRH2 := Lib.hid (HRH.out (HL1.out (by trivial)) (HL3.out (by trivial)))
 have HST2 := Lib.hid (HST.out (HL1.out (by trivial)).2.2)
 have HRT2 := Lib.hid (HRT.out (HL1.out (by trivial)).2.2)
 obtain ⟨Wb, rfl⟩ : ∃ W, W = w4 := ⟨_, rfl⟩
 have HSH3 : Hid (∀ W, Below Wb.heap.size Wb W -> Calls Tryz.prog 23 #[r.val, q.val] W fun e w' => e = .returned (.bool E) /\ Below W.heap.size W w') := fun W hb => HSH2.out W (hb4.trans (hb.mono hb4.size))
 have HRH3 : Hid (∀ W, Below Wb.heap.size Wb W -> Calls Tryz.prog 24 #[r.val, q.val] W fun e w' => e = .returned (.bool E) /\ Below W.heap.size W w') := fun W hb => HRH2.out W (hb4.trans (hb.mono hb4.size))
 have HST3 : Hid (∀ W, Below Wb.heap.size Wb W -> Calls Tryz.prog 26 #[q.val, .string nm] W (OwnRet W 9 encS 1 T)) := fun W hb => HST2.out W (hb4.trans (hb.mono hb4.size))
 have HRT3 : Hid (∀ W, Below Wb.heap.size Wb W -> Calls Tryz.prog 27 #[q.val, .string nm] W (OwnRet W 9 encS 1 T)) := fun W hb => HRT2.out W (hb4.trans (hb.mono hb4.size))
 have HBW := Lib.hid (HB0.out.trans (hb4.mono hw0))
 have hza : w.heap.size < Wb.heap.size := Nat.lt_of_lt_of_le (by have := (HVA.out _ (Below.refl _ _)).lt; omega) hb4.size
 have hzc : w.heap.size + 1 < Wb.heap.size := Nat.lt_of_lt_of_le (by have := (HVC.out _ (Below.refl _ _)).lt; omega) hb4.size
 have hk0 := KB.drew Wb
 clear HSH HRH HST HRT HL1 HL2 HL3 HF HLF HLV HAW HSH2 HRH2 HST2 HRT2 HVA HVC hb0 hb1 hb2 hb3 hb4 hbA hbB hbC hbD
 cases E
 all_goals
  go_region_held3 (fun w' => Below Wb.heap.size Wb w' /\ ∀ b o, b < Wb.heap.size -> w'.cell? ⟨b, o, none⟩ = Wb.cell? ⟨b, o, none⟩)
   (first | with_reducible exact kt_drew Wb | with_reducible exact kt_same hbk)
   (first
    | (go_at_call 23; (with_reducible refine (HSH3.out _ (kbB (by assumption))).mono ?_); rintro e w5 ⟨rfl, hb5⟩; (have hbk := KB.step (W := Wb) (by assumption) hb5))
    | (go_at_call 24; (with_reducible refine (HRH3.out _ (kbB (by assumption))).mono ?_); rintro e w6 ⟨rfl, hb6⟩; (have hbk := KB.step (W := Wb) (by assumption) hb6))
    | (go_at_call 26; (with_reducible refine (HST3.out _ (kbB (by assumption))).mono ?_); rintro e w7 ⟨u7, rfl, ho7, hb7⟩; (have hbk := KB.step (W := Wb) (by assumption) hb7))
    | (go_at_call 27; (with_reducible refine (HRT3.out _ (kbB (by assumption))).mono ?_); rintro e w8 ⟨u8, rfl, ho8, hb8⟩; (have hbk := KB.step (W := Wb) (by assumption) hb8))
    | (go_at_call 25; first
     | ((with_reducible refine (sameP_yes20 _ _ _ _ T ((ho7.rd codecS).below hb8 hb8.size) (ho8.rd codecS)).mono ?_); rintro e w9 ⟨rfl, n9, rfl⟩; (have hbk := KB.mk (bdn hbk.1 n9)))
     | ((with_reducible refine (sameP_yes20 _ _ _ _ T (ho7.rd codecS) ((ho8.rd codecS).below hb7 hb7.size)).mono ?_); rintro e w9 ⟨rfl, n9, rfl⟩; (have hbk := KB.mk (bdn hbk.1 n9))))
    | fail)
  all_goals
   go_wp2_with fail
   go_ret
   exact ⟨rfl, HBW.out.trans (hbk.1.mono HBW.out.size)⟩
end
end Go.Proofs.YtffhccmppdgmfaaGreatDoor
