import Derived.Test.YtffhccmppdgmfaaGreatDoorE25
import Derived.Test.YtffhccmppdgmfaaGreatDoorE26
import Derived.Test.YtffhccmppdgmfaaGreatDoorE13
import Derived.Test.YtffhccmppdgmfaaGreatDoorE24
import Derived.Test.YtffhccmppdgmfaaGreatDoorE23
import Derived.Test.YtffhccmppdgmfaaGreatDoorE10
import Derived.Test.YtffhccmppdgmfaaGreatDoorE17
import Derived.Test.YtffhccmppdgmfaaGreatDoorE04
import Derived.Test.YtffhccmppdgmfaaGreatDoorE00
set_option linter.unusedSimpArgs false
set_option linter.unusedVariables false
set_option maxRecDepth 200000
set_option maxHeartbeats 8000000
namespace Go.Proofs.YtffhccmppdgmfaaGreatDoor
section
open Go Go.RowKit Go.OpenShut
def spoiltS : ByteArray := ⟨#[115, 112, 111, 105, 108, 116]⟩
theorem own_apart {w w' : World} {b1 b2 g n c : Nat} {v : Value} {xs : List ByteArray} (h : Own w b2 9 encS 1 v xs) (hg : w.grownBy w' (some g)) (hlt : g < b2) : Own w' b2 9 encS 1 v xs := by
 refine h.kept hg ?_
 cases hb : v.ownBlock with
 | none => exact .inl rfl
 | some k =>
   refine .inr (fun e => ?_)
   have := (h.lt k hb).1
   injection e with e
   omega
theorem sieveKeeps_any (f v : JV) (r q : RV) (nm : ByteArray) (w : World) (hf : TreeOf w w.heap.size f r) (of : f.Ok) (hv : TreeOf w w.heap.size v q) (ov : v.Ok) (hall : AllAt w) (hmax : MaxAt w) :
 Calls Tryz.prog 9 #[r.val, q.val, .string nm] w fun e w' => e = .returned (.bool true) /\ Below w.heap.size w w' := by
 obtain ⟨W0, hW0⟩ : ∃ W0, (w.alloc (.cells #[.int .i64 r.k, .int .i64 r.n, .string r.s, .slice r.pl r.nl r.cl, .slice r.pm r.nm r.cm] 25)).alloc (.cells #[.int .i64 q.k, .int .i64 q.n, .string q.s, .slice q.pl q.nl q.cl, .slice q.pm q.nm q.cm] 25) = W0 := ⟨_, rfl⟩
 have hA0 : VAt W0 w.heap.size r := by rw [<- hW0]; exact heap_alloc_lt (by simp) (heap_alloc_at rfl)
 have hC0 : VAt W0 (w.heap.size + 1) q := by rw [<- hW0]; exact heap_alloc_at (by simp)
 have hB0 : Below w.heap.size w W0 := by rw [<- hW0]; exact below2 w _ _
 have hw0 := hB0.size
 have hf0 : TreeOf W0 W0.heap.size f r := hf.under hB0 hw0
 have hv0 : TreeOf W0 W0.heap.size v q := hv.under hB0 hw0
 have hall0 := hall.below hB0
 have hmax0 := hmax.below hB0
 have HVA : Hid (∀ W, Below W0.heap.size W0 W -> VAt W w.heap.size r /\ VAt W (w.heap.size + 1) q) := fun W hb => ⟨hA0.under hb hA0.lt, hC0.under hb hC0.lt⟩
 have HAW : Hid (∀ W, Below W0.heap.size W0 W -> Calls Tryz.prog 17 #[] W fun e w' => e = .returned (.bool true) /\ Below W.heap.size W w') := fun W hb => awake20_any W (hall0.below hb) (hmax0.below hb)
 have HF : Hid (∀ W, Below W0.heap.size W0 W -> Calls Tryz.prog 21 #[r.val, q.val] W fun e w' => ∃ b : Bool, e = .returned (.bool b) /\ Hid (b = true -> (OwnN f /\ countT f <= 300) /\ OwnN v /\ countT v <= 800) /\ Below W.heap.size W w') := fun W hb => few20_any f v r q W (hf0.under hb hb.size) of (hv0.under hb hb.size) ov
 have HLF : Hid (∀ W, Below W0.heap.size W0 W -> Calls Tryz.prog 22 #[r.val, .int .i64 2000] W fun e w' => ∃ b : Bool, e = .returned (.bool b) /\ Hid (b = true -> sizeT f <= 2000) /\ Below W.heap.size W w') := fun W hb => light20_any f r 2000 W (by decide) (hf0.under hb hb.size) of
 have HLV : Hid (∀ W, Below W0.heap.size W0 W -> Calls Tryz.prog 22 #[q.val, .int .i64 8000] W fun e w' => ∃ b : Bool, e = .returned (.bool b) /\ Hid (b = true -> sizeT v <= 8000) /\ Below W.heap.size W w') := fun W hb => light20_any v q 8000 W (by decide) (hv0.under hb hb.size) ov
 have HCF : Hid (∀ W, Below W0.heap.size W0 W -> Calls Tryz.prog 33 #[r.val] W fun e w' => e = .returned (.int .i64 (checkE f)) /\ Below W.heap.size W w') := fun W hb => check_any f r W (hf0.under hb hb.size) of
 have HCV : Hid (∀ W, Below W0.heap.size W0 W -> Calls Tryz.prog 33 #[q.val] W fun e w' => e = .returned (.int .i64 (checkE v)) /\ Below W.heap.size W w') := fun W hb => check_any v q W (hv0.under hb hb.size) ov
 have HYF : Hid (∀ W, Below W0.heap.size W0 W -> Calls Tryz.prog 34 #[r.val] W (NewTree W f)) := fun W hb => copy_any _ f r W (Nat.le_refl _) (hf0.under hb hb.size) of
 have HYV : Hid (∀ W, Below W0.heap.size W0 W -> Calls Tryz.prog 34 #[q.val] W (NewTree W v)) := fun W hb => copy_any _ v q W (Nat.le_refl _) (hv0.under hb hb.size) ov
 have HSH : Hid (((OwnN f /\ countT f <= 300) /\ OwnN v /\ countT v <= 800) -> sizeT v <= 8000 -> ∀ W, Below W0.heap.size W0 W -> Calls Tryz.prog 23 #[r.val, q.val] W fun e w' => e = .returned (.bool (holdsJ f v)) /\ Below W.heap.size W w') := fun h1 h2 W hb => svHolds_any f v r q W W0.heap.size hb.size (hf0.under hb (Nat.le_refl _)) (hv0.under hb (Nat.le_refl _)) of ov (by omega) (by omega) (by omega) (fun h => h1.1.1.2 (by rw [h]; decide)) (hall0.below hb) (hmax0.below hb)
 have HST : Hid (countT v <= 800 -> ∀ W, Below W0.heap.size W0 W -> Calls Tryz.prog 26 #[q.val, .string nm] W (OwnRet W 9 encS 1 (textsJ v nm))) := fun h1 W hb => svtexts_any v q nm W W0.heap.size hb.size (hv0.under hb (Nat.le_refl _)) ov (by omega) (hall0.below hb)
 have HRT : Hid (countT v <= 800 -> ∀ W, Below W0.heap.size W0 W -> Calls Tryz.prog 27 #[q.val, .string nm] W (OwnRet W 9 encS 1 (textsJ v nm))) := fun h1 W hb => rtexts_any v q nm W W0.heap.size hb.size (hv0.under hb (Nat.le_refl _)) ov (by omega)
 have HSF : Hid (∀ (x : RV) W, Below W0.heap.size W0 W -> TreeOf W W.heap.size f x -> Calls Tryz.prog 36 #[r.val, x.val] W fun e w' => e = .returned (.bool true) /\ Below W.heap.size W w') := fun x W hb hx => (same5L_any _ f f r x W (Nat.le_refl _) (hf0.under hb hb.size) hx of.len of.len).mono fun e w' h => by
  obtain ⟨b, e1, e2, e3⟩ := h
  have eb : b = true := e2.2 rfl
  subst eb
  exact ⟨e1, e3⟩
 have HSV : Hid (∀ (x : RV) W, Below W0.heap.size W0 W -> TreeOf W W.heap.size v x -> Calls Tryz.prog 36 #[q.val, x.val] W fun e w' => e = .returned (.bool true) /\ Below W.heap.size W w') := fun x W hb hx => (same5L_any _ v v q x W (Nat.le_refl _) (hv0.under hb hb.size) hx ov.len ov.len).mono fun e w' h => by
  obtain ⟨b, e1, e2, e3⟩ := h
  have eb : b = true := e2.2 rfl
  subst eb
  exact ⟨e1, e3⟩
 have HTN := Lib.hid (textsJ_len v nm)
 obtain ⟨E, hE⟩ : ∃ E, holdsJ f v = E := ⟨_, rfl⟩
 obtain ⟨T, hT⟩ : ∃ E, textsJ v nm = E := ⟨_, rfl⟩
 obtain ⟨E1, hE1⟩ : ∃ E, checkE f = E := ⟨_, rfl⟩
 obtain ⟨E2, hE2⟩ : ∃ E, checkE v = E := ⟨_, rfl⟩
 rw [hE] at HSH
 rw [hT] at HST HRT HTN
 rw [hE1] at HCF
 rw [hE2] at HCV
 obtain ⟨c0, c1, c2, c3, c4⟩ := hA0.cells5
 obtain ⟨d0, d1, d2, d3, d4⟩ := hC0.cells5
 have HB0 := Lib.hid hB0
 have hb0 : Below W0.heap.size W0 W0 := Below.refl _ _
 clear hf hv of ov hall hmax hA0 hC0 hf0 hv0 hall0 hmax0 hE hT hE1 hE2 hB0
 go_enter Tryz.func9, Tryz.ntmps9
 go_upto_region 1 with fail
 try rw [hW0]
 clear hW0
 go_cut [39] from 12 to 39 (fun x wx => ∃ b : Bool, x = .bool b /\ Hid ((b = false -> ((OwnN f /\ countT f <= 300) /\ OwnN v /\ countT v <= 800) /\ sizeT v <= 8000) /\ Below W0.heap.size W0 wx))
 case first =>
  obtain ⟨B1, hB1⟩ : ∃ b, (E1 != 0) = b := ⟨_, rfl⟩
  obtain ⟨B2, hB2⟩ : ∃ b, (E2 != 0) = b := ⟨_, rfl⟩
  cases B1
  all_goals
   try cases B2
   all_goals
    go_wp2_with (first
     | (go_at_call 17; (with_reducible refine (HAW.out _ hb0).mono ?_); rintro e w1 ⟨rfl, hbA⟩; (have hb1 := hb0.trans (hbA.mono hb0.size)); (have hAx := HVA.out _ hb1); (obtain ⟨c0, c1, c2, c3, c4⟩ := hAx.1.cells5); (obtain ⟨d0, d1, d2, d3, d4⟩ := hAx.2.cells5); clear hAx)
     | (go_at_call 21; (with_reducible refine (HF.out _ hb1).mono ?_); rintro e w2 ⟨b1, rfl, HL1, hbB⟩; (have hb2 := hb1.trans (hbB.mono hb1.size)); (have hAx := HVA.out _ hb2); (obtain ⟨c0, c1, c2, c3, c4⟩ := hAx.1.cells5); (obtain ⟨d0, d1, d2, d3, d4⟩ := hAx.2.cells5); clear hAx; cases b1)
     | (go_at_call 22; (with_reducible refine (HLF.out _ hb2).mono ?_); rintro e w3 ⟨b2, rfl, HL2, hbC⟩; (have hb3 := hb2.trans (hbC.mono hb2.size)); (have hAx := HVA.out _ hb3); (obtain ⟨c0, c1, c2, c3, c4⟩ := hAx.1.cells5); (obtain ⟨d0, d1, d2, d3, d4⟩ := hAx.2.cells5); clear hAx; cases b2)
     | (go_at_call 22; (with_reducible refine (HLV.out _ hb3).mono ?_); rintro e w4 ⟨b3, rfl, HL3, hbD⟩; (have hb4 := hb3.trans (hbD.mono hb3.size)); (have hAx := HVA.out _ hb4); (obtain ⟨c0, c1, c2, c3, c4⟩ := hAx.1.cells5); (obtain ⟨d0, d1, d2, d3, d4⟩ := hAx.2.cells5); clear hAx; cases b3)
     | (go_at_call 33; (with_reducible refine (HCF.out _ hb4).mono ?_); rintro e w5 ⟨rfl, hbE⟩; (have hb5 := hb4.trans (hbE.mono hb4.size)); (have hAx := HVA.out _ hb5); (obtain ⟨c0, c1, c2, c3, c4⟩ := hAx.1.cells5); (obtain ⟨d0, d1, d2, d3, d4⟩ := hAx.2.cells5); clear hAx)
     | (go_at_call 33; (with_reducible refine (HCV.out _ hb5).mono ?_); rintro e w6 ⟨rfl, hbF⟩; (have hb6 := hb5.trans (hbF.mono hb5.size))))
    all_goals
     go_meet
     first
      | exact ⟨true, rfl, (fun h => by cases h), hb6⟩
      | exact ⟨true, rfl, (fun h => by cases h), hb5⟩
      | exact ⟨true, rfl, (fun h => by cases h), hb4⟩
      | exact ⟨true, rfl, (fun h => by cases h), hb3⟩
      | exact ⟨true, rfl, (fun h => by cases h), hb2⟩
      | exact ⟨false, rfl, fun _ => ⟨HL1.out (by trivial), HL3.out (by trivial)⟩, hb6⟩
 case rest =>
 obtain ⟨b, rfl, hx9⟩ := hcut
 obtain ⟨Wa, rfl⟩ : ∃ W, W = wc := ⟨_, rfl⟩
 obtain ⟨hyes, hba⟩ := hx9.out
 clear hx9 c0 c1 c2 c3 c4 d0 d1 d2 d3 d4 HF HLF HLV HCF HCV
 cases b with
 | true =>
   go_wp2_with (go_at_call 17; (with_reducible refine (HAW.out _ hba).mono ?_); rintro e w1 ⟨rfl, hbA⟩)
   go_ret
   exact ⟨rfl, HB0.out.trans ((hba.trans (hbA.mono hba.size)).mono hw0)⟩
 | false =>
   obtain ⟨hfew, hsz⟩ := hyes rfl
   have HSH2 := Lib.hid (HSH.out hfew hsz)
   have HST2 := Lib.hid (HST.out hfew.2.2)
   have HRT2 := Lib.hid (HRT.out hfew.2.2)
   have HTL : Hid (T.length <= 20000) := by have := HTN.out; have := hfew.2.2; unfold Hid; omega
   have hA9 := HVA.out _ hba
   obtain ⟨c0, c1, c2, c3, c4⟩ := hA9.1.cells5
   obtain ⟨d0, d1, d2, d3, d4⟩ := hA9.2.cells5
   clear HAW HSH HST HRT HTN hyes hfew hsz hA9 hb0
   go_upto_region 4 with (go_at_call 34; (with_reducible refine (HYF.out _ hba).mono ?_); rintro e w5 ⟨⟨qk, qn, qS, qpl, qnl, qcl, qpm, qnm, qcm⟩, rfl, hl5, hb5⟩)
   have hv5 : VAt (w5.alloc (.cells #[.int .i64 qk, .int .i64 qn, .string qS, .slice qpl qnl qcl, .slice qpm qnm qcm] 25)) w5.heap.size ⟨qk, qn, qS, qpl, qnl, qcl, qpm, qnm, qcm⟩ := heap_alloc_at rfl
   have hb5a : Below Wa.heap.size Wa (w5.alloc (.cells #[.int .i64 qk, .int .i64 qn, .string qS, .slice qpl qnl qcl, .slice qpm qnm qcm] 25)) := hb5.alloc hb5.size _
   have hT5 : TreeOf (w5.alloc (.cells #[.int .i64 qk, .int .i64 qn, .string qS, .slice qpl qnl qcl, .slice qpm qnm qcm] 25)) (w5.alloc (.cells #[.int .i64 qk, .int .i64 qn, .string qS, .slice qpl qnl qcl, .slice qpm qnm qcm] 25)).heap.size f ⟨qk, qn, qS, qpl, qnl, qcl, qpm, qnm, qcm⟩ := hl5.tree.under ((Below.refl _ _).alloc (Nat.le_refl _) _) (Nat.le_of_lt hv5.lt)
   obtain ⟨g5, hg5⟩ : ∃ g, w5.heap.size = g := ⟨_, rfl⟩
   obtain ⟨W5, hW5⟩ : ∃ W, w5.alloc (.cells #[.int .i64 qk, .int .i64 qn, .string qS, .slice qpl qnl qcl, .slice qpm qnm qcm] 25) = W := ⟨_, rfl⟩
   rw [hW5, hg5] at hv5
   rw [hW5] at hb5a hT5
   try rw [hW5]
   try rw [hg5]
   have hb50 : Below W0.heap.size W0 W5 := hba.trans (hb5a.mono hba.size)
   have hA9 := HVA.out _ hb50
   clear c0 c1 c2 c3 c4 d0 d1 d2 d3 d4
   obtain ⟨c0, c1, c2, c3, c4⟩ := hA9.1.cells5
   obtain ⟨d0, d1, d2, d3, d4⟩ := hA9.2.cells5
   clear hW5 hg5 hb5 hl5 hA9
   go_upto_region 5 with (go_at_call 34; (with_reducible refine (HYV.out _ hb50).mono ?_); rintro e w6 ⟨⟨zk, zn, zS, zpl, znl, zcl, zpm, znm, zcm⟩, rfl, hl6, hb6⟩)
   have hv6 : VAt (w6.alloc (.cells #[.int .i64 zk, .int .i64 zn, .string zS, .slice zpl znl zcl, .slice zpm znm zcm] 25)) w6.heap.size ⟨zk, zn, zS, zpl, znl, zcl, zpm, znm, zcm⟩ := heap_alloc_at rfl
   have hb6a : Below W5.heap.size W5 (w6.alloc (.cells #[.int .i64 zk, .int .i64 zn, .string zS, .slice zpl znl zcl, .slice zpm znm zcm] 25)) := hb6.alloc hb6.size _
   have hT6 : TreeOf (w6.alloc (.cells #[.int .i64 zk, .int .i64 zn, .string zS, .slice zpl znl zcl, .slice zpm znm zcm] 25)) (w6.alloc (.cells #[.int .i64 zk, .int .i64 zn, .string zS, .slice zpl znl zcl, .slice zpm znm zcm] 25)).heap.size v ⟨zk, zn, zS, zpl, znl, zcl, zpm, znm, zcm⟩ := hl6.tree.under ((Below.refl _ _).alloc (Nat.le_refl _) _) (Nat.le_of_lt hv6.lt)
   obtain ⟨g6, hg6⟩ : ∃ g, w6.heap.size = g := ⟨_, rfl⟩
   obtain ⟨W6, hW6⟩ : ∃ W, w6.alloc (.cells #[.int .i64 zk, .int .i64 zn, .string zS, .slice zpl znl zcl, .slice zpm znm zcm] 25) = W := ⟨_, rfl⟩
   rw [hW6, hg6] at hv6
   rw [hW6] at hb6a hT6
   try rw [hW6]
   try rw [hg6]
   have hb60 : Below W0.heap.size W0 W6 := hb50.trans (hb6a.mono hb50.size)
   have HV4 : Hid (∀ W, Below W6.heap.size W6 W -> (VAt W w.heap.size r /\ VAt W (w.heap.size + 1) q) /\ VAt W g5 ⟨qk, qn, qS, qpl, qnl, qcl, qpm, qnm, qcm⟩ /\ VAt W g6 ⟨zk, zn, zS, zpl, znl, zcl, zpm, znm, zcm⟩) := fun W hb => ⟨HVA.out W (hb60.trans (hb.mono hb60.size)), (hv5.under hb6a hv5.lt).under hb (Nat.lt_of_lt_of_le hv5.lt hb6a.size), hv6.under hb hv6.lt⟩
   have HT5 : Hid (∀ W, Below W6.heap.size W6 W -> TreeOf W W.heap.size f ⟨qk, qn, qS, qpl, qnl, qcl, qpm, qnm, qcm⟩) := fun W hb => (hT5.under hb6a hb6a.size).under hb hb.size
   have HT6 : Hid (∀ W, Below W6.heap.size W6 W -> TreeOf W W.heap.size v ⟨zk, zn, zS, zpl, znl, zcl, zpm, znm, zcm⟩) := fun W hb => hT6.under hb hb.size
   have HB6 := Lib.hid hb60
   have hA9 := HV4.out _ (Below.refl _ _)
   clear c0 c1 c2 c3 c4 d0 d1 d2 d3 d4
   obtain ⟨c0, c1, c2, c3, c4⟩ := hA9.1.1.cells5
   obtain ⟨d0, d1, d2, d3, d4⟩ := hA9.1.2.cells5
   clear hW6 hg6 hb6 hl6 hA9 hv5 hb5a hT5 hv6 hb6a hT6 hb50 hba HYF HYV
   go_upto_region 6 with (go_at_call 23; (with_reducible refine (HSH2.out _ hb60).mono ?_); rintro e w7 ⟨rfl, hb7⟩)
   have hb70 : Below W0.heap.size W0 w7 := hb60.trans (hb7.mono hb60.size)
   have hA9 := HV4.out _ hb7
   clear c0 c1 c2 c3 c4 d0 d1 d2 d3 d4
   obtain ⟨d0, d1, d2, d3, d4⟩ := hA9.1.2.cells5
   go_upto_region 7 with (go_at_call 26; (with_reducible refine (HST2.out _ hb70).mono ?_); rintro e w8 ⟨u8, rfl, ho8, hb8⟩)
   have hb80 : Below W0.heap.size W0 w8 := hb70.trans (hb8.mono hb70.size)
   have hb86 : Below W6.heap.size W6 w8 := hb7.trans (hb8.mono hb7.size)
   have hA8 := HV4.out _ hb86
   clear d0 d1 d2 d3 d4
   obtain ⟨d0, d1, d2, d3, d4⟩ := hA8.1.2.cells5
   obtain ⟨pu, cu, hu, _, _⟩ := ho8.len
   subst hu
   go_upto_region 8 with (go_at_call 26; (with_reducible refine (HST2.out _ hb80).mono ?_); rintro e w9 ⟨u9, rfl, ho9, hb9⟩)
   have hb96 : Below W6.heap.size W6 w9 := hb86.trans (hb9.mono hb86.size)
   have HGU : Hid (∀ g, (Value.slice pu T.length cu).ownBlock = some g -> w7.heap.size <= g /\ g < w8.heap.size) := ho8.lt
   have HST0 : Hid (T.length = T.length /\ Own w9 w7.heap.size 9 encS 1 (.slice pu T.length cu) T /\ Own w9 w8.heap.size 9 encS 1 u9 T /\ Below W6.heap.size W6 w9) := ⟨rfl, ho8.below hb9 (Nat.le_refl _), ho9, hb96⟩
   have hz7 := hb7.size
   clear d0 d1 d2 d3 d4 hA9 hA8 ho8 ho9 hb9 hb8 hb7 hb70 hb80 hb86 hb96 hb60 HST2 HSH2
   have hTL : T.length <= 20000 := HTL.out
   have tl0 : (0 : Int) <= (T.length : Int) := Int.natCast_nonneg _
   go_wp2_with fail
   go_loopw [11] (fun i wr => ∃ (k : Nat) (ms : List ByteArray), k <= T.length /\ i = .int .i64 (k : Int) /\ Hid (ms.length = T.length /\ Own wr w7.heap.size 9 encS 1 (.slice pu T.length cu) ms /\ Own wr w8.heap.size 9 encS 1 u9 T /\ Below W6.heap.size W6 wr)) (fun i _ => T.length - (intOf i).toNat)
   case atStart => exact ⟨0, T, Nat.zero_le _, rfl, rfl, HST0.out.2⟩
   case round =>
    obtain ⟨k, ms, hk, rfl, HJ⟩ := hrel
    have hk0 : (0 : Int) <= (k : Int) := Int.natCast_nonneg _
    obtain ⟨hml, hmo, hmu, hmb⟩ := HJ.out
    by_cases hlt : k < T.length
    ·have hk1 : (k : Int) < (T.length : Int) := by omega
     obtain ⟨x, hx⟩ : ∃ x, ms[k]? = some x := ⟨_, List.getElem?_eq_getElem (by omega)⟩
     obtain ⟨g, hpu, hq1, hg1, hg2, hc, hf⟩ := Own.at codecS hmo hx
     subst hpu
     have c0 := hc 0 _ rfl
     have y0 := hf k
     rw [Nat.mul_one, Nat.add_zero] at c0
     have h1 := Own.storedAt codecS hmo (j := 0) (y := spoiltS) (u := .string spoiltS) hx (by decide) rfl
     rw [Nat.mul_one, Nat.add_zero] at h1
     have hgl : g < w8.heap.size := (HGU.out g rfl).2
     have HN1 : Hid ((ms.set k spoiltS).length = T.length /\ Own (wr.setCell ⟨g, k, none⟩ (.string spoiltS)) w7.heap.size 9 encS 1 (.slice (some ⟨g, 0, none⟩) T.length cu) (ms.set k spoiltS) /\ Own (wr.setCell ⟨g, k, none⟩ (.string spoiltS)) w8.heap.size 9 encS 1 u9 T /\ Below W6.heap.size W6 (wr.setCell ⟨g, k, none⟩ (.string spoiltS))) := ⟨by rw [List.length_set, hml], h1.1, own_apart (b1 := 0) (n := 0) (c := 0) hmu h1.2 hgl, hmb.grown h1.2 hmb.size (fun k e => by cases e; omega)⟩
     unfold spoiltS at HN1
     clear hq1 hc hf h1 hx hml hmo hmb hmu HJ
     go_wp2_with fail
     go_roundw
     case rel => exact ⟨k + 1, _, by omega, by go_num, HN1.out⟩
     case measure => simp [intOf]; omega
    ·obtain rfl : k = T.length := by omega
     have hbr0 : Below W0.heap.size W0 wr := HB6.out.trans (hmb.mono HB6.out.size)
     have HMB := Lib.hid hmb
     have HBR0 := Lib.hid hbr0
     have HRU := Lib.hid (hmu.rd codecS)
     have HQ5 := Lib.hid (HSF.out ⟨qk, qn, qS, qpl, qnl, qcl, qpm, qnm, qcm⟩ wr hbr0 (HT5.out _ hmb))
     have HQ6 : Hid (∀ W, Below wr.heap.size wr W -> Calls Tryz.prog 36 #[q.val, RV.val ⟨zk, zn, zS, zpl, znl, zcl, zpm, znm, zcm⟩] W fun e w' => e = .returned (.bool true) /\ Below W.heap.size W w') := fun W hb => HSV.out ⟨zk, zn, zS, zpl, znl, zcl, zpm, znm, zcm⟩ W (HBR0.out.trans (hb.mono HBR0.out.size)) (HT6.out _ (HMB.out.trans (hb.mono HMB.out.size)))
     have HQ7 : Hid (∀ W, Below wr.heap.size wr W -> Calls Tryz.prog 27 #[q.val, .string nm] W (OwnRet W 9 encS 1 T)) := fun W hb => HRT2.out W (HBR0.out.trans (hb.mono HBR0.out.size))
     dsimp only [RV.val] at HQ5 HQ6
     have hA9 := HV4.out _ hmb
     obtain ⟨c0, c1, c2, c3, c4⟩ := hA9.1.1.cells5
     obtain ⟨d0, d1, d2, d3, d4⟩ := hA9.1.2.cells5
     obtain ⟨s0, s1, s2, s3, s4⟩ := hA9.2.1.cells5
     obtain ⟨t0, t1, t2, t3, t4⟩ := hA9.2.2.cells5
     dsimp only at s0 s1 s2 s3 s4 t0 t1 t2 t3 t4
     clear hml hmo hmb hmu HJ hbr0 hA9 HSF HSV HT5 HT6 HRT2
     go_wp2_with (first
      | (go_at_call 36; (with_reducible refine HQ5.out.mono ?_); rintro e w10 ⟨rfl, hbP⟩; (have hA8 := HV4.out _ (HMB.out.trans (hbP.mono HMB.out.size))); (obtain ⟨d0, d1, d2, d3, d4⟩ := hA8.1.2.cells5); (obtain ⟨t0, t1, t2, t3, t4⟩ := hA8.2.2.cells5); clear hA8)
      | (go_at_call 36; (with_reducible refine (HQ6.out _ hbP).mono ?_); rintro e w11 ⟨rfl, hbQ⟩; (have hbR := hbP.trans (hbQ.mono hbP.size)); (have hA8 := HV4.out _ (HMB.out.trans (hbR.mono HMB.out.size))); (obtain ⟨d0, d1, d2, d3, d4⟩ := hA8.1.2.cells5); clear hA8)
      | (go_at_call 27; (with_reducible refine (HQ7.out _ hbR).mono ?_); rintro e w12 ⟨u12, rfl, ho12, hbS⟩; (have hbT := hbR.trans (hbS.mono hbR.size)))
      | (go_at_call 25; (with_reducible refine (sameP_yes20 _ _ _ _ T (HRU.out.below hbT hbT.size) (ho12.rd codecS)).mono ?_); rintro e w13 ⟨rfl, n13, rfl⟩))
     go_ret
     exact ⟨rfl, HB0.out.trans ((HBR0.out.trans ((bdn hbT _).mono HBR0.out.size)).mono hw0)⟩
end
end Go.Proofs.YtffhccmppdgmfaaGreatDoor
