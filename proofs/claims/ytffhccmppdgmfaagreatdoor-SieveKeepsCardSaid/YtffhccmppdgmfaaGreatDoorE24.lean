import Derived.Test.YtffhccmppdgmfaaGreatDoorE20
import Derived.Test.YtffhccmppdgmfaaGreatDoorE14
import Derived.Test.YtffhccmppdgmfaaGreatDoorE13
import Derived.Test.YtffhccmppdgmfaaGreatDoorE21
import Derived.Test.YtffhccmppdgmfaaGreatDoorE07
set_option linter.unusedSimpArgs false
set_option linter.unusedVariables false
set_option maxRecDepth 200000
set_option maxHeartbeats 8000000
namespace Go.Proofs.YtffhccmppdgmfaaGreatDoor
section
open Go Go.RowKit Go.OpenShut
theorem rtx_none (t : JV) (r : RV) (f : ByteArray) (w : World) (B : Nat) (hBw : B <= w.heap.size) (ht : TreeOf w B t r) (ot : t.Ok) (hct : countT t <= 100000) (n0 : f ≠ nameN) (n1 : f ≠ givenN) (n2 : f ≠ surN) (n3 : f ≠ sur2N) (n4 : f ≠ svNick) (n5 : f ≠ svOrg) (n6 : f ≠ svEmail) (n7 : f ≠ svPhone) (n8 : f ≠ svOnline) (n9 : f ≠ svAddr) (n10 : f ≠ svNote) (n11 : f ≠ svText) :
 Calls Tryz.prog 27 #[r.val, .string f] w (OwnRet w 9 encS 1 []) := by
 obtain ⟨W0, hW0⟩ : ∃ W0, w.alloc r.obj = W0 := ⟨_, rfl⟩
 have hA0 : VAt W0 w.heap.size r := by rw [<- hW0]; exact heap_alloc_at rfl
 have hB0 : Below w.heap.size w W0 := by rw [<- hW0]; exact (Below.refl _ _).alloc (Nat.le_refl _) _
 have HC : Hid (Calls Tryz.prog 61 #[r.val, .string nameN] W0 (GetRetB W0 B (t.get nameN))) := refGetB_any t r nameN W0 B (Nat.le_trans hBw hB0.size) (ht.under (hB0.mono hBw) (Nat.le_refl _)) ot
 have hw0 := hB0.size
 have HTR : Hid (∀ W, Below w.heap.size w W -> TreeOf W B t r) := fun W hW => ht.under (hW.mono hBw) (Nat.le_refl _)
 have qn0 : (f.toList == [110, 97, 109, 101]) = false := by rw [<- bytes_dec]; exact decide_eq_false n0
 have qn1 : (f.toList == [110, 97, 109, 101, 47, 103, 105, 118, 101, 110]) = false := by rw [<- bytes_dec]; exact decide_eq_false n1
 have qn2 : (f.toList == [110, 97, 109, 101, 47, 115, 117, 114, 110, 97, 109, 101]) = false := by rw [<- bytes_dec]; exact decide_eq_false n2
 have qn3 : (f.toList == [110, 97, 109, 101, 47, 115, 117, 114, 110, 97, 109, 101, 50]) = false := by rw [<- bytes_dec]; exact decide_eq_false n3
 have qn4 : (f.toList == [110, 105, 99, 107, 110, 97, 109, 101]) = false := by rw [<- bytes_dec]; exact decide_eq_false n4
 have qn5 : (f.toList == [111, 114, 103, 97, 110, 105, 122, 97, 116, 105, 111, 110]) = false := by rw [<- bytes_dec]; exact decide_eq_false n5
 have qn6 : (f.toList == [101, 109, 97, 105, 108]) = false := by rw [<- bytes_dec]; exact decide_eq_false n6
 have qn7 : (f.toList == [112, 104, 111, 110, 101]) = false := by rw [<- bytes_dec]; exact decide_eq_false n7
 have qn8 : (f.toList == [111, 110, 108, 105, 110, 101, 83, 101, 114, 118, 105, 99, 101]) = false := by rw [<- bytes_dec]; exact decide_eq_false n8
 have qn9 : (f.toList == [97, 100, 100, 114, 101, 115, 115]) = false := by rw [<- bytes_dec]; exact decide_eq_false n9
 have qn10 : (f.toList == [110, 111, 116, 101]) = false := by rw [<- bytes_dec]; exact decide_eq_false n10
 have qn11 : (f.toList == [116, 101, 120, 116]) = false := by rw [<- bytes_dec]; exact decide_eq_false n11
 clear n0 n1 n2 n3 n4 n5 n6 n7 n8 n9 n10 n11
 obtain ⟨k, n, s, pl, nl, cl, pm, nm, cm⟩ := r
 dsimp only [RV.val, RV.obj] at *
 have HW := Lib.hid hW0
 have HB0 := Lib.hid hB0
 unfold nameN at HC
 clear hW0 hB0 ht
 go_enter Tryz.func27, Tryz.ntmps27
 go_upto_region 1 with fail
 rw [HW.out]
 clear HW
 obtain ⟨a0, a1, a2, a3, a4⟩ := hA0.cells5
 have hz0 := hA0.lt
 go_upto_region 15 with (go_at_call 61; refine HC.out.mono ?_; rintro e w1 ⟨rv, bb, rfl, hbb, ht1, hb1⟩; obtain ⟨rk, rn, rS, rpl, rnl, rcl, rpm, rnm, rcm⟩ := rv)
 have hz1 := hb1.size
 have hb2 : Below W0.heap.size W0 (w1.alloc (.cells #[.int .i64 rk, .int .i64 rn, .string rS, .slice rpl rnl rcl, .slice rpm rnm rcm] 25)) := hb1.alloc hz1 _
 have hv2 : VAt (w1.alloc (.cells #[.int .i64 rk, .int .i64 rn, .string rS, .slice rpl rnl rcl, .slice rpm rnm rcm] 25)) w1.heap.size ⟨rk, rn, rS, rpl, rnl, rcl, rpm, rnm, rcm⟩ := heap_alloc_at rfl
 have ht2 := ht1.under ((Below.refl B w1).alloc (Nat.le_trans (Nat.le_trans hBw hw0) hz1) (.cells #[.int .i64 rk, .int .i64 rn, .string rS, .slice rpl rnl rcl, .slice rpm rnm rcm] 25)) (Nat.le_refl _)
 obtain ⟨g, hg⟩ : ∃ g, w1.heap.size = g := ⟨_, rfl⟩
 obtain ⟨W2, hW2⟩ : ∃ W, w1.alloc (.cells #[.int .i64 rk, .int .i64 rn, .string rS, .slice rpl rnl rcl, .slice rpm rnm rcm] 25) = W := ⟨_, rfl⟩
 rw [hW2] at hb2 hv2 ht2
 rw [hg] at hv2
 try rw [hW2]
 try rw [hg]
 obtain ⟨v0, v1, v2, v3, v4⟩ := hv2.cells5
 dsimp only at v0 v1 v2 v3 v4
 have hgl := hv2.lt
 have b0 := bcs hb2 hz0 a0
 have b1 := bcs hb2 hz0 a1
 have b2 := bcs hb2 hz0 a2
 have b3 := bcs hb2 hz0 a3
 have b4 := bcs hb2 hz0 a4
 have hbw := HB0.out.trans (hb2.mono hw0)
 have HX := Lib.hid hbw
 have hw2 := hbw.size
 have hBw2 : B <= W2.heap.size := Nat.le_trans hBw hw2
 have HT2 := Lib.hid ht2
 clear hW2 hg hb1 ht1 hb2 hv2 hz1 hbw ht2 a0 a1 a2 a3 a4 hbb
 have HTR2 := HTR.out W2 HX.out
 have HC2 : Hid (Calls Tryz.prog 61 #[.agg #[.int .i64 k, .int .i64 n, .string s, .slice pl nl cl, .slice pm nm cm], .string ⟨#[]⟩] W2 (GetRetB W2 B (t.get ⟨#[]⟩))) := refGetB_any t ⟨k, n, s, pl, nl, cl, pm, nm, cm⟩ ⟨#[]⟩ W2 B hBw2 HTR2 ot
 clear HTR2 v0 v1 v2 v3 v4 HT2 hgl
 go_upto_region 26 with (go_at_call 61; (with_reducible refine HC2.out.mono ?_); rintro e w3 ⟨rv, b3', rfl, hbb, ht1, hb1⟩; obtain ⟨mk, mn, mS, mpl, mnl, mcl, mpm, mnm, mcm⟩ := rv)
 obtain ⟨hkk, hss⟩ := ht1.kk
 dsimp only at hkk hss
 have hz1 := hb1.size
 have hb2 : Below W2.heap.size W2 (w3.alloc (.cells #[.int .i64 mk, .int .i64 mn, .string mS, .slice mpl mnl mcl, .slice mpm mnm mcm] 25)) := hb1.alloc hz1 _
 have hv2 : VAt (w3.alloc (.cells #[.int .i64 mk, .int .i64 mn, .string mS, .slice mpl mnl mcl, .slice mpm mnm mcm] 25)) w3.heap.size ⟨mk, mn, mS, mpl, mnl, mcl, mpm, mnm, mcm⟩ := heap_alloc_at rfl
 have ht2 := (ht1.under ((Below.refl B w3).alloc (Nat.le_trans hBw2 hz1) (.cells #[.int .i64 mk, .int .i64 mn, .string mS, .slice mpl mnl mcl, .slice mpm mnm mcm] 25)) (Nat.le_refl _)).ml
 dsimp only at ht2
 obtain ⟨g3, hg3⟩ : ∃ g, w3.heap.size = g := ⟨_, rfl⟩
 obtain ⟨W3, hW3⟩ : ∃ W, w3.alloc (.cells #[.int .i64 mk, .int .i64 mn, .string mS, .slice mpl mnl mcl, .slice mpm mnm mcm] 25) = W := ⟨_, rfl⟩
 rw [hW3] at hb2 hv2 ht2
 rw [hg3] at hv2
 try rw [hW3]
 try rw [hg3]
 have HB3 : Hid (Below w.heap.size w W3) := HX.out.trans (hb2.mono hw2)
 have hw3 := HB3.out.size
 have hBw3 : B <= W3.heap.size := Nat.le_trans hBw hw3
 have HV3 := Lib.hid hv2
 have hgl3 := hv2.lt
 have HL := Lib.hid ht2
 clear hW3 hg3 hb1 ht1 hb2 hv2 hz1 ht2 hss hbb b0 b1 b2 b3 b4 HX
 have hmo : mnm <= 1466015503658 := by
  have hg : ((t.get ⟨#[]⟩).getD JV.zero).Ok := by
   cases hx : t.get ⟨#[]⟩ with
   | none => exact nameV_ok (t := JV.zero) (.mk (by decide) (by decide) (by decide) (by decide) (by decide) (fun i x h => by simp at h) (fun i p h => by simp at h) (fun i p h => by simp at h))
   | some x => exact ot.get hx
  obtain ⟨rms, hm, hlen, _⟩ := HL.out
  have h1 := rd_nlen hm
  generalize (t.get ⟨#[]⟩).getD JV.zero = z at hg hlen
  cases hg with
  | mk _ _ _ _ b _ _ _ =>
    have h2 : _ = rms.length := hlen
    simp only [JV.m] at h2
    omega
 have hm0 : (0 : Int) <= (mnm : Int) := Int.natCast_nonneg _
 clear hkk
 obtain ⟨rms, hm, _, _⟩ := HL.out
 have hrl : rms.length = mnm := (rd_nlen hm).symm
 have HRD := Lib.hid hm
 clear hm
 go_wp2_with fail
 by_cases hk6 : mk = 6
 ·subst hk6
  go_loopw [5, 13] (fun u i wr => ∃ j : Nat, j <= mnm /\ i = .int .i64 (j : Int) /\ u = .slice none 0 0 /\ Hid (Below W3.heap.size W3 wr)) (fun _ i _ => mnm - (intOf i).toNat)
  case atStart => exact ⟨0, by omega, rfl, rfl, Below.refl _ _⟩
  case round =>
   obtain ⟨j, hj, rfl, rfl, HBR⟩ := hrel
   have hbz := HBR.out.size
   have hvr := HV3.out.under HBR.out hgl3
   have c0 := hvr.cell 0 rfl
   have c4 := hvr.cell 4 rfl
   dsimp only at c0 c4
   have hj0 : (0 : Int) <= (j : Int) := Int.natCast_nonneg _
   by_cases hlt : j < mnm
   ·obtain ⟨⟨xname, ⟨xk, xn, xs, xpl, xnl, xcl, xpm, xnm, xcm⟩⟩, hx⟩ : ∃ x, rms[j]? = some x := ⟨_, List.getElem?_eq_getElem (by omega)⟩
    obtain ⟨bx, ox, rfl, hbx, hcx⟩ := rd_at' (HRD.out.below (HBR.out.mono hBw3) (Nat.le_refl _)) hx
    have f0 := hcx 0 _ rfl
    have f1 := hcx 1 _ rfl
    have f2 := hcx 2 _ rfl
    have f3 := hcx 3 _ rfl
    have f4 := hcx 4 _ rfl
    have f5 := hcx 5 _ rfl
    rw [Nat.add_zero] at f0
    dsimp only at f0 f1 f2 f3 f4 f5
    have hj1 : (j : Int) < (mnm : Int) := by omega
    clear hx hcx hvr
    go_wp2_with fail
    go_roundw
    case rel => exact ⟨j + 1, by omega, by go_num, rfl, HBR.out.alloc hbz _⟩
    case measure => simp [intOf]; omega
   ·obtain rfl : j = mnm := by omega
    have HZ := Lib.hid (HB3.out.trans (HBR.out.mono hw3))
    clear hvr
    go_wp2_with fail
    go_ret
    exact ⟨_, rfl, Own.nil _ _ _, HZ.out⟩
 ·have q1 : (mk == 6) = false := by simpa using hk6
  have c0 := HV3.out.cell 0 rfl
  have c4 := HV3.out.cell 4 rfl
  dsimp only at c0 c4
  clear hk6
  go_loopw [5, 13] (fun u i wr => u = .slice none 0 0 /\ i = .int .i64 0 /\ W3 = wr) (fun _ i _ => 0)
  case atStart => exact ⟨rfl, rfl, rfl⟩
  case round =>
   obtain ⟨rfl, rfl, rfl⟩ := hrel
   go_wp2_with fail
   all_goals go_ret
   all_goals exact ⟨_, rfl, Own.nil _ _ _, HB3.out⟩
theorem rfield_any (t : JV) (r : RV) (f : ByteArray) (hf : f ≠ svText) (w : World) (B : Nat) (hBw : B <= w.heap.size) (ht : TreeOf w B t r) (ot : t.Ok) (hct : countT t <= 100000) :
 Calls Tryz.prog 27 #[r.val, .string f] w (OwnRet w 9 encS 1 (fieldJ t f)) := by
 by_cases h0 : f = nameN
 ·subst h0
  rw [fieldJ_name]
  exact rtx_name t r w B hBw ht ot hct
 by_cases h1 : f = givenN \/ f = surN \/ f = sur2N
 ·rw [fieldJ_part t f h1]
  exact rntexts_any t r f h1 w B hBw ht ot
 by_cases h2 : f = svNick
 ·subst h2
  rw [fieldJ_svNick]
  exact rtx_nick t r w B hBw ht ot hct
 by_cases h3 : f = svOrg
 ·subst h3
  rw [fieldJ_svOrg]
  exact rtx_org t r w B hBw ht ot hct
 by_cases h4 : f = svEmail
 ·subst h4
  rw [fieldJ_svEmail]
  exact rtx_email t r w B hBw ht ot hct
 by_cases h5 : f = svPhone
 ·subst h5
  rw [fieldJ_svPhone]
  exact rtx_phone t r w B hBw ht ot hct
 by_cases h6 : f = svOnline
 ·subst h6
  rw [fieldJ_svOnline]
  exact rtx_online t r w B hBw ht ot hct
 by_cases h7 : f = svAddr
 ·subst h7
  rw [fieldJ_svAddr]
  exact rtx_addr t r w B hBw ht ot hct
 by_cases h8 : f = svNote
 ·subst h8
  rw [fieldJ_svNote]
  exact rtx_note t r w B hBw ht ot hct
 have e : fieldJ t f = [] := by
  unfold fieldJ
  rw [if_neg h0, if_neg h1, if_neg h2, if_neg h3, if_neg h4, if_neg h5, if_neg h6, if_neg h7, if_neg h8]
 rw [e]
 exact rtx_none t r f w B hBw ht ot hct h0 (fun e => h1 (.inl e)) (fun e => h1 (.inr (.inl e))) (fun e => h1 (.inr (.inr e))) h2 h3 h4 h5 h6 h7 h8 hf
theorem rtx_text (t : JV) (r : RV) (w : World) (B : Nat) (hBw : B <= w.heap.size) (ht : TreeOf w B t r) (ot : t.Ok) (hct : countT t <= 100000) :
 Calls Tryz.prog 27 #[r.val, .string svText] w (OwnRet w 9 encS 1 (allF.flatMap (fieldJ t))) := by
 obtain ⟨W0, hW0⟩ : ∃ W0, w.alloc r.obj = W0 := ⟨_, rfl⟩
 have hA0 : VAt W0 w.heap.size r := by rw [<- hW0]; exact heap_alloc_at rfl
 have hB0 : Below w.heap.size w W0 := by rw [<- hW0]; exact (Below.refl _ _).alloc (Nat.le_refl _) _
 have HC : Hid (Calls Tryz.prog 61 #[r.val, .string nameN] W0 (GetRetB W0 B (t.get nameN))) := refGetB_any t r nameN W0 B (Nat.le_trans hBw hB0.size) (ht.under (hB0.mono hBw) (Nat.le_refl _)) ot
 have hw0 := hB0.size
 have HTR : Hid (∀ W, Below w.heap.size w W -> TreeOf W B t r) := fun W hW => ht.under (hW.mono hBw) (Nat.le_refl _)
 have HF : Hid (∀ f, f ≠ svText -> ∀ W, Below w.heap.size w W -> Calls Tryz.prog 27 #[r.val, .string f] W (OwnRet W 9 encS 1 (fieldJ t f))) := fun f hf W hW => rfield_any t r f hf W B (Nat.le_trans hBw hW.size) (HTR.out W hW) ot hct
 have HLL : Hid ((allF.flatMap (fieldJ t)).length <= 24 * 100000) := by
  have h := textsJ_len t svText
  unfold textsJ at h
  rw [if_pos rfl] at h
  unfold Hid
  omega
 have HF0 : Hid (∀ W, Below w.heap.size w W -> Calls Tryz.prog 27 #[r.val, .string ⟨#[110, 97, 109, 101]⟩] W (OwnRet W 9 encS 1 (fieldJ t nameN))) := fun W hW => HF.out nameN (by decide) W hW
 have HF1 : Hid (∀ W, Below w.heap.size w W -> Calls Tryz.prog 27 #[r.val, .string ⟨#[110, 105, 99, 107, 110, 97, 109, 101]⟩] W (OwnRet W 9 encS 1 (fieldJ t svNick))) := fun W hW => HF.out svNick (by decide) W hW
 have HF2 : Hid (∀ W, Below w.heap.size w W -> Calls Tryz.prog 27 #[r.val, .string ⟨#[111, 114, 103, 97, 110, 105, 122, 97, 116, 105, 111, 110]⟩] W (OwnRet W 9 encS 1 (fieldJ t svOrg))) := fun W hW => HF.out svOrg (by decide) W hW
 have HF3 : Hid (∀ W, Below w.heap.size w W -> Calls Tryz.prog 27 #[r.val, .string ⟨#[101, 109, 97, 105, 108]⟩] W (OwnRet W 9 encS 1 (fieldJ t svEmail))) := fun W hW => HF.out svEmail (by decide) W hW
 have HF4 : Hid (∀ W, Below w.heap.size w W -> Calls Tryz.prog 27 #[r.val, .string ⟨#[112, 104, 111, 110, 101]⟩] W (OwnRet W 9 encS 1 (fieldJ t svPhone))) := fun W hW => HF.out svPhone (by decide) W hW
 have HF5 : Hid (∀ W, Below w.heap.size w W -> Calls Tryz.prog 27 #[r.val, .string ⟨#[111, 110, 108, 105, 110, 101, 83, 101, 114, 118, 105, 99, 101]⟩] W (OwnRet W 9 encS 1 (fieldJ t svOnline))) := fun W hW => HF.out svOnline (by decide) W hW
 have HF6 : Hid (∀ W, Below w.heap.size w W -> Calls Tryz.prog 27 #[r.val, .string ⟨#[97, 100, 100, 114, 101, 115, 115]⟩] W (OwnRet W 9 encS 1 (fieldJ t svAddr))) := fun W hW => HF.out svAddr (by decide) W hW
 have HF7 : Hid (∀ W, Below w.heap.size w W -> Calls Tryz.prog 27 #[r.val, .string ⟨#[110, 111, 116, 101]⟩] W (OwnRet W 9 encS 1 (fieldJ t svNote))) := fun W hW => HF.out svNote (by decide) W hW
 clear HF
 obtain ⟨k, n, s, pl, nl, cl, pm, nm, cm⟩ := r
 dsimp only [RV.val, RV.obj] at *
 have HW := Lib.hid hW0
 have HB0 := Lib.hid hB0
 unfold nameN at HC
 try unfold svText at *
 clear hW0 hB0 ht
 go_enter Tryz.func27, Tryz.ntmps27
 go_upto_region 1 with fail
 rw [HW.out]
 clear HW
 obtain ⟨a0, a1, a2, a3, a4⟩ := hA0.cells5
 have hz0 := hA0.lt
 go_upto_region 8 with (go_at_call 61; refine HC.out.mono ?_; rintro e w1 ⟨rv, bb, rfl, hbb, ht1, hb1⟩; obtain ⟨rk, rn, rS, rpl, rnl, rcl, rpm, rnm, rcm⟩ := rv)
 have hz1 := hb1.size
 have hb2 : Below W0.heap.size W0 (w1.alloc (.cells #[.int .i64 rk, .int .i64 rn, .string rS, .slice rpl rnl rcl, .slice rpm rnm rcm] 25)) := hb1.alloc hz1 _
 have hv2 : VAt (w1.alloc (.cells #[.int .i64 rk, .int .i64 rn, .string rS, .slice rpl rnl rcl, .slice rpm rnm rcm] 25)) w1.heap.size ⟨rk, rn, rS, rpl, rnl, rcl, rpm, rnm, rcm⟩ := heap_alloc_at rfl
 have ht2 := ht1.under ((Below.refl B w1).alloc (Nat.le_trans (Nat.le_trans hBw hw0) hz1) (.cells #[.int .i64 rk, .int .i64 rn, .string rS, .slice rpl rnl rcl, .slice rpm rnm rcm] 25)) (Nat.le_refl _)
 obtain ⟨g, hg⟩ : ∃ g, w1.heap.size = g := ⟨_, rfl⟩
 obtain ⟨W2, hW2⟩ : ∃ W, w1.alloc (.cells #[.int .i64 rk, .int .i64 rn, .string rS, .slice rpl rnl rcl, .slice rpm rnm rcm] 25) = W := ⟨_, rfl⟩
 rw [hW2] at hb2 hv2 ht2
 rw [hg] at hv2
 try rw [hW2]
 try rw [hg]
 obtain ⟨v0, v1, v2, v3, v4⟩ := hv2.cells5
 dsimp only at v0 v1 v2 v3 v4
 have hgl := hv2.lt
 have b0 := bcs hb2 hz0 a0
 have b1 := bcs hb2 hz0 a1
 have b2 := bcs hb2 hz0 a2
 have b3 := bcs hb2 hz0 a3
 have b4 := bcs hb2 hz0 a4
 have hbw := HB0.out.trans (hb2.mono hw0)
 have HX := Lib.hid hbw
 have hw2 := hbw.size
 have hBw2 : B <= W2.heap.size := Nat.le_trans hBw hw2
 have HT2 := Lib.hid ht2
 clear hW2 hg hb1 ht1 hb2 hv2 hz1 hbw ht2 a0 a1 a2 a3 a4 hbb
 clear v0 v1 v2 v3 v4 hgl HT2
 go_upto_region 9 with fail
 have hgx : w.heap.size < W2.heap.size := (cell_some b0).2
 have hb8 : Below W2.heap.size W2 (W2.alloc (.cells #[.string ⟨#[110, 97, 109, 101]⟩, .string ⟨#[110, 105, 99, 107, 110, 97, 109, 101]⟩, .string ⟨#[111, 114, 103, 97, 110, 105, 122, 97, 116, 105, 111, 110]⟩, .string ⟨#[101, 109, 97, 105, 108]⟩, .string ⟨#[112, 104, 111, 110, 101]⟩, .string ⟨#[111, 110, 108, 105, 110, 101, 83, 101, 114, 118, 105, 99, 101]⟩, .string ⟨#[97, 100, 100, 114, 101, 115, 115]⟩, .string ⟨#[110, 111, 116, 101]⟩] 78)) := (Below.refl _ _).alloc (Nat.le_refl _) _
 have hh8 : (W2.alloc (.cells #[.string ⟨#[110, 97, 109, 101]⟩, .string ⟨#[110, 105, 99, 107, 110, 97, 109, 101]⟩, .string ⟨#[111, 114, 103, 97, 110, 105, 122, 97, 116, 105, 111, 110]⟩, .string ⟨#[101, 109, 97, 105, 108]⟩, .string ⟨#[112, 104, 111, 110, 101]⟩, .string ⟨#[111, 110, 108, 105, 110, 101, 83, 101, 114, 118, 105, 99, 101]⟩, .string ⟨#[97, 100, 100, 114, 101, 115, 115]⟩, .string ⟨#[110, 111, 116, 101]⟩] 78)).heap[W2.heap.size]? = some (.cells #[.string ⟨#[110, 97, 109, 101]⟩, .string ⟨#[110, 105, 99, 107, 110, 97, 109, 101]⟩, .string ⟨#[111, 114, 103, 97, 110, 105, 122, 97, 116, 105, 111, 110]⟩, .string ⟨#[101, 109, 97, 105, 108]⟩, .string ⟨#[112, 104, 111, 110, 101]⟩, .string ⟨#[111, 110, 108, 105, 110, 101, 83, 101, 114, 118, 105, 99, 101]⟩, .string ⟨#[97, 100, 100, 114, 101, 115, 115]⟩, .string ⟨#[110, 111, 116, 101]⟩] 78) := heap_alloc_at rfl
 have hgl8 : W2.heap.size < (W2.alloc (.cells #[.string ⟨#[110, 97, 109, 101]⟩, .string ⟨#[110, 105, 99, 107, 110, 97, 109, 101]⟩, .string ⟨#[111, 114, 103, 97, 110, 105, 122, 97, 116, 105, 111, 110]⟩, .string ⟨#[101, 109, 97, 105, 108]⟩, .string ⟨#[112, 104, 111, 110, 101]⟩, .string ⟨#[111, 110, 108, 105, 110, 101, 83, 101, 114, 118, 105, 99, 101]⟩, .string ⟨#[97, 100, 100, 114, 101, 115, 115]⟩, .string ⟨#[110, 111, 116, 101]⟩] 78)).heap.size := (Array.getElem?_eq_some_iff.1 hh8).1
 have HB8 : Hid (Below w.heap.size w (W2.alloc (.cells #[.string ⟨#[110, 97, 109, 101]⟩, .string ⟨#[110, 105, 99, 107, 110, 97, 109, 101]⟩, .string ⟨#[111, 114, 103, 97, 110, 105, 122, 97, 116, 105, 111, 110]⟩, .string ⟨#[101, 109, 97, 105, 108]⟩, .string ⟨#[112, 104, 111, 110, 101]⟩, .string ⟨#[111, 110, 108, 105, 110, 101, 83, 101, 114, 118, 105, 99, 101]⟩, .string ⟨#[97, 100, 100, 114, 101, 115, 115]⟩, .string ⟨#[110, 111, 116, 101]⟩] 78))) := HX.out.trans (hb8.mono hw2)
 have d0 := bcs hb8 hgx b0
 have d1 := bcs hb8 hgx b1
 have d2 := bcs hb8 hgx b2
 have d3 := bcs hb8 hgx b3
 have d4 := bcs hb8 hgx b4
 obtain ⟨g8, hg8⟩ : ∃ g, W2.heap.size = g := ⟨_, rfl⟩
 obtain ⟨W8, hW8⟩ : ∃ W, W2.alloc (.cells #[.string ⟨#[110, 97, 109, 101]⟩, .string ⟨#[110, 105, 99, 107, 110, 97, 109, 101]⟩, .string ⟨#[111, 114, 103, 97, 110, 105, 122, 97, 116, 105, 111, 110]⟩, .string ⟨#[101, 109, 97, 105, 108]⟩, .string ⟨#[112, 104, 111, 110, 101]⟩, .string ⟨#[111, 110, 108, 105, 110, 101, 83, 101, 114, 118, 105, 99, 101]⟩, .string ⟨#[97, 100, 100, 114, 101, 115, 115]⟩, .string ⟨#[110, 111, 116, 101]⟩] 78) = W := ⟨_, rfl⟩
 rw [hW8] at hh8 hgl8 HB8 d0 d1 d2 d3 d4
 rw [hg8] at hh8 hgl8
 try rw [hW8]
 try rw [hg8]
 have hw8 := HB8.out.size
 have hgx8 : w.heap.size < W8.heap.size := (cell_some d0).2
 have HB0 : Hid (W8.cell? ⟨w.heap.size, 0, none⟩ = some (.int .i64 k) /\ W8.cell? ⟨w.heap.size, 1, none⟩ = some (.int .i64 n) /\ W8.cell? ⟨w.heap.size, 2, none⟩ = some (.string s) /\ W8.cell? ⟨w.heap.size, 3, none⟩ = some (.slice pl nl cl) /\ W8.cell? ⟨w.heap.size, 4, none⟩ = some (.slice pm nm cm)) := ⟨d0, d1, d2, d3, d4⟩
 have HH8 := Lib.hid hh8
 clear hW8 hg8 hb8 hh8 b0 b1 b2 b3 b4 d0 d1 d2 d3 d4 hgx
 go_wp2_with fail
 go_loopw [5, 9] (fun u i wr => ∃ j : Nat, j <= 8 /\ i = .int .i64 (j : Int) /\ Hid (Own wr W8.heap.size 9 encS 1 u ((allF.take j).flatMap (fieldJ t)) /\ Below W8.heap.size W8 wr)) (fun _ i _ => 8 - (intOf i).toNat)
 case atStart => exact ⟨0, by omega, rfl, Own.nil _ _ _, Below.refl _ _⟩
 case round =>
  obtain ⟨j, hj, rfl, hH⟩ := hrel
  have HO := Lib.hid hH.out.1
  have HBR := Lib.hid hH.out.2
  have hbz := HBR.out.size
  have HBW : Hid (Below w.heap.size w wr) := HB8.out.trans (HBR.out.mono hw8)
  have c0 := bcs HBR.out hgx8 HB0.out.1
  have c1 := bcs HBR.out hgx8 HB0.out.2.1
  have c2 := bcs HBR.out hgx8 HB0.out.2.2.1
  have c3 := bcs HBR.out hgx8 HB0.out.2.2.2.1
  have c4 := bcs HBR.out hgx8 HB0.out.2.2.2.2
  have hb00 : Below wr.heap.size wr wr.drew := (Below.refl _ _).drew
  clear hH
  by_cases hlt : j < 8
  ·have hjj : j = 0 \/ j = 1 \/ j = 2 \/ j = 3 \/ j = 4 \/ j = 5 \/ j = 6 \/ j = 7 := by omega
   rcases hjj with rfl | rfl | rfl | rfl | rfl | rfl | rfl | rfl
   ·have HPS : Hid ((allF.take (0 + 1)).flatMap (fieldJ t) = (allF.take 0).flatMap (fieldJ t) ++ fieldJ t nameN) := flat_succ (f := fieldJ t) (l := allF) (j := 0) rfl
    have hpm := flat_mid (f := fieldJ t) (l := allF) (j := 0) (x := nameN) rfl
    have HFC := Lib.hid (HF0.out wr.drew HBW.out.drew)
    have z0 := bcs HBR.out hgl8 ((cell_of_row W8 g8 0 _ _ _ HH8.out).trans rfl)
    try dsimp only [RV.val] at HFC
    try rw [show ((0 : Nat) : Int) = 0 from rfl]
    obtain ⟨L0, hL0⟩ : ∃ L, (allF.take 0).flatMap (fieldJ t) = L := ⟨_, rfl⟩
    obtain ⟨LF, hLF⟩ : ∃ L, fieldJ t nameN = L := ⟨_, rfl⟩
    rw [hL0] at HO HPS hpm
    rw [hLF] at HFC HPS hpm
    have HLN : Hid (L0.length + LF.length <= maxLen /\ (L0.length + LF.length) * 16 <= 140737488355328) := by
     have h2 := HLL.out
     exact ⟨by unfold maxLen; omega, by omega⟩
    clear hL0 hLF hpm
    go_upto_region 12 with fail
    go_region_law
     (first
     | (go_simp; go_at_call 27
        (with_reducible refine HFC.out.mono ?_)
        rintro e w4 ⟨u4, rfl, ho4, hb4'⟩
        have hb4 : Below wr.heap.size wr w4 := hb00.trans hb4'
        have ho5 := HO.out.below hb4 (Nat.le_refl _)
        have hz4 : W8.heap.size <= w4.heap.size := Nat.le_trans hbz hb4.size)
     | (refine step_append_rd slS codecS w4 (by rfl) (.tmp 49) (.tmp 54) (by rfl) (v := u5) (by rfl) (by rfl) ho5 (ho4.rd codecS) HLN.out.1 HLN.out.2 hz4 ?_
        intro v8 w8 ho8 hg8 hat8)
     | fail)
    all_goals go_wp2_with fail
    all_goals
     have HS8 : Hid (Own w8 W8.heap.size 9 encS 1 v8 ((allF.take (0 + 1)).flatMap (fieldJ t)) /\ Below W8.heap.size W8 w8) := ⟨by rw [HPS.out]; exact ho8, Below.appended (HBR.out.trans (hb4.mono hbz)) hg8 ho5 hz4⟩
     clear ho8 hg8 hat8 ho4 ho5 hb4 hb4'
     go_roundw
     case rel => exact ⟨0 + 1, by omega, by go_num, HS8.out⟩
     case measure => simp [intOf]; try omega
   ·have HPS : Hid ((allF.take (1 + 1)).flatMap (fieldJ t) = (allF.take 1).flatMap (fieldJ t) ++ fieldJ t svNick) := flat_succ (f := fieldJ t) (l := allF) (j := 1) rfl
    have hpm := flat_mid (f := fieldJ t) (l := allF) (j := 1) (x := svNick) rfl
    have HFC := Lib.hid (HF1.out wr.drew HBW.out.drew)
    have z0 := bcs HBR.out hgl8 ((cell_of_row W8 g8 1 _ _ _ HH8.out).trans rfl)
    try dsimp only [RV.val] at HFC
    try rw [show ((1 : Nat) : Int) = 1 from rfl]
    obtain ⟨L0, hL0⟩ : ∃ L, (allF.take 1).flatMap (fieldJ t) = L := ⟨_, rfl⟩
    obtain ⟨LF, hLF⟩ : ∃ L, fieldJ t svNick = L := ⟨_, rfl⟩
    rw [hL0] at HO HPS hpm
    rw [hLF] at HFC HPS hpm
    have HLN : Hid (L0.length + LF.length <= maxLen /\ (L0.length + LF.length) * 16 <= 140737488355328) := by
     have h2 := HLL.out
     exact ⟨by unfold maxLen; omega, by omega⟩
    clear hL0 hLF hpm
    go_upto_region 12 with fail
    go_region_law
     (first
     | (go_simp; go_at_call 27
        (with_reducible refine HFC.out.mono ?_)
        rintro e w4 ⟨u4, rfl, ho4, hb4'⟩
        have hb4 : Below wr.heap.size wr w4 := hb00.trans hb4'
        have ho5 := HO.out.below hb4 (Nat.le_refl _)
        have hz4 : W8.heap.size <= w4.heap.size := Nat.le_trans hbz hb4.size)
     | (refine step_append_rd slS codecS w4 (by rfl) (.tmp 49) (.tmp 54) (by rfl) (v := u5) (by rfl) (by rfl) ho5 (ho4.rd codecS) HLN.out.1 HLN.out.2 hz4 ?_
        intro v8 w8 ho8 hg8 hat8)
     | fail)
    all_goals go_wp2_with fail
    all_goals
     have HS8 : Hid (Own w8 W8.heap.size 9 encS 1 v8 ((allF.take (1 + 1)).flatMap (fieldJ t)) /\ Below W8.heap.size W8 w8) := ⟨by rw [HPS.out]; exact ho8, Below.appended (HBR.out.trans (hb4.mono hbz)) hg8 ho5 hz4⟩
     clear ho8 hg8 hat8 ho4 ho5 hb4 hb4'
     go_roundw
     case rel => exact ⟨1 + 1, by omega, by go_num, HS8.out⟩
     case measure => simp [intOf]; try omega
   ·have HPS : Hid ((allF.take (2 + 1)).flatMap (fieldJ t) = (allF.take 2).flatMap (fieldJ t) ++ fieldJ t svOrg) := flat_succ (f := fieldJ t) (l := allF) (j := 2) rfl
    have hpm := flat_mid (f := fieldJ t) (l := allF) (j := 2) (x := svOrg) rfl
    have HFC := Lib.hid (HF2.out wr.drew HBW.out.drew)
    have z0 := bcs HBR.out hgl8 ((cell_of_row W8 g8 2 _ _ _ HH8.out).trans rfl)
    try dsimp only [RV.val] at HFC
    try rw [show ((2 : Nat) : Int) = 2 from rfl]
    obtain ⟨L0, hL0⟩ : ∃ L, (allF.take 2).flatMap (fieldJ t) = L := ⟨_, rfl⟩
    obtain ⟨LF, hLF⟩ : ∃ L, fieldJ t svOrg = L := ⟨_, rfl⟩
    rw [hL0] at HO HPS hpm
    rw [hLF] at HFC HPS hpm
    have HLN : Hid (L0.length + LF.length <= maxLen /\ (L0.length + LF.length) * 16 <= 140737488355328) := by
     have h2 := HLL.out
     exact ⟨by unfold maxLen; omega, by omega⟩
    clear hL0 hLF hpm
    go_upto_region 12 with fail
    go_region_law
     (first
     | (go_simp; go_at_call 27
        (with_reducible refine HFC.out.mono ?_)
        rintro e w4 ⟨u4, rfl, ho4, hb4'⟩
        have hb4 : Below wr.heap.size wr w4 := hb00.trans hb4'
        have ho5 := HO.out.below hb4 (Nat.le_refl _)
        have hz4 : W8.heap.size <= w4.heap.size := Nat.le_trans hbz hb4.size)
     | (refine step_append_rd slS codecS w4 (by rfl) (.tmp 49) (.tmp 54) (by rfl) (v := u5) (by rfl) (by rfl) ho5 (ho4.rd codecS) HLN.out.1 HLN.out.2 hz4 ?_
        intro v8 w8 ho8 hg8 hat8)
     | fail)
    all_goals go_wp2_with fail
    all_goals
     have HS8 : Hid (Own w8 W8.heap.size 9 encS 1 v8 ((allF.take (2 + 1)).flatMap (fieldJ t)) /\ Below W8.heap.size W8 w8) := ⟨by rw [HPS.out]; exact ho8, Below.appended (HBR.out.trans (hb4.mono hbz)) hg8 ho5 hz4⟩
     clear ho8 hg8 hat8 ho4 ho5 hb4 hb4'
     go_roundw
     case rel => exact ⟨2 + 1, by omega, by go_num, HS8.out⟩
     case measure => simp [intOf]; try omega
   ·have HPS : Hid ((allF.take (3 + 1)).flatMap (fieldJ t) = (allF.take 3).flatMap (fieldJ t) ++ fieldJ t svEmail) := flat_succ (f := fieldJ t) (l := allF) (j := 3) rfl
    have hpm := flat_mid (f := fieldJ t) (l := allF) (j := 3) (x := svEmail) rfl
    have HFC := Lib.hid (HF3.out wr.drew HBW.out.drew)
    have z0 := bcs HBR.out hgl8 ((cell_of_row W8 g8 3 _ _ _ HH8.out).trans rfl)
    try dsimp only [RV.val] at HFC
    try rw [show ((3 : Nat) : Int) = 3 from rfl]
    obtain ⟨L0, hL0⟩ : ∃ L, (allF.take 3).flatMap (fieldJ t) = L := ⟨_, rfl⟩
    obtain ⟨LF, hLF⟩ : ∃ L, fieldJ t svEmail = L := ⟨_, rfl⟩
    rw [hL0] at HO HPS hpm
    rw [hLF] at HFC HPS hpm
    have HLN : Hid (L0.length + LF.length <= maxLen /\ (L0.length + LF.length) * 16 <= 140737488355328) := by
     have h2 := HLL.out
     exact ⟨by unfold maxLen; omega, by omega⟩
    clear hL0 hLF hpm
    go_upto_region 12 with fail
    go_region_law
     (first
     | (go_simp; go_at_call 27
        (with_reducible refine HFC.out.mono ?_)
        rintro e w4 ⟨u4, rfl, ho4, hb4'⟩
        have hb4 : Below wr.heap.size wr w4 := hb00.trans hb4'
        have ho5 := HO.out.below hb4 (Nat.le_refl _)
        have hz4 : W8.heap.size <= w4.heap.size := Nat.le_trans hbz hb4.size)
     | (refine step_append_rd slS codecS w4 (by rfl) (.tmp 49) (.tmp 54) (by rfl) (v := u5) (by rfl) (by rfl) ho5 (ho4.rd codecS) HLN.out.1 HLN.out.2 hz4 ?_
        intro v8 w8 ho8 hg8 hat8)
     | fail)
    all_goals go_wp2_with fail
    all_goals
     have HS8 : Hid (Own w8 W8.heap.size 9 encS 1 v8 ((allF.take (3 + 1)).flatMap (fieldJ t)) /\ Below W8.heap.size W8 w8) := ⟨by rw [HPS.out]; exact ho8, Below.appended (HBR.out.trans (hb4.mono hbz)) hg8 ho5 hz4⟩
     clear ho8 hg8 hat8 ho4 ho5 hb4 hb4'
     go_roundw
     case rel => exact ⟨3 + 1, by omega, by go_num, HS8.out⟩
     case measure => simp [intOf]; try omega
   ·have HPS : Hid ((allF.take (4 + 1)).flatMap (fieldJ t) = (allF.take 4).flatMap (fieldJ t) ++ fieldJ t svPhone) := flat_succ (f := fieldJ t) (l := allF) (j := 4) rfl
    have hpm := flat_mid (f := fieldJ t) (l := allF) (j := 4) (x := svPhone) rfl
    have HFC := Lib.hid (HF4.out wr.drew HBW.out.drew)
    have z0 := bcs HBR.out hgl8 ((cell_of_row W8 g8 4 _ _ _ HH8.out).trans rfl)
    try dsimp only [RV.val] at HFC
    try rw [show ((4 : Nat) : Int) = 4 from rfl]
    obtain ⟨L0, hL0⟩ : ∃ L, (allF.take 4).flatMap (fieldJ t) = L := ⟨_, rfl⟩
    obtain ⟨LF, hLF⟩ : ∃ L, fieldJ t svPhone = L := ⟨_, rfl⟩
    rw [hL0] at HO HPS hpm
    rw [hLF] at HFC HPS hpm
    have HLN : Hid (L0.length + LF.length <= maxLen /\ (L0.length + LF.length) * 16 <= 140737488355328) := by
     have h2 := HLL.out
     exact ⟨by unfold maxLen; omega, by omega⟩
    clear hL0 hLF hpm
    go_upto_region 12 with fail
    go_region_law
     (first
     | (go_simp; go_at_call 27
        (with_reducible refine HFC.out.mono ?_)
        rintro e w4 ⟨u4, rfl, ho4, hb4'⟩
        have hb4 : Below wr.heap.size wr w4 := hb00.trans hb4'
        have ho5 := HO.out.below hb4 (Nat.le_refl _)
        have hz4 : W8.heap.size <= w4.heap.size := Nat.le_trans hbz hb4.size)
     | (refine step_append_rd slS codecS w4 (by rfl) (.tmp 49) (.tmp 54) (by rfl) (v := u5) (by rfl) (by rfl) ho5 (ho4.rd codecS) HLN.out.1 HLN.out.2 hz4 ?_
        intro v8 w8 ho8 hg8 hat8)
     | fail)
    all_goals go_wp2_with fail
    all_goals
     have HS8 : Hid (Own w8 W8.heap.size 9 encS 1 v8 ((allF.take (4 + 1)).flatMap (fieldJ t)) /\ Below W8.heap.size W8 w8) := ⟨by rw [HPS.out]; exact ho8, Below.appended (HBR.out.trans (hb4.mono hbz)) hg8 ho5 hz4⟩
     clear ho8 hg8 hat8 ho4 ho5 hb4 hb4'
     go_roundw
     case rel => exact ⟨4 + 1, by omega, by go_num, HS8.out⟩
     case measure => simp [intOf]; try omega
   ·have HPS : Hid ((allF.take (5 + 1)).flatMap (fieldJ t) = (allF.take 5).flatMap (fieldJ t) ++ fieldJ t svOnline) := flat_succ (f := fieldJ t) (l := allF) (j := 5) rfl
    have hpm := flat_mid (f := fieldJ t) (l := allF) (j := 5) (x := svOnline) rfl
    have HFC := Lib.hid (HF5.out wr.drew HBW.out.drew)
    have z0 := bcs HBR.out hgl8 ((cell_of_row W8 g8 5 _ _ _ HH8.out).trans rfl)
    try dsimp only [RV.val] at HFC
    try rw [show ((5 : Nat) : Int) = 5 from rfl]
    obtain ⟨L0, hL0⟩ : ∃ L, (allF.take 5).flatMap (fieldJ t) = L := ⟨_, rfl⟩
    obtain ⟨LF, hLF⟩ : ∃ L, fieldJ t svOnline = L := ⟨_, rfl⟩
    rw [hL0] at HO HPS hpm
    rw [hLF] at HFC HPS hpm
    have HLN : Hid (L0.length + LF.length <= maxLen /\ (L0.length + LF.length) * 16 <= 140737488355328) := by
     have h2 := HLL.out
     exact ⟨by unfold maxLen; omega, by omega⟩
    clear hL0 hLF hpm
    go_upto_region 12 with fail
    go_region_law
     (first
     | (go_simp; go_at_call 27
        (with_reducible refine HFC.out.mono ?_)
        rintro e w4 ⟨u4, rfl, ho4, hb4'⟩
        have hb4 : Below wr.heap.size wr w4 := hb00.trans hb4'
        have ho5 := HO.out.below hb4 (Nat.le_refl _)
        have hz4 : W8.heap.size <= w4.heap.size := Nat.le_trans hbz hb4.size)
     | (refine step_append_rd slS codecS w4 (by rfl) (.tmp 49) (.tmp 54) (by rfl) (v := u5) (by rfl) (by rfl) ho5 (ho4.rd codecS) HLN.out.1 HLN.out.2 hz4 ?_
        intro v8 w8 ho8 hg8 hat8)
     | fail)
    all_goals go_wp2_with fail
    all_goals
     have HS8 : Hid (Own w8 W8.heap.size 9 encS 1 v8 ((allF.take (5 + 1)).flatMap (fieldJ t)) /\ Below W8.heap.size W8 w8) := ⟨by rw [HPS.out]; exact ho8, Below.appended (HBR.out.trans (hb4.mono hbz)) hg8 ho5 hz4⟩
     clear ho8 hg8 hat8 ho4 ho5 hb4 hb4'
     go_roundw
     case rel => exact ⟨5 + 1, by omega, by go_num, HS8.out⟩
     case measure => simp [intOf]; try omega
   ·have HPS : Hid ((allF.take (6 + 1)).flatMap (fieldJ t) = (allF.take 6).flatMap (fieldJ t) ++ fieldJ t svAddr) := flat_succ (f := fieldJ t) (l := allF) (j := 6) rfl
    have hpm := flat_mid (f := fieldJ t) (l := allF) (j := 6) (x := svAddr) rfl
    have HFC := Lib.hid (HF6.out wr.drew HBW.out.drew)
    have z0 := bcs HBR.out hgl8 ((cell_of_row W8 g8 6 _ _ _ HH8.out).trans rfl)
    try dsimp only [RV.val] at HFC
    try rw [show ((6 : Nat) : Int) = 6 from rfl]
    obtain ⟨L0, hL0⟩ : ∃ L, (allF.take 6).flatMap (fieldJ t) = L := ⟨_, rfl⟩
    obtain ⟨LF, hLF⟩ : ∃ L, fieldJ t svAddr = L := ⟨_, rfl⟩
    rw [hL0] at HO HPS hpm
    rw [hLF] at HFC HPS hpm
    have HLN : Hid (L0.length + LF.length <= maxLen /\ (L0.length + LF.length) * 16 <= 140737488355328) := by
     have h2 := HLL.out
     exact ⟨by unfold maxLen; omega, by omega⟩
    clear hL0 hLF hpm
    go_upto_region 12 with fail
    go_region_law
     (first
     | (go_simp; go_at_call 27
        (with_reducible refine HFC.out.mono ?_)
        rintro e w4 ⟨u4, rfl, ho4, hb4'⟩
        have hb4 : Below wr.heap.size wr w4 := hb00.trans hb4'
        have ho5 := HO.out.below hb4 (Nat.le_refl _)
        have hz4 : W8.heap.size <= w4.heap.size := Nat.le_trans hbz hb4.size)
     | (refine step_append_rd slS codecS w4 (by rfl) (.tmp 49) (.tmp 54) (by rfl) (v := u5) (by rfl) (by rfl) ho5 (ho4.rd codecS) HLN.out.1 HLN.out.2 hz4 ?_
        intro v8 w8 ho8 hg8 hat8)
     | fail)
    all_goals go_wp2_with fail
    all_goals
     have HS8 : Hid (Own w8 W8.heap.size 9 encS 1 v8 ((allF.take (6 + 1)).flatMap (fieldJ t)) /\ Below W8.heap.size W8 w8) := ⟨by rw [HPS.out]; exact ho8, Below.appended (HBR.out.trans (hb4.mono hbz)) hg8 ho5 hz4⟩
     clear ho8 hg8 hat8 ho4 ho5 hb4 hb4'
     go_roundw
     case rel => exact ⟨6 + 1, by omega, by go_num, HS8.out⟩
     case measure => simp [intOf]; try omega
   ·have HPS : Hid ((allF.take (7 + 1)).flatMap (fieldJ t) = (allF.take 7).flatMap (fieldJ t) ++ fieldJ t svNote) := flat_succ (f := fieldJ t) (l := allF) (j := 7) rfl
    have hpm := flat_mid (f := fieldJ t) (l := allF) (j := 7) (x := svNote) rfl
    have HFC := Lib.hid (HF7.out wr.drew HBW.out.drew)
    have z0 := bcs HBR.out hgl8 ((cell_of_row W8 g8 7 _ _ _ HH8.out).trans rfl)
    try dsimp only [RV.val] at HFC
    try rw [show ((7 : Nat) : Int) = 7 from rfl]
    obtain ⟨L0, hL0⟩ : ∃ L, (allF.take 7).flatMap (fieldJ t) = L := ⟨_, rfl⟩
    obtain ⟨LF, hLF⟩ : ∃ L, fieldJ t svNote = L := ⟨_, rfl⟩
    rw [hL0] at HO HPS hpm
    rw [hLF] at HFC HPS hpm
    have HLN : Hid (L0.length + LF.length <= maxLen /\ (L0.length + LF.length) * 16 <= 140737488355328) := by
     have h2 := HLL.out
     exact ⟨by unfold maxLen; omega, by omega⟩
    clear hL0 hLF hpm
    go_upto_region 12 with fail
    go_region_law
     (first
     | (go_simp; go_at_call 27
        (with_reducible refine HFC.out.mono ?_)
        rintro e w4 ⟨u4, rfl, ho4, hb4'⟩
        have hb4 : Below wr.heap.size wr w4 := hb00.trans hb4'
        have ho5 := HO.out.below hb4 (Nat.le_refl _)
        have hz4 : W8.heap.size <= w4.heap.size := Nat.le_trans hbz hb4.size)
     | (refine step_append_rd slS codecS w4 (by rfl) (.tmp 49) (.tmp 54) (by rfl) (v := u5) (by rfl) (by rfl) ho5 (ho4.rd codecS) HLN.out.1 HLN.out.2 hz4 ?_
        intro v8 w8 ho8 hg8 hat8)
     | fail)
    all_goals go_wp2_with fail
    all_goals
     have HS8 : Hid (Own w8 W8.heap.size 9 encS 1 v8 ((allF.take (7 + 1)).flatMap (fieldJ t)) /\ Below W8.heap.size W8 w8) := ⟨by rw [HPS.out]; exact ho8, Below.appended (HBR.out.trans (hb4.mono hbz)) hg8 ho5 hz4⟩
     clear ho8 hg8 hat8 ho4 ho5 hb4 hb4'
     go_roundw
     case rel => exact ⟨7 + 1, by omega, by go_num, HS8.out⟩
     case measure => simp [intOf]; try omega
  ·obtain rfl : j = 8 := by omega
   have ho := HO.out
   have hta : allF.take 8 = allF := rfl
   rw [hta] at ho
   have HZ := Lib.hid (And.intro (ho.mono hw8) HBW.out)
   clear ho hta
   go_wp2_with fail
   go_ret
   exact ⟨_, rfl, HZ.out.1, HZ.out.2⟩
theorem rtexts_any (t : JV) (r : RV) (f : ByteArray) (w : World) (B : Nat) (hBw : B <= w.heap.size) (ht : TreeOf w B t r) (ot : t.Ok) (hct : countT t <= 100000) :
 Calls Tryz.prog 27 #[r.val, .string f] w (OwnRet w 9 encS 1 (textsJ t f)) := by
 unfold textsJ
 by_cases h : f = svText
 ·subst h
  rw [if_pos rfl]
  exact rtx_text t r w B hBw ht ot hct
 ·rw [if_neg h]
  exact rfield_any t r f h w B hBw ht ot hct
end
section
open Go.RowKit Go.OpenShut
mutual
def chkT : JV -> Nat -> Nat -> Int × Nat
 | .mk k n s l m, d, p => if 16 < d then (51, p) else if 8192 < p + 1 then (53, p + 1) else if rightP k n s l.length (m.map (·.1)) = false then (1, p + 1) else
  if (chkL l (d + 1) (p + 1)).1 ≠ 0 then chkL l (d + 1) (p + 1) else chkM m (d + 1) (chkL l (d + 1) (p + 1)).2
def chkL : List JV -> Nat -> Nat -> Int × Nat
 | [], _, p => (0, p)
 | t :: l, d, p => if (chkT t d p).1 ≠ 0 then chkT t d p else chkL l d (chkT t d p).2
def chkM : List (ByteArray × JV) -> Nat -> Nat -> Int × Nat
 | [], _, p => (0, p)
 | (_, t) :: m, d, p => if (chkT t d p).1 ≠ 0 then chkT t d p else chkM m d (chkT t d p).2
end
theorem chkL_step {l : List JV} {j : Nat} {t : JV} (h : l[j]? = some t) (d p : Nat) : chkL (l.drop j) d p = if (chkT t d p).1 ≠ 0 then chkT t d p else chkL (l.drop (j + 1)) d (chkT t d p).2 := by
 obtain ⟨hj, rfl⟩ := List.getElem?_eq_some_iff.1 h
 rw [List.drop_eq_getElem_cons hj]
 rfl
theorem chkM_step {m : List (ByteArray × JV)} {j : Nat} {q : ByteArray × JV} (h : m[j]? = some q) (d p : Nat) : chkM (m.drop j) d p = if (chkT q.2 d p).1 ≠ 0 then chkT q.2 d p else chkM (m.drop (j + 1)) d (chkT q.2 d p).2 := by
 obtain ⟨hj, rfl⟩ := List.getElem?_eq_some_iff.1 h
 rw [List.drop_eq_getElem_cons hj]
 rfl
mutual
theorem chkT_ok : ∀ (t : JV) (d p : Nat), (chkT t d p).1 = 0 -> (chkT t d p).2 = p + countT t /\ p + countT t <= 8192
 | .mk k n s l m, d, p, h => by
   unfold chkT at h ⊢
   unfold countT
   split at h
   ·simp at h
   rename_i h1
   rw [if_neg h1]
   split at h
   ·simp at h
   rename_i h2
   rw [if_neg h2]
   split at h
   ·simp at h
   rename_i h3
   rw [if_neg h3]
   split at h
   ·rename_i h4
    exact absurd h h4
   ·rename_i h4
    rw [if_neg h4]
    have hl := chkL_ok l (d + 1) (p + 1) (by simpa using h4) (by omega)
    have hm := chkM_ok m (d + 1) _ h (by omega)
    rw [hm.1, hl.1]
    rw [hl.1] at hm
    omega
theorem chkL_ok : ∀ (l : List JV) (d p : Nat), (chkL l d p).1 = 0 -> p <= 8192 -> (chkL l d p).2 = p + countL l /\ p + countL l <= 8192
 | [], d, p, h, hp => by simp [chkL, countL]; omega
 | t :: l, d, p, h, hp => by
   unfold chkL at h ⊢
   unfold countL
   split at h
   ·rename_i h4
    exact absurd h h4
   ·rename_i h4
    rw [if_neg h4]
    have ht := chkT_ok t d p (by simpa using h4)
    have hl := chkL_ok l d _ h (by omega)
    rw [hl.1, ht.1]
    rw [ht.1] at hl
    omega
theorem chkM_ok : ∀ (m : List (ByteArray × JV)) (d p : Nat), (chkM m d p).1 = 0 -> p <= 8192 -> (chkM m d p).2 = p + countM m /\ p + countM m <= 8192
 | [], d, p, h, hp => by simp [chkM, countM]; omega
 | (_, t) :: l, d, p, h, hp => by
   unfold chkM at h ⊢
   unfold countM
   split at h
   ·rename_i h4
    exact absurd h h4
   ·rename_i h4
    rw [if_neg h4]
    have ht := chkT_ok t d p (by simpa using h4)
    have hl := chkM_ok l d _ h (by omega)
    rw [hl.1, ht.1]
    rw [ht.1] at hl
    omega
end
theorem _root_.Go.RowKit.Below.gb {w w' : World} (h : Below w.heap.size w w') (row : Option Nat) : w.grownBy w' row := ⟨h.os, h.tape, h.output, h.size, fun k hk _ => h.block k hk⟩
def CtAt (W : World) (g p : Nat) : Prop := W.heap[g]? = some (.cells #[.int .i64 p] 87 (0, 0))
theorem CtAt.lt {W : World} {g p : Nat} (h : CtAt W g p) : g < W.heap.size := (Array.getElem?_eq_some_iff.1 h).1
theorem CtAt.cell {W : World} {g p : Nat} (h : CtAt W g p) : W.cell? ⟨g, 0, none⟩ = some (.int .i64 p) := by
 unfold CtAt at h
 rw [cell_of_row W g 0 _ _ _ h]
 rfl
theorem CtAt.frozen {W : World} {g p : Nat} (h : CtAt W g p) : W.frozen? ⟨g, 0, none⟩ = false := by
 unfold CtAt at h
 simp [World.frozen?, h]
theorem CtAt.alloc {W : World} {g p : Nat} (h : CtAt W g p) (o : Obj) : CtAt (W.alloc o) g p := (Below.heap_alloc W o g h.lt).trans h
theorem CtAt.below {W W' : World} {g p : Nat} (h : CtAt W g p) (hb : Below W.heap.size W W') : CtAt W' g p := (hb.block g h.lt).trans h
def ChkRet (w : World) (g : Nat) (r : Int × Nat) (e : Ending) (w' : World) : Prop := e = .returned (.int .i64 r.1) /\ CtAt w' g r.2 /\ w.grownBy w' (some g)
theorem VAt.kept {W W' : World} {g x : Nat} {r : RV} (h : VAt W x r) (hg : W.grownBy W' (some g)) (hne : x ≠ g) : VAt W' x r := (hg.block x h.lt (by simpa using hne)).trans h
theorem chk_any (N : Nat) : ∀ (t : JV) (r : RV) (w : World) (B g d p : Nat), SizeOf.sizeOf t <= N -> TreeOf w B t r -> t.Ok -> B <= g -> CtAt w g p -> p <= 8192 -> d <= 17 ->
 Calls Tryz.prog 68 #[.pointer (some ⟨g, 0, none⟩), r.val, .int .i64 d] w (ChkRet w g (chkT t d p)) := by
 induction N with
 | zero => intro t r w B g d p hN; cases t; simp at hN
 | succ N ih =>
   intro t r w B g d p hN ht ot hBg hc hp hd
   cases ht with
   | @mk _ l m rs rms hl el hcl hm em hcn hcm =>
   obtain ⟨k, n, s, pl, nl, cl, pm, nm, cm⟩ := r
   cases ot with
   | mk _ _ bs bl bm okl oks okm =>
   dsimp only [RV.val] at *
   have eL := rd_nlen hl
   have eM := rd_nlen hm
   have hgw := hc.lt
   have HT : Hid (∀ (i : Nat) t q, l[i]? = some t -> rs[i]? = some q -> ∀ W (d' p' : Nat), w.grownBy W (some g) -> CtAt W g p' -> p' <= 8192 -> d' <= 17 -> Calls Tryz.prog 68 #[.pointer (some ⟨g, 0, none⟩), q.val, .int .i64 d'] W (ChkRet W g (chkT t d' p'))) :=
    fun i t q h1 h2 W d' p' hb hc' hp' hd' => ih t q W B g d' p' (by have := JV.lt_l (k := k) (n := n) (s := s) (m := m) h1; omega) ((hcl i t q h1 h2).under ((Below.refl B w).grown hb (by omega) (fun a e => by cases e; exact hBg)) (Nat.le_refl _)) (okl i t h1) hBg hc' hp' hd'
   have HS : Hid (∀ (i : Nat) q x, m[i]? = some q -> rms[i]? = some x -> ∀ W (d' p' : Nat), w.grownBy W (some g) -> CtAt W g p' -> p' <= 8192 -> d' <= 17 -> Calls Tryz.prog 68 #[.pointer (some ⟨g, 0, none⟩), x.v.val, .int .i64 d'] W (ChkRet W g (chkT q.2 d' p'))) :=
    fun i q x h1 h2 W d' p' hb hc' hp' hd' => ih q.2 x.v W B g d' p' (by have := JV.lt_m (k := k) (n := n) (s := s) (l := l) h1; omega) ((hcm i q x h1 h2).under ((Below.refl B w).grown hb (by omega) (fun a e => by cases e; exact hBg)) (Nat.le_refl _)) (okm i q h1) hBg hc' hp' hd'
   have hnl : nl <= 1759218604390 := by omega
   have hnm : nm <= 1466015503658 := by omega
   have hnames : rms.map (·.name) = m.map (·.1) := by
    apply List.ext_getElem?
    intro i
    rw [List.getElem?_map, List.getElem?_map]
    cases h1 : m[i]? with
    | none =>
      have : rms[i]? = none := by rw [List.getElem?_eq_none_iff] at h1 ⊢; omega
      rw [this]; rfl
    | some a =>
      obtain ⟨b, hb⟩ : ∃ b, rms[i]? = some b := ⟨_, List.getElem?_eq_getElem (by have := (List.getElem?_eq_some_iff.1 h1).1; omega)⟩
      rw [hb]
      simp [hcn i a b h1 hb]
   have hsz : ∀ (i : Nat) q, rms[i]? = some q -> q.name.size <= maxLen := by
    intro i q hq
    obtain ⟨b, hb⟩ : ∃ b, m[i]? = some b := ⟨_, List.getElem?_eq_getElem (by have := (List.getElem?_eq_some_iff.1 hq).1; omega)⟩
    rw [<- hcn i b q hb hq]
    have := oks i b hb
    unfold maxLen; omega
   have hR : ∀ W, Below B w W -> B <= W.heap.size -> Calls Tryz.prog 101 #[.agg #[.int .i64 k, .int .i64 n, .string s, .slice pl nl cl, .slice pm nm cm]] W fun e w' => e = .returned (.bool (rightP k n s l.length (m.map (·.1)))) /\ Below W.heap.size W w' := fun W hb hz => by
    rw [<- hnames, show l.length = nl by omega]
    exact rightV_any ⟨k, n, s, pl, nl, cl, pm, nm, cm⟩ rms W (hm.below hb hz) hsz hnm (by show s.size <= _; unfold maxLen; omega)
   have HR := Lib.hid hR
   have HL := Lib.hid hl
   have HM := Lib.hid hm
   have E1 : Hid (l.length = nl /\ rs.length = nl) := ⟨by omega, by omega⟩
   have E2 : Hid (m.length = nm /\ rms.length = nm) := ⟨by omega, by omega⟩
   have hA0 : VAt (w.alloc (.cells #[.int .i64 k, .int .i64 n, .string s, .slice pl nl cl, .slice pm nm cm] 25)) w.heap.size ⟨k, n, s, pl, nl, cl, pm, nm, cm⟩ := heap_alloc_at rfl
   have hG0 : w.grownBy (w.alloc (.cells #[.int .i64 k, .int .i64 n, .string s, .slice pl nl cl, .slice pm nm cm] 25)) (some g) := World.grownBy_alloc _ _ _
   have hC0 := hc.alloc (.cells #[.int .i64 k, .int .i64 n, .string s, .slice pl nl cl, .slice pm nm cm] 25)
   clear ih hcl hcn hcm hl hm okl oks okm el em bl bm eL eM hN hR hnames hsz hc bs
   by_cases hd16 : 16 < d
   ·have HX : Hid (chkT (.mk k n s l m) d p = (51, p)) := by unfold Hid chkT; rw [if_pos hd16]
    have HC := Lib.hid hC0
    have HG := Lib.hid hG0
    clear hA0 hC0 hG0
    go_enter Tryz.func68, Tryz.ntmps68
    go_wp2_with fail
    go_ret
    exact ⟨ret_int (by rw [HX.out]), by rw [HX.out]; exact HC.out, HG.out⟩
   ·go_enter Tryz.func68, Tryz.ntmps68
    go_upto_region 3 with fail
    obtain ⟨W0, hW0⟩ : ∃ W0, (w.alloc (.cells #[.int .i64 k, .int .i64 n, .string s, .slice pl nl cl, .slice pm nm cm] 25)) = W0 := ⟨_, rfl⟩
    rw [hW0] at hA0 hG0 hC0 ⊢
    clear hW0
    have c0 := hC0.cell
    have c1 := hC0.frozen
    have hA1 : VAt (W0.setCell ⟨g, 0, none⟩ (.int .i64 ((p + 1 : Nat) : Int))) w.heap.size ⟨k, n, s, pl, nl, cl, pm, nm, cm⟩ := hA0.kept (grownBy_set W0 g 0 _) (by omega)
    have hG1 : w.grownBy (W0.setCell ⟨g, 0, none⟩ (.int .i64 ((p + 1 : Nat) : Int))) (some g) := hG0.trans (grownBy_set W0 g 0 _)
    have hC1 : CtAt (W0.setCell ⟨g, 0, none⟩ (.int .i64 ((p + 1 : Nat) : Int))) g (p + 1) := by
     have h := hC0
     unfold CtAt at h ⊢
     simp [World.setCell, Array.getElem?_modify, h]
    have hp0 : (0 : Int) <= (p : Int) := Int.natCast_nonneg _
    have hp1 : (p : Int) <= 8192 := by omega
    have hd0 : (0 : Int) <= (d : Int) := Int.natCast_nonneg _
    have hd1 : (d : Int) <= 16 := by omega
    have hw1 : W0.setCell ⟨g, 0, none⟩ (.int .i64 ((p : Int) + 1)) = W0.setCell ⟨g, 0, none⟩ (.int .i64 ((p + 1 : Nat) : Int)) := by rw [show ((p : Int) + 1) = ((p + 1 : Nat) : Int) by omega]
    go_upto_region 4 with fail
    clear hw1 c0 c1 hA0 hG0 hC0
    obtain ⟨W1, hW1⟩ : ∃ W1, W0.setCell ⟨g, 0, none⟩ (.int .i64 ((p + 1 : Nat) : Int)) = W1 := ⟨_, rfl⟩
    rw [hW1] at hA1 hG1 hC1 ⊢
    clear hW1 W0
    have c0 := hC1.cell
    have HC := Lib.hid hC1
    have HG := Lib.hid hG1
    have HA := Lib.hid hA1
    clear hC1 hG1
    by_cases hp8 : 8192 < p + 1
    ·have HX : Hid (chkT (.mk k n s l m) d p = (53, p + 1)) := by unfold Hid chkT; rw [if_neg hd16, if_pos hp8]
     have hq : decide ((8192 : Int) < ((p + 1 : Nat) : Int)) = true := by simp; omega
     clear hA1
     go_wp2_with fail
     go_ret
     exact ⟨ret_int (by rw [HX.out]), by rw [HX.out]; exact HC.out, HG.out⟩
    ·have hq : decide ((8192 : Int) < ((p + 1 : Nat) : Int)) = false := by simp; omega
     obtain ⟨a0, a1, a2, a3, a4⟩ := hA1.cells5
     dsimp only at a0 a1 a2 a3 a4
     clear hA1
     have hz := HA.out.lt
     have hBW : Below B w W1 := (Below.refl B w).grown HG.out (by omega) (fun a e => by cases e; exact hBg)
     have HR2 := Lib.hid (HR.out W1 hBW (by omega))
     have HBW := Lib.hid hBW
     clear HR hBW
     cases hr : rightP k n s l.length (m.map (·.1)) with
     | false =>
       have HX : Hid (chkT (.mk k n s l m) d p = (1, p + 1)) := by unfold Hid chkT; rw [if_neg hd16, if_neg hp8, if_pos hr]
       rw [hr] at HR2
       clear hr
       go_wp2_with (go_at_call 101; refine HR2.out.mono ?_; rintro e w1 ⟨rfl, hb1⟩)
       go_ret
       exact ⟨ret_int (by rw [HX.out]), by rw [HX.out]; exact HC.out.below hb1, HG.out.trans (hb1.gb _)⟩
     | true =>
       rw [hr] at HR2
       have HX : Hid (chkT (.mk k n s l m) d p = if (chkL l (d + 1) (p + 1)).1 ≠ 0 then chkL l (d + 1) (p + 1) else chkM m (d + 1) (chkL l (d + 1) (p + 1)).2) := by
        unfold Hid; rw [chkT, if_neg hd16, if_neg hp8, if_neg (by rw [hr]; decide)]
       clear hr
       go_upto_region 8 with (go_at_call 101; refine HR2.out.mono ?_; rintro e w1 ⟨rfl, hb1⟩)
       have HA1 := HA.out.under hb1 HA.out.lt
       have HC1 := HC.out.below hb1
       have HG1 := HG.out.trans (hb1.gb _)
       have hz1 := HG1.size
       clear HA HC HG HR2 c0 a0 a1 a2 a3 a4 hb1 HBW hz hp1 hp0
       obtain ⟨W2, hW2⟩ : ∃ W2, w1 = W2 := ⟨_, rfl⟩
       rw [hW2] at HA1 HC1 HG1 hz1 ⊢
       clear hW2 w1
       have HA := Lib.hid HA1
       have HG := Lib.hid HG1
       have hz2 := HA1.lt
       obtain ⟨a0, a1, a2, a3, a4⟩ := HA1.cells5
       dsimp only at a0 a1 a2 a3 a4
       have hp9 : p + 1 <= 8192 := by omega
       clear HA1 HG1 hp8 hd16 hp
       have HGW : Hid (B <= w.heap.size) := by unfold Hid; omega
       have HNE : Hid (w.heap.size ≠ g) := by unfold Hid; omega
       obtain ⟨R1, hR1⟩ : ∃ R, chkL l (d + 1) (p + 1) = R := ⟨_, rfl⟩
       rw [hR1] at HX
       have HR1 := Lib.hid hR1
       clear hR1
       go_wp2_with fail
       go_loopw [33] (fun i wr => ∃ (j q : Nat), j <= nl /\ i = .int .i64 j /\ q <= 8192 /\ CtAt wr g q /\ Hid (chkL (l.drop j) (d + 1) q = R1) /\ Hid (W2.grownBy wr (some g))) (fun i _ => nl - (intOf i).toNat)
       case atStart => exact ⟨0, p + 1, Nat.zero_le _, rfl, hp9, HC1, HR1, World.grownBy.refl _ _⟩
       case round =>
        obtain ⟨j, q, hj, rfl, hq8, hcr, hrr, hgr⟩ := hrel
        have hGw := HG.out.trans hgr.out
        by_cases hlt : j < nl
        ·obtain ⟨tx, htx⟩ : ∃ x, l[j]? = some x := ⟨_, List.getElem?_eq_getElem (by have := E1.out; omega)⟩
         obtain ⟨x, hx⟩ : ∃ x, rs[j]? = some x := ⟨_, List.getElem?_eq_getElem (by have := E1.out; omega)⟩
         have hbw : Below B w wr := (Below.refl B w).grown hGw HGW.out (fun a e => by cases e; exact hBg)
         obtain ⟨b1, o1, rfl, hb1, hc1⟩ := rd_at' (HL.out.below hbw (Nat.le_refl _)) hx
         have f0 := hc1 0 _ rfl
         have f1 := hc1 1 _ rfl
         have f2 := hc1 2 _ rfl
         have f3 := hc1 3 _ rfl
         have f4 := hc1 4 _ rfl
         rw [Nat.add_zero] at f0
         have hst := chkL_step htx (d + 1) q
         rw [hrr.out] at hst
         have hGx : w.grownBy (wr.alloc (.cells #[.int .i64 x.k, .int .i64 x.n, .string x.s, .slice x.pl x.nl x.cl, .slice x.pm x.nm x.cm] 25)) (some g) := hGw.trans (World.grownBy_alloc _ _ _)
         have hH := HT.out j tx x htx hx _ (d + 1) q hGx (hcr.alloc _) hq8 (by omega)
         have HG2 : Hid (W2.grownBy (wr.alloc (.cells #[.int .i64 x.k, .int .i64 x.n, .string x.s, .slice x.pl x.nl x.cl, .slice x.pm x.nm x.cm] 25)) (some g)) := hgr.out.trans (World.grownBy_alloc _ _ _)
         have hk0 : (0 : Int) <= (j : Int) := Int.natCast_nonneg _
         have hk1 : (j : Int) < (nl : Int) := by omega
         have hok := chkT_ok tx (d + 1) q
         generalize chkT tx (d + 1) q = RR at hst hH hok
         obtain ⟨ev, pv⟩ := RR
         dsimp only at hst hok
         have HH := Lib.hid hH
         clear hc1 htx hx hH hGx hbw hGw hcr hrr hgr
         by_cases hev : ev = 0
         ·have hpv : pv <= 8192 := by have := hok hev; omega
          rw [if_neg (by simpa using hev)] at hst
          have HST := Lib.hid hst
          subst hev
          clear hst hok
          go_wp2_with (go_at_call 68; refine HH.out.mono ?_; rintro e w3 ⟨rfl, hc3, hg3⟩; have HG3 := Lib.hid (HG2.out.trans hg3); clear hg3)
          go_roundw
          case rel => exact ⟨j + 1, pv, by omega, by go_num, hpv, hc3, HST.out.symm, HG3⟩
          case measure => simp [intOf]; omega
         ·rw [if_pos (by simpa using hev)] at hst
          have HST := Lib.hid hst
          have hq1 : (ev != 0) = true := by simpa using hev
          have hq2 : (ev == 0) = false := by simpa using hev
          have HXX : Hid (chkT (.mk k n s l m) d p = (ev, pv)) := by
           unfold Hid
           rw [HX.out, HST.out, if_pos (by simpa using hev)]
          clear hst hok hev
          go_wp2_with (go_at_call 68; refine HH.out.mono ?_; rintro e w3 ⟨rfl, hc3, hg3⟩; have HG3 := Lib.hid (HG2.out.trans hg3); clear hg3; have HC3 := Lib.hid hc3; clear hc3)
          go_ret
          exact ⟨ret_int (by rw [HXX.out]), by rw [HXX.out]; exact HC3.out, HG.out.trans HG3.out⟩
        ·obtain rfl : j = nl := by omega
         have hR1 : R1 = (0, q) := by
          have h := hrr.out
          rw [List.drop_of_length_le (by have := E1.out; omega)] at h
          exact h.symm
         have hXX : chkT (.mk k n s l m) d p = chkM m (d + 1) q := by
          rw [HX.out, hR1]; rfl
         clear hR1
         have c4 := (HA.out.kept hgr.out HNE.out).cell 4 rfl
         dsimp only at c4
         clear a0 a1 a2 a3 a4 HX hrr HR1
         obtain ⟨R2, hR2⟩ : ∃ R, chkM m (d + 1) q = R := ⟨_, rfl⟩
         rw [hR2] at hXX
         have HX := Lib.hid hXX
         have HR2 := Lib.hid hR2
         have HG4 := Lib.hid (HG.out.trans hgr.out)
         have hzz : w.heap.size < wr.heap.size := by have := hgr.out.size; omega
         clear hXX hR2 hGw hgr HC1 HT E1 HL
         obtain ⟨W3, hW3⟩ : ∃ W3, wr = W3 := ⟨_, rfl⟩
         rw [hW3] at c4 hcr HG4 hzz ⊢
         clear hW3 wr
         go_wp2_with fail
         go_loopw [49] (fun i wr => ∃ (j q : Nat), j <= nm /\ i = .int .i64 j /\ q <= 8192 /\ CtAt wr g q /\ Hid (chkM (m.drop j) (d + 1) q = R2) /\ Hid (W3.grownBy wr (some g))) (fun i _ => nm - (intOf i).toNat)
         case atStart => exact ⟨0, q, Nat.zero_le _, rfl, hq8, hcr, HR2, World.grownBy.refl _ _⟩
         case round =>
          obtain ⟨j, q, hj, rfl, hq8, hcr, hrr, hgr⟩ := hrel
          have hGw := HG4.out.trans hgr.out
          by_cases hlt : j < nm
          ·obtain ⟨tx, htx⟩ : ∃ x, m[j]? = some x := ⟨_, List.getElem?_eq_getElem (by have := E2.out; omega)⟩
           obtain ⟨x, hx⟩ : ∃ x, rms[j]? = some x := ⟨_, List.getElem?_eq_getElem (by have := E2.out; omega)⟩
           have hbw : Below B w wr := (Below.refl B w).grown hGw HGW.out (fun a e => by cases e; exact hBg)
           obtain ⟨b1, o1, rfl, hb1, hc1⟩ := rd_at' (HM.out.below hbw (Nat.le_refl _)) hx
           have f0 := hc1 0 _ rfl
           have f1 := hc1 1 _ rfl
           have f2 := hc1 2 _ rfl
           have f3 := hc1 3 _ rfl
           have f4 := hc1 4 _ rfl
           have f5 := hc1 5 _ rfl
           rw [Nat.add_zero] at f0
           have hst := chkM_step htx (d + 1) q
           rw [hrr.out] at hst
           have hGx : w.grownBy (wr.alloc (.cells #[.string x.name, .int .i64 x.v.k, .int .i64 x.v.n, .string x.v.s, .slice x.v.pl x.v.nl x.v.cl, .slice x.v.pm x.v.nm x.v.cm] 32)) (some g) := hGw.trans (World.grownBy_alloc _ _ _)
           have hH := HS.out j tx x htx hx _ (d + 1) q hGx (hcr.alloc _) hq8 (by omega)
           have HG2 : Hid (W3.grownBy (wr.alloc (.cells #[.string x.name, .int .i64 x.v.k, .int .i64 x.v.n, .string x.v.s, .slice x.v.pl x.v.nl x.v.cl, .slice x.v.pm x.v.nm x.v.cm] 32)) (some g)) := hgr.out.trans (World.grownBy_alloc _ _ _)
           have hk0 : (0 : Int) <= (j : Int) := Int.natCast_nonneg _
           have hk1 : (j : Int) < (nm : Int) := by omega
           have hok := chkT_ok tx.2 (d + 1) q
           generalize chkT tx.2 (d + 1) q = RR at hst hH hok
           obtain ⟨ev, pv⟩ := RR
           dsimp only at hst hok
           have HH := Lib.hid hH
           clear hc1 htx hx hH hGx hbw hGw hcr hrr hgr
           by_cases hev : ev = 0
           ·have hpv : pv <= 8192 := by have := hok hev; omega
            rw [if_neg (by simpa using hev)] at hst
            have HST := Lib.hid hst
            subst hev
            clear hst hok
            go_wp2_with (go_at_call 68; refine HH.out.mono ?_; rintro e w3 ⟨rfl, hc3, hg3⟩; have HG3 := Lib.hid (HG2.out.trans hg3); clear hg3)
            go_roundw
            case rel => exact ⟨j + 1, pv, by omega, by go_num, hpv, hc3, HST.out.symm, HG3⟩
            case measure => simp [intOf]; omega
           ·rw [if_pos (by simpa using hev)] at hst
            have HST := Lib.hid hst
            have hq1 : (ev != 0) = true := by simpa using hev
            have hq2 : (ev == 0) = false := by simpa using hev
            have HXX : Hid (chkT (.mk k n s l m) d p = (ev, pv)) := by
             unfold Hid
             rw [HX.out, HST.out]
            clear hst hok hev
            go_wp2_with (go_at_call 68; refine HH.out.mono ?_; rintro e w3 ⟨rfl, hc3, hg3⟩; have HG3 := Lib.hid (HG2.out.trans hg3); clear hg3; have HC3 := Lib.hid hc3; clear hc3)
            go_ret
            exact ⟨ret_int (by rw [HXX.out]), by rw [HXX.out]; exact HC3.out, HG4.out.trans HG3.out⟩
          ·obtain rfl : j = nm := by omega
           have HXX : Hid (chkT (.mk k n s l m) d p = (0, q)) := by
            have h := hrr.out
            rw [List.drop_of_length_le (by have := E2.out; omega)] at h
            unfold Hid
            rw [HX.out, <- h]; rfl
           have HC3 := Lib.hid hcr
           clear hcr
           go_wp2_with fail
           go_ret
           exact ⟨ret_int (by rw [HXX.out]), by rw [HXX.out]; exact HC3.out, HG4.out.trans hgr.out⟩
def checkE (t : JV) : Int := (chkT t 1 0).1
theorem check_any (t : JV) (r : RV) (w : World) (ht : TreeOf w w.heap.size t r) (ot : t.Ok) :
 Calls Tryz.prog 33 #[r.val] w fun e w' => e = .returned (.int .i64 (checkE t)) /\ Below w.heap.size w w' := by
 have HT := Lib.hid ht
 have HO := Lib.hid ot
 clear ht ot
 obtain ⟨k, n, s, pl, nl, cl, pm, nm, cm⟩ := r
 dsimp only [RV.val] at *
 have hB0 : Below w.heap.size w ((w.alloc (.cells #[.int .i64 k, .int .i64 n, .string s, .slice pl nl cl, .slice pm nm cm] 25)).alloc (.cells #[.int .i64 0] 87)) := ((Below.refl _ _).alloc (Nat.le_refl _) _).alloc (by simp) _
 have hC : CtAt ((w.alloc (.cells #[.int .i64 k, .int .i64 n, .string s, .slice pl nl cl, .slice pm nm cm] 25)).alloc (.cells #[.int .i64 0] 87)) (w.heap.size + 1) 0 := by
  have := @heap_alloc_at (w.alloc (.cells #[.int .i64 k, .int .i64 n, .string s, .slice pl nl cl, .slice pm nm cm] 25)) (.cells #[.int .i64 0] 87) _ rfl
  simpa [CtAt] using this
 have HH := Lib.hid (chk_any _ t ⟨k, n, s, pl, nl, cl, pm, nm, cm⟩ _ w.heap.size (w.heap.size + 1) 1 0 (Nat.le_refl _) (HT.out.under hB0 (Nat.le_refl _)) HO.out (by omega) hC (by omega) (by omega))
 have HB := Lib.hid hB0
 clear hC hB0
 go_enter Tryz.func33, Tryz.ntmps33
 go_wp2_with (go_at_call 68; refine HH.out.mono ?_; rintro e w3 ⟨rfl, hc3, hg3⟩)
 go_ret
 exact ⟨rfl, HB.out.grown hg3 (by simp; omega) (fun a e => by cases e; omega)⟩
end
end Go.Proofs.YtffhccmppdgmfaaGreatDoor
