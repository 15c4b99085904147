import Derived.Test.YtffhccmppdgmfaaGreatDoorD27
import Derived.Test.YtffhccmppdgmfaaGreatDoorD13
import Derived.Test.YtffhccmppdgmfaaGreatDoorD22
import Derived.Test.YtffhccmppdgmfaaGreatDoorD23
import Derived.Test.YtffhccmppdgmfaaGreatDoorD24
import Derived.Test.YtffhccmppdgmfaaGreatDoorD19
import Derived.Test.YtffhccmppdgmfaaGreatDoorD11
import Derived.Test.YtffhccmppdgmfaaGreatDoorD17
import Derived.BigQuiet
set_option linter.unusedSimpArgs false
set_option linter.unusedVariables false
set_option maxRecDepth 200000
set_option maxHeartbeats 8000000
namespace Go.Proofs.YtffhccmppdgmfaaGreatDoor
section
open Go Go.RowKit Go.OpenShut
theorem rtx_none (t : JV) (r : RV) (f : ByteArray) (w : World) (B : Nat) (hBw : B <= w.heap.size) (ht : TreeOf w B t r) (ot : t.Ok) (hct : countT t <= 100000) (n0 : f ≠ nameN) (n1 : f ≠ givenN) (n2 : f ≠ surN) (n3 : f ≠ sur2N) (n4 : f ≠ svNick) (n5 : f ≠ svOrg) (n6 : f ≠ svEmail) (n7 : f ≠ svPhone) (n8 : f ≠ svOnline) (n9 : f ≠ svAddr) (n10 : f ≠ svNote) (n11 : f ≠ svText) :
 Calls Tryz.prog 27 #[r.val, .string f] w (OwnRet w 9 encS 1 []) := by
 obtain ⟨W0, hW0⟩ : ∃ W0, w.alloc r.obj = W0 := ⟨_, rfl⟩
 have hA0 : VAt W0 w.heap.size r := by rw [<- hW0]; exact heap_alloc_at rfl
 have hB0 : Below w.heap.size w W0 := by rw [<- hW0]; exact (Below.refl _ _).alloc (Nat.le_refl _) _
 have HC : Hid (Calls Tryz.prog 61 #[r.val, .string nameN] W0 (GetRetB W0 B (t.get nameN))) := refGetB_any t r nameN W0 B (Nat.le_trans hBw hB0.size) (ht.under (hB0.mono hBw) (Nat.le_refl _)) ot
 have hw0 := hB0.size
 have HTR : Hid (∀ W, Below w.heap.size w W -> TreeOf W B t r) := fun W hW => ht.under (hW.mono hBw) (Nat.le_refl _)
 have qn0 : (f.toList == [110, 97, 109, 101]) = false := by rw [<- bytes_dec]; exact decide_eq_false n0
 have qn1 : (f.toList == [110, 97, 109, 101, 47, 103, 105, 118, 101, 110]) = false := by rw [<- bytes_dec]; exact decide_eq_false n1
 have qn2 : (f.toList == [110, 97, 109, 101, 47, 115, 117, 114, 110, 97, 109, 101]) = false := by rw [<- bytes_dec]; exact decide_eq_false n2
 have qn3 : (f.toList == [110, 97, 109, 101, 47, 115, 117, 114, 110, 97, 109, 101, 50]) = false := by rw [<- bytes_dec]; exact decide_eq_false n3
 have qn4 : (f.toList == [110, 105, 99, 107, 110, 97, 109, 101]) = false := by rw [<- bytes_dec]; exact decide_eq_false n4
 have qn5 : (f.toList == [111, 114, 103, 97, 110, 105, 122, 97, 116, 105, 111, 110]) = false := by rw [<- bytes_dec]; exact decide_eq_false n5
 have qn6 : (f.toList == [101, 109, 97, 105, 108]) = false := by rw [<- bytes_dec]; exact decide_eq_false n6
 have qn7 : (f.toList == [112, 104, 111, 110, 101]) = false := by rw [<- bytes_dec]; exact decide_eq_false n7
 have qn8 : (f.toList == [111, 110, 108, 105, 110, 101, 83, 101, 114, 118, 105, 99, 101]) = false := by rw [<- bytes_dec]; exact decide_eq_false n8
 have qn9 : (f.toList == [97, 100, 100, 114, 101, 115, 115]) = false := by rw [<- bytes_dec]; exact decide_eq_false n9
 have qn10 : (f.toList == [110, 111, 116, 101]) = false := by rw [<- bytes_dec]; exact decide_eq_false n10
 have qn11 : (f.toList == [116, 101, 120, 116]) = false := by rw [<- bytes_dec]; exact decide_eq_false n11
 clear n0 n1 n2 n3 n4 n5 n6 n7 n8 n9 n10 n11
 obtain ⟨k, n, s, pl, nl, cl, pm, nm, cm⟩ := r
 dsimp only [RV.val, RV.obj] at *
 have HW := Lib.hid hW0
 have HB0 := Lib.hid hB0
 unfold nameN at HC
 clear hW0 hB0 ht
 go_enter Tryz.func27, Tryz.ntmps27
 go_upto_region 1 with fail
 rw [HW.out]
 clear HW
 obtain ⟨a0, a1, a2, a3, a4⟩ := hA0.cells5
 have hz0 := hA0.lt
 go_upto_region 15 with (go_at_call 61; refine HC.out.mono ?_; rintro e w1 ⟨rv, bb, rfl, hbb, ht1, hb1⟩; obtain ⟨rk, rn, rS, rpl, rnl, rcl, rpm, rnm, rcm⟩ := rv)
 have hz1 := hb1.size
 have hb2 : Below W0.heap.size W0 (w1.alloc (.cells #[.int .i64 rk, .int .i64 rn, .string rS, .slice rpl rnl rcl, .slice rpm rnm rcm] 25)) := hb1.alloc hz1 _
 have hv2 : VAt (w1.alloc (.cells #[.int .i64 rk, .int .i64 rn, .string rS, .slice rpl rnl rcl, .slice rpm rnm rcm] 25)) w1.heap.size ⟨rk, rn, rS, rpl, rnl, rcl, rpm, rnm, rcm⟩ := heap_alloc_at rfl
 have ht2 := ht1.under ((Below.refl B w1).alloc (Nat.le_trans (Nat.le_trans hBw hw0) hz1) (.cells #[.int .i64 rk, .int .i64 rn, .string rS, .slice rpl rnl rcl, .slice rpm rnm rcm] 25)) (Nat.le_refl _)
 obtain ⟨g, hg⟩ : ∃ g, w1.heap.size = g := ⟨_, rfl⟩
 obtain ⟨W2, hW2⟩ : ∃ W, w1.alloc (.cells #[.int .i64 rk, .int .i64 rn, .string rS, .slice rpl rnl rcl, .slice rpm rnm rcm] 25) = W := ⟨_, rfl⟩
 rw [hW2] at hb2 hv2 ht2
 rw [hg] at hv2
 try rw [hW2]
 try rw [hg]
 obtain ⟨v0, v1, v2, v3, v4⟩ := hv2.cells5
 dsimp only at v0 v1 v2 v3 v4
 have hgl := hv2.lt
 have b0 := bcs hb2 hz0 a0
 have b1 := bcs hb2 hz0 a1
 have b2 := bcs hb2 hz0 a2
 have b3 := bcs hb2 hz0 a3
 have b4 := bcs hb2 hz0 a4
 have hbw := HB0.out.trans (hb2.mono hw0)
 have HX := Lib.hid hbw
 have hw2 := hbw.size
 have hBw2 : B <= W2.heap.size := Nat.le_trans hBw hw2
 have HT2 := Lib.hid ht2
 clear hW2 hg hb1 ht1 hb2 hv2 hz1 hbw ht2 a0 a1 a2 a3 a4 hbb
 have HTR2 := HTR.out W2 HX.out
 have HC2 : Hid (Calls Tryz.prog 61 #[.agg #[.int .i64 k, .int .i64 n, .string s, .slice pl nl cl, .slice pm nm cm], .string ⟨#[]⟩] W2 (GetRetB W2 B (t.get ⟨#[]⟩))) := refGetB_any t ⟨k, n, s, pl, nl, cl, pm, nm, cm⟩ ⟨#[]⟩ W2 B hBw2 HTR2 ot
 clear HTR2 v0 v1 v2 v3 v4 HT2 hgl
 go_upto_region 26 with (go_at_call 61; (with_reducible refine HC2.out.mono ?_); rintro e w3 ⟨rv, b3', rfl, hbb, ht1, hb1⟩; obtain ⟨mk, mn, mS, mpl, mnl, mcl, mpm, mnm, mcm⟩ := rv)
 obtain ⟨hkk, hss⟩ := ht1.kk
 dsimp only at hkk hss
 have hz1 := hb1.size
 have hb2 : Below W2.heap.size W2 (w3.alloc (.cells #[.int .i64 mk, .int .i64 mn, .string mS, .slice mpl mnl mcl, .slice mpm mnm mcm] 25)) := hb1.alloc hz1 _
 have hv2 : VAt (w3.alloc (.cells #[.int .i64 mk, .int .i64 mn, .string mS, .slice mpl mnl mcl, .slice mpm mnm mcm] 25)) w3.heap.size ⟨mk, mn, mS, mpl, mnl, mcl, mpm, mnm, mcm⟩ := heap_alloc_at rfl
 have ht2 := (ht1.under ((Below.refl B w3).alloc (Nat.le_trans hBw2 hz1) (.cells #[.int .i64 mk, .int .i64 mn, .string mS, .slice mpl mnl mcl, .slice mpm mnm mcm] 25)) (Nat.le_refl _)).ml
 dsimp only at ht2
 obtain ⟨g3, hg3⟩ : ∃ g, w3.heap.size = g := ⟨_, rfl⟩
 obtain ⟨W3, hW3⟩ : ∃ W, w3.alloc (.cells #[.int .i64 mk, .int .i64 mn, .string mS, .slice mpl mnl mcl, .slice mpm mnm mcm] 25) = W := ⟨_, rfl⟩
 rw [hW3] at hb2 hv2 ht2
 rw [hg3] at hv2
 try rw [hW3]
 try rw [hg3]
 have HB3 : Hid (Below w.heap.size w W3) := HX.out.trans (hb2.mono hw2)
 have hw3 := HB3.out.size
 have hBw3 : B <= W3.heap.size := Nat.le_trans hBw hw3
 have HV3 := Lib.hid hv2
 have hgl3 := hv2.lt
 have HL := Lib.hid ht2
 clear hW3 hg3 hb1 ht1 hb2 hv2 hz1 ht2 hss hbb b0 b1 b2 b3 b4 HX
 have hmo : mnm <= 1466015503658 := by
  have hg : ((t.get ⟨#[]⟩).getD JV.zero).Ok := by
   cases hx : t.get ⟨#[]⟩ with
   | none => exact nameV_ok (t := JV.zero) (.mk (by decide) (by decide) (by decide) (by decide) (by decide) (fun i x h => by simp at h) (fun i p h => by simp at h) (fun i p h => by simp at h))
   | some x => exact ot.get hx
  obtain ⟨rms, hm, hlen, _⟩ := HL.out
  have h1 := rd_nlen hm
  generalize (t.get ⟨#[]⟩).getD JV.zero = z at hg hlen
  cases hg with
  | mk _ _ _ _ b _ _ _ =>
    have h2 : _ = rms.length := hlen
    simp only [JV.m] at h2
    omega
 have hm0 : (0 : Int) <= (mnm : Int) := Int.natCast_nonneg _
 clear hkk
 obtain ⟨rms, hm, _, _⟩ := HL.out
 have hrl : rms.length = mnm := (rd_nlen hm).symm
 have HRD := Lib.hid hm
 clear hm
 go_wp2_with fail
 by_cases hk6 : mk = 6
 ·subst hk6
  go_loopw [5, 13] (fun u i wr => ∃ j : Nat, j <= mnm /\ i = .int .i64 (j : Int) /\ u = .slice none 0 0 /\ Hid (Below W3.heap.size W3 wr)) (fun _ i _ => mnm - (intOf i).toNat)
  case atStart => exact ⟨0, by omega, rfl, rfl, Below.refl _ _⟩
  case round =>
   obtain ⟨j, hj, rfl, rfl, HBR⟩ := hrel
   have hbz := HBR.out.size
   have hvr := HV3.out.under HBR.out hgl3
   have c0 := hvr.cell 0 rfl
   have c4 := hvr.cell 4 rfl
   dsimp only at c0 c4
   have hj0 : (0 : Int) <= (j : Int) := Int.natCast_nonneg _
   by_cases hlt : j < mnm
   ·obtain ⟨⟨xname, ⟨xk, xn, xs, xpl, xnl, xcl, xpm, xnm, xcm⟩⟩, hx⟩ : ∃ x, rms[j]? = some x := ⟨_, List.getElem?_eq_getElem (by omega)⟩
    obtain ⟨bx, ox, rfl, hbx, hcx⟩ := rd_at' (HRD.out.below (HBR.out.mono hBw3) (Nat.le_refl _)) hx
    have f0 := hcx 0 _ rfl
    have f1 := hcx 1 _ rfl
    have f2 := hcx 2 _ rfl
    have f3 := hcx 3 _ rfl
    have f4 := hcx 4 _ rfl
    have f5 := hcx 5 _ rfl
    rw [Nat.add_zero] at f0
    dsimp only at f0 f1 f2 f3 f4 f5
    have hj1 : (j : Int) < (mnm : Int) := by omega
    clear hx hcx hvr
    go_wp2_with fail
    go_roundw
    case rel => exact ⟨j + 1, by omega, by go_num, rfl, HBR.out.alloc hbz _⟩
    case measure => simp [intOf]; omega
   ·obtain rfl : j = mnm := by omega
    have HZ := Lib.hid (HB3.out.trans (HBR.out.mono hw3))
    clear hvr
    go_wp2_with fail
    go_ret
    exact ⟨_, rfl, Own.nil _ _ _, HZ.out⟩
 ·have q1 : (mk == 6) = false := by simpa using hk6
  have c0 := HV3.out.cell 0 rfl
  have c4 := HV3.out.cell 4 rfl
  dsimp only at c0 c4
  clear hk6
  go_loopw [5, 13] (fun u i wr => u = .slice none 0 0 /\ i = .int .i64 0 /\ W3 = wr) (fun _ i _ => 0)
  case atStart => exact ⟨rfl, rfl, rfl⟩
  case round =>
   obtain ⟨rfl, rfl, rfl⟩ := hrel
   go_wp2_with fail
   all_goals go_ret
   all_goals exact ⟨_, rfl, Own.nil _ _ _, HB3.out⟩
theorem rfield_any (t : JV) (r : RV) (f : ByteArray) (hf : f ≠ svText) (w : World) (B : Nat) (hBw : B <= w.heap.size) (ht : TreeOf w B t r) (ot : t.Ok) (hct : countT t <= 100000) :
 Calls Tryz.prog 27 #[r.val, .string f] w (OwnRet w 9 encS 1 (fieldJ t f)) := by
 by_cases h0 : f = nameN
 ·subst h0
  rw [fieldJ_name]
  exact rtx_name t r w B hBw ht ot hct
 by_cases h1 : f = givenN \/ f = surN \/ f = sur2N
 ·rw [fieldJ_part t f h1]
  exact rntexts_any t r f h1 w B hBw ht ot
 by_cases h2 : f = svNick
 ·subst h2
  rw [fieldJ_svNick]
  exact rtx_nick t r w B hBw ht ot hct
 by_cases h3 : f = svOrg
 ·subst h3
  rw [fieldJ_svOrg]
  exact rtx_org t r w B hBw ht ot hct
 by_cases h4 : f = svEmail
 ·subst h4
  rw [fieldJ_svEmail]
  exact rtx_email t r w B hBw ht ot hct
 by_cases h5 : f = svPhone
 ·subst h5
  rw [fieldJ_svPhone]
  exact rtx_phone t r w B hBw ht ot hct
 by_cases h6 : f = svOnline
 ·subst h6
  rw [fieldJ_svOnline]
  exact rtx_online t r w B hBw ht ot hct
 by_cases h7 : f = svAddr
 ·subst h7
  rw [fieldJ_svAddr]
  exact rtx_addr t r w B hBw ht ot hct
 by_cases h8 : f = svNote
 ·subst h8
  rw [fieldJ_svNote]
  exact rtx_note t r w B hBw ht ot hct
 have e : fieldJ t f = [] := by
  unfold fieldJ
  rw [if_neg h0, if_neg h1, if_neg h2, if_neg h3, if_neg h4, if_neg h5, if_neg h6, if_neg h7, if_neg h8]
 rw [e]
 exact rtx_none t r f w B hBw ht ot hct h0 (fun e => h1 (.inl e)) (fun e => h1 (.inr (.inl e))) (fun e => h1 (.inr (.inr e))) h2 h3 h4 h5 h6 h7 h8 hf
theorem rtx_text (t : JV) (r : RV) (w : World) (B : Nat) (hBw : B <= w.heap.size) (ht : TreeOf w B t r) (ot : t.Ok) (hct : countT t <= 100000) :
 Calls Tryz.prog 27 #[r.val, .string svText] w (OwnRet w 9 encS 1 (allF.flatMap (fieldJ t))) := by
 obtain ⟨W0, hW0⟩ : ∃ W0, w.alloc r.obj = W0 := ⟨_, rfl⟩
 have hA0 : VAt W0 w.heap.size r := by rw [<- hW0]; exact heap_alloc_at rfl
 have hB0 : Below w.heap.size w W0 := by rw [<- hW0]; exact (Below.refl _ _).alloc (Nat.le_refl _) _
 have HC : Hid (Calls Tryz.prog 61 #[r.val, .string nameN] W0 (GetRetB W0 B (t.get nameN))) := refGetB_any t r nameN W0 B (Nat.le_trans hBw hB0.size) (ht.under (hB0.mono hBw) (Nat.le_refl _)) ot
 have hw0 := hB0.size
 have HTR : Hid (∀ W, Below w.heap.size w W -> TreeOf W B t r) := fun W hW => ht.under (hW.mono hBw) (Nat.le_refl _)
 have HF : Hid (∀ f, f ≠ svText -> ∀ W, Below w.heap.size w W -> Calls Tryz.prog 27 #[r.val, .string f] W (OwnRet W 9 encS 1 (fieldJ t f))) := fun f hf W hW => rfield_any t r f hf W B (Nat.le_trans hBw hW.size) (HTR.out W hW) ot hct
 have HLL : Hid ((allF.flatMap (fieldJ t)).length <= 24 * 100000) := by
  have h := textsJ_len t svText
  unfold textsJ at h
  rw [if_pos rfl] at h
  unfold Hid
  omega
 have HF0 : Hid (∀ W, Below w.heap.size w W -> Calls Tryz.prog 27 #[r.val, .string ⟨#[110, 97, 109, 101]⟩] W (OwnRet W 9 encS 1 (fieldJ t nameN))) := fun W hW => HF.out nameN (by decide) W hW
 have HF1 : Hid (∀ W, Below w.heap.size w W -> Calls Tryz.prog 27 #[r.val, .string ⟨#[110, 105, 99, 107, 110, 97, 109, 101]⟩] W (OwnRet W 9 encS 1 (fieldJ t svNick))) := fun W hW => HF.out svNick (by decide) W hW
 have HF2 : Hid (∀ W, Below w.heap.size w W -> Calls Tryz.prog 27 #[r.val, .string ⟨#[111, 114, 103, 97, 110, 105, 122, 97, 116, 105, 111, 110]⟩] W (OwnRet W 9 encS 1 (fieldJ t svOrg))) := fun W hW => HF.out svOrg (by decide) W hW
 have HF3 : Hid (∀ W, Below w.heap.size w W -> Calls Tryz.prog 27 #[r.val, .string ⟨#[101, 109, 97, 105, 108]⟩] W (OwnRet W 9 encS 1 (fieldJ t svEmail))) := fun W hW => HF.out svEmail (by decide) W hW
 have HF4 : Hid (∀ W, Below w.heap.size w W -> Calls Tryz.prog 27 #[r.val, .string ⟨#[112, 104, 111, 110, 101]⟩] W (OwnRet W 9 encS 1 (fieldJ t svPhone))) := fun W hW => HF.out svPhone (by decide) W hW
 have HF5 : Hid (∀ W, Below w.heap.size w W -> Calls Tryz.prog 27 #[r.val, .string ⟨#[111, 110, 108, 105, 110, 101, 83, 101, 114, 118, 105, 99, 101]⟩] W (OwnRet W 9 encS 1 (fieldJ t svOnline))) := fun W hW => HF.out svOnline (by decide) W hW
 have HF6 : Hid (∀ W, Below w.heap.size w W -> Calls Tryz.prog 27 #[r.val, .string ⟨#[97, 100, 100, 114, 101, 115, 115]⟩] W (OwnRet W 9 encS 1 (fieldJ t svAddr))) := fun W hW => HF.out svAddr (by decide) W hW
 have HF7 : Hid (∀ W, Below w.heap.size w W -> Calls Tryz.prog 27 #[r.val, .string ⟨#[110, 111, 116, 101]⟩] W (OwnRet W 9 encS 1 (fieldJ t svNote))) := fun W hW => HF.out svNote (by decide) W hW
 clear HF
 obtain ⟨k, n, s, pl, nl, cl, pm, nm, cm⟩ := r
 dsimp only [RV.val, RV.obj] at *
 have HW := Lib.hid hW0
 have HB0 := Lib.hid hB0
 unfold nameN at HC
 try unfold svText at *
 clear hW0 hB0 ht
 go_enter Tryz.func27, Tryz.ntmps27
 go_upto_region 1 with fail
 rw [HW.out]
 clear HW
 obtain ⟨a0, a1, a2, a3, a4⟩ := hA0.cells5
 have hz0 := hA0.lt
 go_upto_region 8 with (go_at_call 61; refine HC.out.mono ?_; rintro e w1 ⟨rv, bb, rfl, hbb, ht1, hb1⟩; obtain ⟨rk, rn, rS, rpl, rnl, rcl, rpm, rnm, rcm⟩ := rv)
 have hz1 := hb1.size
 have hb2 : Below W0.heap.size W0 (w1.alloc (.cells #[.int .i64 rk, .int .i64 rn, .string rS, .slice rpl rnl rcl, .slice rpm rnm rcm] 25)) := hb1.alloc hz1 _
 have hv2 : VAt (w1.alloc (.cells #[.int .i64 rk, .int .i64 rn, .string rS, .slice rpl rnl rcl, .slice rpm rnm rcm] 25)) w1.heap.size ⟨rk, rn, rS, rpl, rnl, rcl, rpm, rnm, rcm⟩ := heap_alloc_at rfl
 have ht2 := ht1.under ((Below.refl B w1).alloc (Nat.le_trans (Nat.le_trans hBw hw0) hz1) (.cells #[.int .i64 rk, .int .i64 rn, .string rS, .slice rpl rnl rcl, .slice rpm rnm rcm] 25)) (Nat.le_refl _)
 obtain ⟨g, hg⟩ : ∃ g, w1.heap.size = g := ⟨_, rfl⟩
 obtain ⟨W2, hW2⟩ : ∃ W, w1.alloc (.cells #[.int .i64 rk, .int .i64 rn, .string rS, .slice rpl rnl rcl, .slice rpm rnm rcm] 25) = W := ⟨_, rfl⟩
 rw [hW2] at hb2 hv2 ht2
 rw [hg] at hv2
 try rw [hW2]
 try rw [hg]
 obtain ⟨v0, v1, v2, v3, v4⟩ := hv2.cells5
 dsimp only at v0 v1 v2 v3 v4
 have hgl := hv2.lt
 have b0 := bcs hb2 hz0 a0
 have b1 := bcs hb2 hz0 a1
 have b2 := bcs hb2 hz0 a2
 have b3 := bcs hb2 hz0 a3
 have b4 := bcs hb2 hz0 a4
 have hbw := HB0.out.trans (hb2.mono hw0)
 have HX := Lib.hid hbw
 have hw2 := hbw.size
 have hBw2 : B <= W2.heap.size := Nat.le_trans hBw hw2
 have HT2 := Lib.hid ht2
 clear hW2 hg hb1 ht1 hb2 hv2 hz1 hbw ht2 a0 a1 a2 a3 a4 hbb
 clear v0 v1 v2 v3 v4 hgl HT2
 go_upto_region 9 with fail
 have hgx : w.heap.size < W2.heap.size := (cell_some b0).2
 have hb8 : Below W2.heap.size W2 (W2.alloc (.cells #[.string ⟨#[110, 97, 109, 101]⟩, .string ⟨#[110, 105, 99, 107, 110, 97, 109, 101]⟩, .string ⟨#[111, 114, 103, 97, 110, 105, 122, 97, 116, 105, 111, 110]⟩, .string ⟨#[101, 109, 97, 105, 108]⟩, .string ⟨#[112, 104, 111, 110, 101]⟩, .string ⟨#[111, 110, 108, 105, 110, 101, 83, 101, 114, 118, 105, 99, 101]⟩, .string ⟨#[97, 100, 100, 114, 101, 115, 115]⟩, .string ⟨#[110, 111, 116, 101]⟩] 78)) := (Below.refl _ _).alloc (Nat.le_refl _) _
 have hh8 : (W2.alloc (.cells #[.string ⟨#[110, 97, 109, 101]⟩, .string ⟨#[110, 105, 99, 107, 110, 97, 109, 101]⟩, .string ⟨#[111, 114, 103, 97, 110, 105, 122, 97, 116, 105, 111, 110]⟩, .string ⟨#[101, 109, 97, 105, 108]⟩, .string ⟨#[112, 104, 111, 110, 101]⟩, .string ⟨#[111, 110, 108, 105, 110, 101, 83, 101, 114, 118, 105, 99, 101]⟩, .string ⟨#[97, 100, 100, 114, 101, 115, 115]⟩, .string ⟨#[110, 111, 116, 101]⟩] 78)).heap[W2.heap.size]? = some (.cells #[.string ⟨#[110, 97, 109, 101]⟩, .string ⟨#[110, 105, 99, 107, 110, 97, 109, 101]⟩, .string ⟨#[111, 114, 103, 97, 110, 105, 122, 97, 116, 105, 111, 110]⟩, .string ⟨#[101, 109, 97, 105, 108]⟩, .string ⟨#[112, 104, 111, 110, 101]⟩, .string ⟨#[111, 110, 108, 105, 110, 101, 83, 101, 114, 118, 105, 99, 101]⟩, .string ⟨#[97, 100, 100, 114, 101, 115, 115]⟩, .string ⟨#[110, 111, 116, 101]⟩] 78) := heap_alloc_at rfl
 have hgl8 : W2.heap.size < (W2.alloc (.cells #[.string ⟨#[110, 97, 109, 101]⟩, .string ⟨#[110, 105, 99, 107, 110, 97, 109, 101]⟩, .string ⟨#[111, 114, 103, 97, 110, 105, 122, 97, 116, 105, 111, 110]⟩, .string ⟨#[101, 109, 97, 105, 108]⟩, .string ⟨#[112, 104, 111, 110, 101]⟩, .string ⟨#[111, 110, 108, 105, 110, 101, 83, 101, 114, 118, 105, 99, 101]⟩, .string ⟨#[97, 100, 100, 114, 101, 115, 115]⟩, .string ⟨#[110, 111, 116, 101]⟩] 78)).heap.size := (Array.getElem?_eq_some_iff.1 hh8).1
 have HB8 : Hid (Below w.heap.size w (W2.alloc (.cells #[.string ⟨#[110, 97, 109, 101]⟩, .string ⟨#[110, 105, 99, 107, 110, 97, 109, 101]⟩, .string ⟨#[111, 114, 103, 97, 110, 105, 122, 97, 116, 105, 111, 110]⟩, .string ⟨#[101, 109, 97, 105, 108]⟩, .string ⟨#[112, 104, 111, 110, 101]⟩, .string ⟨#[111, 110, 108, 105, 110, 101, 83, 101, 114, 118, 105, 99, 101]⟩, .string ⟨#[97, 100, 100, 114, 101, 115, 115]⟩, .string ⟨#[110, 111, 116, 101]⟩] 78))) := HX.out.trans (hb8.mono hw2)
 have d0 := bcs hb8 hgx b0
 have d1 := bcs hb8 hgx b1
 have d2 := bcs hb8 hgx b2
 have d3 := bcs hb8 hgx b3
 have d4 := bcs hb8 hgx b4
 obtain ⟨g8, hg8⟩ : ∃ g, W2.heap.size = g := ⟨_, rfl⟩
 obtain ⟨W8, hW8⟩ : ∃ W, W2.alloc (.cells #[.string ⟨#[110, 97, 109, 101]⟩, .string ⟨#[110, 105, 99, 107, 110, 97, 109, 101]⟩, .string ⟨#[111, 114, 103, 97, 110, 105, 122, 97, 116, 105, 111, 110]⟩, .string ⟨#[101, 109, 97, 105, 108]⟩, .string ⟨#[112, 104, 111, 110, 101]⟩, .string ⟨#[111, 110, 108, 105, 110, 101, 83, 101, 114, 118, 105, 99, 101]⟩, .string ⟨#[97, 100, 100, 114, 101, 115, 115]⟩, .string ⟨#[110, 111, 116, 101]⟩] 78) = W := ⟨_, rfl⟩
 rw [hW8] at hh8 hgl8 HB8 d0 d1 d2 d3 d4
 rw [hg8] at hh8 hgl8
 try rw [hW8]
 try rw [hg8]
 have hw8 := HB8.out.size
 have hgx8 : w.heap.size < W8.heap.size := (cell_some d0).2
 have HB0 : Hid (W8.cell? ⟨w.heap.size, 0, none⟩ = some (.int .i64 k) /\ W8.cell? ⟨w.heap.size, 1, none⟩ = some (.int .i64 n) /\ W8.cell? ⟨w.heap.size, 2, none⟩ = some (.string s) /\ W8.cell? ⟨w.heap.size, 3, none⟩ = some (.slice pl nl cl) /\ W8.cell? ⟨w.heap.size, 4, none⟩ = some (.slice pm nm cm)) := ⟨d0, d1, d2, d3, d4⟩
 have HH8 := Lib.hid hh8
 clear hW8 hg8 hb8 hh8 b0 b1 b2 b3 b4 d0 d1 d2 d3 d4 hgx
 go_wp2_with fail
 go_loopw [5, 9] (fun u i wr => ∃ j : Nat, j <= 8 /\ i = .int .i64 (j : Int) /\ Hid (Own wr W8.heap.size 9 encS 1 u ((allF.take j).flatMap (fieldJ t)) /\ Below W8.heap.size W8 wr)) (fun _ i _ => 8 - (intOf i).toNat)
 case atStart => exact ⟨0, by omega, rfl, Own.nil _ _ _, Below.refl _ _⟩
 case round =>
  obtain ⟨j, hj, rfl, hH⟩ := hrel
  have HO := Lib.hid hH.out.1
  have HBR := Lib.hid hH.out.2
  have hbz := HBR.out.size
  have HBW : Hid (Below w.heap.size w wr) := HB8.out.trans (HBR.out.mono hw8)
  have c0 := bcs HBR.out hgx8 HB0.out.1
  have c1 := bcs HBR.out hgx8 HB0.out.2.1
  have c2 := bcs HBR.out hgx8 HB0.out.2.2.1
  have c3 := bcs HBR.out hgx8 HB0.out.2.2.2.1
  have c4 := bcs HBR.out hgx8 HB0.out.2.2.2.2
  have hb00 : Below wr.heap.size wr wr.drew := (Below.refl _ _).drew
  clear hH
  by_cases hlt : j < 8
  ·have hjj : j = 0 \/ j = 1 \/ j = 2 \/ j = 3 \/ j = 4 \/ j = 5 \/ j = 6 \/ j = 7 := by omega
   rcases hjj with rfl | rfl | rfl | rfl | rfl | rfl | rfl | rfl
   ·have HPS : Hid ((allF.take (0 + 1)).flatMap (fieldJ t) = (allF.take 0).flatMap (fieldJ t) ++ fieldJ t nameN) := flat_succ (f := fieldJ t) (l := allF) (j := 0) rfl
    have hpm := flat_mid (f := fieldJ t) (l := allF) (j := 0) (x := nameN) rfl
    have HFC := Lib.hid (HF0.out wr.drew HBW.out.drew)
    have z0 := bcs HBR.out hgl8 ((cell_of_row W8 g8 0 _ _ _ HH8.out).trans rfl)
    try dsimp only [RV.val] at HFC
    try rw [show ((0 : Nat) : Int) = 0 from rfl]
    obtain ⟨L0, hL0⟩ : ∃ L, (allF.take 0).flatMap (fieldJ t) = L := ⟨_, rfl⟩
    obtain ⟨LF, hLF⟩ : ∃ L, fieldJ t nameN = L := ⟨_, rfl⟩
    rw [hL0] at HO HPS hpm
    rw [hLF] at HFC HPS hpm
    have HLN : Hid (L0.length + LF.length <= maxLen /\ (L0.length + LF.length) * 16 <= 140737488355328) := by
     have h2 := HLL.out
     exact ⟨by unfold maxLen; omega, by omega⟩
    clear hL0 hLF hpm
    go_upto_region 12 with fail
    go_region_law
     (first
     | (go_simp; go_at_call 27
        (with_reducible refine HFC.out.mono ?_)
        rintro e w4 ⟨u4, rfl, ho4, hb4'⟩
        have hb4 : Below wr.heap.size wr w4 := hb00.trans hb4'
        have ho5 := HO.out.below hb4 (Nat.le_refl _)
        have hz4 : W8.heap.size <= w4.heap.size := Nat.le_trans hbz hb4.size)
     | (refine step_append_rd slS codecS w4 (by rfl) (.tmp 49) (.tmp 54) (by rfl) (v := u5) (by rfl) (by rfl) ho5 (ho4.rd codecS) HLN.out.1 HLN.out.2 hz4 ?_
        intro v8 w8 ho8 hg8 hat8)
     | fail)
    all_goals go_wp2_with fail
    all_goals
     have HS8 : Hid (Own w8 W8.heap.size 9 encS 1 v8 ((allF.take (0 + 1)).flatMap (fieldJ t)) /\ Below W8.heap.size W8 w8) := ⟨by rw [HPS.out]; exact ho8, Below.appended (HBR.out.trans (hb4.mono hbz)) hg8 ho5 hz4⟩
     clear ho8 hg8 hat8 ho4 ho5 hb4 hb4'
     go_roundw
     case rel => exact ⟨0 + 1, by omega, by go_num, HS8.out⟩
     case measure => simp [intOf]; try omega
   ·have HPS : Hid ((allF.take (1 + 1)).flatMap (fieldJ t) = (allF.take 1).flatMap (fieldJ t) ++ fieldJ t svNick) := flat_succ (f := fieldJ t) (l := allF) (j := 1) rfl
    have hpm := flat_mid (f := fieldJ t) (l := allF) (j := 1) (x := svNick) rfl
    have HFC := Lib.hid (HF1.out wr.drew HBW.out.drew)
    have z0 := bcs HBR.out hgl8 ((cell_of_row W8 g8 1 _ _ _ HH8.out).trans rfl)
    try dsimp only [RV.val] at HFC
    try rw [show ((1 : Nat) : Int) = 1 from rfl]
    obtain ⟨L0, hL0⟩ : ∃ L, (allF.take 1).flatMap (fieldJ t) = L := ⟨_, rfl⟩
    obtain ⟨LF, hLF⟩ : ∃ L, fieldJ t svNick = L := ⟨_, rfl⟩
    rw [hL0] at HO HPS hpm
    rw [hLF] at HFC HPS hpm
    have HLN : Hid (L0.length + LF.length <= maxLen /\ (L0.length + LF.length) * 16 <= 140737488355328) := by
     have h2 := HLL.out
     exact ⟨by unfold maxLen; omega, by omega⟩
    clear hL0 hLF hpm
    go_upto_region 12 with fail
    go_region_law
     (first
     | (go_simp; go_at_call 27
        (with_reducible refine HFC.out.mono ?_)
        rintro e w4 ⟨u4, rfl, ho4, hb4'⟩
        have hb4 : Below wr.heap.size wr w4 := hb00.trans hb4'
        have ho5 := HO.out.below hb4 (Nat.le_refl _)
        have hz4 : W8.heap.size <= w4.heap.size := Nat.le_trans hbz hb4.size)
     | (refine step_append_rd slS codecS w4 (by rfl) (.tmp 49) (.tmp 54) (by rfl) (v := u5) (by rfl) (by rfl) ho5 (ho4.rd codecS) HLN.out.1 HLN.out.2 hz4 ?_
        intro v8 w8 ho8 hg8 hat8)
     | fail)
    all_goals go_wp2_with fail
    all_goals
     have HS8 : Hid (Own w8 W8.heap.size 9 encS 1 v8 ((allF.take (1 + 1)).flatMap (fieldJ t)) /\ Below W8.heap.size W8 w8) := ⟨by rw [HPS.out]; exact ho8, Below.appended (HBR.out.trans (hb4.mono hbz)) hg8 ho5 hz4⟩
     clear ho8 hg8 hat8 ho4 ho5 hb4 hb4'
     go_roundw
     case rel => exact ⟨1 + 1, by omega, by go_num, HS8.out⟩
     case measure => simp [intOf]; try omega
   ·have HPS : Hid ((allF.take (2 + 1)).flatMap (fieldJ t) = (allF.take 2).flatMap (fieldJ t) ++ fieldJ t svOrg) := flat_succ (f := fieldJ t) (l := allF) (j := 2) rfl
    have hpm := flat_mid (f := fieldJ t) (l := allF) (j := 2) (x := svOrg) rfl
    have HFC := Lib.hid (HF2.out wr.drew HBW.out.drew)
    have z0 := bcs HBR.out hgl8 ((cell_of_row W8 g8 2 _ _ _ HH8.out).trans rfl)
    try dsimp only [RV.val] at HFC
    try rw [show ((2 : Nat) : Int) = 2 from rfl]
    obtain ⟨L0, hL0⟩ : ∃ L, (allF.take 2).flatMap (fieldJ t) = L := ⟨_, rfl⟩
    obtain ⟨LF, hLF⟩ : ∃ L, fieldJ t svOrg = L := ⟨_, rfl⟩
    rw [hL0] at HO HPS hpm
    rw [hLF] at HFC HPS hpm
    have HLN : Hid (L0.length + LF.length <= maxLen /\ (L0.length + LF.length) * 16 <= 140737488355328) := by
     have h2 := HLL.out
     exact ⟨by unfold maxLen; omega, by omega⟩
    clear hL0 hLF hpm
    go_upto_region 12 with fail
    go_region_law
     (first
     | (go_simp; go_at_call 27
        (with_reducible refine HFC.out.mono ?_)
        rintro e w4 ⟨u4, rfl, ho4, hb4'⟩
        have hb4 : Below wr.heap.size wr w4 := hb00.trans hb4'
        have ho5 := HO.out.below hb4 (Nat.le_refl _)
        have hz4 : W8.heap.size <= w4.heap.size := Nat.le_trans hbz hb4.size)
     | (refine step_append_rd slS codecS w4 (by rfl) (.tmp 49) (.tmp 54) (by rfl) (v := u5) (by rfl) (by rfl) ho5 (ho4.rd codecS) HLN.out.1 HLN.out.2 hz4 ?_
        intro v8 w8 ho8 hg8 hat8)
     | fail)
    all_goals go_wp2_with fail
    all_goals
     have HS8 : Hid (Own w8 W8.heap.size 9 encS 1 v8 ((allF.take (2 + 1)).flatMap (fieldJ t)) /\ Below W8.heap.size W8 w8) := ⟨by rw [HPS.out]; exact ho8, Below.appended (HBR.out.trans (hb4.mono hbz)) hg8 ho5 hz4⟩
     clear ho8 hg8 hat8 ho4 ho5 hb4 hb4'
     go_roundw
     case rel => exact ⟨2 + 1, by omega, by go_num, HS8.out⟩
     case measure => simp [intOf]; try omega
   ·have HPS : Hid ((allF.take (3 + 1)).flatMap (fieldJ t) = (allF.take 3).flatMap (fieldJ t) ++ fieldJ t svEmail) := flat_succ (f := fieldJ t) (l := allF) (j := 3) rfl
    have hpm := flat_mid (f := fieldJ t) (l := allF) (j := 3) (x := svEmail) rfl
    have HFC := Lib.hid (HF3.out wr.drew HBW.out.drew)
    have z0 := bcs HBR.out hgl8 ((cell_of_row W8 g8 3 _ _ _ HH8.out).trans rfl)
    try dsimp only [RV.val] at HFC
    try rw [show ((3 : Nat) : Int) = 3 from rfl]
    obtain ⟨L0, hL0⟩ : ∃ L, (allF.take 3).flatMap (fieldJ t) = L := ⟨_, rfl⟩
    obtain ⟨LF, hLF⟩ : ∃ L, fieldJ t svEmail = L := ⟨_, rfl⟩
    rw [hL0] at HO HPS hpm
    rw [hLF] at HFC HPS hpm
    have HLN : Hid (L0.length + LF.length <= maxLen /\ (L0.length + LF.length) * 16 <= 140737488355328) := by
     have h2 := HLL.out
     exact ⟨by unfold maxLen; omega, by omega⟩
    clear hL0 hLF hpm
    go_upto_region 12 with fail
    go_region_law
     (first
     | (go_simp; go_at_call 27
        (with_reducible refine HFC.out.mono ?_)
        rintro e w4 ⟨u4, rfl, ho4, hb4'⟩
        have hb4 : Below wr.heap.size wr w4 := hb00.trans hb4'
        have ho5 := HO.out.below hb4 (Nat.le_refl _)
        have hz4 : W8.heap.size <= w4.heap.size := Nat.le_trans hbz hb4.size)
     | (refine step_append_rd slS codecS w4 (by rfl) (.tmp 49) (.tmp 54) (by rfl) (v := u5) (by rfl) (by rfl) ho5 (ho4.rd codecS) HLN.out.1 HLN.out.2 hz4 ?_
        intro v8 w8 ho8 hg8 hat8)
     | fail)
    all_goals go_wp2_with fail
    all_goals
     have HS8 : Hid (Own w8 W8.heap.size 9 encS 1 v8 ((allF.take (3 + 1)).flatMap (fieldJ t)) /\ Below W8.heap.size W8 w8) := ⟨by rw [HPS.out]; exact ho8, Below.appended (HBR.out.trans (hb4.mono hbz)) hg8 ho5 hz4⟩
     clear ho8 hg8 hat8 ho4 ho5 hb4 hb4'
     go_roundw
     case rel => exact ⟨3 + 1, by omega, by go_num, HS8.out⟩
     case measure => simp [intOf]; try omega
   ·have HPS : Hid ((allF.take (4 + 1)).flatMap (fieldJ t) = (allF.take 4).flatMap (fieldJ t) ++ fieldJ t svPhone) := flat_succ (f := fieldJ t) (l := allF) (j := 4) rfl
    have hpm := flat_mid (f := fieldJ t) (l := allF) (j := 4) (x := svPhone) rfl
    have HFC := Lib.hid (HF4.out wr.drew HBW.out.drew)
    have z0 := bcs HBR.out hgl8 ((cell_of_row W8 g8 4 _ _ _ HH8.out).trans rfl)
    try dsimp only [RV.val] at HFC
    try rw [show ((4 : Nat) : Int) = 4 from rfl]
    obtain ⟨L0, hL0⟩ : ∃ L, (allF.take 4).flatMap (fieldJ t) = L := ⟨_, rfl⟩
    obtain ⟨LF, hLF⟩ : ∃ L, fieldJ t svPhone = L := ⟨_, rfl⟩
    rw [hL0] at HO HPS hpm
    rw [hLF] at HFC HPS hpm
    have HLN : Hid (L0.length + LF.length <= maxLen /\ (L0.length + LF.length) * 16 <= 140737488355328) := by
     have h2 := HLL.out
     exact ⟨by unfold maxLen; omega, by omega⟩
    clear hL0 hLF hpm
    go_upto_region 12 with fail
    go_region_law
     (first
     | (go_simp; go_at_call 27
        (with_reducible refine HFC.out.mono ?_)
        rintro e w4 ⟨u4, rfl, ho4, hb4'⟩
        have hb4 : Below wr.heap.size wr w4 := hb00.trans hb4'
        have ho5 := HO.out.below hb4 (Nat.le_refl _)
        have hz4 : W8.heap.size <= w4.heap.size := Nat.le_trans hbz hb4.size)
     | (refine step_append_rd slS codecS w4 (by rfl) (.tmp 49) (.tmp 54) (by rfl) (v := u5) (by rfl) (by rfl) ho5 (ho4.rd codecS) HLN.out.1 HLN.out.2 hz4 ?_
        intro v8 w8 ho8 hg8 hat8)
     | fail)
    all_goals go_wp2_with fail
    all_goals
     have HS8 : Hid (Own w8 W8.heap.size 9 encS 1 v8 ((allF.take (4 + 1)).flatMap (fieldJ t)) /\ Below W8.heap.size W8 w8) := ⟨by rw [HPS.out]; exact ho8, Below.appended (HBR.out.trans (hb4.mono hbz)) hg8 ho5 hz4⟩
     clear ho8 hg8 hat8 ho4 ho5 hb4 hb4'
     go_roundw
     case rel => exact ⟨4 + 1, by omega, by go_num, HS8.out⟩
     case measure => simp [intOf]; try omega
   ·have HPS : Hid ((allF.take (5 + 1)).flatMap (fieldJ t) = (allF.take 5).flatMap (fieldJ t) ++ fieldJ t svOnline) := flat_succ (f := fieldJ t) (l := allF) (j := 5) rfl
    have hpm := flat_mid (f := fieldJ t) (l := allF) (j := 5) (x := svOnline) rfl
    have HFC := Lib.hid (HF5.out wr.drew HBW.out.drew)
    have z0 := bcs HBR.out hgl8 ((cell_of_row W8 g8 5 _ _ _ HH8.out).trans rfl)
    try dsimp only [RV.val] at HFC
    try rw [show ((5 : Nat) : Int) = 5 from rfl]
    obtain ⟨L0, hL0⟩ : ∃ L, (allF.take 5).flatMap (fieldJ t) = L := ⟨_, rfl⟩
    obtain ⟨LF, hLF⟩ : ∃ L, fieldJ t svOnline = L := ⟨_, rfl⟩
    rw [hL0] at HO HPS hpm
    rw [hLF] at HFC HPS hpm
    have HLN : Hid (L0.length + LF.length <= maxLen /\ (L0.length + LF.length) * 16 <= 140737488355328) := by
     have h2 := HLL.out
     exact ⟨by unfold maxLen; omega, by omega⟩
    clear hL0 hLF hpm
    go_upto_region 12 with fail
    go_region_law
     (first
     | (go_simp; go_at_call 27
        (with_reducible refine HFC.out.mono ?_)
        rintro e w4 ⟨u4, rfl, ho4, hb4'⟩
        have hb4 : Below wr.heap.size wr w4 := hb00.trans hb4'
        have ho5 := HO.out.below hb4 (Nat.le_refl _)
        have hz4 : W8.heap.size <= w4.heap.size := Nat.le_trans hbz hb4.size)
     | (refine step_append_rd slS codecS w4 (by rfl) (.tmp 49) (.tmp 54) (by rfl) (v := u5) (by rfl) (by rfl) ho5 (ho4.rd codecS) HLN.out.1 HLN.out.2 hz4 ?_
        intro v8 w8 ho8 hg8 hat8)
     | fail)
    all_goals go_wp2_with fail
    all_goals
     have HS8 : Hid (Own w8 W8.heap.size 9 encS 1 v8 ((allF.take (5 + 1)).flatMap (fieldJ t)) /\ Below W8.heap.size W8 w8) := ⟨by rw [HPS.out]; exact ho8, Below.appended (HBR.out.trans (hb4.mono hbz)) hg8 ho5 hz4⟩
     clear ho8 hg8 hat8 ho4 ho5 hb4 hb4'
     go_roundw
     case rel => exact ⟨5 + 1, by omega, by go_num, HS8.out⟩
     case measure => simp [intOf]; try omega
   ·have HPS : Hid ((allF.take (6 + 1)).flatMap (fieldJ t) = (allF.take 6).flatMap (fieldJ t) ++ fieldJ t svAddr) := flat_succ (f := fieldJ t) (l := allF) (j := 6) rfl
    have hpm := flat_mid (f := fieldJ t) (l := allF) (j := 6) (x := svAddr) rfl
    have HFC := Lib.hid (HF6.out wr.drew HBW.out.drew)
    have z0 := bcs HBR.out hgl8 ((cell_of_row W8 g8 6 _ _ _ HH8.out).trans rfl)
    try dsimp only [RV.val] at HFC
    try rw [show ((6 : Nat) : Int) = 6 from rfl]
    obtain ⟨L0, hL0⟩ : ∃ L, (allF.take 6).flatMap (fieldJ t) = L := ⟨_, rfl⟩
    obtain ⟨LF, hLF⟩ : ∃ L, fieldJ t svAddr = L := ⟨_, rfl⟩
    rw [hL0] at HO HPS hpm
    rw [hLF] at HFC HPS hpm
    have HLN : Hid (L0.length + LF.length <= maxLen /\ (L0.length + LF.length) * 16 <= 140737488355328) := by
     have h2 := HLL.out
     exact ⟨by unfold maxLen; omega, by omega⟩
    clear hL0 hLF hpm
    go_upto_region 12 with fail
    go_region_law
     (first
     | (go_simp; go_at_call 27
        (with_reducible refine HFC.out.mono ?_)
        rintro e w4 ⟨u4, rfl, ho4, hb4'⟩
        have hb4 : Below wr.heap.size wr w4 := hb00.trans hb4'
        have ho5 := HO.out.below hb4 (Nat.le_refl _)
        have hz4 : W8.heap.size <= w4.heap.size := Nat.le_trans hbz hb4.size)
     | (refine step_append_rd slS codecS w4 (by rfl) (.tmp 49) (.tmp 54) (by rfl) (v := u5) (by rfl) (by rfl) ho5 (ho4.rd codecS) HLN.out.1 HLN.out.2 hz4 ?_
        intro v8 w8 ho8 hg8 hat8)
     | fail)
    all_goals go_wp2_with fail
    all_goals
     have HS8 : Hid (Own w8 W8.heap.size 9 encS 1 v8 ((allF.take (6 + 1)).flatMap (fieldJ t)) /\ Below W8.heap.size W8 w8) := ⟨by rw [HPS.out]; exact ho8, Below.appended (HBR.out.trans (hb4.mono hbz)) hg8 ho5 hz4⟩
     clear ho8 hg8 hat8 ho4 ho5 hb4 hb4'
     go_roundw
     case rel => exact ⟨6 + 1, by omega, by go_num, HS8.out⟩
     case measure => simp [intOf]; try omega
   ·have HPS : Hid ((allF.take (7 + 1)).flatMap (fieldJ t) = (allF.take 7).flatMap (fieldJ t) ++ fieldJ t svNote) := flat_succ (f := fieldJ t) (l := allF) (j := 7) rfl
    have hpm := flat_mid (f := fieldJ t) (l := allF) (j := 7) (x := svNote) rfl
    have HFC := Lib.hid (HF7.out wr.drew HBW.out.drew)
    have z0 := bcs HBR.out hgl8 ((cell_of_row W8 g8 7 _ _ _ HH8.out).trans rfl)
    try dsimp only [RV.val] at HFC
    try rw [show ((7 : Nat) : Int) = 7 from rfl]
    obtain ⟨L0, hL0⟩ : ∃ L, (allF.take 7).flatMap (fieldJ t) = L := ⟨_, rfl⟩
    obtain ⟨LF, hLF⟩ : ∃ L, fieldJ t svNote = L := ⟨_, rfl⟩
    rw [hL0] at HO HPS hpm
    rw [hLF] at HFC HPS hpm
    have HLN : Hid (L0.length + LF.length <= maxLen /\ (L0.length + LF.length) * 16 <= 140737488355328) := by
     have h2 := HLL.out
     exact ⟨by unfold maxLen; omega, by omega⟩
    clear hL0 hLF hpm
    go_upto_region 12 with fail
    go_region_law
     (first
     | (go_simp; go_at_call 27
        (with_reducible refine HFC.out.mono ?_)
        rintro e w4 ⟨u4, rfl, ho4, hb4'⟩
        have hb4 : Below wr.heap.size wr w4 := hb00.trans hb4'
        have ho5 := HO.out.below hb4 (Nat.le_refl _)
        have hz4 : W8.heap.size <= w4.heap.size := Nat.le_trans hbz hb4.size)
     | (refine step_append_rd slS codecS w4 (by rfl) (.tmp 49) (.tmp 54) (by rfl) (v := u5) (by rfl) (by rfl) ho5 (ho4.rd codecS) HLN.out.1 HLN.out.2 hz4 ?_
        intro v8 w8 ho8 hg8 hat8)
     | fail)
    all_goals go_wp2_with fail
    all_goals
     have HS8 : Hid (Own w8 W8.heap.size 9 encS 1 v8 ((allF.take (7 + 1)).flatMap (fieldJ t)) /\ Below W8.heap.size W8 w8) := ⟨by rw [HPS.out]; exact ho8, Below.appended (HBR.out.trans (hb4.mono hbz)) hg8 ho5 hz4⟩
     clear ho8 hg8 hat8 ho4 ho5 hb4 hb4'
     go_roundw
     case rel => exact ⟨7 + 1, by omega, by go_num, HS8.out⟩
     case measure => simp [intOf]; try omega
  ·obtain rfl : j = 8 := by omega
   have ho := HO.out
   have hta : allF.take 8 = allF := rfl
   rw [hta] at ho
   have HZ := Lib.hid (And.intro (ho.mono hw8) HBW.out)
   clear ho hta
   go_wp2_with fail
   go_ret
   exact ⟨_, rfl, HZ.out.1, HZ.out.2⟩
theorem rtexts_any (t : JV) (r : RV) (f : ByteArray) (w : World) (B : Nat) (hBw : B <= w.heap.size) (ht : TreeOf w B t r) (ot : t.Ok) (hct : countT t <= 100000) :
 Calls Tryz.prog 27 #[r.val, .string f] w (OwnRet w 9 encS 1 (textsJ t f)) := by
 unfold textsJ
 by_cases h : f = svText
 ·subst h
  rw [if_pos rfl]
  exact rtx_text t r w B hBw ht ot hct
 ·rw [if_neg h]
  exact rfield_any t r f h w B hBw ht ot hct
theorem kbB {B : Nat} {W w : World} (h : KB B W w) : Below B W w := h.1
theorem one_field (v : JV) (rv : RV) (nm s : ByteArray) (w : World) (B : Nat) (hBw : B <= w.heap.size) (ht : TreeOf w B v rv) (ot : v.Ok) (h1 : sortN nm = 1)
 (hct : countT v <= 100000) (hsz : sizeT v <= 4000000000) (hs : s.size <= 1000000) :
 Calls Tryz.prog 95 #[.string nm, .string s, rv.val] w fun e w' => e = .returned (.bool (matchF s.data.toList (textsJ v nm))) /\ Below w.heap.size w w' := by
 obtain ⟨W0, hW0⟩ : ∃ W0, w.alloc rv.obj = W0 := ⟨_, rfl⟩
 have hA0 : VAt W0 w.heap.size rv := by rw [<- hW0]; exact heap_alloc_at rfl
 have hB0 : Below w.heap.size w W0 := by rw [<- hW0]; exact (Below.refl _ _).alloc (Nat.le_refl _) _
 have hw0 := hB0.size
 have hBw0 : B <= W0.heap.size := Nat.le_trans hBw hw0
 have HSO : Hid (∀ W, Calls Tryz.prog 89 #[.string nm] W fun e w' => e = .returned (.int .i64 1) /\ W = w') := fun W => by
  have := rsort_any nm W
  rw [h1] at this
  exact this
 have HT : Hid (Calls Tryz.prog 27 #[rv.val, .string nm] W0 fun e w' => ∃ p c, e = .returned (.slice p (textsJ v nm).length c) /\ Rd w' w'.heap.size encS 1 (.slice p (textsJ v nm).length c) (textsJ v nm) /\ Below W0.heap.size W0 w') := by
  refine (rtexts_any v rv nm W0 B hBw0 (ht.under (hB0.mono hBw) (Nat.le_refl _)) ot hct).mono ?_
  rintro e w1 ⟨u, rfl, ho, hb⟩
  obtain ⟨a, cap, rfl, _⟩ := ho.len
  exact ⟨_, _, rfl, ho.rd codecS, hb⟩
 have HM : Hid (∀ W p c, Rd W W.heap.size encS 1 (.slice p (textsJ v nm).length c) (textsJ v nm) -> Calls Tryz.prog 126 #[.string s, .slice p (textsJ v nm).length c] W fun e w' => e = .returned (.bool (matchF s.data.toList (textsJ v nm))) /\ Below W.heap.size W w') := by
  intro W p c hr
  exact rmatch_any W s p _ c _ hs hr (by have := textsJ_len v nm; omega) (fun x hx => by have := textsJ_size hx; omega)
 obtain ⟨L, hL⟩ : ∃ L, (textsJ v nm).length = L := ⟨_, rfl⟩
 rw [hL] at HT HM
 obtain ⟨X, hX⟩ : ∃ X, matchF s.data.toList (textsJ v nm) = X := ⟨_, rfl⟩
 rw [hX] at HM ⊢
 obtain ⟨k, n, s0, pl, nl, cl, pm, nm', cm⟩ := rv
 dsimp only [RV.val, RV.obj] at *
 have HB0 := Lib.hid hB0
 clear hB0 ht ot hX hL
 go_enter Tryz.func95, Tryz.ntmps95
 go_upto_region 1 with fail
 try rw [hW0]
 clear hW0
 obtain ⟨a0, a1, a2, a3, a4⟩ := hA0.cells5
 have hz0 := hA0.lt
 clear hA0
 go_wp2_with (first
  | (go_at_call 89; (with_reducible refine (HSO.out _).mono ?_); rintro e w9 ⟨rfl, rfl⟩)
  | (go_at_call 27; refine HT.out.mono ?_; rintro e w1 ⟨p1, c1, rfl, hr1, hb1⟩; have HR1 := Lib.hid hr1; clear hr1)
  | (go_at_call 126; refine (HM.out _ _ _ HR1.out).mono ?_; rintro e w2 ⟨rfl, hb2⟩))
 go_ret
 exact ⟨rfl, HB0.out.trans ((hb1.trans (hb2.mono hb1.size)).mono hw0)⟩
theorem ahead_of (v : JV) (pre s : ByteArray) : aheadO v pre s = if ((v.get pre).getD JV.zero).k = 4 then some (decide (cmpS ((v.get pre).getD JV.zero).s.data.toList s.data.toList < 0)) else none := by
 unfold aheadO
 rw [textM_of]
 by_cases h : ((v.get pre).getD JV.zero).k = 4
 ·rw [if_pos h, if_pos h]
 ·rw [if_neg h, if_neg h]
theorem one_stamp (v : JV) (rv : RV) (nm pre s : ByteArray) (bf : Bool) (w : World) (B : Nat) (hBw : B <= w.heap.size) (ht : TreeOf w B v rv) (ot : v.Ok) (h3 : sortN nm = 3) (h7 : 7 <= nm.size) (hpre : nm.extract 0 7 = pre)
 (hsuf : ((nm.extract 7 nm.size).toList == [66, 101, 102, 111, 114, 101]) = bf) (hs : s.size <= maxLen) :
 Calls Tryz.prog 95 #[.string nm, .string s, rv.val] w fun e w' => e = .returned (.bool (decide (aheadO v pre s = some bf))) /\ Below w.heap.size w w' := by
 obtain ⟨W0, hW0⟩ : ∃ W0, w.alloc rv.obj = W0 := ⟨_, rfl⟩
 have hA0 : VAt W0 w.heap.size rv := by rw [<- hW0]; exact heap_alloc_at rfl
 have hB0 : Below w.heap.size w W0 := by rw [<- hW0]; exact (Below.refl _ _).alloc (Nat.le_refl _) _
 have hw0 := hB0.size
 have hBw0 : B <= W0.heap.size := Nat.le_trans hBw hw0
 have HSO : Hid (∀ W, Calls Tryz.prog 89 #[.string nm] W fun e w' => e = .returned (.int .i64 3) /\ W = w') := fun W => by
  have := rsort_any nm W
  rw [h3] at this
  exact this
 have HC : Hid (∀ W, Below W0.heap.size W0 W -> Calls Tryz.prog 61 #[rv.val, .string (nm.extract 0 7)] W (GetRetB W B (v.get pre))) := fun W hW => by
  rw [hpre]
  exact refGetB_any v rv pre W B (Nat.le_trans hBw0 hW.size) ((ht.under (hB0.mono hBw) (Nat.le_refl _)).under (hW.mono hBw0) (Nat.le_refl _)) ot
 have hyk : ((v.get pre).getD JV.zero).s.size <= maxLen := Ok_s (getD_ok ot)
 rw [ahead_of]
 obtain ⟨X, hX⟩ : ∃ X, v.get pre = X := ⟨_, rfl⟩
 rw [hX] at HC hyk ⊢
 obtain ⟨R, hR⟩ : ∃ R, decide ((if (X.getD JV.zero).k = 4 then some (decide (cmpS (X.getD JV.zero).s.data.toList s.data.toList < 0)) else none) = some bf) = R := ⟨_, rfl⟩
 rw [hR]
 have HR := Lib.hid hR
 clear hR
 have hi7 : (7 : Int) <= (nm.size : Int) := by omega
 obtain ⟨k, n, s0, pl, nl, cl, pm, nm', cm⟩ := rv
 dsimp only [RV.val, RV.obj] at *
 have HB0 := Lib.hid hB0
 clear hB0 ht ot hX hpre
 go_enter Tryz.func95, Tryz.ntmps95
 go_upto_region 1 with fail
 try rw [hW0]
 clear hW0
 obtain ⟨a0, a1, a2, a3, a4⟩ := hA0.cells5
 have hz0 := hA0.lt
 clear hA0
 go_upto_region 4 with (go_at_call 89; (with_reducible refine (HSO.out _).mono ?_); rintro e w9 ⟨rfl, rfl⟩)
 have HZA : Hid (VAt (W0.alloc (.cells #[.int .i64 0, .int .i64 0, .string ⟨#[]⟩, .slice none 0 0, .slice none 0 0] 25)).drew W0.heap.size RV.zero) := heap_alloc_at rfl
 have hk0 := KB.drew W0
 have hkA : KB W0.heap.size W0 (W0.alloc (.cells #[.int .i64 0, .int .i64 0, .string ⟨#[]⟩, .slice none 0 0, .slice none 0 0] 25)).drew := kt_da W0 _
 go_cut [7, 8] from 23 to 29 (fun p b wr => ∃ (g : Nat) (y : RV), p = .pointer (some ⟨g, 0, none⟩) /\ b = .bool X.isSome /\ Hid (VAt wr g y /\ (y.k = (X.getD JV.zero).k /\ y.s = (X.getD JV.zero).s) /\ Below W0.heap.size W0 wr))
 case first =>
  go_region_held3 (fun w' => Below W0.heap.size W0 w' /\ ∀ b o, b < W0.heap.size -> w'.cell? ⟨b, o, none⟩ = W0.cell? ⟨b, o, none⟩)
   (first | with_reducible exact kt_drew W0 | with_reducible exact kt_same hbk | with_reducible exact kt_alloc hbk _ | with_reducible exact kt_da W0 _ | with_reducible exact kt_setV hbk _ ⟨rk, rn, rS, rpl, rnl, rcl, rpm, rnm, rcm⟩ (Nat.le_refl _))
   (first
    | (go_at_call 61; (with_reducible refine (HC.out _ (kbB (by assumption))).mono ?_); rintro e w9 ⟨rv, bb, rfl, hbb, ht9, hb9⟩; obtain ⟨rk, rn, rS, rpl, rnl, rcl, rpm, rnm, rcm⟩ := rv; (have hbk := KB.step (W := W0) (by assumption) hb9); (have HX := Lib.hid (And.intro ht9.kk hbk.1)); (have HBB := Lib.hid hbb); clear hbb ht9; (first | ((have HZ9 := Lib.hid (HZA.out.under hb9 HZA.out.lt)); (obtain ⟨z0, z1, z2, z3, z4⟩ := HZ9.out.cells5); (have y0 := HZ9.out.frozen 0); (have y1 := HZ9.out.frozen 1); (have y2 := HZ9.out.frozen 2); (have y3 := HZ9.out.frozen 3); (have y4 := HZ9.out.frozen 4); dsimp only [RV.zero] at z0 z1 z2 z3 z4) | skip))
    | fail)
  all_goals (
   go_wp2_with fail
   go_meet
   first
    | (have hz := HZ9
       exact ⟨_, ⟨rk, rn, rS, rpl, rnl, rcl, rpm, rnm, rcm⟩, rfl, by rw [HBB.out], hz.out.stored ⟨rk, rn, rS, rpl, rnl, rcl, rpm, rnm, rcm⟩, HX.out.1, Below.stored HX.out.2 (Nat.le_refl _) ⟨rk, rn, rS, rpl, rnl, rcl, rpm, rnm, rcm⟩⟩)
    | exact ⟨_, ⟨rk, rn, rS, rpl, rnl, rcl, rpm, rnm, rcm⟩, rfl, by rw [HBB.out], heap_alloc_at rfl, HX.out.1, HX.out.2.alloc HX.out.2.size _⟩)
 case rest =>
 obtain ⟨g9, y9, rfl, rfl, hx9⟩ := hcut
 obtain ⟨Wd, rfl⟩ : ∃ W, W = wc := ⟨_, rfl⟩
 obtain ⟨hv9, hk9, hb9⟩ := hx9.out
 have x0 := hv9.cell 0 rfl
 have x2 := hv9.cell 2 rfl
 obtain ⟨yk, yn, yS, ypl, ynl, ycl, ypm, ynm, ycm⟩ := y9
 dsimp only at x0 x2 hk9
 obtain ⟨hk9a, hk9b⟩ := hk9
 rw [<- hk9b] at hyk
 have HR1 := HR.out
 rw [<- hk9a, <- hk9b] at HR1
 have HBD := Lib.hid (HB0.out.trans (hb9.mono hw0))
 have HCP : Hid (∀ W, Calls Tryz.prog 16 #[.string yS, .string s] W fun e w' => e = .returned (.int .i64 (cmpS yS.data.toList s.data.toList)) /\ W = w') := fun W => rscomp_any yS s W hyk hs
 obtain ⟨c, hc⟩ : ∃ c, cmpS yS.data.toList s.data.toList = c := ⟨_, rfl⟩
 rw [hc] at HCP HR1
 have HR2 := Lib.hid HR1
 clear hx9 hv9 hb9 HZA hk0 hkA HC hc hyk a0 a1 a2 a3 a4 HR HR1
 cases X with
 | none =>
   have hk4 : yk = 0 := hk9a
   subst hk4
   go_wp2_with fail
   go_ret
   exact ⟨ret_boolI (by rw [<- HR2.out]; rfl), HBD.out⟩
 | some y =>
   clear hk9a hk9b
   by_cases hk4 : yk = 4
   ·subst hk4
    obtain ⟨C, hC⟩ : ∃ b, decide (c < 0) = b := ⟨_, rfl⟩
    have HR3 : Hid ((C == bf) = R) := by
     unfold Hid
     rw [<- HR2.out, if_pos rfl, hC]
     cases C <;> cases bf <;> rfl
    clear HR2
    go_wp2_with fail
    go_region_with (go_at_call 16; (with_reducible refine (HCP.out _).mono ?_); rintro e w7 ⟨rfl, rfl⟩)
    all_goals (go_wp2_with fail; go_ret; exact ⟨ret_boolI HR3.out, HBD.out.drew⟩)
   ·have q1 : (yk != 4) = true := by simpa using hk4
    have q2 : (yk == 4) = false := by simpa using hk4
    have HR3 : Hid (false = R) := by
     unfold Hid
     rw [<- HR2.out, if_neg hk4]
     rfl
    clear HR2
    go_wp2_with fail
    go_ret
    exact ⟨ret_boolI HR3.out, HBD.out⟩
theorem hasJ_getD (v : JV) (fr s : ByteArray) : hasJ v fr s = ((v.get fr).isSome && (((v.get fr).getD JV.zero).get s).isSome) := by
 unfold hasJ
 cases v.get fr <;> rfl
theorem textM_is (v : JV) (n s : ByteArray) : decide (textM v n = [s]) = ((v.get n).isSome && (decide (((v.get n).getD JV.zero).k = 4) && decide (((v.get n).getD JV.zero).s = s))) := by
 unfold textM
 cases v.get n with
 | none => rfl
 | some x =>
   show decide ((if x.k = 4 then [x.s] else []) = [s]) = (true && (decide (x.k = 4) && decide (x.s = s)))
   by_cases h : x.k = 4
   ·rw [if_pos h, decide_eq_true h]
    simp
   ·rw [if_neg h, decide_eq_false h]
    simp
theorem one_has (v : JV) (rv : RV) (nm fr s : ByteArray) (hnm : (nm = svInBook /\ fr = svBookIds) \/ (nm = svHasMem /\ fr = svMembers)) (w : World) (B : Nat) (hBw : B <= w.heap.size) (ht : TreeOf w B v rv) (ot : v.Ok) :
 Calls Tryz.prog 95 #[.string nm, .string s, rv.val] w fun e w' => e = .returned (.bool (hasJ v fr s)) /\ Below w.heap.size w w' := by
 obtain ⟨W0, hW0⟩ : ∃ W0, w.alloc rv.obj = W0 := ⟨_, rfl⟩
 have hA0 : VAt W0 w.heap.size rv := by rw [<- hW0]; exact heap_alloc_at rfl
 have hB0 : Below w.heap.size w W0 := by rw [<- hW0]; exact (Below.refl _ _).alloc (Nat.le_refl _) _
 have hw0 := hB0.size
 have hBw0 : B <= W0.heap.size := Nat.le_trans hBw hw0
 have HSO : Hid (∀ W, Calls Tryz.prog 89 #[.string nm] W fun e w' => e = .returned (.int .i64 (sortN nm)) /\ W = w') := fun W => rsort_any nm W
 have HC : Hid (Calls Tryz.prog 61 #[rv.val, .string fr] W0 (GetRetB W0 B (v.get fr))) := refGetB_any v rv fr W0 B hBw0 (ht.under (hB0.mono hBw) (Nat.le_refl _)) ot
 have hox : ((v.get fr).getD JV.zero).Ok := getD_ok ot
 have HJ := Lib.hid (hasJ_getD v fr s)
 obtain ⟨R, hR⟩ : ∃ R, hasJ v fr s = R := ⟨_, rfl⟩
 obtain ⟨X, hX⟩ : ∃ X, v.get fr = X := ⟨_, rfl⟩
 rw [hX] at HC hox HJ
 rw [hR] at HJ ⊢
 have HHA : Hid (∀ (q : RV) (W : World), B <= W.heap.size -> TreeOf W B (X.getD JV.zero) q -> Calls Tryz.prog 30 #[q.val, .string s] W fun e w' => e = .returned (.bool ((X.getD JV.zero).get s).isSome) /\ Below W.heap.size W w') := fun q W hB hq => has7_any (X.getD JV.zero) q s W B hB hq hox
 obtain ⟨H, hH⟩ : ∃ b, ((X.getD JV.zero).get s).isSome = b := ⟨_, rfl⟩
 rw [hH] at HJ HHA
 obtain ⟨k, n, s0, pl, nl, cl, pm, nm', cm⟩ := rv
 dsimp only [RV.val, RV.obj] at *
 have HB0 := Lib.hid hB0
 clear hB0 ht ot hX hR hH hox
 rcases hnm with ⟨rfl, rfl⟩ | ⟨rfl, rfl⟩
 all_goals
  first
   | (have hs : sortN svInBook = 2 := by decide
      have e1 : (svInBook.toList == [105, 110, 65, 100, 100, 114, 101, 115, 115, 66, 111, 111, 107]) = true := by rw [<- bytes_dec]; decide
      have e2 : (svInBook.toList == [104, 97, 115, 77, 101, 109, 98, 101, 114]) = false := by rw [<- bytes_dec]; decide
      have e3 : (svInBook.toList == [107, 105, 110, 100]) = false := by rw [<- bytes_dec]; decide
      rw [hs] at HSO)
   | (have hs : sortN svHasMem = 4 := by decide
      have e1 : (svHasMem.toList == [105, 110, 65, 100, 100, 114, 101, 115, 115, 66, 111, 111, 107]) = false := by rw [<- bytes_dec]; decide
      have e2 : (svHasMem.toList == [104, 97, 115, 77, 101, 109, 98, 101, 114]) = true := by rw [<- bytes_dec]; decide
      have e3 : (svHasMem.toList == [107, 105, 110, 100]) = false := by rw [<- bytes_dec]; decide
      rw [hs] at HSO)
  first
   | (obtain ⟨NM, hNM, hne⟩ : ∃ NM, svInBook = NM /\ (([97, 100, 100, 114, 101, 115, 115, 66, 111, 111, 107, 73, 100, 115] : List UInt8) == NM.toList) = false := ⟨_, rfl, by rw [ByteArray.toList_eq]; decide⟩
      rw [hNM] at e1 e2 e3 HSO ⊢)
   | (obtain ⟨NM, hNM, hne⟩ : ∃ NM, svHasMem = NM /\ (([109, 101, 109, 98, 101, 114, 115] : List UInt8) == NM.toList) = false := ⟨_, rfl, by rw [ByteArray.toList_eq]; decide⟩
      rw [hNM] at e1 e2 e3 HSO ⊢)
  try unfold svBookIds at HC
  try unfold svMembers at HC
  clear hs hNM
  go_enter Tryz.func95, Tryz.ntmps95
  go_upto_region 1 with fail
  try rw [hW0]
  clear hW0
  obtain ⟨a0, a1, a2, a3, a4⟩ := hA0.cells5
  have hz0 := hA0.lt
  clear hA0
  go_upto_region 14 with (first
   | (go_at_call 89; (with_reducible refine (HSO.out _).mono ?_); rintro e w9 ⟨rfl, rfl⟩)
   | (go_at_call 61; refine HC.out.mono ?_; rintro e w1 ⟨rv, bb, rfl, hbb, ht1, hb1⟩; (have HBB := Lib.hid hbb); clear hbb; obtain ⟨rk, rn, rS, rpl, rnl, rcl, rpm, rnm, rcm⟩ := rv))
  have hz1 := hb1.size
  have hb2 : Below W0.heap.size W0 (w1.alloc (.cells #[.int .i64 rk, .int .i64 rn, .string rS, .slice rpl rnl rcl, .slice rpm rnm rcm] 25)) := hb1.alloc hz1 _
  have hv2 : VAt (w1.alloc (.cells #[.int .i64 rk, .int .i64 rn, .string rS, .slice rpl rnl rcl, .slice rpm rnm rcm] 25)) w1.heap.size ⟨rk, rn, rS, rpl, rnl, rcl, rpm, rnm, rcm⟩ := heap_alloc_at rfl
  have ht2 := ht1.under ((Below.refl B w1).alloc (Nat.le_trans hBw0 hz1) (.cells #[.int .i64 rk, .int .i64 rn, .string rS, .slice rpl rnl rcl, .slice rpm rnm rcm] 25)) (Nat.le_refl _)
  obtain ⟨g, hg⟩ : ∃ g, w1.heap.size = g := ⟨_, rfl⟩
  obtain ⟨W2, hW2⟩ : ∃ W, w1.alloc (.cells #[.int .i64 rk, .int .i64 rn, .string rS, .slice rpl rnl rcl, .slice rpm rnm rcm] 25) = W := ⟨_, rfl⟩
  rw [hW2] at hb2 hv2 ht2
  rw [hg] at hv2
  try rw [hW2]
  try rw [hg]
  have HQ := Lib.hid (HHA.out _ W2 (Nat.le_trans hBw0 hb2.size) ht2)
  dsimp only [RV.val] at HQ
  obtain ⟨x0, x1, x2, x3, x4⟩ := hv2.cells5
  dsimp only at x0 x1 x2 x3 x4
  have HBW := Lib.hid (HB0.out.trans (hb2.mono hw0))
  clear hW2 hg hb1 ht1 hb2 hv2 ht2 HC HHA a0 a1 a2 a3 a4
  cases X with
  | none =>
    obtain rfl : bb = false := HBB.out
    go_wp2_with fail
    go_ret
    exact ⟨ret_boolI (by rw [HJ.out]; rfl), HBW.out⟩
  | some y =>
    obtain rfl : bb = true := HBB.out
    go_wp2_with (go_at_call 30; (with_reducible refine HQ.out.mono ?_); rintro e w3 ⟨rfl, hb3⟩)
    go_ret
    exact ⟨ret_boolI (by rw [HJ.out]; rfl), HBW.out.trans (hb3.mono HBW.out.size)⟩
theorem one_is (v : JV) (rv : RV) (nm s : ByteArray) (hnm : nm = svUid \/ nm = kindN) (w : World) (B : Nat) (hBw : B <= w.heap.size) (ht : TreeOf w B v rv) (ot : v.Ok) :
 Calls Tryz.prog 95 #[.string nm, .string s, rv.val] w fun e w' => e = .returned (.bool (if nm = kindN /\ (v.get nm).isSome = false then decide (s = svIndiv) else decide (textM v nm = [s]))) /\ Below w.heap.size w w' := by
 obtain ⟨W0, hW0⟩ : ∃ W0, w.alloc rv.obj = W0 := ⟨_, rfl⟩
 have hA0 : VAt W0 w.heap.size rv := by rw [<- hW0]; exact heap_alloc_at rfl
 have hB0 : Below w.heap.size w W0 := by rw [<- hW0]; exact (Below.refl _ _).alloc (Nat.le_refl _) _
 have hw0 := hB0.size
 have hBw0 : B <= W0.heap.size := Nat.le_trans hBw hw0
 have hs4 : sortN nm = 4 := by rcases hnm with rfl | rfl <;> decide
 have HSO : Hid (∀ W, Calls Tryz.prog 89 #[.string nm] W fun e w' => e = .returned (.int .i64 4) /\ W = w') := fun W => by
  have := rsort_any nm W
  rw [hs4] at this
  exact this
 have HC : Hid (Calls Tryz.prog 61 #[rv.val, .string nm] W0 (GetRetB W0 B (v.get nm))) := refGetB_any v rv nm W0 B hBw0 (ht.under (hB0.mono hBw) (Nat.le_refl _)) ot
 have e1 : (nm.toList == [105, 110, 65, 100, 100, 114, 101, 115, 115, 66, 111, 111, 107]) = false := by rcases hnm with rfl | rfl <;> (rw [<- bytes_dec]; decide)
 have e2 : (nm.toList == [104, 97, 115, 77, 101, 109, 98, 101, 114]) = false := by rcases hnm with rfl | rfl <;> (rw [<- bytes_dec]; decide)
 have e3 : (nm.toList == [107, 105, 110, 100]) = decide (nm = kindN) := (bytes_dec _ _).symm
 have e4 : (nm.toList == nm.toList) = true := by simp
 have e5 : (s.toList == [105, 110, 100, 105, 118, 105, 100, 117, 97, 108]) = decide (s = svIndiv) := (bytes_dec _ _).symm
 have HTM := Lib.hid (textM_is v nm s)
 obtain ⟨R, hR⟩ : ∃ R, (if nm = kindN /\ (v.get nm).isSome = false then decide (s = svIndiv) else decide (textM v nm = [s])) = R := ⟨_, rfl⟩
 rw [hR]
 have HR := Lib.hid hR
 obtain ⟨X, hX⟩ : ∃ X, v.get nm = X := ⟨_, rfl⟩
 rw [hX] at HC HTM HR
 obtain ⟨TM, hTM⟩ : ∃ R, decide (textM v nm = [s]) = R := ⟨_, rfl⟩
 rw [hTM] at HTM HR
 obtain ⟨SI, hSI⟩ : ∃ R, decide (s = svIndiv) = R := ⟨_, rfl⟩
 rw [hSI] at e5 HR
 obtain ⟨KN, hKN⟩ : ∃ R, decide (nm = kindN) = R := ⟨_, rfl⟩
 have HR2 : Hid ((if KN = true /\ X.isSome = false then SI else TM) = R) := by
  unfold Hid
  rw [<- HR.out, <- hKN]
  simp only [decide_eq_true_eq]
 rw [hKN] at e3
 obtain ⟨k, n, s0, pl, nl, cl, pm, nm', cm⟩ := rv
 dsimp only [RV.val, RV.obj] at *
 have HB0 := Lib.hid hB0
 clear hB0 ht ot hX hR HR hTM hSI hKN hs4 hnm
 cases KN
 all_goals
  go_enter Tryz.func95, Tryz.ntmps95
  go_upto_region 1 with fail
  try rw [hW0]
  clear hW0
  obtain ⟨a0, a1, a2, a3, a4⟩ := hA0.cells5
  have hz0 := hA0.lt
  clear hA0
  go_upto_region 14 with (first
   | (go_at_call 89; (with_reducible refine (HSO.out _).mono ?_); rintro e w9 ⟨rfl, rfl⟩)
   | (go_at_call 61; refine HC.out.mono ?_; rintro e w1 ⟨rv, bb, rfl, hbb, ht1, hb1⟩; (have HBB := Lib.hid hbb); clear hbb; obtain ⟨rk, rn, rS, rpl, rnl, rcl, rpm, rnm, rcm⟩ := rv))
  have hxx := ht1.kk
  dsimp only at hxx
  have hb2 : Below W0.heap.size W0 (w1.alloc (.cells #[.int .i64 rk, .int .i64 rn, .string rS, .slice rpl rnl rcl, .slice rpm rnm rcm] 25)) := hb1.alloc hb1.size _
  have hv2 : VAt (w1.alloc (.cells #[.int .i64 rk, .int .i64 rn, .string rS, .slice rpl rnl rcl, .slice rpm rnm rcm] 25)) w1.heap.size ⟨rk, rn, rS, rpl, rnl, rcl, rpm, rnm, rcm⟩ := heap_alloc_at rfl
  obtain ⟨g, hg⟩ : ∃ g, w1.heap.size = g := ⟨_, rfl⟩
  obtain ⟨W2, hW2⟩ : ∃ W, w1.alloc (.cells #[.int .i64 rk, .int .i64 rn, .string rS, .slice rpl rnl rcl, .slice rpm rnm rcm] 25) = W := ⟨_, rfl⟩
  rw [hW2] at hb2 hv2
  rw [hg] at hv2
  try rw [hW2]
  try rw [hg]
  have x0 := hv2.cell 0 rfl
  have x2 := hv2.cell 2 rfl
  dsimp only at x0 x2
  have HBW := Lib.hid (HB0.out.trans (hb2.mono hw0))
  have HT2 : Hid (TM = (X.isSome && (decide (rk = 4) && decide (rS = s)))) := by
   unfold Hid
   rw [HTM.out, hxx.1, hxx.2]
  clear hW2 hg hb1 ht1 hb2 hv2 HC HTM hxx a0 a1 a2 a3 a4
  have q4 : (rk == 4) = decide (rk = 4) := rfl
  have qs : (rS.toList == s.toList) = decide (rS = s) := by rw [ByteArray.toList_eq, ByteArray.toList_eq, Bool.eq_iff_iff]; simp [<- Array.toList_inj, ByteArray.ext_iff]
  cases X with
  | none =>
    obtain rfl : bb = false := HBB.out
    go_wp2_with fail
    go_ret
    exact ⟨ret_boolI (by first | exact HR2.out | (have h2 := HT2.out; have h3 := HR2.out; simp at h2 h3; rw [<- h3, h2])), HBW.out⟩
  | some y =>
    obtain rfl : bb = true := HBB.out
    obtain ⟨b4, hb4⟩ : ∃ b, decide (rk = 4) = b := ⟨_, rfl⟩
    obtain ⟨bs, hbs⟩ : ∃ b, decide (rS = s) = b := ⟨_, rfl⟩
    rw [hb4] at q4 HT2
    rw [hbs] at qs HT2
    have HF : Hid ((b4 && bs) = R) := by
     have h2 := HT2.out
     have h3 := HR2.out
     simp at h2 h3
     unfold Hid
     rw [<- h3, h2]
    clear HT2 HR2 hb4 hbs
    cases b4
    all_goals
     go_wp2_with fail
     go_ret
     exact ⟨ret_boolI HF.out, HBW.out⟩
theorem ronec_any (v : JV) (rv : RV) (nm s : ByteArray) (w : World) (B : Nat) (hBw : B <= w.heap.size) (ht : TreeOf w B v rv) (ot : v.Ok) (hk : (askB nm || isFieldB nm) = true)
 (hct : countT v <= 100000) (hsz : sizeT v <= 4000000000) (hs : s.size <= 1000000) :
 Calls Tryz.prog 95 #[.string nm, .string s, rv.val] w fun e w' => e = .returned (.bool (condB v nm s)) /\ Below w.heap.size w w' := by
 have hsm : s.size <= maxLen := by unfold maxLen; omega
 by_cases h0 : nm = svInBook
 ·subst h0; rw [condB_0]; exact one_has v rv _ _ s (.inl ⟨rfl, rfl⟩) w B hBw ht ot
 by_cases h1 : nm = svUid
 ·subst h1
  have := one_is v rv svUid s (.inl rfl) w B hBw ht ot
  rw [if_neg (fun h => absurd h.1 (by decide))] at this
  rw [condB_1]
  exact this
 by_cases h2 : nm = svHasMem
 ·subst h2; rw [condB_2]; exact one_has v rv _ _ s (.inr ⟨rfl, rfl⟩) w B hBw ht ot
 by_cases h3 : nm = kindN
 ·subst h3
  have := one_is v rv kindN s (.inr rfl) w B hBw ht ot
  rw [condB_3]
  cases hx : (v.get kindN).isSome with
  | true =>
    rw [if_neg (fun h => by rw [hx] at h; cases h.2)] at this
    rw [if_pos rfl]
    exact this
  | false =>
    rw [if_pos ⟨rfl, hx⟩] at this
    rw [if_neg (by decide)]
    exact this
 by_cases h4 : nm = svCrBef
 ·subst h4; rw [condB_4]; exact one_stamp v rv _ createdN s true w B hBw ht ot (by decide) (by decide) (by decide) (by rw [<- bytes_dec]; decide) hsm
 by_cases h5 : nm = svCrAft
 ·subst h5; rw [condB_5]; exact one_stamp v rv _ createdN s false w B hBw ht ot (by decide) (by decide) (by decide) (by rw [<- bytes_dec]; decide) hsm
 by_cases h6 : nm = svUpBef
 ·subst h6; rw [condB_6]; exact one_stamp v rv _ updatedN s true w B hBw ht ot (by decide) (by decide) (by decide) (by rw [<- bytes_dec]; decide) hsm
 by_cases h7 : nm = svUpAft
 ·subst h7; rw [condB_7]; exact one_stamp v rv _ updatedN s false w B hBw ht ot (by decide) (by decide) (by decide) (by rw [<- bytes_dec]; decide) hsm
 have hf : isFieldB nm = true := by
  have h8 : askB nm = false := by
   unfold askB stampB
   simp [h0, h1, h2, h3, h4, h5, h6, h7]
  rw [h8] at hk
  simpa using hk
 have hc : condB v nm s = matchF s.data.toList (textsJ v nm) := by
  unfold condB
  rw [if_neg h0, if_neg h1, if_neg h2, if_neg h3, if_neg h4, if_neg h5, if_neg h6, if_neg h7]
 rw [hc]
 exact one_field v rv nm s w B hBw ht ot (by unfold sortN; rw [if_pos hf]) hct hsz hs
end
end Go.Proofs.YtffhccmppdgmfaaGreatDoor
