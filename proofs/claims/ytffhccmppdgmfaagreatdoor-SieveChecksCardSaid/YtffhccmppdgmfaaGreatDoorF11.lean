import Derived.Test.YtffhccmppdgmfaaGreatDoorF10
import Derived.Test.YtffhccmppdgmfaaGreatDoorF09
import Derived.Test.YtffhccmppdgmfaaGreatDoorF08
import Derived.Test.YtffhccmppdgmfaaGreatDoorF02
import Derived.Test.YtffhccmppdgmfaaGreatDoorF06
import Derived.Deep.RegionLaw
import Derived.WalkLawsBesides
import Derived.BigQuiet
import Derived.Test.YtffhccmppdgmfaaGreatDoorF04
import Derived.Test.YtffhccmppdgmfaaGreatDoorF00
import Derived.Deep.RegionHeld3
set_option linter.unusedSimpArgs false
set_option linter.unusedVariables false
set_option maxRecDepth 200000
set_option maxHeartbeats 8000000
namespace Go.Proofs.YtffhccmppdgmfaaGreatDoor
section
open Go Go.RowKit Go.OpenShut
theorem stx_name (t : JV) (r : RV) (w : World) (B : Nat) (hBw : B <= w.heap.size) (ht : TreeOf w B t r) (ot : t.Ok) (hct : countT t <= 100000) :
 Calls Tryz.prog 26 #[r.val, .string nameN] w (OwnRet w 9 encS 1 (wholeJ (nameV t))) := by
 obtain ⟨W0, hW0⟩ : ∃ W0, w.alloc r.obj = W0 := ⟨_, rfl⟩
 have hA0 : VAt W0 w.heap.size r := by rw [<- hW0]; exact heap_alloc_at rfl
 have hB0 : Below w.heap.size w W0 := by rw [<- hW0]; exact (Below.refl _ _).alloc (Nat.le_refl _) _
 have HC : Hid (Calls Tryz.prog 15 #[r.val, .string nameN] W0 (GetRetB W0 B (t.get nameN))) := getB_any t r nameN W0 B (Nat.le_trans hBw hB0.size) (ht.under (hB0.mono hBw) (Nat.le_refl _)) ot
 have hw0 := hB0.size
 have HTR : Hid (∀ W, Below w.heap.size w W -> TreeOf W B t r) := fun W hW => ht.under (hW.mono hBw) (Nat.le_refl _)
 have hcn : countT (nameV t) <= 100000 := Nat.le_trans (count_name t) hct
 have HWH : Hid (∀ (q : RV) (W : World), B <= W.heap.size -> TreeOf W B (nameV t) q -> Calls Tryz.prog 55 #[q.val] W (OwnRet W 9 encS 1 (wholeJ (nameV t)))) := fun q W hB hq => whole_any (nameV t) q W B hB hq (nameV_ok ot) hcn
 have HNV : Hid ((t.get nameN).getD JV.zero = nameV t) := rfl
 obtain ⟨L, hL⟩ : ∃ L, wholeJ (nameV t) = L := ⟨_, rfl⟩
 rw [hL] at HWH
 rw [hL]
 clear hL hcn
 obtain ⟨k, n, s, pl, nl, cl, pm, nm, cm⟩ := r
 dsimp only [RV.val, RV.obj] at *
 have HW := Lib.hid hW0
 have HB0 := Lib.hid hB0
 unfold nameN at HC
 try unfold nameN
 clear hW0 hB0 ht
 go_enter Tryz.func26, Tryz.ntmps26
 go_upto_region 1 with fail
 rw [HW.out]
 clear HW
 obtain ⟨a0, a1, a2, a3, a4⟩ := hA0.cells5
 have hz0 := hA0.lt
 go_upto_region 3 with (go_at_call 15; refine HC.out.mono ?_; rintro e w1 ⟨rv, bb, rfl, hbb, ht1, hb1⟩; obtain ⟨rk, rn, rS, rpl, rnl, rcl, rpm, rnm, rcm⟩ := rv)
 have hz1 := hb1.size
 have hb2 : Below W0.heap.size W0 (w1.alloc (.cells #[.int .i64 rk, .int .i64 rn, .string rS, .slice rpl rnl rcl, .slice rpm rnm rcm] 25)) := hb1.alloc hz1 _
 have hv2 : VAt (w1.alloc (.cells #[.int .i64 rk, .int .i64 rn, .string rS, .slice rpl rnl rcl, .slice rpm rnm rcm] 25)) w1.heap.size ⟨rk, rn, rS, rpl, rnl, rcl, rpm, rnm, rcm⟩ := heap_alloc_at rfl
 have ht2 := ht1.under ((Below.refl B w1).alloc (Nat.le_trans (Nat.le_trans hBw hw0) hz1) (.cells #[.int .i64 rk, .int .i64 rn, .string rS, .slice rpl rnl rcl, .slice rpm rnm rcm] 25)) (Nat.le_refl _)
 obtain ⟨g, hg⟩ : ∃ g, w1.heap.size = g := ⟨_, rfl⟩
 obtain ⟨W2, hW2⟩ : ∃ W, w1.alloc (.cells #[.int .i64 rk, .int .i64 rn, .string rS, .slice rpl rnl rcl, .slice rpm rnm rcm] 25) = W := ⟨_, rfl⟩
 rw [hW2] at hb2 hv2 ht2
 rw [hg] at hv2
 try rw [hW2]
 try rw [hg]
 obtain ⟨v0, v1, v2, v3, v4⟩ := hv2.cells5
 dsimp only at v0 v1 v2 v3 v4
 have b0 := bcs hb2 hz0 a0
 have b1 := bcs hb2 hz0 a1
 have b2 := bcs hb2 hz0 a2
 have b3 := bcs hb2 hz0 a3
 have b4 := bcs hb2 hz0 a4
 have hbw := HB0.out.trans (hb2.mono hw0)
 have HX := Lib.hid hbw
 have hw2 := hbw.size
 have hBw2 : B <= W2.heap.size := Nat.le_trans hBw hw2
 have HT2 := Lib.hid ht2
 clear hW2 hg hb1 ht1 hb2 hv2 hz1 hbw ht2 a0 a1 a2 a3 a4 hbb
 have HTN : TreeOf W2 B (nameV t) ⟨rk, rn, rS, rpl, rnl, rcl, rpm, rnm, rcm⟩ := HT2.out
 have HWC := Lib.hid (HWH.out _ W2 hBw2 HTN)
 clear HTN
 dsimp only [RV.val] at HWC
 go_wp2_with (go_at_call 55; (with_reducible refine HWC.out.mono ?_); rintro e w3 ⟨u3, rfl, ho3, hb3⟩)
 go_ret
 exact ⟨u3, rfl, ho3.mono hw2, HX.out.trans (hb3.mono hw2)⟩
theorem stx_nick (t : JV) (r : RV) (w : World) (B : Nat) (hBw : B <= w.heap.size) (ht : TreeOf w B t r) (ot : t.Ok) (hct : countT t <= 100000) :
 Calls Tryz.prog 26 #[r.val, .string svNick] w (OwnRet w 9 encS 1 (namedJ t svNicks [nameN])) := by
 obtain ⟨W0, hW0⟩ : ∃ W0, w.alloc r.obj = W0 := ⟨_, rfl⟩
 have hA0 : VAt W0 w.heap.size r := by rw [<- hW0]; exact heap_alloc_at rfl
 have hB0 : Below w.heap.size w W0 := by rw [<- hW0]; exact (Below.refl _ _).alloc (Nat.le_refl _) _
 have HC : Hid (Calls Tryz.prog 15 #[r.val, .string nameN] W0 (GetRetB W0 B (t.get nameN))) := getB_any t r nameN W0 B (Nat.le_trans hBw hB0.size) (ht.under (hB0.mono hBw) (Nat.le_refl _)) ot
 have hw0 := hB0.size
 have HTR : Hid (∀ W, Below w.heap.size w W -> TreeOf W B t r) := fun W hW => ht.under (hW.mono hBw) (Nat.le_refl _)
 have HNM : Hid (∀ W, Below w.heap.size w W -> ∀ p n c, Rd W W.heap.size encS 1 (.slice p n c) [nameN] -> Calls Tryz.prog 57 #[r.val, .string svNicks, .slice p n c] W (OwnRet W 9 encS 1 (namedJ t svNicks [nameN]))) := fun W hW p n c hr => named_any t r svNicks [nameN] p n c W B (Nat.le_trans hBw hW.size) (HTR.out W hW) ot hct hr (by simp)
 obtain ⟨L, hL⟩ : ∃ L, namedJ t svNicks [nameN] = L := ⟨_, rfl⟩
 rw [hL] at HNM
 rw [hL]
 clear hL
 obtain ⟨k, n, s, pl, nl, cl, pm, nm, cm⟩ := r
 dsimp only [RV.val, RV.obj] at *
 have HW := Lib.hid hW0
 have HB0 := Lib.hid hB0
 unfold nameN at HC
 try unfold nameN at *
 try unfold svNick at *
 try unfold svNicks at *
 clear hW0 hB0 ht
 go_enter Tryz.func26, Tryz.ntmps26
 go_upto_region 1 with fail
 rw [HW.out]
 clear HW
 obtain ⟨a0, a1, a2, a3, a4⟩ := hA0.cells5
 have hz0 := hA0.lt
 go_upto_region 3 with (go_at_call 15; refine HC.out.mono ?_; rintro e w1 ⟨rv, bb, rfl, hbb, ht1, hb1⟩; obtain ⟨rk, rn, rS, rpl, rnl, rcl, rpm, rnm, rcm⟩ := rv)
 have hz1 := hb1.size
 have hb2 : Below W0.heap.size W0 (w1.alloc (.cells #[.int .i64 rk, .int .i64 rn, .string rS, .slice rpl rnl rcl, .slice rpm rnm rcm] 25)) := hb1.alloc hz1 _
 have hv2 : VAt (w1.alloc (.cells #[.int .i64 rk, .int .i64 rn, .string rS, .slice rpl rnl rcl, .slice rpm rnm rcm] 25)) w1.heap.size ⟨rk, rn, rS, rpl, rnl, rcl, rpm, rnm, rcm⟩ := heap_alloc_at rfl
 have ht2 := ht1.under ((Below.refl B w1).alloc (Nat.le_trans (Nat.le_trans hBw hw0) hz1) (.cells #[.int .i64 rk, .int .i64 rn, .string rS, .slice rpl rnl rcl, .slice rpm rnm rcm] 25)) (Nat.le_refl _)
 obtain ⟨g, hg⟩ : ∃ g, w1.heap.size = g := ⟨_, rfl⟩
 obtain ⟨W2, hW2⟩ : ∃ W, w1.alloc (.cells #[.int .i64 rk, .int .i64 rn, .string rS, .slice rpl rnl rcl, .slice rpm rnm rcm] 25) = W := ⟨_, rfl⟩
 rw [hW2] at hb2 hv2 ht2
 rw [hg] at hv2
 try rw [hW2]
 try rw [hg]
 obtain ⟨v0, v1, v2, v3, v4⟩ := hv2.cells5
 dsimp only at v0 v1 v2 v3 v4
 have b0 := bcs hb2 hz0 a0
 have b1 := bcs hb2 hz0 a1
 have b2 := bcs hb2 hz0 a2
 have b3 := bcs hb2 hz0 a3
 have b4 := bcs hb2 hz0 a4
 have hbw := HB0.out.trans (hb2.mono hw0)
 have HX := Lib.hid hbw
 have hw2 := hbw.size
 have hBw2 : B <= W2.heap.size := Nat.le_trans hBw hw2
 have HT2 := Lib.hid ht2
 clear hW2 hg hb1 ht1 hb2 hv2 hz1 hbw ht2 a0 a1 a2 a3 a4 hbb
 have HR3 : Hid (Rd (W2.alloc (.cells #[.string nameN] 9)) (W2.alloc (.cells #[.string nameN] 9)).heap.size encS 1 (.slice (some ⟨W2.heap.size, 0, none⟩) 1 1) [nameN]) := (Own.block (xs := [nameN]) (base := W2.heap.size) codecS (heap_alloc_at rfl) rfl rfl (Nat.le_refl _) (by decide)).rd codecS
 have HB3 := Lib.hid (HX.out.alloc hw2 (.cells #[.string nameN] 9))
 have HNC := Lib.hid (HNM.out _ HB3.out _ _ _ HR3.out)
 try unfold nameN at HR3 HB3 HNC
 try unfold svNick at HR3 HB3 HNC
 try unfold svNicks at HR3 HB3 HNC
 go_wp2_with (go_at_call 57; (with_reducible refine HNC.out.mono ?_); rintro e w3 ⟨u3, rfl, ho3, hb3⟩)
 go_ret
 exact ⟨u3, rfl, ho3.mono HB3.out.size, HB3.out.trans (hb3.mono HB3.out.size)⟩
theorem stx_email (t : JV) (r : RV) (w : World) (B : Nat) (hBw : B <= w.heap.size) (ht : TreeOf w B t r) (ot : t.Ok) (hct : countT t <= 100000) :
 Calls Tryz.prog 26 #[r.val, .string svEmail] w (OwnRet w 9 encS 1 (namedJ t svEmails [svAddr])) := by
 obtain ⟨W0, hW0⟩ : ∃ W0, w.alloc r.obj = W0 := ⟨_, rfl⟩
 have hA0 : VAt W0 w.heap.size r := by rw [<- hW0]; exact heap_alloc_at rfl
 have hB0 : Below w.heap.size w W0 := by rw [<- hW0]; exact (Below.refl _ _).alloc (Nat.le_refl _) _
 have HC : Hid (Calls Tryz.prog 15 #[r.val, .string nameN] W0 (GetRetB W0 B (t.get nameN))) := getB_any t r nameN W0 B (Nat.le_trans hBw hB0.size) (ht.under (hB0.mono hBw) (Nat.le_refl _)) ot
 have hw0 := hB0.size
 have HTR : Hid (∀ W, Below w.heap.size w W -> TreeOf W B t r) := fun W hW => ht.under (hW.mono hBw) (Nat.le_refl _)
 have HNM : Hid (∀ W, Below w.heap.size w W -> ∀ p n c, Rd W W.heap.size encS 1 (.slice p n c) [svAddr] -> Calls Tryz.prog 57 #[r.val, .string svEmails, .slice p n c] W (OwnRet W 9 encS 1 (namedJ t svEmails [svAddr]))) := fun W hW p n c hr => named_any t r svEmails [svAddr] p n c W B (Nat.le_trans hBw hW.size) (HTR.out W hW) ot hct hr (by simp)
 obtain ⟨L, hL⟩ : ∃ L, namedJ t svEmails [svAddr] = L := ⟨_, rfl⟩
 rw [hL] at HNM
 rw [hL]
 clear hL
 obtain ⟨k, n, s, pl, nl, cl, pm, nm, cm⟩ := r
 dsimp only [RV.val, RV.obj] at *
 have HW := Lib.hid hW0
 have HB0 := Lib.hid hB0
 unfold nameN at HC
 try unfold svAddr at *
 try unfold svEmail at *
 try unfold svEmails at *
 clear hW0 hB0 ht
 go_enter Tryz.func26, Tryz.ntmps26
 go_upto_region 1 with fail
 rw [HW.out]
 clear HW
 obtain ⟨a0, a1, a2, a3, a4⟩ := hA0.cells5
 have hz0 := hA0.lt
 go_upto_region 3 with (go_at_call 15; refine HC.out.mono ?_; rintro e w1 ⟨rv, bb, rfl, hbb, ht1, hb1⟩; obtain ⟨rk, rn, rS, rpl, rnl, rcl, rpm, rnm, rcm⟩ := rv)
 have hz1 := hb1.size
 have hb2 : Below W0.heap.size W0 (w1.alloc (.cells #[.int .i64 rk, .int .i64 rn, .string rS, .slice rpl rnl rcl, .slice rpm rnm rcm] 25)) := hb1.alloc hz1 _
 have hv2 : VAt (w1.alloc (.cells #[.int .i64 rk, .int .i64 rn, .string rS, .slice rpl rnl rcl, .slice rpm rnm rcm] 25)) w1.heap.size ⟨rk, rn, rS, rpl, rnl, rcl, rpm, rnm, rcm⟩ := heap_alloc_at rfl
 have ht2 := ht1.under ((Below.refl B w1).alloc (Nat.le_trans (Nat.le_trans hBw hw0) hz1) (.cells #[.int .i64 rk, .int .i64 rn, .string rS, .slice rpl rnl rcl, .slice rpm rnm rcm] 25)) (Nat.le_refl _)
 obtain ⟨g, hg⟩ : ∃ g, w1.heap.size = g := ⟨_, rfl⟩
 obtain ⟨W2, hW2⟩ : ∃ W, w1.alloc (.cells #[.int .i64 rk, .int .i64 rn, .string rS, .slice rpl rnl rcl, .slice rpm rnm rcm] 25) = W := ⟨_, rfl⟩
 rw [hW2] at hb2 hv2 ht2
 rw [hg] at hv2
 try rw [hW2]
 try rw [hg]
 obtain ⟨v0, v1, v2, v3, v4⟩ := hv2.cells5
 dsimp only at v0 v1 v2 v3 v4
 have b0 := bcs hb2 hz0 a0
 have b1 := bcs hb2 hz0 a1
 have b2 := bcs hb2 hz0 a2
 have b3 := bcs hb2 hz0 a3
 have b4 := bcs hb2 hz0 a4
 have hbw := HB0.out.trans (hb2.mono hw0)
 have HX := Lib.hid hbw
 have hw2 := hbw.size
 have hBw2 : B <= W2.heap.size := Nat.le_trans hBw hw2
 have HT2 := Lib.hid ht2
 clear hW2 hg hb1 ht1 hb2 hv2 hz1 hbw ht2 a0 a1 a2 a3 a4 hbb
 have HR3 : Hid (Rd (W2.alloc (.cells #[.string svAddr] 9)) (W2.alloc (.cells #[.string svAddr] 9)).heap.size encS 1 (.slice (some ⟨W2.heap.size, 0, none⟩) 1 1) [svAddr]) := (Own.block (xs := [svAddr]) (base := W2.heap.size) codecS (heap_alloc_at rfl) rfl rfl (Nat.le_refl _) (by decide)).rd codecS
 have HB3 := Lib.hid (HX.out.alloc hw2 (.cells #[.string svAddr] 9))
 have HNC := Lib.hid (HNM.out _ HB3.out _ _ _ HR3.out)
 try unfold svAddr at HR3 HB3 HNC
 try unfold svEmail at HR3 HB3 HNC
 try unfold svEmails at HR3 HB3 HNC
 go_wp2_with (go_at_call 57; (with_reducible refine HNC.out.mono ?_); rintro e w3 ⟨u3, rfl, ho3, hb3⟩)
 go_ret
 exact ⟨u3, rfl, ho3.mono HB3.out.size, HB3.out.trans (hb3.mono HB3.out.size)⟩
theorem stx_phone (t : JV) (r : RV) (w : World) (B : Nat) (hBw : B <= w.heap.size) (ht : TreeOf w B t r) (ot : t.Ok) (hct : countT t <= 100000) :
 Calls Tryz.prog 26 #[r.val, .string svPhone] w (OwnRet w 9 encS 1 (namedJ t svPhones [svNumber])) := by
 obtain ⟨W0, hW0⟩ : ∃ W0, w.alloc r.obj = W0 := ⟨_, rfl⟩
 have hA0 : VAt W0 w.heap.size r := by rw [<- hW0]; exact heap_alloc_at rfl
 have hB0 : Below w.heap.size w W0 := by rw [<- hW0]; exact (Below.refl _ _).alloc (Nat.le_refl _) _
 have HC : Hid (Calls Tryz.prog 15 #[r.val, .string nameN] W0 (GetRetB W0 B (t.get nameN))) := getB_any t r nameN W0 B (Nat.le_trans hBw hB0.size) (ht.under (hB0.mono hBw) (Nat.le_refl _)) ot
 have hw0 := hB0.size
 have HTR : Hid (∀ W, Below w.heap.size w W -> TreeOf W B t r) := fun W hW => ht.under (hW.mono hBw) (Nat.le_refl _)
 have HNM : Hid (∀ W, Below w.heap.size w W -> ∀ p n c, Rd W W.heap.size encS 1 (.slice p n c) [svNumber] -> Calls Tryz.prog 57 #[r.val, .string svPhones, .slice p n c] W (OwnRet W 9 encS 1 (namedJ t svPhones [svNumber]))) := fun W hW p n c hr => named_any t r svPhones [svNumber] p n c W B (Nat.le_trans hBw hW.size) (HTR.out W hW) ot hct hr (by simp)
 obtain ⟨L, hL⟩ : ∃ L, namedJ t svPhones [svNumber] = L := ⟨_, rfl⟩
 rw [hL] at HNM
 rw [hL]
 clear hL
 obtain ⟨k, n, s, pl, nl, cl, pm, nm, cm⟩ := r
 dsimp only [RV.val, RV.obj] at *
 have HW := Lib.hid hW0
 have HB0 := Lib.hid hB0
 unfold nameN at HC
 try unfold svNumber at *
 try unfold svPhone at *
 try unfold svPhones at *
 clear hW0 hB0 ht
 go_enter Tryz.func26, Tryz.ntmps26
 go_upto_region 1 with fail
 rw [HW.out]
 clear HW
 obtain ⟨a0, a1, a2, a3, a4⟩ := hA0.cells5
 have hz0 := hA0.lt
 go_upto_region 3 with (go_at_call 15; refine HC.out.mono ?_; rintro e w1 ⟨rv, bb, rfl, hbb, ht1, hb1⟩; obtain ⟨rk, rn, rS, rpl, rnl, rcl, rpm, rnm, rcm⟩ := rv)
 have hz1 := hb1.size
 have hb2 : Below W0.heap.size W0 (w1.alloc (.cells #[.int .i64 rk, .int .i64 rn, .string rS, .slice rpl rnl rcl, .slice rpm rnm rcm] 25)) := hb1.alloc hz1 _
 have hv2 : VAt (w1.alloc (.cells #[.int .i64 rk, .int .i64 rn, .string rS, .slice rpl rnl rcl, .slice rpm rnm rcm] 25)) w1.heap.size ⟨rk, rn, rS, rpl, rnl, rcl, rpm, rnm, rcm⟩ := heap_alloc_at rfl
 have ht2 := ht1.under ((Below.refl B w1).alloc (Nat.le_trans (Nat.le_trans hBw hw0) hz1) (.cells #[.int .i64 rk, .int .i64 rn, .string rS, .slice rpl rnl rcl, .slice rpm rnm rcm] 25)) (Nat.le_refl _)
 obtain ⟨g, hg⟩ : ∃ g, w1.heap.size = g := ⟨_, rfl⟩
 obtain ⟨W2, hW2⟩ : ∃ W, w1.alloc (.cells #[.int .i64 rk, .int .i64 rn, .string rS, .slice rpl rnl rcl, .slice rpm rnm rcm] 25) = W := ⟨_, rfl⟩
 rw [hW2] at hb2 hv2 ht2
 rw [hg] at hv2
 try rw [hW2]
 try rw [hg]
 obtain ⟨v0, v1, v2, v3, v4⟩ := hv2.cells5
 dsimp only at v0 v1 v2 v3 v4
 have b0 := bcs hb2 hz0 a0
 have b1 := bcs hb2 hz0 a1
 have b2 := bcs hb2 hz0 a2
 have b3 := bcs hb2 hz0 a3
 have b4 := bcs hb2 hz0 a4
 have hbw := HB0.out.trans (hb2.mono hw0)
 have HX := Lib.hid hbw
 have hw2 := hbw.size
 have hBw2 : B <= W2.heap.size := Nat.le_trans hBw hw2
 have HT2 := Lib.hid ht2
 clear hW2 hg hb1 ht1 hb2 hv2 hz1 hbw ht2 a0 a1 a2 a3 a4 hbb
 have HR3 : Hid (Rd (W2.alloc (.cells #[.string svNumber] 9)) (W2.alloc (.cells #[.string svNumber] 9)).heap.size encS 1 (.slice (some ⟨W2.heap.size, 0, none⟩) 1 1) [svNumber]) := (Own.block (xs := [svNumber]) (base := W2.heap.size) codecS (heap_alloc_at rfl) rfl rfl (Nat.le_refl _) (by decide)).rd codecS
 have HB3 := Lib.hid (HX.out.alloc hw2 (.cells #[.string svNumber] 9))
 have HNC := Lib.hid (HNM.out _ HB3.out _ _ _ HR3.out)
 try unfold svNumber at HR3 HB3 HNC
 try unfold svPhone at HR3 HB3 HNC
 try unfold svPhones at HR3 HB3 HNC
 go_wp2_with (go_at_call 57; (with_reducible refine HNC.out.mono ?_); rintro e w3 ⟨u3, rfl, ho3, hb3⟩)
 go_ret
 exact ⟨u3, rfl, ho3.mono HB3.out.size, HB3.out.trans (hb3.mono HB3.out.size)⟩
theorem stx_online (t : JV) (r : RV) (w : World) (B : Nat) (hBw : B <= w.heap.size) (ht : TreeOf w B t r) (ot : t.Ok) (hct : countT t <= 100000) :
 Calls Tryz.prog 26 #[r.val, .string svOnline] w (OwnRet w 9 encS 1 (namedJ t svOnlines [svService, svUri, svUser])) := by
 obtain ⟨W0, hW0⟩ : ∃ W0, w.alloc r.obj = W0 := ⟨_, rfl⟩
 have hA0 : VAt W0 w.heap.size r := by rw [<- hW0]; exact heap_alloc_at rfl
 have hB0 : Below w.heap.size w W0 := by rw [<- hW0]; exact (Below.refl _ _).alloc (Nat.le_refl _) _
 have HC : Hid (Calls Tryz.prog 15 #[r.val, .string nameN] W0 (GetRetB W0 B (t.get nameN))) := getB_any t r nameN W0 B (Nat.le_trans hBw hB0.size) (ht.under (hB0.mono hBw) (Nat.le_refl _)) ot
 have hw0 := hB0.size
 have HTR : Hid (∀ W, Below w.heap.size w W -> TreeOf W B t r) := fun W hW => ht.under (hW.mono hBw) (Nat.le_refl _)
 have HNM : Hid (∀ W, Below w.heap.size w W -> ∀ p n c, Rd W W.heap.size encS 1 (.slice p n c) [svService, svUri, svUser] -> Calls Tryz.prog 57 #[r.val, .string svOnlines, .slice p n c] W (OwnRet W 9 encS 1 (namedJ t svOnlines [svService, svUri, svUser]))) := fun W hW p n c hr => named_any t r svOnlines [svService, svUri, svUser] p n c W B (Nat.le_trans hBw hW.size) (HTR.out W hW) ot hct hr (by simp)
 obtain ⟨L, hL⟩ : ∃ L, namedJ t svOnlines [svService, svUri, svUser] = L := ⟨_, rfl⟩
 rw [hL] at HNM
 rw [hL]
 clear hL
 obtain ⟨k, n, s, pl, nl, cl, pm, nm, cm⟩ := r
 dsimp only [RV.val, RV.obj] at *
 have HW := Lib.hid hW0
 have HB0 := Lib.hid hB0
 unfold nameN at HC
 try unfold svOnline at *
 try unfold svOnlines at *
 try unfold svService at *
 try unfold svUri at *
 try unfold svUser at *
 clear hW0 hB0 ht
 go_enter Tryz.func26, Tryz.ntmps26
 go_upto_region 1 with fail
 rw [HW.out]
 clear HW
 obtain ⟨a0, a1, a2, a3, a4⟩ := hA0.cells5
 have hz0 := hA0.lt
 go_upto_region 3 with (go_at_call 15; refine HC.out.mono ?_; rintro e w1 ⟨rv, bb, rfl, hbb, ht1, hb1⟩; obtain ⟨rk, rn, rS, rpl, rnl, rcl, rpm, rnm, rcm⟩ := rv)
 have hz1 := hb1.size
 have hb2 : Below W0.heap.size W0 (w1.alloc (.cells #[.int .i64 rk, .int .i64 rn, .string rS, .slice rpl rnl rcl, .slice rpm rnm rcm] 25)) := hb1.alloc hz1 _
 have hv2 : VAt (w1.alloc (.cells #[.int .i64 rk, .int .i64 rn, .string rS, .slice rpl rnl rcl, .slice rpm rnm rcm] 25)) w1.heap.size ⟨rk, rn, rS, rpl, rnl, rcl, rpm, rnm, rcm⟩ := heap_alloc_at rfl
 have ht2 := ht1.under ((Below.refl B w1).alloc (Nat.le_trans (Nat.le_trans hBw hw0) hz1) (.cells #[.int .i64 rk, .int .i64 rn, .string rS, .slice rpl rnl rcl, .slice rpm rnm rcm] 25)) (Nat.le_refl _)
 obtain ⟨g, hg⟩ : ∃ g, w1.heap.size = g := ⟨_, rfl⟩
 obtain ⟨W2, hW2⟩ : ∃ W, w1.alloc (.cells #[.int .i64 rk, .int .i64 rn, .string rS, .slice rpl rnl rcl, .slice rpm rnm rcm] 25) = W := ⟨_, rfl⟩
 rw [hW2] at hb2 hv2 ht2
 rw [hg] at hv2
 try rw [hW2]
 try rw [hg]
 obtain ⟨v0, v1, v2, v3, v4⟩ := hv2.cells5
 dsimp only at v0 v1 v2 v3 v4
 have b0 := bcs hb2 hz0 a0
 have b1 := bcs hb2 hz0 a1
 have b2 := bcs hb2 hz0 a2
 have b3 := bcs hb2 hz0 a3
 have b4 := bcs hb2 hz0 a4
 have hbw := HB0.out.trans (hb2.mono hw0)
 have HX := Lib.hid hbw
 have hw2 := hbw.size
 have hBw2 : B <= W2.heap.size := Nat.le_trans hBw hw2
 have HT2 := Lib.hid ht2
 clear hW2 hg hb1 ht1 hb2 hv2 hz1 hbw ht2 a0 a1 a2 a3 a4 hbb
 have HR3 : Hid (Rd (W2.alloc (.cells #[.string svService, .string svUri, .string svUser] 9)) (W2.alloc (.cells #[.string svService, .string svUri, .string svUser] 9)).heap.size encS 1 (.slice (some ⟨W2.heap.size, 0, none⟩) 3 3) [svService, svUri, svUser]) := (Own.block (xs := [svService, svUri, svUser]) (base := W2.heap.size) codecS (heap_alloc_at rfl) rfl rfl (Nat.le_refl _) (by decide)).rd codecS
 have HB3 := Lib.hid (HX.out.alloc hw2 (.cells #[.string svService, .string svUri, .string svUser] 9))
 have HNC := Lib.hid (HNM.out _ HB3.out _ _ _ HR3.out)
 try unfold svOnline at HR3 HB3 HNC
 try unfold svOnlines at HR3 HB3 HNC
 try unfold svService at HR3 HB3 HNC
 try unfold svUri at HR3 HB3 HNC
 try unfold svUser at HR3 HB3 HNC
 go_wp2_with (go_at_call 57; (with_reducible refine HNC.out.mono ?_); rintro e w3 ⟨u3, rfl, ho3, hb3⟩)
 go_ret
 exact ⟨u3, rfl, ho3.mono HB3.out.size, HB3.out.trans (hb3.mono HB3.out.size)⟩
theorem stx_note (t : JV) (r : RV) (w : World) (B : Nat) (hBw : B <= w.heap.size) (ht : TreeOf w B t r) (ot : t.Ok) (hct : countT t <= 100000) :
 Calls Tryz.prog 26 #[r.val, .string svNote] w (OwnRet w 9 encS 1 (namedJ t svNotes [svNote])) := by
 obtain ⟨W0, hW0⟩ : ∃ W0, w.alloc r.obj = W0 := ⟨_, rfl⟩
 have hA0 : VAt W0 w.heap.size r := by rw [<- hW0]; exact heap_alloc_at rfl
 have hB0 : Below w.heap.size w W0 := by rw [<- hW0]; exact (Below.refl _ _).alloc (Nat.le_refl _) _
 have HC : Hid (Calls Tryz.prog 15 #[r.val, .string nameN] W0 (GetRetB W0 B (t.get nameN))) := getB_any t r nameN W0 B (Nat.le_trans hBw hB0.size) (ht.under (hB0.mono hBw) (Nat.le_refl _)) ot
 have hw0 := hB0.size
 have HTR : Hid (∀ W, Below w.heap.size w W -> TreeOf W B t r) := fun W hW => ht.under (hW.mono hBw) (Nat.le_refl _)
 have HNM : Hid (∀ W, Below w.heap.size w W -> ∀ p n c, Rd W W.heap.size encS 1 (.slice p n c) [svNote] -> Calls Tryz.prog 57 #[r.val, .string svNotes, .slice p n c] W (OwnRet W 9 encS 1 (namedJ t svNotes [svNote]))) := fun W hW p n c hr => named_any t r svNotes [svNote] p n c W B (Nat.le_trans hBw hW.size) (HTR.out W hW) ot hct hr (by simp)
 obtain ⟨L, hL⟩ : ∃ L, namedJ t svNotes [svNote] = L := ⟨_, rfl⟩
 rw [hL] at HNM
 rw [hL]
 clear hL
 obtain ⟨k, n, s, pl, nl, cl, pm, nm, cm⟩ := r
 dsimp only [RV.val, RV.obj] at *
 have HW := Lib.hid hW0
 have HB0 := Lib.hid hB0
 unfold nameN at HC
 try unfold svNote at *
 try unfold svNotes at *
 clear hW0 hB0 ht
 go_enter Tryz.func26, Tryz.ntmps26
 go_upto_region 1 with fail
 rw [HW.out]
 clear HW
 obtain ⟨a0, a1, a2, a3, a4⟩ := hA0.cells5
 have hz0 := hA0.lt
 go_upto_region 3 with (go_at_call 15; refine HC.out.mono ?_; rintro e w1 ⟨rv, bb, rfl, hbb, ht1, hb1⟩; obtain ⟨rk, rn, rS, rpl, rnl, rcl, rpm, rnm, rcm⟩ := rv)
 have hz1 := hb1.size
 have hb2 : Below W0.heap.size W0 (w1.alloc (.cells #[.int .i64 rk, .int .i64 rn, .string rS, .slice rpl rnl rcl, .slice rpm rnm rcm] 25)) := hb1.alloc hz1 _
 have hv2 : VAt (w1.alloc (.cells #[.int .i64 rk, .int .i64 rn, .string rS, .slice rpl rnl rcl, .slice rpm rnm rcm] 25)) w1.heap.size ⟨rk, rn, rS, rpl, rnl, rcl, rpm, rnm, rcm⟩ := heap_alloc_at rfl
 have ht2 := ht1.under ((Below.refl B w1).alloc (Nat.le_trans (Nat.le_trans hBw hw0) hz1) (.cells #[.int .i64 rk, .int .i64 rn, .string rS, .slice rpl rnl rcl, .slice rpm rnm rcm] 25)) (Nat.le_refl _)
 obtain ⟨g, hg⟩ : ∃ g, w1.heap.size = g := ⟨_, rfl⟩
 obtain ⟨W2, hW2⟩ : ∃ W, w1.alloc (.cells #[.int .i64 rk, .int .i64 rn, .string rS, .slice rpl rnl rcl, .slice rpm rnm rcm] 25) = W := ⟨_, rfl⟩
 rw [hW2] at hb2 hv2 ht2
 rw [hg] at hv2
 try rw [hW2]
 try rw [hg]
 obtain ⟨v0, v1, v2, v3, v4⟩ := hv2.cells5
 dsimp only at v0 v1 v2 v3 v4
 have b0 := bcs hb2 hz0 a0
 have b1 := bcs hb2 hz0 a1
 have b2 := bcs hb2 hz0 a2
 have b3 := bcs hb2 hz0 a3
 have b4 := bcs hb2 hz0 a4
 have hbw := HB0.out.trans (hb2.mono hw0)
 have HX := Lib.hid hbw
 have hw2 := hbw.size
 have hBw2 : B <= W2.heap.size := Nat.le_trans hBw hw2
 have HT2 := Lib.hid ht2
 clear hW2 hg hb1 ht1 hb2 hv2 hz1 hbw ht2 a0 a1 a2 a3 a4 hbb
 have HR3 : Hid (Rd (W2.alloc (.cells #[.string svNote] 9)) (W2.alloc (.cells #[.string svNote] 9)).heap.size encS 1 (.slice (some ⟨W2.heap.size, 0, none⟩) 1 1) [svNote]) := (Own.block (xs := [svNote]) (base := W2.heap.size) codecS (heap_alloc_at rfl) rfl rfl (Nat.le_refl _) (by decide)).rd codecS
 have HB3 := Lib.hid (HX.out.alloc hw2 (.cells #[.string svNote] 9))
 have HNC := Lib.hid (HNM.out _ HB3.out _ _ _ HR3.out)
 try unfold svNote at HR3 HB3 HNC
 try unfold svNotes at HR3 HB3 HNC
 go_wp2_with (go_at_call 57; (with_reducible refine HNC.out.mono ?_); rintro e w3 ⟨u3, rfl, ho3, hb3⟩)
 go_ret
 exact ⟨u3, rfl, ho3.mono HB3.out.size, HB3.out.trans (hb3.mono HB3.out.size)⟩
theorem stx_none (t : JV) (r : RV) (f : ByteArray) (w : World) (B : Nat) (hBw : B <= w.heap.size) (ht : TreeOf w B t r) (ot : t.Ok) (hct : countT t <= 100000) (n0 : f ≠ nameN) (n1 : f ≠ givenN) (n2 : f ≠ surN) (n3 : f ≠ sur2N) (n4 : f ≠ svNick) (n5 : f ≠ svOrg) (n6 : f ≠ svEmail) (n7 : f ≠ svPhone) (n8 : f ≠ svOnline) (n9 : f ≠ svAddr) (n10 : f ≠ svNote) (n11 : f ≠ svText) :
 Calls Tryz.prog 26 #[r.val, .string f] w (OwnRet w 9 encS 1 []) := by
 obtain ⟨W0, hW0⟩ : ∃ W0, w.alloc r.obj = W0 := ⟨_, rfl⟩
 have hA0 : VAt W0 w.heap.size r := by rw [<- hW0]; exact heap_alloc_at rfl
 have hB0 : Below w.heap.size w W0 := by rw [<- hW0]; exact (Below.refl _ _).alloc (Nat.le_refl _) _
 have HC : Hid (Calls Tryz.prog 15 #[r.val, .string nameN] W0 (GetRetB W0 B (t.get nameN))) := getB_any t r nameN W0 B (Nat.le_trans hBw hB0.size) (ht.under (hB0.mono hBw) (Nat.le_refl _)) ot
 have hw0 := hB0.size
 have HTR : Hid (∀ W, Below w.heap.size w W -> TreeOf W B t r) := fun W hW => ht.under (hW.mono hBw) (Nat.le_refl _)
 have qn0 : (f.toList == [110, 97, 109, 101]) = false := by rw [<- bytes_dec]; exact decide_eq_false n0
 have qn1 : (f.toList == [110, 97, 109, 101, 47, 103, 105, 118, 101, 110]) = false := by rw [<- bytes_dec]; exact decide_eq_false n1
 have qn2 : (f.toList == [110, 97, 109, 101, 47, 115, 117, 114, 110, 97, 109, 101]) = false := by rw [<- bytes_dec]; exact decide_eq_false n2
 have qn3 : (f.toList == [110, 97, 109, 101, 47, 115, 117, 114, 110, 97, 109, 101, 50]) = false := by rw [<- bytes_dec]; exact decide_eq_false n3
 have qn4 : (f.toList == [110, 105, 99, 107, 110, 97, 109, 101]) = false := by rw [<- bytes_dec]; exact decide_eq_false n4
 have qn5 : (f.toList == [111, 114, 103, 97, 110, 105, 122, 97, 116, 105, 111, 110]) = false := by rw [<- bytes_dec]; exact decide_eq_false n5
 have qn6 : (f.toList == [101, 109, 97, 105, 108]) = false := by rw [<- bytes_dec]; exact decide_eq_false n6
 have qn7 : (f.toList == [112, 104, 111, 110, 101]) = false := by rw [<- bytes_dec]; exact decide_eq_false n7
 have qn8 : (f.toList == [111, 110, 108, 105, 110, 101, 83, 101, 114, 118, 105, 99, 101]) = false := by rw [<- bytes_dec]; exact decide_eq_false n8
 have qn9 : (f.toList == [97, 100, 100, 114, 101, 115, 115]) = false := by rw [<- bytes_dec]; exact decide_eq_false n9
 have qn10 : (f.toList == [110, 111, 116, 101]) = false := by rw [<- bytes_dec]; exact decide_eq_false n10
 have qn11 : (f.toList == [116, 101, 120, 116]) = false := by rw [<- bytes_dec]; exact decide_eq_false n11
 obtain ⟨k, n, s, pl, nl, cl, pm, nm, cm⟩ := r
 dsimp only [RV.val, RV.obj] at *
 have HW := Lib.hid hW0
 have HB0 := Lib.hid hB0
 unfold nameN at HC
 clear n0 n1 n2 n3 n4 n5 n6 n7 n8 n9 n10 n11
 clear hW0 hB0 ht
 go_enter Tryz.func26, Tryz.ntmps26
 go_upto_region 1 with fail
 rw [HW.out]
 clear HW
 obtain ⟨a0, a1, a2, a3, a4⟩ := hA0.cells5
 have hz0 := hA0.lt
 go_upto_region 3 with (go_at_call 15; refine HC.out.mono ?_; rintro e w1 ⟨rv, bb, rfl, hbb, ht1, hb1⟩; obtain ⟨rk, rn, rS, rpl, rnl, rcl, rpm, rnm, rcm⟩ := rv)
 have hz1 := hb1.size
 have hb2 : Below W0.heap.size W0 (w1.alloc (.cells #[.int .i64 rk, .int .i64 rn, .string rS, .slice rpl rnl rcl, .slice rpm rnm rcm] 25)) := hb1.alloc hz1 _
 have hv2 : VAt (w1.alloc (.cells #[.int .i64 rk, .int .i64 rn, .string rS, .slice rpl rnl rcl, .slice rpm rnm rcm] 25)) w1.heap.size ⟨rk, rn, rS, rpl, rnl, rcl, rpm, rnm, rcm⟩ := heap_alloc_at rfl
 have ht2 := ht1.under ((Below.refl B w1).alloc (Nat.le_trans (Nat.le_trans hBw hw0) hz1) (.cells #[.int .i64 rk, .int .i64 rn, .string rS, .slice rpl rnl rcl, .slice rpm rnm rcm] 25)) (Nat.le_refl _)
 obtain ⟨g, hg⟩ : ∃ g, w1.heap.size = g := ⟨_, rfl⟩
 obtain ⟨W2, hW2⟩ : ∃ W, w1.alloc (.cells #[.int .i64 rk, .int .i64 rn, .string rS, .slice rpl rnl rcl, .slice rpm rnm rcm] 25) = W := ⟨_, rfl⟩
 rw [hW2] at hb2 hv2 ht2
 rw [hg] at hv2
 try rw [hW2]
 try rw [hg]
 obtain ⟨v0, v1, v2, v3, v4⟩ := hv2.cells5
 dsimp only at v0 v1 v2 v3 v4
 have b0 := bcs hb2 hz0 a0
 have b1 := bcs hb2 hz0 a1
 have b2 := bcs hb2 hz0 a2
 have b3 := bcs hb2 hz0 a3
 have b4 := bcs hb2 hz0 a4
 have hbw := HB0.out.trans (hb2.mono hw0)
 have HX := Lib.hid hbw
 have hw2 := hbw.size
 have hBw2 : B <= W2.heap.size := Nat.le_trans hBw hw2
 have HT2 := Lib.hid ht2
 clear hW2 hg hb1 ht1 hb2 hv2 hz1 hbw ht2 a0 a1 a2 a3 a4 hbb
 go_wp2_with fail
 go_ret
 exact ⟨_, rfl, Own.nil _ _ _, HX.out⟩
theorem stx_addr (t : JV) (r : RV) (w : World) (B : Nat) (hBw : B <= w.heap.size) (ht : TreeOf w B t r) (ot : t.Ok) (hct : countT t <= 100000) :
 Calls Tryz.prog 26 #[r.val, .string svAddr] w (OwnRet w 9 encS 1 ((eachJ t svAddrs).flatMap wholeJ)) := by
 obtain ⟨W0, hW0⟩ : ∃ W0, w.alloc r.obj = W0 := ⟨_, rfl⟩
 have hA0 : VAt W0 w.heap.size r := by rw [<- hW0]; exact heap_alloc_at rfl
 have hB0 : Below w.heap.size w W0 := by rw [<- hW0]; exact (Below.refl _ _).alloc (Nat.le_refl _) _
 have HC : Hid (Calls Tryz.prog 15 #[r.val, .string nameN] W0 (GetRetB W0 B (t.get nameN))) := getB_any t r nameN W0 B (Nat.le_trans hBw hB0.size) (ht.under (hB0.mono hBw) (Nat.le_refl _)) ot
 have hw0 := hB0.size
 have HTR : Hid (∀ W, Below w.heap.size w W -> TreeOf W B t r) := fun W hW => ht.under (hW.mono hBw) (Nat.le_refl _)
 have HE : Hid (∀ W, Below w.heap.size w W -> Calls Tryz.prog 58 #[r.val, .string svAddrs] W (VlRet W B (eachJ t svAddrs))) := fun W hW => each_any t r svAddrs W B (Nat.le_trans hBw hW.size) (HTR.out W hW) ot
 have HEK := Lib.hid (eachJ_ok (name := svAddrs) ot)
 have hfc := flat_count wholeJ_len (eachJ t svAddrs)
 have hec := eachJ_count t svAddrs
 have hmc : ∀ x ∈ eachJ t svAddrs, countT x <= 100000 := fun x hx => by have := countL_mem hx; omega
 obtain ⟨es, hes⟩ : ∃ es, eachJ t svAddrs = es := ⟨_, rfl⟩
 rw [hes] at HE HEK hfc hec hmc
 rw [hes]
 have HNB : Hid ((es.flatMap wholeJ).length <= 100000) := by unfold Hid; omega
 have HMC : Hid (∀ (i : Nat) x, es[i]? = some x -> countT x <= 100000) := fun i x hx => hmc x (List.mem_of_getElem? hx)
 clear hes hfc hec hmc hct
 obtain ⟨k, n, s, pl, nl, cl, pm, nm, cm⟩ := r
 dsimp only [RV.val, RV.obj] at *
 have HW := Lib.hid hW0
 have HB0 := Lib.hid hB0
 unfold nameN at HC
 try unfold svAddr at *
 try unfold svAddrs at *
 clear hW0 hB0 ht
 go_enter Tryz.func26, Tryz.ntmps26
 go_upto_region 1 with fail
 rw [HW.out]
 clear HW
 obtain ⟨a0, a1, a2, a3, a4⟩ := hA0.cells5
 have hz0 := hA0.lt
 go_upto_region 3 with (go_at_call 15; refine HC.out.mono ?_; rintro e w1 ⟨rv, bb, rfl, hbb, ht1, hb1⟩; obtain ⟨rk, rn, rS, rpl, rnl, rcl, rpm, rnm, rcm⟩ := rv)
 have hz1 := hb1.size
 have hb2 : Below W0.heap.size W0 (w1.alloc (.cells #[.int .i64 rk, .int .i64 rn, .string rS, .slice rpl rnl rcl, .slice rpm rnm rcm] 25)) := hb1.alloc hz1 _
 have hv2 : VAt (w1.alloc (.cells #[.int .i64 rk, .int .i64 rn, .string rS, .slice rpl rnl rcl, .slice rpm rnm rcm] 25)) w1.heap.size ⟨rk, rn, rS, rpl, rnl, rcl, rpm, rnm, rcm⟩ := heap_alloc_at rfl
 have ht2 := ht1.under ((Below.refl B w1).alloc (Nat.le_trans (Nat.le_trans hBw hw0) hz1) (.cells #[.int .i64 rk, .int .i64 rn, .string rS, .slice rpl rnl rcl, .slice rpm rnm rcm] 25)) (Nat.le_refl _)
 obtain ⟨g, hg⟩ : ∃ g, w1.heap.size = g := ⟨_, rfl⟩
 obtain ⟨W2, hW2⟩ : ∃ W, w1.alloc (.cells #[.int .i64 rk, .int .i64 rn, .string rS, .slice rpl rnl rcl, .slice rpm rnm rcm] 25) = W := ⟨_, rfl⟩
 rw [hW2] at hb2 hv2 ht2
 rw [hg] at hv2
 try rw [hW2]
 try rw [hg]
 obtain ⟨v0, v1, v2, v3, v4⟩ := hv2.cells5
 dsimp only at v0 v1 v2 v3 v4
 have b0 := bcs hb2 hz0 a0
 have b1 := bcs hb2 hz0 a1
 have b2 := bcs hb2 hz0 a2
 have b3 := bcs hb2 hz0 a3
 have b4 := bcs hb2 hz0 a4
 have hbw := HB0.out.trans (hb2.mono hw0)
 have HX := Lib.hid hbw
 have hw2 := hbw.size
 have hBw2 : B <= W2.heap.size := Nat.le_trans hBw hw2
 have HT2 := Lib.hid ht2
 clear hW2 hg hb1 ht1 hb2 hv2 hz1 hbw ht2 a0 a1 a2 a3 a4 hbb
 have HEC := Lib.hid (HE.out _ HX.out)
 try dsimp only [RV.val] at HEC
 go_wp2_with (go_at_call 58; (with_reducible refine HEC.out.mono ?_); rintro e w1 ⟨v9, rs, rfl, ho, hlen, htl, hb1⟩; obtain ⟨p9, n9, c9, rfl⟩ : ∃ p n c, v9 = Value.slice p n c := by (obtain ⟨p, c, h, _, _⟩ := ho.len; exact ⟨p, _, c, h⟩))
 have hr : Rd w1 w1.heap.size encV 5 (.slice p9 n9 c9) rs := ho.rd codecV
 have hrl : rs.length = n9 := (rd_nlen hr).symm
 have HN : Hid (es.length = n9) := by unfold Hid; omega
 have hno : n9 <= 1466015503658 := by have := HEK.out.1; have := HN.out; omega
 have HTL := Lib.hid htl
 have HRD := Lib.hid hr
 have hbw1 := HX.out.trans (hb1.mono hw2)
 have HBW := Lib.hid hbw1
 have hw1 := hbw1.size
 have hBw1 : B <= w1.heap.size := Nat.le_trans hBw hw1
 clear hr htl hb1 hbw1 hlen ho b0 b1 b2 b3 b4 v0 v1 v2 v3 v4 HEC HE
 go_loopw [7, 85] (fun u i wr => ∃ j : Nat, j <= n9 /\ i = .int .i64 (j : Int) /\ Hid (Own wr w1.heap.size 9 encS 1 u ((es.take j).flatMap wholeJ) /\ Below w1.heap.size w1 wr)) (fun _ i _ => n9 - (intOf i).toNat)
 case atStart => exact ⟨0, by omega, rfl, by rw [List.take_zero]; exact Own.nil _ _ _, Below.refl _ _⟩
 case round =>
  obtain ⟨j, hj, rfl, hH⟩ := hrel
  have HO := Lib.hid hH.out.1
  have HBR := Lib.hid hH.out.2
  clear hH
  have hj0 : (0 : Int) <= (j : Int) := Int.natCast_nonneg _
  by_cases hlt : j < n9
  ·obtain ⟨y, hy⟩ : ∃ y, es[j]? = some y := ⟨_, List.getElem?_eq_getElem (by have := HN.out; omega)⟩
   obtain ⟨⟨xk, xn, xs, xpl, xnl, xcl, xpm, xnm, xcm⟩, hx⟩ : ∃ x, rs[j]? = some x := ⟨_, List.getElem?_eq_getElem (by omega)⟩
   have HYO := Lib.hid (HEK.out.2 j y hy)
   have HYC := Lib.hid (HMC.out j y hy)
   have HPS := Lib.hid (flat_succ (f := wholeJ) hy)
   have HPM := Lib.hid (flat_mid (f := wholeJ) hy)
   have HTA : Hid (∀ W, Below w1.heap.size w1 W -> TreeOf W B y ⟨xk, xn, xs, xpl, xnl, xcl, xpm, xnm, xcm⟩) := fun W hW => (HTL.out j y _ hy hx).under (hW.mono hBw1) (Nat.le_refl _)
   obtain ⟨L0, hL0⟩ : ∃ L, (es.take j).flatMap wholeJ = L := ⟨_, rfl⟩
   rw [hL0] at HO HPS HPM
   obtain ⟨bx, ox, rfl, hbx, hcx⟩ := rd_at' (HRD.out.below HBR.out HBR.out.size) hx
   have f0 := hcx 0 _ rfl
   have f1 := hcx 1 _ rfl
   have f2 := hcx 2 _ rfl
   have f3 := hcx 3 _ rfl
   have f4 := hcx 4 _ rfl
   rw [Nat.add_zero] at f0
   dsimp only at f0 f1 f2 f3 f4
   have hj1 : (j : Int) < (n9 : Int) := by omega
   have hbz := HBR.out.size
   clear hx hy hcx hL0
   go_upto_region 33 with fail
   have hB9 : Below w1.heap.size w1 (wr.alloc (.cells #[.int .i64 xk, .int .i64 xn, .string xs, .slice xpl xnl xcl, .slice xpm xnm xcm] 25)) := HBR.out.alloc hbz _
   have hO9 := HO.out.alloc (.cells #[.int .i64 xk, .int .i64 xn, .string xs, .slice xpl xnl xcl, .slice xpm xnm xcm] 25)
   have hV9 : VAt (wr.alloc (.cells #[.int .i64 xk, .int .i64 xn, .string xs, .slice xpl xnl xcl, .slice xpm xnm xcm] 25)) wr.heap.size ⟨xk, xn, xs, xpl, xnl, xcl, xpm, xnm, xcm⟩ := heap_alloc_at rfl
   have hN9 : u7.ownBlock ≠ some wr.heap.size := fun e => by have := (HO.out.lt _ e).2; omega
   obtain ⟨g9, hg9⟩ : ∃ g, wr.heap.size = g := ⟨_, rfl⟩
   obtain ⟨W9, hW9⟩ : ∃ W, wr.alloc (.cells #[.int .i64 xk, .int .i64 xn, .string xs, .slice xpl xnl xcl, .slice xpm xnm xcm] 25) = W := ⟨_, rfl⟩
   rw [hW9] at hB9 hO9 hV9
   rw [hg9] at hV9 hN9
   try rw [hW9]
   try rw [hg9]
   have HB9 := Lib.hid hB9
   have HO9 := Lib.hid hO9
   have HV9 := Lib.hid hV9
   have HN9 := Lib.hid hN9
   have hz9 := hB9.size
   have hgl9 := hV9.lt
   obtain ⟨e0, e1, e2, e3, e4⟩ := hV9.cells5
   dsimp only at e0 e1 e2 e3 e4
   clear hW9 hg9 hB9 hO9 hV9 hN9 f0 f1 f2 f3 f4 HO HBR
   have HWH := Lib.hid (whole_any y ⟨xk, xn, xs, xpl, xnl, xcl, xpm, xnm, xcm⟩ W9 B (Nat.le_trans hBw1 hz9) (HTA.out W9 HB9.out) HYO.out HYC.out)
   dsimp only [RV.val] at HWH
   obtain ⟨LF, hLF⟩ : ∃ L, wholeJ y = L := ⟨_, rfl⟩
   rw [hLF] at HWH HPS HPM
   have HLN : Hid (L0.length + LF.length <= maxLen /\ (L0.length + LF.length) * 16 <= 140737488355328) := by
    have h1 := HPM.out
    have h2 := HNB.out
    exact ⟨by unfold maxLen; omega, by omega⟩
   clear hLF
   go_wp2_with (first
    | (go_at_call 55; (with_reducible refine HWH.out.mono ?_); rintro e w2 ⟨u2, rfl, ho2, hb2⟩; (have ho3 := HO9.out.below hb2 (Nat.le_refl _)); (have hz2 : w1.heap.size <= w2.heap.size := Nat.le_trans hz9 hb2.size))
    | (at_builtin; refine wpList_append_rd slS codecS w2 rfl (.tmp 89) (.tmp 91) rfl (v := u7) rfl rfl ho3 (ho2.rd codecS) HLN.out.1 HLN.out.2 hz2 ?_; intro v8 w8 ho8 hg8 hat8)
    | fail)
   have HS8 : Hid (Own w8 w1.heap.size 9 encS 1 v8 ((es.take (j + 1)).flatMap wholeJ) /\ Below w1.heap.size w1 w8) := ⟨by rw [HPS.out]; exact ho8, Below.appended (HB9.out.trans (hb2.mono hz9)) hg8 ho3 hz2⟩
   clear ho8 hg8 hat8 ho2 ho3 hb2
   go_roundw
   case rel => exact ⟨j + 1, by omega, by go_num, HS8.out⟩
   case measure => simp [intOf]; omega
  ·obtain rfl : j = n9 := by omega
   have ho := HO.out
   have hta : es.take j = es := List.take_of_length_le (by have := HN.out; omega)
   rw [hta] at ho
   have HZ := Lib.hid (And.intro (ho.mono hw1) (HBW.out.trans (HBR.out.mono hw1)))
   clear ho hta
   go_wp2_with fail
   go_ret
   exact ⟨_, rfl, HZ.out.1, HZ.out.2⟩
theorem stx_org (t : JV) (r : RV) (w : World) (B : Nat) (hBw : B <= w.heap.size) (ht : TreeOf w B t r) (ot : t.Ok) (hct : countT t <= 100000) :
 Calls Tryz.prog 26 #[r.val, .string svOrg] w (OwnRet w 9 encS 1 ((eachJ t svOrgs).flatMap orgJ)) := by
 obtain ⟨W0, hW0⟩ : ∃ W0, w.alloc r.obj = W0 := ⟨_, rfl⟩
 have hA0 : VAt W0 w.heap.size r := by rw [<- hW0]; exact heap_alloc_at rfl
 have hB0 : Below w.heap.size w W0 := by rw [<- hW0]; exact (Below.refl _ _).alloc (Nat.le_refl _) _
 have HC : Hid (Calls Tryz.prog 15 #[r.val, .string nameN] W0 (GetRetB W0 B (t.get nameN))) := getB_any t r nameN W0 B (Nat.le_trans hBw hB0.size) (ht.under (hB0.mono hBw) (Nat.le_refl _)) ot
 have hw0 := hB0.size
 have HTR : Hid (∀ W, Below w.heap.size w W -> TreeOf W B t r) := fun W hW => ht.under (hW.mono hBw) (Nat.le_refl _)
 have HE : Hid (∀ W, Below w.heap.size w W -> Calls Tryz.prog 58 #[r.val, .string svOrgs] W (VlRet W B (eachJ t svOrgs))) := fun W hW => each_any t r svOrgs W B (Nat.le_trans hBw hW.size) (HTR.out W hW) ot
 have HEK := Lib.hid (eachJ_ok (name := svOrgs) ot)
 have hfc := flat_count orgJ_len (eachJ t svOrgs)
 have hec := eachJ_count t svOrgs
 have hmc : ∀ x ∈ eachJ t svOrgs, countT x <= 100000 := fun x hx => by have := countL_mem hx; omega
 obtain ⟨es, hes⟩ : ∃ es, eachJ t svOrgs = es := ⟨_, rfl⟩
 rw [hes] at HE HEK hfc hec hmc
 rw [hes]
 have HNB : Hid ((es.flatMap orgJ).length <= 100000) := by unfold Hid; omega
 have HMC : Hid (∀ (i : Nat) x, es[i]? = some x -> countT x <= 100000) := fun i x hx => hmc x (List.mem_of_getElem? hx)
 clear hes hfc hec hmc hct
 obtain ⟨k, n, s, pl, nl, cl, pm, nm, cm⟩ := r
 dsimp only [RV.val, RV.obj] at *
 have HW := Lib.hid hW0
 have HB0 := Lib.hid hB0
 unfold nameN at HC
 try unfold svOrg at *
 try unfold svOrgs at *
 clear hW0 hB0 ht
 go_enter Tryz.func26, Tryz.ntmps26
 go_upto_region 1 with fail
 rw [HW.out]
 clear HW
 obtain ⟨a0, a1, a2, a3, a4⟩ := hA0.cells5
 have hz0 := hA0.lt
 go_upto_region 3 with (go_at_call 15; refine HC.out.mono ?_; rintro e w1 ⟨rv, bb, rfl, hbb, ht1, hb1⟩; obtain ⟨rk, rn, rS, rpl, rnl, rcl, rpm, rnm, rcm⟩ := rv)
 have hz1 := hb1.size
 have hb2 : Below W0.heap.size W0 (w1.alloc (.cells #[.int .i64 rk, .int .i64 rn, .string rS, .slice rpl rnl rcl, .slice rpm rnm rcm] 25)) := hb1.alloc hz1 _
 have hv2 : VAt (w1.alloc (.cells #[.int .i64 rk, .int .i64 rn, .string rS, .slice rpl rnl rcl, .slice rpm rnm rcm] 25)) w1.heap.size ⟨rk, rn, rS, rpl, rnl, rcl, rpm, rnm, rcm⟩ := heap_alloc_at rfl
 have ht2 := ht1.under ((Below.refl B w1).alloc (Nat.le_trans (Nat.le_trans hBw hw0) hz1) (.cells #[.int .i64 rk, .int .i64 rn, .string rS, .slice rpl rnl rcl, .slice rpm rnm rcm] 25)) (Nat.le_refl _)
 obtain ⟨g, hg⟩ : ∃ g, w1.heap.size = g := ⟨_, rfl⟩
 obtain ⟨W2, hW2⟩ : ∃ W, w1.alloc (.cells #[.int .i64 rk, .int .i64 rn, .string rS, .slice rpl rnl rcl, .slice rpm rnm rcm] 25) = W := ⟨_, rfl⟩
 rw [hW2] at hb2 hv2 ht2
 rw [hg] at hv2
 try rw [hW2]
 try rw [hg]
 obtain ⟨v0, v1, v2, v3, v4⟩ := hv2.cells5
 dsimp only at v0 v1 v2 v3 v4
 have b0 := bcs hb2 hz0 a0
 have b1 := bcs hb2 hz0 a1
 have b2 := bcs hb2 hz0 a2
 have b3 := bcs hb2 hz0 a3
 have b4 := bcs hb2 hz0 a4
 have hbw := HB0.out.trans (hb2.mono hw0)
 have HX := Lib.hid hbw
 have hw2 := hbw.size
 have hBw2 : B <= W2.heap.size := Nat.le_trans hBw hw2
 have HT2 := Lib.hid ht2
 clear hW2 hg hb1 ht1 hb2 hv2 hz1 hbw ht2 a0 a1 a2 a3 a4 hbb
 have HEC := Lib.hid (HE.out _ HX.out)
 try dsimp only [RV.val] at HEC
 go_wp2_with (go_at_call 58; (with_reducible refine HEC.out.mono ?_); rintro e w1 ⟨v9, rs, rfl, ho, hlen, htl, hb1⟩; obtain ⟨p9, n9, c9, rfl⟩ : ∃ p n c, v9 = Value.slice p n c := by (obtain ⟨p, c, h, _, _⟩ := ho.len; exact ⟨p, _, c, h⟩))
 have hr : Rd w1 w1.heap.size encV 5 (.slice p9 n9 c9) rs := ho.rd codecV
 have hrl : rs.length = n9 := (rd_nlen hr).symm
 have HN : Hid (es.length = n9) := by unfold Hid; omega
 have hno : n9 <= 1466015503658 := by have := HEK.out.1; have := HN.out; omega
 have HTL := Lib.hid htl
 have HRD := Lib.hid hr
 have hbw1 := HX.out.trans (hb1.mono hw2)
 have HBW := Lib.hid hbw1
 have hw1 := hbw1.size
 have hBw1 : B <= w1.heap.size := Nat.le_trans hBw hw1
 clear hr htl hb1 hbw1 hlen ho b0 b1 b2 b3 b4 v0 v1 v2 v3 v4 HEC HE
 go_loopw [7, 44] (fun u i wr => ∃ j : Nat, j <= n9 /\ i = .int .i64 (j : Int) /\ Hid (Own wr w1.heap.size 9 encS 1 u ((es.take j).flatMap orgJ) /\ Below w1.heap.size w1 wr)) (fun _ i _ => n9 - (intOf i).toNat)
 case atStart => exact ⟨0, by omega, rfl, by rw [List.take_zero]; exact Own.nil _ _ _, Below.refl _ _⟩
 case round =>
  obtain ⟨j, hj, rfl, hH⟩ := hrel
  have HO := Lib.hid hH.out.1
  have HBR := Lib.hid hH.out.2
  clear hH
  have hj0 : (0 : Int) <= (j : Int) := Int.natCast_nonneg _
  by_cases hlt : j < n9
  ·obtain ⟨y, hy⟩ : ∃ y, es[j]? = some y := ⟨_, List.getElem?_eq_getElem (by have := HN.out; omega)⟩
   obtain ⟨⟨xk, xn, xs, xpl, xnl, xcl, xpm, xnm, xcm⟩, hx⟩ : ∃ x, rs[j]? = some x := ⟨_, List.getElem?_eq_getElem (by omega)⟩
   have HYO := Lib.hid (HEK.out.2 j y hy)
   have HYC := Lib.hid (HMC.out j y hy)
   have HPS := Lib.hid (flat_succ (f := orgJ) hy)
   have HPM := Lib.hid (flat_mid (f := orgJ) hy)
   have HTA : Hid (∀ W, Below w1.heap.size w1 W -> TreeOf W B y ⟨xk, xn, xs, xpl, xnl, xcl, xpm, xnm, xcm⟩) := fun W hW => (HTL.out j y _ hy hx).under (hW.mono hBw1) (Nat.le_refl _)
   obtain ⟨L0, hL0⟩ : ∃ L, (es.take j).flatMap orgJ = L := ⟨_, rfl⟩
   rw [hL0] at HO HPS HPM
   obtain ⟨bx, ox, rfl, hbx, hcx⟩ := rd_at' (HRD.out.below HBR.out HBR.out.size) hx
   have f0 := hcx 0 _ rfl
   have f1 := hcx 1 _ rfl
   have f2 := hcx 2 _ rfl
   have f3 := hcx 3 _ rfl
   have f4 := hcx 4 _ rfl
   rw [Nat.add_zero] at f0
   dsimp only at f0 f1 f2 f3 f4
   have hj1 : (j : Int) < (n9 : Int) := by omega
   have hbz := HBR.out.size
   clear hx hy hcx hL0
   go_upto_region 16 with fail
   have hB9 : Below w1.heap.size w1 (wr.alloc (.cells #[.int .i64 xk, .int .i64 xn, .string xs, .slice xpl xnl xcl, .slice xpm xnm xcm] 25)) := HBR.out.alloc hbz _
   have hO9 := HO.out.alloc (.cells #[.int .i64 xk, .int .i64 xn, .string xs, .slice xpl xnl xcl, .slice xpm xnm xcm] 25)
   have hV9 : VAt (wr.alloc (.cells #[.int .i64 xk, .int .i64 xn, .string xs, .slice xpl xnl xcl, .slice xpm xnm xcm] 25)) wr.heap.size ⟨xk, xn, xs, xpl, xnl, xcl, xpm, xnm, xcm⟩ := heap_alloc_at rfl
   have hN9 : u7.ownBlock ≠ some wr.heap.size := fun e => by have := (HO.out.lt _ e).2; omega
   obtain ⟨g9, hg9⟩ : ∃ g, wr.heap.size = g := ⟨_, rfl⟩
   obtain ⟨W9, hW9⟩ : ∃ W, wr.alloc (.cells #[.int .i64 xk, .int .i64 xn, .string xs, .slice xpl xnl xcl, .slice xpm xnm xcm] 25) = W := ⟨_, rfl⟩
   rw [hW9] at hB9 hO9 hV9
   rw [hg9] at hV9 hN9
   try rw [hW9]
   try rw [hg9]
   have HB9 := Lib.hid hB9
   have HO9 := Lib.hid hO9
   have HV9 := Lib.hid hV9
   have HN9 := Lib.hid hN9
   have hz9 := hB9.size
   have hgl9 := hV9.lt
   obtain ⟨e0, e1, e2, e3, e4⟩ := hV9.cells5
   dsimp only at e0 e1 e2 e3 e4
   clear hW9 hg9 hB9 hO9 hV9 hN9 f0 f1 f2 f3 f4 HO HBR
   have HTX := Lib.hid (text_any y ⟨xk, xn, xs, xpl, xnl, xcl, xpm, xnm, xcm⟩ nameN W9 B (Nat.le_trans hBw1 hz9) (HTA.out W9 HB9.out) HYO.out)
   have HIN : Hid (∀ W, Below w1.heap.size w1 W -> Calls Tryz.prog 60 #[RV.val ⟨xk, xn, xs, xpl, xnl, xcl, xpm, xnm, xcm⟩, .string svUnits] W fun e w' => ∃ v, e = .returned v /\ TlOf w' B v (inJ y svUnits) /\ Below W.heap.size W w') := fun W hW => in_any y _ svUnits W B (Nat.le_trans hBw1 hW.size) (HTA.out W hW) HYO.out
   have HIK := Lib.hid (inJ_ok (name := svUnits) HYO.out)
   dsimp only [RV.val] at HTX HIN
   have hoj : orgJ y = textM y nameN ++ (inJ y svUnits).flatMap (fun u => textM u nameN) := rfl
   obtain ⟨cs, hcs⟩ : ∃ cs, inJ y svUnits = cs := ⟨_, rfl⟩
   obtain ⟨LF, hLF⟩ : ∃ L, textM y nameN = L := ⟨_, rfl⟩
   rw [hcs] at HIN HIK hoj
   rw [hLF] at HTX hoj
   rw [hoj] at HPS HPM
   have HLM : Hid (L0.length + (LF ++ cs.flatMap (fun u => textM u nameN)).length <= 100000) := by
    have h1 := HPM.out
    have h2 := HNB.out
    unfold Hid
    omega
   have HLN : Hid (L0.length + LF.length <= maxLen /\ (L0.length + LF.length) * 16 <= 140737488355328) := by
    have h1 := HLM.out
    rw [List.length_append] at h1
    exact ⟨by unfold maxLen; omega, by omega⟩
   unfold nameN at HTX
   unfold svUnits at HIN
   clear hcs hLF hoj HPM
   go_upto_region 17 with (first
    | (go_at_call 59; (with_reducible refine HTX.out.mono ?_); rintro e w2 ⟨u2, rfl, ho2, hb2⟩; (have ho3 := HO9.out.below hb2 (Nat.le_refl _)); (have hz2 : w1.heap.size <= w2.heap.size := Nat.le_trans hz9 hb2.size))
    | (at_builtin; refine wpList_append_rd slS codecS w2 rfl (.tmp 48) (.tmp 50) rfl (v := u7) rfl rfl ho3 (ho2.rd codecS) HLN.out.1 HLN.out.2 hz2 ?_; intro v8 w8 ho8 hg8 hat8)
    | fail)
   have hv2 : VAt w2 g9 ⟨xk, xn, xs, xpl, xnl, xcl, xpm, xnm, xcm⟩ := HV9.out.under hb2 hgl9
   have hv8 : VAt w8 g9 ⟨xk, xn, xs, xpl, xnl, xcl, xpm, xnm, xcm⟩ := (hg8.block g9 hv2.lt (fun e => HN9.out e.symm)).trans hv2
   have hb8 : Below w1.heap.size w1 w8 := Below.appended (HB9.out.trans (hb2.mono hz9)) hg8 ho3 hz2
   have HINC := Lib.hid (HIN.out w8 hb8)
   have HO8 := Lib.hid ho8
   have HB8 := Lib.hid hb8
   have hz8 := hb8.size
   obtain ⟨d0, d1, d2, d3, d4⟩ := hv8.cells5
   dsimp only at d0 d1 d2 d3 d4
   clear e0 e1 e2 e3 e4 hv2 hv8 hb8 ho8 hg8 hat8 ho2 ho3 hb2 HIN HTX HO9 HB9 HV9 HN9
   go_wp2_with (go_at_call 60; (with_reducible refine HINC.out.mono ?_); rintro e w9 ⟨va, rfl, hta, hb9⟩; obtain ⟨ra, hra, hal, hat⟩ := hta; obtain ⟨pa, na, ca, rfl⟩ : ∃ p n c, va = Value.slice p n c := by (obtain ⟨p, c, h, _⟩ := hra; exact ⟨p, _, c, h⟩))
   have hral : ra.length = na := (rd_nlen hra).symm
   have HAN : Hid (cs.length = na) := by unfold Hid; omega
   have hna : na <= 1759218604390 := by have := HIK.out.1; have := HAN.out; omega
   have HRA := Lib.hid hra
   have HAT := Lib.hid hat
   have hz9w : w1.heap.size <= w9.heap.size := Nat.le_trans hz8 hb9.size
   have HO9 : Hid (Own w9 w1.heap.size 9 encS 1 v8 (L0 ++ LF)) := HO8.out.below hb9 (Nat.le_refl _)
   have HB9 : Hid (Below w1.heap.size w1 w9) := HB8.out.trans (hb9.mono hz8)
   have hBz9 : B <= w1.heap.size := hBw1
   clear hra hat hal hb9 d0 d1 d2 d3 d4 HINC HO8 HB8
   go_loopw [7, 55] (fun u i wr => ∃ q : Nat, q <= na /\ i = .int .i64 (q : Int) /\ Hid (Own wr w1.heap.size 9 encS 1 u ((L0 ++ LF) ++ (cs.take q).flatMap (fun u => textM u nameN)) /\ Below w1.heap.size w9 wr)) (fun _ i _ => na - (intOf i).toNat)
   case atStart => exact ⟨0, by omega, rfl, by rw [List.take_zero, List.flatMap_nil, List.append_nil]; exact HO9.out, Below.refl _ _⟩
   case round =>
    obtain ⟨q, hq, rfl, hI⟩ := hrel
    have hq0 : (0 : Int) <= (q : Int) := Int.natCast_nonneg _
    have HOI := Lib.hid hI.out.1
    have HBI := Lib.hid hI.out.2
    clear hI
    by_cases hlq : q < na
    ·obtain ⟨c, hc⟩ : ∃ c, cs[q]? = some c := ⟨_, List.getElem?_eq_getElem (by have := HAN.out; omega)⟩
     obtain ⟨⟨yk, yn, ys, ypl, ynl, ycl, ypm, ynm, ycm⟩, hy⟩ : ∃ x, ra[q]? = some x := ⟨_, List.getElem?_eq_getElem (by omega)⟩
     have hbi : Below B w9 wr := HBI.out.mono hBw1
     obtain ⟨by', oy, rfl, hby, hcy⟩ := rd_at' (HRA.out.below hbi (Nat.le_refl _)) hy
     have f0 := hcy 0 _ rfl
     have f1 := hcy 1 _ rfl
     have f2 := hcy 2 _ rfl
     have f3 := hcy 3 _ rfl
     have f4 := hcy 4 _ rfl
     rw [Nat.add_zero] at f0
     dsimp only at f0 f1 f2 f3 f4
     have hq1 : (q : Int) < (na : Int) := by omega
     have HQS := Lib.hid (flat_succ (f := fun u => textM u nameN) hc)
     have hqm := flat_mid (f := fun u => textM u nameN) hc
     try dsimp only at HQS hqm
     obtain ⟨L1, hL1⟩ : ∃ L, (cs.take q).flatMap (fun u => textM u nameN) = L := ⟨_, rfl⟩
     rw [hL1] at HOI HQS hqm
     have hzi : w1.heap.size <= wr.heap.size := Nat.le_trans hz9w HBI.out.size
     have hba : Below w1.heap.size w9 (wr.alloc (.cells #[.int .i64 yk, .int .i64 yn, .string ys, .slice ypl ynl ycl, .slice ypm ynm ycm] 25)) := HBI.out.alloc hzi _
     have HBA := Lib.hid hba
     have HTC := Lib.hid (text_any c ⟨yk, yn, ys, ypl, ynl, ycl, ypm, ynm, ycm⟩ nameN (wr.alloc (.cells #[.int .i64 yk, .int .i64 yn, .string ys, .slice ypl ynl ycl, .slice ypm ynm ycm] 25)) B (by simp; omega) ((HAT.out q c _ hc hy).under (hba.mono hBw1) (Nat.le_refl _)) (HIK.out.2 q c hc))
     dsimp only [RV.val] at HTC
     have HOA := Lib.hid (HOI.out.alloc (.cells #[.int .i64 yk, .int .i64 yn, .string ys, .slice ypl ynl ycl, .slice ypm ynm ycm] 25))
     obtain ⟨LC, hLC⟩ : ∃ L, textM c nameN = L := ⟨_, rfl⟩
     rw [hLC] at HTC HQS hqm
     have HLC : Hid (((L0 ++ LF) ++ L1).length + LC.length <= maxLen /\ (((L0 ++ LF) ++ L1).length + LC.length) * 16 <= 140737488355328) := by
      have h1 := HLM.out
      rw [List.length_append] at h1
      rw [List.length_append, List.length_append]
      exact ⟨by unfold maxLen; omega, by omega⟩
     have hV3 : VAt (wr.alloc (.cells #[.int .i64 yk, .int .i64 yn, .string ys, .slice ypl ynl ycl, .slice ypm ynm ycm] 25)) wr.heap.size ⟨yk, yn, ys, ypl, ynl, ycl, ypm, ynm, ycm⟩ := heap_alloc_at rfl
     unfold nameN at HTC
     clear hc hy hcy hL1 hLC hqm hbi hba
     go_upto_region 20 with fail
     obtain ⟨g3, hg3⟩ : ∃ g, wr.heap.size = g := ⟨_, rfl⟩
     obtain ⟨W3, hW3⟩ : ∃ W, wr.alloc (.cells #[.int .i64 yk, .int .i64 yn, .string ys, .slice ypl ynl ycl, .slice ypm ynm ycm] 25) = W := ⟨_, rfl⟩
     rw [hW3] at HBA HTC HOA hV3
     rw [hg3] at hV3
     try rw [hW3]
     try rw [hg3]
     have hz3 : w1.heap.size <= W3.heap.size := Nat.le_trans hz9w HBA.out.size
     obtain ⟨e0, e1, e2, e3, e4⟩ := hV3.cells5
     dsimp only at e0 e1 e2 e3 e4
     clear hW3 hg3 f0 f1 f2 f3 f4 hV3 HOI HBI
     go_wp2_with (first
      | (go_at_call 59; (with_reducible refine HTC.out.mono ?_); rintro e w4 ⟨u4, rfl, ho4, hb4⟩; (have ho5 := HOA.out.below hb4 (Nat.le_refl _)); (have hz4 : w1.heap.size <= w4.heap.size := Nat.le_trans hz3 hb4.size))
      | (at_builtin; refine wpList_append_rd slS codecS w4 rfl (.tmp 59) (.tmp 61) rfl (v := u7) rfl rfl ho5 (ho4.rd codecS) HLC.out.1 HLC.out.2 hz4 ?_; intro v6 w6 ho6 hg6 hat6)
      | fail)
     have HS6 : Hid (Own w6 w1.heap.size 9 encS 1 v6 ((L0 ++ LF) ++ (cs.take (q + 1)).flatMap (fun u => textM u nameN)) /\ Below w1.heap.size w9 w6) := ⟨by rw [HQS.out, <- List.append_assoc]; exact ho6, Below.appended (HBA.out.trans (hb4.mono hz3)) hg6 ho5 hz4⟩
     clear ho6 hg6 hat6 ho4 ho5 hb4
     go_roundw
     case rel => exact ⟨q + 1, by omega, by go_num, HS6.out⟩
     case measure => simp [intOf]; omega
    ·obtain rfl : q = na := by omega
     have ho := HOI.out
     rw [List.take_of_length_le (by have := HAN.out; omega)] at ho
     have HSX : Hid (Own wr w1.heap.size 9 encS 1 u7 ((es.take (j + 1)).flatMap orgJ) /\ Below w1.heap.size w1 wr) := ⟨by rw [HPS.out, <- List.append_assoc]; exact ho, HB9.out.trans HBI.out⟩
     clear ho HOI HBI
     go_wp2_with fail
     go_roundw
     case rel => exact ⟨j + 1, by omega, by go_num, HSX.out⟩
     case measure => simp [intOf]; omega
  ·obtain rfl : j = n9 := by omega
   have ho := HO.out
   have hta : es.take j = es := List.take_of_length_le (by have := HN.out; omega)
   rw [hta] at ho
   have HZ := Lib.hid (And.intro (ho.mono hw1) (HBW.out.trans (HBR.out.mono hw1)))
   clear ho hta
   go_wp2_with fail
   go_ret
   exact ⟨_, rfl, HZ.out.1, HZ.out.2⟩
end
section
open Go.RowKit Go.OpenShut
theorem sameParts_any (w : World) (B : Nat) (u v : Value) (l m : List ByteArray) (hu : Rd w B encS 1 u l) (hv : Rd w B encS 1 v m) :
 Calls Tryz.prog 25 #[u, v] w fun e w' => e = .returned (.bool (decide (l = m))) /\ ∃ n, w' = w.drewN n := by
 obtain ⟨p, c, rfl, hlc, hcm⟩ := rd_len hu
 obtain ⟨q, d, rfl, hmd, hdm⟩ := rd_len hv
 have HU := Lib.hid hu
 have HV := Lib.hid hv
 clear hu hv
 by_cases hlen : l.length = m.length
 ·have hb : ((l.length : Int) != (m.length : Int)) = false := by simp [hlen]
  have HL := Lib.hid hlen
  have hle : l.length <= m.length := by omega
  have hle2 : m.length <= l.length := by omega
  clear hlen
  go_enter Tryz.func25, Tryz.ntmps25
  go_wp2_with fail
  go_loopw [5] (fun i wr => ∃ k : Nat, k <= l.length /\ i = .int .i64 k /\ Hid (l.take k = m.take k) /\ ∃ n, wr = w.drewN n) (fun i _ => l.length - (intOf i).toNat)
  case atStart => exact ⟨0, Nat.zero_le _, rfl, rfl, 0, rfl⟩
  case round =>
   obtain ⟨k, hk, rfl, htk, nr, rfl⟩ := hrel
   by_cases hlt : k < l.length
   ·obtain ⟨x, hx⟩ : ∃ x, l[k]? = some x := ⟨_, List.getElem?_eq_getElem hlt⟩
    obtain ⟨y, hy⟩ : ∃ x, m[k]? = some x := ⟨_, List.getElem?_eq_getElem (by omega)⟩
    obtain ⟨b1, o1, rfl, hb1, hc1⟩ := rd_at HU.out hx
    obtain ⟨b2, o2, rfl, hb2, hc2⟩ := rd_at HV.out hy
    have f0 := hc1 0 _ rfl
    have g0 := hc2 0 _ rfl
    rw [Nat.add_zero, Nat.mul_one] at f0 g0
    have hk0 : (0 : Int) <= (k : Int) := Int.natCast_nonneg _
    have hk1 : (k : Int) < (l.length : Int) := by omega
    have hk2 : (k : Int) < (m.length : Int) := by omega
    have hq := str_beq x y
    by_cases hxy : x = y
    ·have e2 : (x.toList == y.toList) = true := by rw [hq]; simpa using hxy
     have e1 : (x.toList != y.toList) = false := by rw [bne, e2]; rfl
     have HTK : Hid (l.take (k + 1) = m.take (k + 1)) := by
      unfold Hid
      rw [List.take_add_one, List.take_add_one, hx, hy, htk.out, hxy]
     clear hx hy hc1 hc2 hq hxy htk
     go_wp2_with fail
     go_quiet (fail)
     go_wp2_with fail
     go_roundw
     case rel => exact ⟨k + 1, by omega, by go_num, HTK, _, rfl⟩
     case measure => simp [intOf]; omega
    ·have e2 : (x.toList == y.toList) = false := by rw [hq]; simpa using hxy
     have e1 : (x.toList != y.toList) = true := by rw [bne, e2]; rfl
     have HNO : Hid (decide (l = m) = false) := eqTake_ne hx hy hxy
     clear hx hy hc1 hc2 hq hxy htk
     go_wp2_with fail
     go_quiet (fail)
     go_wp2_with fail
     go_ret
     exact ⟨ret_bool HNO.out.symm, _, World.drewN_drewN _ _ _⟩
   ·obtain rfl : k = l.length := by omega
    have HYES : Hid (decide (l = m) = true) := by
     have h := htk.out
     rw [List.take_of_length_le (Nat.le_refl _), List.take_of_length_le hle2] at h
     unfold Hid
     simpa using h
    go_wp2_with fail
    go_ret
    exact ⟨ret_bool HYES.out.symm, _, rfl⟩
 ·have hb : ((l.length : Int) != (m.length : Int)) = true := by simp; omega
  have HNO : Hid (decide (l = m) = false) := by unfold Hid; rw [decide_eq_false_iff_not]; exact fun h => hlen (by rw [h])
  clear hlen
  go_enter Tryz.func25, Tryz.ntmps25
  go_wp2_with fail
  go_ret
  exact ⟨ret_bool HNO.out.symm, 0, rfl⟩
theorem BoxD.ext' {a b : BoxD} (h1 : a.objs = b.objs) (h2 : a.trail = b.trail) (h3 : a.seq = b.seq) (h4 : a.floor = b.floor) (h5 : a.keep = b.keep) : a = b := by
 cases a; cases b; simp_all
end
end Go.Proofs.YtffhccmppdgmfaaGreatDoor
