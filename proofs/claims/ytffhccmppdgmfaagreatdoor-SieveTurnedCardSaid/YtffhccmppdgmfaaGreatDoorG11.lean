import Derived.Test.YtffhccmppdgmfaaGreatDoorG10
import Derived.Test.YtffhccmppdgmfaaGreatDoorG07
import Derived.Test.YtffhccmppdgmfaaGreatDoorG08
import Derived.Test.YtffhccmppdgmfaaGreatDoorG03
import Derived.Test.YtffhccmppdgmfaaGreatDoorG05
import Derived.Deep.RegionLaw
import Derived.WalkLawsBesides
import Derived.BigQuiet
set_option linter.unusedSimpArgs false
set_option linter.unusedVariables false
set_option maxRecDepth 200000
set_option maxHeartbeats 8000000
namespace Go.Proofs.YtffhccmppdgmfaaGreatDoor
section
open Go Go.RowKit Go.OpenShut
theorem stx_addr (t : JV) (r : RV) (w : World) (B : Nat) (hBw : B <= w.heap.size) (ht : TreeOf w B t r) (ot : t.Ok) (hct : countT t <= 100000) :
 Calls Tryz.prog 26 #[r.val, .string svAddr] w (OwnRet w 9 encS 1 ((eachJ t svAddrs).flatMap wholeJ)) := by
 obtain ⟨W0, hW0⟩ : ∃ W0, w.alloc r.obj = W0 := ⟨_, rfl⟩
 have hA0 : VAt W0 w.heap.size r := by rw [<- hW0]; exact heap_alloc_at rfl
 have hB0 : Below w.heap.size w W0 := by rw [<- hW0]; exact (Below.refl _ _).alloc (Nat.le_refl _) _
 have HC : Hid (Calls Tryz.prog 15 #[r.val, .string nameN] W0 (GetRetB W0 B (t.get nameN))) := getB_any t r nameN W0 B (Nat.le_trans hBw hB0.size) (ht.under (hB0.mono hBw) (Nat.le_refl _)) ot
 have hw0 := hB0.size
 have HTR : Hid (∀ W, Below w.heap.size w W -> TreeOf W B t r) := fun W hW => ht.under (hW.mono hBw) (Nat.le_refl _)
 have HE : Hid (∀ W, Below w.heap.size w W -> Calls Tryz.prog 58 #[r.val, .string svAddrs] W (VlRet W B (eachJ t svAddrs))) := fun W hW => each_any t r svAddrs W B (Nat.le_trans hBw hW.size) (HTR.out W hW) ot
 have HEK := Lib.hid (eachJ_ok (name := svAddrs) ot)
 have hfc := flat_count wholeJ_len (eachJ t svAddrs)
 have hec := eachJ_count t svAddrs
 have hmc : ∀ x ∈ eachJ t svAddrs, countT x <= 100000 := fun x hx => by have := countL_mem hx; omega
 obtain ⟨es, hes⟩ : ∃ es, eachJ t svAddrs = es := ⟨_, rfl⟩
 rw [hes] at HE HEK hfc hec hmc
 rw [hes]
 have HNB : Hid ((es.flatMap wholeJ).length <= 100000) := by unfold Hid; omega
 have HMC : Hid (∀ (i : Nat) x, es[i]? = some x -> countT x <= 100000) := fun i x hx => hmc x (List.mem_of_getElem? hx)
 clear hes hfc hec hmc hct
 obtain ⟨k, n, s, pl, nl, cl, pm, nm, cm⟩ := r
 dsimp only [RV.val, RV.obj] at *
 have HW := Lib.hid hW0
 have HB0 := Lib.hid hB0
 unfold nameN at HC
 try unfold svAddr at *
 try unfold svAddrs at *
 clear hW0 hB0 ht
 go_enter Tryz.func26, Tryz.ntmps26
 go_upto_region 1 with fail
 rw [HW.out]
 clear HW
 obtain ⟨a0, a1, a2, a3, a4⟩ := hA0.cells5
 have hz0 := hA0.lt
 go_upto_region 3 with (go_at_call 15; refine HC.out.mono ?_; rintro e w1 ⟨rv, bb, rfl, hbb, ht1, hb1⟩; obtain ⟨rk, rn, rS, rpl, rnl, rcl, rpm, rnm, rcm⟩ := rv)
 have hz1 := hb1.size
 have hb2 : Below W0.heap.size W0 (w1.alloc (.cells #[.int .i64 rk, .int .i64 rn, .string rS, .slice rpl rnl rcl, .slice rpm rnm rcm] 25)) := hb1.alloc hz1 _
 have hv2 : VAt (w1.alloc (.cells #[.int .i64 rk, .int .i64 rn, .string rS, .slice rpl rnl rcl, .slice rpm rnm rcm] 25)) w1.heap.size ⟨rk, rn, rS, rpl, rnl, rcl, rpm, rnm, rcm⟩ := heap_alloc_at rfl
 have ht2 := ht1.under ((Below.refl B w1).alloc (Nat.le_trans (Nat.le_trans hBw hw0) hz1) (.cells #[.int .i64 rk, .int .i64 rn, .string rS, .slice rpl rnl rcl, .slice rpm rnm rcm] 25)) (Nat.le_refl _)
 obtain ⟨g, hg⟩ : ∃ g, w1.heap.size = g := ⟨_, rfl⟩
 obtain ⟨W2, hW2⟩ : ∃ W, w1.alloc (.cells #[.int .i64 rk, .int .i64 rn, .string rS, .slice rpl rnl rcl, .slice rpm rnm rcm] 25) = W := ⟨_, rfl⟩
 rw [hW2] at hb2 hv2 ht2
 rw [hg] at hv2
 try rw [hW2]
 try rw [hg]
 obtain ⟨v0, v1, v2, v3, v4⟩ := hv2.cells5
 dsimp only at v0 v1 v2 v3 v4
 have b0 := bcs hb2 hz0 a0
 have b1 := bcs hb2 hz0 a1
 have b2 := bcs hb2 hz0 a2
 have b3 := bcs hb2 hz0 a3
 have b4 := bcs hb2 hz0 a4
 have hbw := HB0.out.trans (hb2.mono hw0)
 have HX := Lib.hid hbw
 have hw2 := hbw.size
 have hBw2 : B <= W2.heap.size := Nat.le_trans hBw hw2
 have HT2 := Lib.hid ht2
 clear hW2 hg hb1 ht1 hb2 hv2 hz1 hbw ht2 a0 a1 a2 a3 a4 hbb
 have HEC := Lib.hid (HE.out _ HX.out)
 try dsimp only [RV.val] at HEC
 go_wp2_with (go_at_call 58; (with_reducible refine HEC.out.mono ?_); rintro e w1 ⟨v9, rs, rfl, ho, hlen, htl, hb1⟩; obtain ⟨p9, n9, c9, rfl⟩ : ∃ p n c, v9 = Value.slice p n c := by (obtain ⟨p, c, h, _, _⟩ := ho.len; exact ⟨p, _, c, h⟩))
 have hr : Rd w1 w1.heap.size encV 5 (.slice p9 n9 c9) rs := ho.rd codecV
 have hrl : rs.length = n9 := (rd_nlen hr).symm
 have HN : Hid (es.length = n9) := by unfold Hid; omega
 have hno : n9 <= 1466015503658 := by have := HEK.out.1; have := HN.out; omega
 have HTL := Lib.hid htl
 have HRD := Lib.hid hr
 have hbw1 := HX.out.trans (hb1.mono hw2)
 have HBW := Lib.hid hbw1
 have hw1 := hbw1.size
 have hBw1 : B <= w1.heap.size := Nat.le_trans hBw hw1
 clear hr htl hb1 hbw1 hlen ho b0 b1 b2 b3 b4 v0 v1 v2 v3 v4 HEC HE
 go_loopw [7, 85] (fun u i wr => ∃ j : Nat, j <= n9 /\ i = .int .i64 (j : Int) /\ Hid (Own wr w1.heap.size 9 encS 1 u ((es.take j).flatMap wholeJ) /\ Below w1.heap.size w1 wr)) (fun _ i _ => n9 - (intOf i).toNat)
 case atStart => exact ⟨0, by omega, rfl, by rw [List.take_zero]; exact Own.nil _ _ _, Below.refl _ _⟩
 case round =>
  obtain ⟨j, hj, rfl, hH⟩ := hrel
  have HO := Lib.hid hH.out.1
  have HBR := Lib.hid hH.out.2
  clear hH
  have hj0 : (0 : Int) <= (j : Int) := Int.natCast_nonneg _
  by_cases hlt : j < n9
  ·obtain ⟨y, hy⟩ : ∃ y, es[j]? = some y := ⟨_, List.getElem?_eq_getElem (by have := HN.out; omega)⟩
   obtain ⟨⟨xk, xn, xs, xpl, xnl, xcl, xpm, xnm, xcm⟩, hx⟩ : ∃ x, rs[j]? = some x := ⟨_, List.getElem?_eq_getElem (by omega)⟩
   have HYO := Lib.hid (HEK.out.2 j y hy)
   have HYC := Lib.hid (HMC.out j y hy)
   have HPS := Lib.hid (flat_succ (f := wholeJ) hy)
   have HPM := Lib.hid (flat_mid (f := wholeJ) hy)
   have HTA : Hid (∀ W, Below w1.heap.size w1 W -> TreeOf W B y ⟨xk, xn, xs, xpl, xnl, xcl, xpm, xnm, xcm⟩) := fun W hW => (HTL.out j y _ hy hx).under (hW.mono hBw1) (Nat.le_refl _)
   obtain ⟨L0, hL0⟩ : ∃ L, (es.take j).flatMap wholeJ = L := ⟨_, rfl⟩
   rw [hL0] at HO HPS HPM
   obtain ⟨bx, ox, rfl, hbx, hcx⟩ := rd_at' (HRD.out.below HBR.out HBR.out.size) hx
   have f0 := hcx 0 _ rfl
   have f1 := hcx 1 _ rfl
   have f2 := hcx 2 _ rfl
   have f3 := hcx 3 _ rfl
   have f4 := hcx 4 _ rfl
   rw [Nat.add_zero] at f0
   dsimp only at f0 f1 f2 f3 f4
   have hj1 : (j : Int) < (n9 : Int) := by omega
   have hbz := HBR.out.size
   clear hx hy hcx hL0
   go_upto_region 33 with fail
   have hB9 : Below w1.heap.size w1 (wr.alloc (.cells #[.int .i64 xk, .int .i64 xn, .string xs, .slice xpl xnl xcl, .slice xpm xnm xcm] 25)) := HBR.out.alloc hbz _
   have hO9 := HO.out.alloc (.cells #[.int .i64 xk, .int .i64 xn, .string xs, .slice xpl xnl xcl, .slice xpm xnm xcm] 25)
   have hV9 : VAt (wr.alloc (.cells #[.int .i64 xk, .int .i64 xn, .string xs, .slice xpl xnl xcl, .slice xpm xnm xcm] 25)) wr.heap.size ⟨xk, xn, xs, xpl, xnl, xcl, xpm, xnm, xcm⟩ := heap_alloc_at rfl
   have hN9 : u7.ownBlock ≠ some wr.heap.size := fun e => by have := (HO.out.lt _ e).2; omega
   obtain ⟨g9, hg9⟩ : ∃ g, wr.heap.size = g := ⟨_, rfl⟩
   obtain ⟨W9, hW9⟩ : ∃ W, wr.alloc (.cells #[.int .i64 xk, .int .i64 xn, .string xs, .slice xpl xnl xcl, .slice xpm xnm xcm] 25) = W := ⟨_, rfl⟩
   rw [hW9] at hB9 hO9 hV9
   rw [hg9] at hV9 hN9
   try rw [hW9]
   try rw [hg9]
   have HB9 := Lib.hid hB9
   have HO9 := Lib.hid hO9
   have HV9 := Lib.hid hV9
   have HN9 := Lib.hid hN9
   have hz9 := hB9.size
   have hgl9 := hV9.lt
   obtain ⟨e0, e1, e2, e3, e4⟩ := hV9.cells5
   dsimp only at e0 e1 e2 e3 e4
   clear hW9 hg9 hB9 hO9 hV9 hN9 f0 f1 f2 f3 f4 HO HBR
   have HWH := Lib.hid (whole_any y ⟨xk, xn, xs, xpl, xnl, xcl, xpm, xnm, xcm⟩ W9 B (Nat.le_trans hBw1 hz9) (HTA.out W9 HB9.out) HYO.out HYC.out)
   dsimp only [RV.val] at HWH
   obtain ⟨LF, hLF⟩ : ∃ L, wholeJ y = L := ⟨_, rfl⟩
   rw [hLF] at HWH HPS HPM
   have HLN : Hid (L0.length + LF.length <= maxLen /\ (L0.length + LF.length) * 16 <= 140737488355328) := by
    have h1 := HPM.out
    have h2 := HNB.out
    exact ⟨by unfold maxLen; omega, by omega⟩
   clear hLF
   go_wp2_with (first
    | (go_at_call 55; (with_reducible refine HWH.out.mono ?_); rintro e w2 ⟨u2, rfl, ho2, hb2⟩; (have ho3 := HO9.out.below hb2 (Nat.le_refl _)); (have hz2 : w1.heap.size <= w2.heap.size := Nat.le_trans hz9 hb2.size))
    | (at_builtin; refine wpList_append_rd slS codecS w2 rfl (.tmp 89) (.tmp 91) rfl (v := u7) rfl rfl ho3 (ho2.rd codecS) HLN.out.1 HLN.out.2 hz2 ?_; intro v8 w8 ho8 hg8 hat8)
    | fail)
   have HS8 : Hid (Own w8 w1.heap.size 9 encS 1 v8 ((es.take (j + 1)).flatMap wholeJ) /\ Below w1.heap.size w1 w8) := ⟨by rw [HPS.out]; exact ho8, Below.appended (HB9.out.trans (hb2.mono hz9)) hg8 ho3 hz2⟩
   clear ho8 hg8 hat8 ho2 ho3 hb2
   go_roundw
   case rel => exact ⟨j + 1, by omega, by go_num, HS8.out⟩
   case measure => simp [intOf]; omega
  ·obtain rfl : j = n9 := by omega
   have ho := HO.out
   have hta : es.take j = es := List.take_of_length_le (by have := HN.out; omega)
   rw [hta] at ho
   have HZ := Lib.hid (And.intro (ho.mono hw1) (HBW.out.trans (HBR.out.mono hw1)))
   clear ho hta
   go_wp2_with fail
   go_ret
   exact ⟨_, rfl, HZ.out.1, HZ.out.2⟩
theorem stx_org (t : JV) (r : RV) (w : World) (B : Nat) (hBw : B <= w.heap.size) (ht : TreeOf w B t r) (ot : t.Ok) (hct : countT t <= 100000) :
 Calls Tryz.prog 26 #[r.val, .string svOrg] w (OwnRet w 9 encS 1 ((eachJ t svOrgs).flatMap orgJ)) := by
 obtain ⟨W0, hW0⟩ : ∃ W0, w.alloc r.obj = W0 := ⟨_, rfl⟩
 have hA0 : VAt W0 w.heap.size r := by rw [<- hW0]; exact heap_alloc_at rfl
 have hB0 : Below w.heap.size w W0 := by rw [<- hW0]; exact (Below.refl _ _).alloc (Nat.le_refl _) _
 have HC : Hid (Calls Tryz.prog 15 #[r.val, .string nameN] W0 (GetRetB W0 B (t.get nameN))) := getB_any t r nameN W0 B (Nat.le_trans hBw hB0.size) (ht.under (hB0.mono hBw) (Nat.le_refl _)) ot
 have hw0 := hB0.size
 have HTR : Hid (∀ W, Below w.heap.size w W -> TreeOf W B t r) := fun W hW => ht.under (hW.mono hBw) (Nat.le_refl _)
 have HE : Hid (∀ W, Below w.heap.size w W -> Calls Tryz.prog 58 #[r.val, .string svOrgs] W (VlRet W B (eachJ t svOrgs))) := fun W hW => each_any t r svOrgs W B (Nat.le_trans hBw hW.size) (HTR.out W hW) ot
 have HEK := Lib.hid (eachJ_ok (name := svOrgs) ot)
 have hfc := flat_count orgJ_len (eachJ t svOrgs)
 have hec := eachJ_count t svOrgs
 have hmc : ∀ x ∈ eachJ t svOrgs, countT x <= 100000 := fun x hx => by have := countL_mem hx; omega
 obtain ⟨es, hes⟩ : ∃ es, eachJ t svOrgs = es := ⟨_, rfl⟩
 rw [hes] at HE HEK hfc hec hmc
 rw [hes]
 have HNB : Hid ((es.flatMap orgJ).length <= 100000) := by unfold Hid; omega
 have HMC : Hid (∀ (i : Nat) x, es[i]? = some x -> countT x <= 100000) := fun i x hx => hmc x (List.mem_of_getElem? hx)
 clear hes hfc hec hmc hct
 obtain ⟨k, n, s, pl, nl, cl, pm, nm, cm⟩ := r
 dsimp only [RV.val, RV.obj] at *
 have HW := Lib.hid hW0
 have HB0 := Lib.hid hB0
 unfold nameN at HC
 try unfold svOrg at *
 try unfold svOrgs at *
 clear hW0 hB0 ht
 go_enter Tryz.func26, Tryz.ntmps26
 go_upto_region 1 with fail
 rw [HW.out]
 clear HW
 obtain ⟨a0, a1, a2, a3, a4⟩ := hA0.cells5
 have hz0 := hA0.lt
 go_upto_region 3 with (go_at_call 15; refine HC.out.mono ?_; rintro e w1 ⟨rv, bb, rfl, hbb, ht1, hb1⟩; obtain ⟨rk, rn, rS, rpl, rnl, rcl, rpm, rnm, rcm⟩ := rv)
 have hz1 := hb1.size
 have hb2 : Below W0.heap.size W0 (w1.alloc (.cells #[.int .i64 rk, .int .i64 rn, .string rS, .slice rpl rnl rcl, .slice rpm rnm rcm] 25)) := hb1.alloc hz1 _
 have hv2 : VAt (w1.alloc (.cells #[.int .i64 rk, .int .i64 rn, .string rS, .slice rpl rnl rcl, .slice rpm rnm rcm] 25)) w1.heap.size ⟨rk, rn, rS, rpl, rnl, rcl, rpm, rnm, rcm⟩ := heap_alloc_at rfl
 have ht2 := ht1.under ((Below.refl B w1).alloc (Nat.le_trans (Nat.le_trans hBw hw0) hz1) (.cells #[.int .i64 rk, .int .i64 rn, .string rS, .slice rpl rnl rcl, .slice rpm rnm rcm] 25)) (Nat.le_refl _)
 obtain ⟨g, hg⟩ : ∃ g, w1.heap.size = g := ⟨_, rfl⟩
 obtain ⟨W2, hW2⟩ : ∃ W, w1.alloc (.cells #[.int .i64 rk, .int .i64 rn, .string rS, .slice rpl rnl rcl, .slice rpm rnm rcm] 25) = W := ⟨_, rfl⟩
 rw [hW2] at hb2 hv2 ht2
 rw [hg] at hv2
 try rw [hW2]
 try rw [hg]
 obtain ⟨v0, v1, v2, v3, v4⟩ := hv2.cells5
 dsimp only at v0 v1 v2 v3 v4
 have b0 := bcs hb2 hz0 a0
 have b1 := bcs hb2 hz0 a1
 have b2 := bcs hb2 hz0 a2
 have b3 := bcs hb2 hz0 a3
 have b4 := bcs hb2 hz0 a4
 have hbw := HB0.out.trans (hb2.mono hw0)
 have HX := Lib.hid hbw
 have hw2 := hbw.size
 have hBw2 : B <= W2.heap.size := Nat.le_trans hBw hw2
 have HT2 := Lib.hid ht2
 clear hW2 hg hb1 ht1 hb2 hv2 hz1 hbw ht2 a0 a1 a2 a3 a4 hbb
 have HEC := Lib.hid (HE.out _ HX.out)
 try dsimp only [RV.val] at HEC
 go_wp2_with (go_at_call 58; (with_reducible refine HEC.out.mono ?_); rintro e w1 ⟨v9, rs, rfl, ho, hlen, htl, hb1⟩; obtain ⟨p9, n9, c9, rfl⟩ : ∃ p n c, v9 = Value.slice p n c := by (obtain ⟨p, c, h, _, _⟩ := ho.len; exact ⟨p, _, c, h⟩))
 have hr : Rd w1 w1.heap.size encV 5 (.slice p9 n9 c9) rs := ho.rd codecV
 have hrl : rs.length = n9 := (rd_nlen hr).symm
 have HN : Hid (es.length = n9) := by unfold Hid; omega
 have hno : n9 <= 1466015503658 := by have := HEK.out.1; have := HN.out; omega
 have HTL := Lib.hid htl
 have HRD := Lib.hid hr
 have hbw1 := HX.out.trans (hb1.mono hw2)
 have HBW := Lib.hid hbw1
 have hw1 := hbw1.size
 have hBw1 : B <= w1.heap.size := Nat.le_trans hBw hw1
 clear hr htl hb1 hbw1 hlen ho b0 b1 b2 b3 b4 v0 v1 v2 v3 v4 HEC HE
 go_loopw [7, 44] (fun u i wr => ∃ j : Nat, j <= n9 /\ i = .int .i64 (j : Int) /\ Hid (Own wr w1.heap.size 9 encS 1 u ((es.take j).flatMap orgJ) /\ Below w1.heap.size w1 wr)) (fun _ i _ => n9 - (intOf i).toNat)
 case atStart => exact ⟨0, by omega, rfl, by rw [List.take_zero]; exact Own.nil _ _ _, Below.refl _ _⟩
 case round =>
  obtain ⟨j, hj, rfl, hH⟩ := hrel
  have HO := Lib.hid hH.out.1
  have HBR := Lib.hid hH.out.2
  clear hH
  have hj0 : (0 : Int) <= (j : Int) := Int.natCast_nonneg _
  by_cases hlt : j < n9
  ·obtain ⟨y, hy⟩ : ∃ y, es[j]? = some y := ⟨_, List.getElem?_eq_getElem (by have := HN.out; omega)⟩
   obtain ⟨⟨xk, xn, xs, xpl, xnl, xcl, xpm, xnm, xcm⟩, hx⟩ : ∃ x, rs[j]? = some x := ⟨_, List.getElem?_eq_getElem (by omega)⟩
   have HYO := Lib.hid (HEK.out.2 j y hy)
   have HYC := Lib.hid (HMC.out j y hy)
   have HPS := Lib.hid (flat_succ (f := orgJ) hy)
   have HPM := Lib.hid (flat_mid (f := orgJ) hy)
   have HTA : Hid (∀ W, Below w1.heap.size w1 W -> TreeOf W B y ⟨xk, xn, xs, xpl, xnl, xcl, xpm, xnm, xcm⟩) := fun W hW => (HTL.out j y _ hy hx).under (hW.mono hBw1) (Nat.le_refl _)
   obtain ⟨L0, hL0⟩ : ∃ L, (es.take j).flatMap orgJ = L := ⟨_, rfl⟩
   rw [hL0] at HO HPS HPM
   obtain ⟨bx, ox, rfl, hbx, hcx⟩ := rd_at' (HRD.out.below HBR.out HBR.out.size) hx
   have f0 := hcx 0 _ rfl
   have f1 := hcx 1 _ rfl
   have f2 := hcx 2 _ rfl
   have f3 := hcx 3 _ rfl
   have f4 := hcx 4 _ rfl
   rw [Nat.add_zero] at f0
   dsimp only at f0 f1 f2 f3 f4
   have hj1 : (j : Int) < (n9 : Int) := by omega
   have hbz := HBR.out.size
   clear hx hy hcx hL0
   go_upto_region 16 with fail
   have hB9 : Below w1.heap.size w1 (wr.alloc (.cells #[.int .i64 xk, .int .i64 xn, .string xs, .slice xpl xnl xcl, .slice xpm xnm xcm] 25)) := HBR.out.alloc hbz _
   have hO9 := HO.out.alloc (.cells #[.int .i64 xk, .int .i64 xn, .string xs, .slice xpl xnl xcl, .slice xpm xnm xcm] 25)
   have hV9 : VAt (wr.alloc (.cells #[.int .i64 xk, .int .i64 xn, .string xs, .slice xpl xnl xcl, .slice xpm xnm xcm] 25)) wr.heap.size ⟨xk, xn, xs, xpl, xnl, xcl, xpm, xnm, xcm⟩ := heap_alloc_at rfl
   have hN9 : u7.ownBlock ≠ some wr.heap.size := fun e => by have := (HO.out.lt _ e).2; omega
   obtain ⟨g9, hg9⟩ : ∃ g, wr.heap.size = g := ⟨_, rfl⟩
   obtain ⟨W9, hW9⟩ : ∃ W, wr.alloc (.cells #[.int .i64 xk, .int .i64 xn, .string xs, .slice xpl xnl xcl, .slice xpm xnm xcm] 25) = W := ⟨_, rfl⟩
   rw [hW9] at hB9 hO9 hV9
   rw [hg9] at hV9 hN9
   try rw [hW9]
   try rw [hg9]
   have HB9 := Lib.hid hB9
   have HO9 := Lib.hid hO9
   have HV9 := Lib.hid hV9
   have HN9 := Lib.hid hN9
   have hz9 := hB9.size
   have hgl9 := hV9.lt
   obtain ⟨e0, e1, e2, e3, e4⟩ := hV9.cells5
   dsimp only at e0 e1 e2 e3 e4
   clear hW9 hg9 hB9 hO9 hV9 hN9 f0 f1 f2 f3 f4 HO HBR
   have HTX := Lib.hid (text_any y ⟨xk, xn, xs, xpl, xnl, xcl, xpm, xnm, xcm⟩ nameN W9 B (Nat.le_trans hBw1 hz9) (HTA.out W9 HB9.out) HYO.out)
   have HIN : Hid (∀ W, Below w1.heap.size w1 W -> Calls Tryz.prog 60 #[RV.val ⟨xk, xn, xs, xpl, xnl, xcl, xpm, xnm, xcm⟩, .string svUnits] W fun e w' => ∃ v, e = .returned v /\ TlOf w' B v (inJ y svUnits) /\ Below W.heap.size W w') := fun W hW => in_any y _ svUnits W B (Nat.le_trans hBw1 hW.size) (HTA.out W hW) HYO.out
   have HIK := Lib.hid (inJ_ok (name := svUnits) HYO.out)
   dsimp only [RV.val] at HTX HIN
   have hoj : orgJ y = textM y nameN ++ (inJ y svUnits).flatMap (fun u => textM u nameN) := rfl
   obtain ⟨cs, hcs⟩ : ∃ cs, inJ y svUnits = cs := ⟨_, rfl⟩
   obtain ⟨LF, hLF⟩ : ∃ L, textM y nameN = L := ⟨_, rfl⟩
   rw [hcs] at HIN HIK hoj
   rw [hLF] at HTX hoj
   rw [hoj] at HPS HPM
   have HLM : Hid (L0.length + (LF ++ cs.flatMap (fun u => textM u nameN)).length <= 100000) := by
    have h1 := HPM.out
    have h2 := HNB.out
    unfold Hid
    omega
   have HLN : Hid (L0.length + LF.length <= maxLen /\ (L0.length + LF.length) * 16 <= 140737488355328) := by
    have h1 := HLM.out
    rw [List.length_append] at h1
    exact ⟨by unfold maxLen; omega, by omega⟩
   unfold nameN at HTX
   unfold svUnits at HIN
   clear hcs hLF hoj HPM
   go_upto_region 17 with (first
    | (go_at_call 59; (with_reducible refine HTX.out.mono ?_); rintro e w2 ⟨u2, rfl, ho2, hb2⟩; (have ho3 := HO9.out.below hb2 (Nat.le_refl _)); (have hz2 : w1.heap.size <= w2.heap.size := Nat.le_trans hz9 hb2.size))
    | (at_builtin; refine wpList_append_rd slS codecS w2 rfl (.tmp 48) (.tmp 50) rfl (v := u7) rfl rfl ho3 (ho2.rd codecS) HLN.out.1 HLN.out.2 hz2 ?_; intro v8 w8 ho8 hg8 hat8)
    | fail)
   have hv2 : VAt w2 g9 ⟨xk, xn, xs, xpl, xnl, xcl, xpm, xnm, xcm⟩ := HV9.out.under hb2 hgl9
   have hv8 : VAt w8 g9 ⟨xk, xn, xs, xpl, xnl, xcl, xpm, xnm, xcm⟩ := (hg8.block g9 hv2.lt (fun e => HN9.out e.symm)).trans hv2
   have hb8 : Below w1.heap.size w1 w8 := Below.appended (HB9.out.trans (hb2.mono hz9)) hg8 ho3 hz2
   have HINC := Lib.hid (HIN.out w8 hb8)
   have HO8 := Lib.hid ho8
   have HB8 := Lib.hid hb8
   have hz8 := hb8.size
   obtain ⟨d0, d1, d2, d3, d4⟩ := hv8.cells5
   dsimp only at d0 d1 d2 d3 d4
   clear e0 e1 e2 e3 e4 hv2 hv8 hb8 ho8 hg8 hat8 ho2 ho3 hb2 HIN HTX HO9 HB9 HV9 HN9
   go_wp2_with (go_at_call 60; (with_reducible refine HINC.out.mono ?_); rintro e w9 ⟨va, rfl, hta, hb9⟩; obtain ⟨ra, hra, hal, hat⟩ := hta; obtain ⟨pa, na, ca, rfl⟩ : ∃ p n c, va = Value.slice p n c := by (obtain ⟨p, c, h, _⟩ := hra; exact ⟨p, _, c, h⟩))
   have hral : ra.length = na := (rd_nlen hra).symm
   have HAN : Hid (cs.length = na) := by unfold Hid; omega
   have hna : na <= 1759218604390 := by have := HIK.out.1; have := HAN.out; omega
   have HRA := Lib.hid hra
   have HAT := Lib.hid hat
   have hz9w : w1.heap.size <= w9.heap.size := Nat.le_trans hz8 hb9.size
   have HO9 : Hid (Own w9 w1.heap.size 9 encS 1 v8 (L0 ++ LF)) := HO8.out.below hb9 (Nat.le_refl _)
   have HB9 : Hid (Below w1.heap.size w1 w9) := HB8.out.trans (hb9.mono hz8)
   have hBz9 : B <= w1.heap.size := hBw1
   clear hra hat hal hb9 d0 d1 d2 d3 d4 HINC HO8 HB8
   go_loopw [7, 55] (fun u i wr => ∃ q : Nat, q <= na /\ i = .int .i64 (q : Int) /\ Hid (Own wr w1.heap.size 9 encS 1 u ((L0 ++ LF) ++ (cs.take q).flatMap (fun u => textM u nameN)) /\ Below w1.heap.size w9 wr)) (fun _ i _ => na - (intOf i).toNat)
   case atStart => exact ⟨0, by omega, rfl, by rw [List.take_zero, List.flatMap_nil, List.append_nil]; exact HO9.out, Below.refl _ _⟩
   case round =>
    obtain ⟨q, hq, rfl, hI⟩ := hrel
    have hq0 : (0 : Int) <= (q : Int) := Int.natCast_nonneg _
    have HOI := Lib.hid hI.out.1
    have HBI := Lib.hid hI.out.2
    clear hI
    by_cases hlq : q < na
    ·obtain ⟨c, hc⟩ : ∃ c, cs[q]? = some c := ⟨_, List.getElem?_eq_getElem (by have := HAN.out; omega)⟩
     obtain ⟨⟨yk, yn, ys, ypl, ynl, ycl, ypm, ynm, ycm⟩, hy⟩ : ∃ x, ra[q]? = some x := ⟨_, List.getElem?_eq_getElem (by omega)⟩
     have hbi : Below B w9 wr := HBI.out.mono hBw1
     obtain ⟨by', oy, rfl, hby, hcy⟩ := rd_at' (HRA.out.below hbi (Nat.le_refl _)) hy
     have f0 := hcy 0 _ rfl
     have f1 := hcy 1 _ rfl
     have f2 := hcy 2 _ rfl
     have f3 := hcy 3 _ rfl
     have f4 := hcy 4 _ rfl
     rw [Nat.add_zero] at f0
     dsimp only at f0 f1 f2 f3 f4
     have hq1 : (q : Int) < (na : Int) := by omega
     have HQS := Lib.hid (flat_succ (f := fun u => textM u nameN) hc)
     have hqm := flat_mid (f := fun u => textM u nameN) hc
     try dsimp only at HQS hqm
     obtain ⟨L1, hL1⟩ : ∃ L, (cs.take q).flatMap (fun u => textM u nameN) = L := ⟨_, rfl⟩
     rw [hL1] at HOI HQS hqm
     have hzi : w1.heap.size <= wr.heap.size := Nat.le_trans hz9w HBI.out.size
     have hba : Below w1.heap.size w9 (wr.alloc (.cells #[.int .i64 yk, .int .i64 yn, .string ys, .slice ypl ynl ycl, .slice ypm ynm ycm] 25)) := HBI.out.alloc hzi _
     have HBA := Lib.hid hba
     have HTC := Lib.hid (text_any c ⟨yk, yn, ys, ypl, ynl, ycl, ypm, ynm, ycm⟩ nameN (wr.alloc (.cells #[.int .i64 yk, .int .i64 yn, .string ys, .slice ypl ynl ycl, .slice ypm ynm ycm] 25)) B (by simp; omega) ((HAT.out q c _ hc hy).under (hba.mono hBw1) (Nat.le_refl _)) (HIK.out.2 q c hc))
     dsimp only [RV.val] at HTC
     have HOA := Lib.hid (HOI.out.alloc (.cells #[.int .i64 yk, .int .i64 yn, .string ys, .slice ypl ynl ycl, .slice ypm ynm ycm] 25))
     obtain ⟨LC, hLC⟩ : ∃ L, textM c nameN = L := ⟨_, rfl⟩
     rw [hLC] at HTC HQS hqm
     have HLC : Hid (((L0 ++ LF) ++ L1).length + LC.length <= maxLen /\ (((L0 ++ LF) ++ L1).length + LC.length) * 16 <= 140737488355328) := by
      have h1 := HLM.out
      rw [List.length_append] at h1
      rw [List.length_append, List.length_append]
      exact ⟨by unfold maxLen; omega, by omega⟩
     have hV3 : VAt (wr.alloc (.cells #[.int .i64 yk, .int .i64 yn, .string ys, .slice ypl ynl ycl, .slice ypm ynm ycm] 25)) wr.heap.size ⟨yk, yn, ys, ypl, ynl, ycl, ypm, ynm, ycm⟩ := heap_alloc_at rfl
     unfold nameN at HTC
     clear hc hy hcy hL1 hLC hqm hbi hba
     go_upto_region 20 with fail
     obtain ⟨g3, hg3⟩ : ∃ g, wr.heap.size = g := ⟨_, rfl⟩
     obtain ⟨W3, hW3⟩ : ∃ W, wr.alloc (.cells #[.int .i64 yk, .int .i64 yn, .string ys, .slice ypl ynl ycl, .slice ypm ynm ycm] 25) = W := ⟨_, rfl⟩
     rw [hW3] at HBA HTC HOA hV3
     rw [hg3] at hV3
     try rw [hW3]
     try rw [hg3]
     have hz3 : w1.heap.size <= W3.heap.size := Nat.le_trans hz9w HBA.out.size
     obtain ⟨e0, e1, e2, e3, e4⟩ := hV3.cells5
     dsimp only at e0 e1 e2 e3 e4
     clear hW3 hg3 f0 f1 f2 f3 f4 hV3 HOI HBI
     go_wp2_with (first
      | (go_at_call 59; (with_reducible refine HTC.out.mono ?_); rintro e w4 ⟨u4, rfl, ho4, hb4⟩; (have ho5 := HOA.out.below hb4 (Nat.le_refl _)); (have hz4 : w1.heap.size <= w4.heap.size := Nat.le_trans hz3 hb4.size))
      | (at_builtin; refine wpList_append_rd slS codecS w4 rfl (.tmp 59) (.tmp 61) rfl (v := u7) rfl rfl ho5 (ho4.rd codecS) HLC.out.1 HLC.out.2 hz4 ?_; intro v6 w6 ho6 hg6 hat6)
      | fail)
     have HS6 : Hid (Own w6 w1.heap.size 9 encS 1 v6 ((L0 ++ LF) ++ (cs.take (q + 1)).flatMap (fun u => textM u nameN)) /\ Below w1.heap.size w9 w6) := ⟨by rw [HQS.out, <- List.append_assoc]; exact ho6, Below.appended (HBA.out.trans (hb4.mono hz3)) hg6 ho5 hz4⟩
     clear ho6 hg6 hat6 ho4 ho5 hb4
     go_roundw
     case rel => exact ⟨q + 1, by omega, by go_num, HS6.out⟩
     case measure => simp [intOf]; omega
    ·obtain rfl : q = na := by omega
     have ho := HOI.out
     rw [List.take_of_length_le (by have := HAN.out; omega)] at ho
     have HSX : Hid (Own wr w1.heap.size 9 encS 1 u7 ((es.take (j + 1)).flatMap orgJ) /\ Below w1.heap.size w1 wr) := ⟨by rw [HPS.out, <- List.append_assoc]; exact ho, HB9.out.trans HBI.out⟩
     clear ho HOI HBI
     go_wp2_with fail
     go_roundw
     case rel => exact ⟨j + 1, by omega, by go_num, HSX.out⟩
     case measure => simp [intOf]; omega
  ·obtain rfl : j = n9 := by omega
   have ho := HO.out
   have hta : es.take j = es := List.take_of_length_le (by have := HN.out; omega)
   rw [hta] at ho
   have HZ := Lib.hid (And.intro (ho.mono hw1) (HBW.out.trans (HBR.out.mono hw1)))
   clear ho hta
   go_wp2_with fail
   go_ret
   exact ⟨_, rfl, HZ.out.1, HZ.out.2⟩
def AllAt (w : World) : Prop := ∀ (i : Nat) x, allF[i]? = some x -> w.cell? ⟨0, i, none⟩ = some (.string x)
theorem AllAt.below {w w' : World} (h : AllAt w) (hb : Below w.heap.size w w') : AllAt w' := fun i x hx => bcs hb (cell_some (h i x hx)).2 (h i x hx)
theorem fieldJ_name (t : JV) : fieldJ t nameN = wholeJ (nameV t) := if_pos rfl
theorem fieldJ_part (t : JV) (f : ByteArray) (h : f = givenN \/ f = surN \/ f = sur2N) : fieldJ t f = partsJ (nameV t) (f.extract 5 f.size) := by
 unfold fieldJ
 rw [if_neg (by rcases h with rfl | rfl | rfl <;> decide), if_pos h]
theorem fieldJ_svNick (t : JV) : fieldJ t svNick = namedJ t svNicks [nameN] := by
 unfold fieldJ
 rw [if_neg (by decide), if_neg (by decide), if_pos rfl]
theorem fieldJ_svOrg (t : JV) : fieldJ t svOrg = (eachJ t svOrgs).flatMap orgJ := by
 unfold fieldJ
 rw [if_neg (by decide), if_neg (by decide), if_neg (by decide), if_pos rfl]
theorem fieldJ_svEmail (t : JV) : fieldJ t svEmail = namedJ t svEmails [svAddr] := by
 unfold fieldJ
 rw [if_neg (by decide), if_neg (by decide), if_neg (by decide), if_neg (by decide), if_pos rfl]
theorem fieldJ_svPhone (t : JV) : fieldJ t svPhone = namedJ t svPhones [svNumber] := by
 unfold fieldJ
 rw [if_neg (by decide), if_neg (by decide), if_neg (by decide), if_neg (by decide), if_neg (by decide), if_pos rfl]
theorem fieldJ_svOnline (t : JV) : fieldJ t svOnline = namedJ t svOnlines [svService, svUri, svUser] := by
 unfold fieldJ
 rw [if_neg (by decide), if_neg (by decide), if_neg (by decide), if_neg (by decide), if_neg (by decide), if_neg (by decide), if_pos rfl]
theorem fieldJ_svAddr (t : JV) : fieldJ t svAddr = (eachJ t svAddrs).flatMap wholeJ := by
 unfold fieldJ
 rw [if_neg (by decide), if_neg (by decide), if_neg (by decide), if_neg (by decide), if_neg (by decide), if_neg (by decide), if_neg (by decide), if_pos rfl]
theorem fieldJ_svNote (t : JV) : fieldJ t svNote = namedJ t svNotes [svNote] := by
 unfold fieldJ
 rw [if_neg (by decide), if_neg (by decide), if_neg (by decide), if_neg (by decide), if_neg (by decide), if_neg (by decide), if_neg (by decide), if_neg (by decide), if_pos rfl]
theorem ix_0 (w : World) : (Instr.index 78 (.agg #[.string ⟨#[110, 97, 109, 101]⟩, .string ⟨#[110, 105, 99, 107, 110, 97, 109, 101]⟩, .string ⟨#[111, 114, 103, 97, 110, 105, 122, 97, 116, 105, 111, 110]⟩, .string ⟨#[101, 109, 97, 105, 108]⟩, .string ⟨#[112, 104, 111, 110, 101]⟩, .string ⟨#[111, 110, 108, 105, 110, 101, 83, 101, 114, 118, 105, 99, 101]⟩, .string ⟨#[97, 100, 100, 114, 101, 115, 115]⟩, .string ⟨#[110, 111, 116, 101]⟩]) (.int .i64 0)).run Tryz.prog w = .ok (.string ⟨#[110, 97, 109, 101]⟩) w := by kernel_rfl
theorem ix_1 (w : World) : (Instr.index 78 (.agg #[.string ⟨#[110, 97, 109, 101]⟩, .string ⟨#[110, 105, 99, 107, 110, 97, 109, 101]⟩, .string ⟨#[111, 114, 103, 97, 110, 105, 122, 97, 116, 105, 111, 110]⟩, .string ⟨#[101, 109, 97, 105, 108]⟩, .string ⟨#[112, 104, 111, 110, 101]⟩, .string ⟨#[111, 110, 108, 105, 110, 101, 83, 101, 114, 118, 105, 99, 101]⟩, .string ⟨#[97, 100, 100, 114, 101, 115, 115]⟩, .string ⟨#[110, 111, 116, 101]⟩]) (.int .i64 1)).run Tryz.prog w = .ok (.string ⟨#[110, 105, 99, 107, 110, 97, 109, 101]⟩) w := by kernel_rfl
theorem ix_2 (w : World) : (Instr.index 78 (.agg #[.string ⟨#[110, 97, 109, 101]⟩, .string ⟨#[110, 105, 99, 107, 110, 97, 109, 101]⟩, .string ⟨#[111, 114, 103, 97, 110, 105, 122, 97, 116, 105, 111, 110]⟩, .string ⟨#[101, 109, 97, 105, 108]⟩, .string ⟨#[112, 104, 111, 110, 101]⟩, .string ⟨#[111, 110, 108, 105, 110, 101, 83, 101, 114, 118, 105, 99, 101]⟩, .string ⟨#[97, 100, 100, 114, 101, 115, 115]⟩, .string ⟨#[110, 111, 116, 101]⟩]) (.int .i64 2)).run Tryz.prog w = .ok (.string ⟨#[111, 114, 103, 97, 110, 105, 122, 97, 116, 105, 111, 110]⟩) w := by kernel_rfl
theorem ix_3 (w : World) : (Instr.index 78 (.agg #[.string ⟨#[110, 97, 109, 101]⟩, .string ⟨#[110, 105, 99, 107, 110, 97, 109, 101]⟩, .string ⟨#[111, 114, 103, 97, 110, 105, 122, 97, 116, 105, 111, 110]⟩, .string ⟨#[101, 109, 97, 105, 108]⟩, .string ⟨#[112, 104, 111, 110, 101]⟩, .string ⟨#[111, 110, 108, 105, 110, 101, 83, 101, 114, 118, 105, 99, 101]⟩, .string ⟨#[97, 100, 100, 114, 101, 115, 115]⟩, .string ⟨#[110, 111, 116, 101]⟩]) (.int .i64 3)).run Tryz.prog w = .ok (.string ⟨#[101, 109, 97, 105, 108]⟩) w := by kernel_rfl
theorem ix_4 (w : World) : (Instr.index 78 (.agg #[.string ⟨#[110, 97, 109, 101]⟩, .string ⟨#[110, 105, 99, 107, 110, 97, 109, 101]⟩, .string ⟨#[111, 114, 103, 97, 110, 105, 122, 97, 116, 105, 111, 110]⟩, .string ⟨#[101, 109, 97, 105, 108]⟩, .string ⟨#[112, 104, 111, 110, 101]⟩, .string ⟨#[111, 110, 108, 105, 110, 101, 83, 101, 114, 118, 105, 99, 101]⟩, .string ⟨#[97, 100, 100, 114, 101, 115, 115]⟩, .string ⟨#[110, 111, 116, 101]⟩]) (.int .i64 4)).run Tryz.prog w = .ok (.string ⟨#[112, 104, 111, 110, 101]⟩) w := by kernel_rfl
theorem ix_5 (w : World) : (Instr.index 78 (.agg #[.string ⟨#[110, 97, 109, 101]⟩, .string ⟨#[110, 105, 99, 107, 110, 97, 109, 101]⟩, .string ⟨#[111, 114, 103, 97, 110, 105, 122, 97, 116, 105, 111, 110]⟩, .string ⟨#[101, 109, 97, 105, 108]⟩, .string ⟨#[112, 104, 111, 110, 101]⟩, .string ⟨#[111, 110, 108, 105, 110, 101, 83, 101, 114, 118, 105, 99, 101]⟩, .string ⟨#[97, 100, 100, 114, 101, 115, 115]⟩, .string ⟨#[110, 111, 116, 101]⟩]) (.int .i64 5)).run Tryz.prog w = .ok (.string ⟨#[111, 110, 108, 105, 110, 101, 83, 101, 114, 118, 105, 99, 101]⟩) w := by kernel_rfl
theorem ix_6 (w : World) : (Instr.index 78 (.agg #[.string ⟨#[110, 97, 109, 101]⟩, .string ⟨#[110, 105, 99, 107, 110, 97, 109, 101]⟩, .string ⟨#[111, 114, 103, 97, 110, 105, 122, 97, 116, 105, 111, 110]⟩, .string ⟨#[101, 109, 97, 105, 108]⟩, .string ⟨#[112, 104, 111, 110, 101]⟩, .string ⟨#[111, 110, 108, 105, 110, 101, 83, 101, 114, 118, 105, 99, 101]⟩, .string ⟨#[97, 100, 100, 114, 101, 115, 115]⟩, .string ⟨#[110, 111, 116, 101]⟩]) (.int .i64 6)).run Tryz.prog w = .ok (.string ⟨#[97, 100, 100, 114, 101, 115, 115]⟩) w := by kernel_rfl
theorem ix_7 (w : World) : (Instr.index 78 (.agg #[.string ⟨#[110, 97, 109, 101]⟩, .string ⟨#[110, 105, 99, 107, 110, 97, 109, 101]⟩, .string ⟨#[111, 114, 103, 97, 110, 105, 122, 97, 116, 105, 111, 110]⟩, .string ⟨#[101, 109, 97, 105, 108]⟩, .string ⟨#[112, 104, 111, 110, 101]⟩, .string ⟨#[111, 110, 108, 105, 110, 101, 83, 101, 114, 118, 105, 99, 101]⟩, .string ⟨#[97, 100, 100, 114, 101, 115, 115]⟩, .string ⟨#[110, 111, 116, 101]⟩]) (.int .i64 7)).run Tryz.prog w = .ok (.string ⟨#[110, 111, 116, 101]⟩) w := by kernel_rfl
theorem field_any (t : JV) (r : RV) (f : ByteArray) (hf : f ≠ svText) (w : World) (B : Nat) (hBw : B <= w.heap.size) (ht : TreeOf w B t r) (ot : t.Ok) (hct : countT t <= 100000) :
 Calls Tryz.prog 26 #[r.val, .string f] w (OwnRet w 9 encS 1 (fieldJ t f)) := by
 by_cases h0 : f = nameN
 ·subst h0
  rw [fieldJ_name]
  exact stx_name t r w B hBw ht ot hct
 by_cases h1 : f = givenN \/ f = surN \/ f = sur2N
 ·rw [fieldJ_part t f h1]
  exact ntexts_any t r f h1 w B hBw ht ot
 by_cases h2 : f = svNick
 ·subst h2
  rw [fieldJ_svNick]
  exact stx_nick t r w B hBw ht ot hct
 by_cases h3 : f = svOrg
 ·subst h3
  rw [fieldJ_svOrg]
  exact stx_org t r w B hBw ht ot hct
 by_cases h4 : f = svEmail
 ·subst h4
  rw [fieldJ_svEmail]
  exact stx_email t r w B hBw ht ot hct
 by_cases h5 : f = svPhone
 ·subst h5
  rw [fieldJ_svPhone]
  exact stx_phone t r w B hBw ht ot hct
 by_cases h6 : f = svOnline
 ·subst h6
  rw [fieldJ_svOnline]
  exact stx_online t r w B hBw ht ot hct
 by_cases h7 : f = svAddr
 ·subst h7
  rw [fieldJ_svAddr]
  exact stx_addr t r w B hBw ht ot hct
 by_cases h8 : f = svNote
 ·subst h8
  rw [fieldJ_svNote]
  exact stx_note t r w B hBw ht ot hct
 have e : fieldJ t f = [] := by
  unfold fieldJ
  rw [if_neg h0, if_neg h1, if_neg h2, if_neg h3, if_neg h4, if_neg h5, if_neg h6, if_neg h7, if_neg h8]
 rw [e]
 exact stx_none t r f w B hBw ht ot hct h0 (fun e => h1 (.inl e)) (fun e => h1 (.inr (.inl e))) (fun e => h1 (.inr (.inr e))) h2 h3 h4 h5 h6 h7 h8 hf
theorem stx_text (t : JV) (r : RV) (w : World) (B : Nat) (hBw : B <= w.heap.size) (ht : TreeOf w B t r) (ot : t.Ok) (hct : countT t <= 100000) (hall : AllAt w) :
 Calls Tryz.prog 26 #[r.val, .string svText] w (OwnRet w 9 encS 1 (allF.flatMap (fieldJ t))) := by
 obtain ⟨W0, hW0⟩ : ∃ W0, w.alloc r.obj = W0 := ⟨_, rfl⟩
 have hA0 : VAt W0 w.heap.size r := by rw [<- hW0]; exact heap_alloc_at rfl
 have hB0 : Below w.heap.size w W0 := by rw [<- hW0]; exact (Below.refl _ _).alloc (Nat.le_refl _) _
 have HC : Hid (Calls Tryz.prog 15 #[r.val, .string nameN] W0 (GetRetB W0 B (t.get nameN))) := getB_any t r nameN W0 B (Nat.le_trans hBw hB0.size) (ht.under (hB0.mono hBw) (Nat.le_refl _)) ot
 have hw0 := hB0.size
 have HTR : Hid (∀ W, Below w.heap.size w W -> TreeOf W B t r) := fun W hW => ht.under (hW.mono hBw) (Nat.le_refl _)
 have HF : Hid (∀ f, f ≠ svText -> ∀ W, Below w.heap.size w W -> Calls Tryz.prog 26 #[r.val, .string f] W (OwnRet W 9 encS 1 (fieldJ t f))) := fun f hf W hW => field_any t r f hf W B (Nat.le_trans hBw hW.size) (HTR.out W hW) ot hct
 have HLL : Hid ((allF.flatMap (fieldJ t)).length <= 24 * 100000) := by
  have h := textsJ_len t svText
  unfold textsJ at h
  rw [if_pos rfl] at h
  unfold Hid
  omega
 have HAL := Lib.hid hall
 have HF0 : Hid (∀ W, Below w.heap.size w W -> Calls Tryz.prog 26 #[r.val, .string ⟨#[110, 97, 109, 101]⟩] W (OwnRet W 9 encS 1 (fieldJ t nameN))) := fun W hW => HF.out nameN (by decide) W hW
 have HF1 : Hid (∀ W, Below w.heap.size w W -> Calls Tryz.prog 26 #[r.val, .string ⟨#[110, 105, 99, 107, 110, 97, 109, 101]⟩] W (OwnRet W 9 encS 1 (fieldJ t svNick))) := fun W hW => HF.out svNick (by decide) W hW
 have HF2 : Hid (∀ W, Below w.heap.size w W -> Calls Tryz.prog 26 #[r.val, .string ⟨#[111, 114, 103, 97, 110, 105, 122, 97, 116, 105, 111, 110]⟩] W (OwnRet W 9 encS 1 (fieldJ t svOrg))) := fun W hW => HF.out svOrg (by decide) W hW
 have HF3 : Hid (∀ W, Below w.heap.size w W -> Calls Tryz.prog 26 #[r.val, .string ⟨#[101, 109, 97, 105, 108]⟩] W (OwnRet W 9 encS 1 (fieldJ t svEmail))) := fun W hW => HF.out svEmail (by decide) W hW
 have HF4 : Hid (∀ W, Below w.heap.size w W -> Calls Tryz.prog 26 #[r.val, .string ⟨#[112, 104, 111, 110, 101]⟩] W (OwnRet W 9 encS 1 (fieldJ t svPhone))) := fun W hW => HF.out svPhone (by decide) W hW
 have HF5 : Hid (∀ W, Below w.heap.size w W -> Calls Tryz.prog 26 #[r.val, .string ⟨#[111, 110, 108, 105, 110, 101, 83, 101, 114, 118, 105, 99, 101]⟩] W (OwnRet W 9 encS 1 (fieldJ t svOnline))) := fun W hW => HF.out svOnline (by decide) W hW
 have HF6 : Hid (∀ W, Below w.heap.size w W -> Calls Tryz.prog 26 #[r.val, .string ⟨#[97, 100, 100, 114, 101, 115, 115]⟩] W (OwnRet W 9 encS 1 (fieldJ t svAddr))) := fun W hW => HF.out svAddr (by decide) W hW
 have HF7 : Hid (∀ W, Below w.heap.size w W -> Calls Tryz.prog 26 #[r.val, .string ⟨#[110, 111, 116, 101]⟩] W (OwnRet W 9 encS 1 (fieldJ t svNote))) := fun W hW => HF.out svNote (by decide) W hW
 clear HF hall
 obtain ⟨k, n, s, pl, nl, cl, pm, nm, cm⟩ := r
 dsimp only [RV.val, RV.obj] at *
 have HW := Lib.hid hW0
 have HB0 := Lib.hid hB0
 unfold nameN at HC
 try unfold svText at *
 clear hW0 hB0 ht
 go_enter Tryz.func26, Tryz.ntmps26
 go_upto_region 1 with fail
 rw [HW.out]
 clear HW
 obtain ⟨a0, a1, a2, a3, a4⟩ := hA0.cells5
 have hz0 := hA0.lt
 go_upto_region 3 with (go_at_call 15; refine HC.out.mono ?_; rintro e w1 ⟨rv, bb, rfl, hbb, ht1, hb1⟩; obtain ⟨rk, rn, rS, rpl, rnl, rcl, rpm, rnm, rcm⟩ := rv)
 have hz1 := hb1.size
 have hb2 : Below W0.heap.size W0 (w1.alloc (.cells #[.int .i64 rk, .int .i64 rn, .string rS, .slice rpl rnl rcl, .slice rpm rnm rcm] 25)) := hb1.alloc hz1 _
 have hv2 : VAt (w1.alloc (.cells #[.int .i64 rk, .int .i64 rn, .string rS, .slice rpl rnl rcl, .slice rpm rnm rcm] 25)) w1.heap.size ⟨rk, rn, rS, rpl, rnl, rcl, rpm, rnm, rcm⟩ := heap_alloc_at rfl
 have ht2 := ht1.under ((Below.refl B w1).alloc (Nat.le_trans (Nat.le_trans hBw hw0) hz1) (.cells #[.int .i64 rk, .int .i64 rn, .string rS, .slice rpl rnl rcl, .slice rpm rnm rcm] 25)) (Nat.le_refl _)
 obtain ⟨g, hg⟩ : ∃ g, w1.heap.size = g := ⟨_, rfl⟩
 obtain ⟨W2, hW2⟩ : ∃ W, w1.alloc (.cells #[.int .i64 rk, .int .i64 rn, .string rS, .slice rpl rnl rcl, .slice rpm rnm rcm] 25) = W := ⟨_, rfl⟩
 rw [hW2] at hb2 hv2 ht2
 rw [hg] at hv2
 try rw [hW2]
 try rw [hg]
 obtain ⟨v0, v1, v2, v3, v4⟩ := hv2.cells5
 dsimp only at v0 v1 v2 v3 v4
 have b0 := bcs hb2 hz0 a0
 have b1 := bcs hb2 hz0 a1
 have b2 := bcs hb2 hz0 a2
 have b3 := bcs hb2 hz0 a3
 have b4 := bcs hb2 hz0 a4
 have hbw := HB0.out.trans (hb2.mono hw0)
 have HX := Lib.hid hbw
 have hw2 := hbw.size
 have hBw2 : B <= W2.heap.size := Nat.le_trans hBw hw2
 have HT2 := Lib.hid ht2
 clear hW2 hg hb1 ht1 hb2 hv2 hz1 hbw ht2 a0 a1 a2 a3 a4 hbb
 have hag := (HAL.out.below HX.out)
 have g0 : W2.cell? ⟨0, 0, none⟩ = some (.string ⟨#[110, 97, 109, 101]⟩) := hag 0 _ rfl
 have g1 : W2.cell? ⟨0, 1, none⟩ = some (.string ⟨#[110, 105, 99, 107, 110, 97, 109, 101]⟩) := hag 1 _ rfl
 have g2 : W2.cell? ⟨0, 2, none⟩ = some (.string ⟨#[111, 114, 103, 97, 110, 105, 122, 97, 116, 105, 111, 110]⟩) := hag 2 _ rfl
 have g3 : W2.cell? ⟨0, 3, none⟩ = some (.string ⟨#[101, 109, 97, 105, 108]⟩) := hag 3 _ rfl
 have g4 : W2.cell? ⟨0, 4, none⟩ = some (.string ⟨#[112, 104, 111, 110, 101]⟩) := hag 4 _ rfl
 have g5 : W2.cell? ⟨0, 5, none⟩ = some (.string ⟨#[111, 110, 108, 105, 110, 101, 83, 101, 114, 118, 105, 99, 101]⟩) := hag 5 _ rfl
 have g6 : W2.cell? ⟨0, 6, none⟩ = some (.string ⟨#[97, 100, 100, 114, 101, 115, 115]⟩) := hag 6 _ rfl
 have g7 : W2.cell? ⟨0, 7, none⟩ = some (.string ⟨#[110, 111, 116, 101]⟩) := hag 7 _ rfl
 clear hag v0 v1 v2 v3 v4
 have hgx : w.heap.size < W2.heap.size := (cell_some b0).2
 have HB0 : Hid (W2.cell? ⟨w.heap.size, 0, none⟩ = some (.int .i64 k) /\ W2.cell? ⟨w.heap.size, 1, none⟩ = some (.int .i64 n) /\ W2.cell? ⟨w.heap.size, 2, none⟩ = some (.string s) /\ W2.cell? ⟨w.heap.size, 3, none⟩ = some (.slice pl nl cl) /\ W2.cell? ⟨w.heap.size, 4, none⟩ = some (.slice pm nm cm)) := ⟨b0, b1, b2, b3, b4⟩
 go_wp2_with fail
 clear b0 b1 b2 b3 b4 g0 g1 g2 g3 g4 g5 g6 g7
 go_loopw [7, 102] (fun u i wr => ∃ j : Nat, j <= 8 /\ i = .int .i64 (j : Int) /\ Hid (Own wr W2.heap.size 9 encS 1 u ((allF.take j).flatMap (fieldJ t)) /\ Below W2.heap.size W2 wr)) (fun _ i _ => 8 - (intOf i).toNat)
 case atStart => exact ⟨0, by omega, rfl, Own.nil _ _ _, Below.refl _ _⟩
 case round =>
  obtain ⟨j, hj, rfl, hH⟩ := hrel
  have HO := Lib.hid hH.out.1
  have HBR := Lib.hid hH.out.2
  have hbz := HBR.out.size
  have HBW : Hid (Below w.heap.size w wr) := HX.out.trans (HBR.out.mono hw2)
  have c0 := bcs HBR.out hgx HB0.out.1
  have c1 := bcs HBR.out hgx HB0.out.2.1
  have c2 := bcs HBR.out hgx HB0.out.2.2.1
  have c3 := bcs HBR.out hgx HB0.out.2.2.2.1
  have c4 := bcs HBR.out hgx HB0.out.2.2.2.2
  clear hH
  by_cases hlt : j < 8
  ·have hjj : j = 0 \/ j = 1 \/ j = 2 \/ j = 3 \/ j = 4 \/ j = 5 \/ j = 6 \/ j = 7 := by omega
   rcases hjj with rfl | rfl | rfl | rfl | rfl | rfl | rfl | rfl
   ·have HPS : Hid ((allF.take (0 + 1)).flatMap (fieldJ t) = (allF.take 0).flatMap (fieldJ t) ++ fieldJ t nameN) := flat_succ (f := fieldJ t) (l := allF) (j := 0) rfl
    have hpm := flat_mid (f := fieldJ t) (l := allF) (j := 0) (x := nameN) rfl
    have HFC := Lib.hid (HF0.out wr HBW.out)
    try dsimp only [RV.val] at HFC
    try rw [show ((0 : Nat) : Int) = 0 from rfl]
    have hix := ix_0
    obtain ⟨L0, hL0⟩ : ∃ L, (allF.take 0).flatMap (fieldJ t) = L := ⟨_, rfl⟩
    obtain ⟨LF, hLF⟩ : ∃ L, fieldJ t nameN = L := ⟨_, rfl⟩
    rw [hL0] at HO HPS hpm
    rw [hLF] at HFC HPS hpm
    have HLN : Hid (L0.length + LF.length <= maxLen /\ (L0.length + LF.length) * 16 <= 140737488355328) := by
     have h2 := HLL.out
     exact ⟨by unfold maxLen; omega, by omega⟩
    clear hL0 hLF hpm
    go_wp2_with (first
     | (go_at_call 26; (with_reducible refine HFC.out.mono ?_); rintro e w4 ⟨u4, rfl, ho4, hb4⟩; (have ho5 := HO.out.below hb4 (Nat.le_refl _)); (have hz4 : W2.heap.size <= w4.heap.size := Nat.le_trans hbz hb4.size))
     | (at_builtin; refine wpList_append_rd slS codecS w4 rfl (.tmp 105) (.tmp 108) rfl (v := u7) rfl rfl ho5 (ho4.rd codecS) HLN.out.1 HLN.out.2 hz4 ?_; intro v8 w8 ho8 hg8 hat8)
     | fail)
    have HS8 : Hid (Own w8 W2.heap.size 9 encS 1 v8 ((allF.take (0 + 1)).flatMap (fieldJ t)) /\ Below W2.heap.size W2 w8) := ⟨by rw [HPS.out]; exact ho8, Below.appended (HBR.out.trans (hb4.mono hbz)) hg8 ho5 hz4⟩
    clear ho8 hg8 hat8 ho4 ho5 hb4
    go_roundw
    case rel => exact ⟨0 + 1, by omega, by go_num, HS8.out⟩
    case measure => simp [intOf]; try omega
   ·have HPS : Hid ((allF.take (1 + 1)).flatMap (fieldJ t) = (allF.take 1).flatMap (fieldJ t) ++ fieldJ t svNick) := flat_succ (f := fieldJ t) (l := allF) (j := 1) rfl
    have hpm := flat_mid (f := fieldJ t) (l := allF) (j := 1) (x := svNick) rfl
    have HFC := Lib.hid (HF1.out wr HBW.out)
    try dsimp only [RV.val] at HFC
    try rw [show ((1 : Nat) : Int) = 1 from rfl]
    have hix := ix_1
    obtain ⟨L0, hL0⟩ : ∃ L, (allF.take 1).flatMap (fieldJ t) = L := ⟨_, rfl⟩
    obtain ⟨LF, hLF⟩ : ∃ L, fieldJ t svNick = L := ⟨_, rfl⟩
    rw [hL0] at HO HPS hpm
    rw [hLF] at HFC HPS hpm
    have HLN : Hid (L0.length + LF.length <= maxLen /\ (L0.length + LF.length) * 16 <= 140737488355328) := by
     have h2 := HLL.out
     exact ⟨by unfold maxLen; omega, by omega⟩
    clear hL0 hLF hpm
    go_wp2_with (first
     | (go_at_call 26; (with_reducible refine HFC.out.mono ?_); rintro e w4 ⟨u4, rfl, ho4, hb4⟩; (have ho5 := HO.out.below hb4 (Nat.le_refl _)); (have hz4 : W2.heap.size <= w4.heap.size := Nat.le_trans hbz hb4.size))
     | (at_builtin; refine wpList_append_rd slS codecS w4 rfl (.tmp 105) (.tmp 108) rfl (v := u7) rfl rfl ho5 (ho4.rd codecS) HLN.out.1 HLN.out.2 hz4 ?_; intro v8 w8 ho8 hg8 hat8)
     | fail)
    have HS8 : Hid (Own w8 W2.heap.size 9 encS 1 v8 ((allF.take (1 + 1)).flatMap (fieldJ t)) /\ Below W2.heap.size W2 w8) := ⟨by rw [HPS.out]; exact ho8, Below.appended (HBR.out.trans (hb4.mono hbz)) hg8 ho5 hz4⟩
    clear ho8 hg8 hat8 ho4 ho5 hb4
    go_roundw
    case rel => exact ⟨1 + 1, by omega, by go_num, HS8.out⟩
    case measure => simp [intOf]; try omega
   ·have HPS : Hid ((allF.take (2 + 1)).flatMap (fieldJ t) = (allF.take 2).flatMap (fieldJ t) ++ fieldJ t svOrg) := flat_succ (f := fieldJ t) (l := allF) (j := 2) rfl
    have hpm := flat_mid (f := fieldJ t) (l := allF) (j := 2) (x := svOrg) rfl
    have HFC := Lib.hid (HF2.out wr HBW.out)
    try dsimp only [RV.val] at HFC
    try rw [show ((2 : Nat) : Int) = 2 from rfl]
    have hix := ix_2
    obtain ⟨L0, hL0⟩ : ∃ L, (allF.take 2).flatMap (fieldJ t) = L := ⟨_, rfl⟩
    obtain ⟨LF, hLF⟩ : ∃ L, fieldJ t svOrg = L := ⟨_, rfl⟩
    rw [hL0] at HO HPS hpm
    rw [hLF] at HFC HPS hpm
    have HLN : Hid (L0.length + LF.length <= maxLen /\ (L0.length + LF.length) * 16 <= 140737488355328) := by
     have h2 := HLL.out
     exact ⟨by unfold maxLen; omega, by omega⟩
    clear hL0 hLF hpm
    go_wp2_with (first
     | (go_at_call 26; (with_reducible refine HFC.out.mono ?_); rintro e w4 ⟨u4, rfl, ho4, hb4⟩; (have ho5 := HO.out.below hb4 (Nat.le_refl _)); (have hz4 : W2.heap.size <= w4.heap.size := Nat.le_trans hbz hb4.size))
     | (at_builtin; refine wpList_append_rd slS codecS w4 rfl (.tmp 105) (.tmp 108) rfl (v := u7) rfl rfl ho5 (ho4.rd codecS) HLN.out.1 HLN.out.2 hz4 ?_; intro v8 w8 ho8 hg8 hat8)
     | fail)
    have HS8 : Hid (Own w8 W2.heap.size 9 encS 1 v8 ((allF.take (2 + 1)).flatMap (fieldJ t)) /\ Below W2.heap.size W2 w8) := ⟨by rw [HPS.out]; exact ho8, Below.appended (HBR.out.trans (hb4.mono hbz)) hg8 ho5 hz4⟩
    clear ho8 hg8 hat8 ho4 ho5 hb4
    go_roundw
    case rel => exact ⟨2 + 1, by omega, by go_num, HS8.out⟩
    case measure => simp [intOf]; try omega
   ·have HPS : Hid ((allF.take (3 + 1)).flatMap (fieldJ t) = (allF.take 3).flatMap (fieldJ t) ++ fieldJ t svEmail) := flat_succ (f := fieldJ t) (l := allF) (j := 3) rfl
    have hpm := flat_mid (f := fieldJ t) (l := allF) (j := 3) (x := svEmail) rfl
    have HFC := Lib.hid (HF3.out wr HBW.out)
    try dsimp only [RV.val] at HFC
    try rw [show ((3 : Nat) : Int) = 3 from rfl]
    have hix := ix_3
    obtain ⟨L0, hL0⟩ : ∃ L, (allF.take 3).flatMap (fieldJ t) = L := ⟨_, rfl⟩
    obtain ⟨LF, hLF⟩ : ∃ L, fieldJ t svEmail = L := ⟨_, rfl⟩
    rw [hL0] at HO HPS hpm
    rw [hLF] at HFC HPS hpm
    have HLN : Hid (L0.length + LF.length <= maxLen /\ (L0.length + LF.length) * 16 <= 140737488355328) := by
     have h2 := HLL.out
     exact ⟨by unfold maxLen; omega, by omega⟩
    clear hL0 hLF hpm
    go_wp2_with (first
     | (go_at_call 26; (with_reducible refine HFC.out.mono ?_); rintro e w4 ⟨u4, rfl, ho4, hb4⟩; (have ho5 := HO.out.below hb4 (Nat.le_refl _)); (have hz4 : W2.heap.size <= w4.heap.size := Nat.le_trans hbz hb4.size))
     | (at_builtin; refine wpList_append_rd slS codecS w4 rfl (.tmp 105) (.tmp 108) rfl (v := u7) rfl rfl ho5 (ho4.rd codecS) HLN.out.1 HLN.out.2 hz4 ?_; intro v8 w8 ho8 hg8 hat8)
     | fail)
    have HS8 : Hid (Own w8 W2.heap.size 9 encS 1 v8 ((allF.take (3 + 1)).flatMap (fieldJ t)) /\ Below W2.heap.size W2 w8) := ⟨by rw [HPS.out]; exact ho8, Below.appended (HBR.out.trans (hb4.mono hbz)) hg8 ho5 hz4⟩
    clear ho8 hg8 hat8 ho4 ho5 hb4
    go_roundw
    case rel => exact ⟨3 + 1, by omega, by go_num, HS8.out⟩
    case measure => simp [intOf]; try omega
   ·have HPS : Hid ((allF.take (4 + 1)).flatMap (fieldJ t) = (allF.take 4).flatMap (fieldJ t) ++ fieldJ t svPhone) := flat_succ (f := fieldJ t) (l := allF) (j := 4) rfl
    have hpm := flat_mid (f := fieldJ t) (l := allF) (j := 4) (x := svPhone) rfl
    have HFC := Lib.hid (HF4.out wr HBW.out)
    try dsimp only [RV.val] at HFC
    try rw [show ((4 : Nat) : Int) = 4 from rfl]
    have hix := ix_4
    obtain ⟨L0, hL0⟩ : ∃ L, (allF.take 4).flatMap (fieldJ t) = L := ⟨_, rfl⟩
    obtain ⟨LF, hLF⟩ : ∃ L, fieldJ t svPhone = L := ⟨_, rfl⟩
    rw [hL0] at HO HPS hpm
    rw [hLF] at HFC HPS hpm
    have HLN : Hid (L0.length + LF.length <= maxLen /\ (L0.length + LF.length) * 16 <= 140737488355328) := by
     have h2 := HLL.out
     exact ⟨by unfold maxLen; omega, by omega⟩
    clear hL0 hLF hpm
    go_wp2_with (first
     | (go_at_call 26; (with_reducible refine HFC.out.mono ?_); rintro e w4 ⟨u4, rfl, ho4, hb4⟩; (have ho5 := HO.out.below hb4 (Nat.le_refl _)); (have hz4 : W2.heap.size <= w4.heap.size := Nat.le_trans hbz hb4.size))
     | (at_builtin; refine wpList_append_rd slS codecS w4 rfl (.tmp 105) (.tmp 108) rfl (v := u7) rfl rfl ho5 (ho4.rd codecS) HLN.out.1 HLN.out.2 hz4 ?_; intro v8 w8 ho8 hg8 hat8)
     | fail)
    have HS8 : Hid (Own w8 W2.heap.size 9 encS 1 v8 ((allF.take (4 + 1)).flatMap (fieldJ t)) /\ Below W2.heap.size W2 w8) := ⟨by rw [HPS.out]; exact ho8, Below.appended (HBR.out.trans (hb4.mono hbz)) hg8 ho5 hz4⟩
    clear ho8 hg8 hat8 ho4 ho5 hb4
    go_roundw
    case rel => exact ⟨4 + 1, by omega, by go_num, HS8.out⟩
    case measure => simp [intOf]; try omega
   ·have HPS : Hid ((allF.take (5 + 1)).flatMap (fieldJ t) = (allF.take 5).flatMap (fieldJ t) ++ fieldJ t svOnline) := flat_succ (f := fieldJ t) (l := allF) (j := 5) rfl
    have hpm := flat_mid (f := fieldJ t) (l := allF) (j := 5) (x := svOnline) rfl
    have HFC := Lib.hid (HF5.out wr HBW.out)
    try dsimp only [RV.val] at HFC
    try rw [show ((5 : Nat) : Int) = 5 from rfl]
    have hix := ix_5
    obtain ⟨L0, hL0⟩ : ∃ L, (allF.take 5).flatMap (fieldJ t) = L := ⟨_, rfl⟩
    obtain ⟨LF, hLF⟩ : ∃ L, fieldJ t svOnline = L := ⟨_, rfl⟩
    rw [hL0] at HO HPS hpm
    rw [hLF] at HFC HPS hpm
    have HLN : Hid (L0.length + LF.length <= maxLen /\ (L0.length + LF.length) * 16 <= 140737488355328) := by
     have h2 := HLL.out
     exact ⟨by unfold maxLen; omega, by omega⟩
    clear hL0 hLF hpm
    go_wp2_with (first
     | (go_at_call 26; (with_reducible refine HFC.out.mono ?_); rintro e w4 ⟨u4, rfl, ho4, hb4⟩; (have ho5 := HO.out.below hb4 (Nat.le_refl _)); (have hz4 : W2.heap.size <= w4.heap.size := Nat.le_trans hbz hb4.size))
     | (at_builtin; refine wpList_append_rd slS codecS w4 rfl (.tmp 105) (.tmp 108) rfl (v := u7) rfl rfl ho5 (ho4.rd codecS) HLN.out.1 HLN.out.2 hz4 ?_; intro v8 w8 ho8 hg8 hat8)
     | fail)
    have HS8 : Hid (Own w8 W2.heap.size 9 encS 1 v8 ((allF.take (5 + 1)).flatMap (fieldJ t)) /\ Below W2.heap.size W2 w8) := ⟨by rw [HPS.out]; exact ho8, Below.appended (HBR.out.trans (hb4.mono hbz)) hg8 ho5 hz4⟩
    clear ho8 hg8 hat8 ho4 ho5 hb4
    go_roundw
    case rel => exact ⟨5 + 1, by omega, by go_num, HS8.out⟩
    case measure => simp [intOf]; try omega
   ·have HPS : Hid ((allF.take (6 + 1)).flatMap (fieldJ t) = (allF.take 6).flatMap (fieldJ t) ++ fieldJ t svAddr) := flat_succ (f := fieldJ t) (l := allF) (j := 6) rfl
    have hpm := flat_mid (f := fieldJ t) (l := allF) (j := 6) (x := svAddr) rfl
    have HFC := Lib.hid (HF6.out wr HBW.out)
    try dsimp only [RV.val] at HFC
    try rw [show ((6 : Nat) : Int) = 6 from rfl]
    have hix := ix_6
    obtain ⟨L0, hL0⟩ : ∃ L, (allF.take 6).flatMap (fieldJ t) = L := ⟨_, rfl⟩
    obtain ⟨LF, hLF⟩ : ∃ L, fieldJ t svAddr = L := ⟨_, rfl⟩
    rw [hL0] at HO HPS hpm
    rw [hLF] at HFC HPS hpm
    have HLN : Hid (L0.length + LF.length <= maxLen /\ (L0.length + LF.length) * 16 <= 140737488355328) := by
     have h2 := HLL.out
     exact ⟨by unfold maxLen; omega, by omega⟩
    clear hL0 hLF hpm
    go_wp2_with (first
     | (go_at_call 26; (with_reducible refine HFC.out.mono ?_); rintro e w4 ⟨u4, rfl, ho4, hb4⟩; (have ho5 := HO.out.below hb4 (Nat.le_refl _)); (have hz4 : W2.heap.size <= w4.heap.size := Nat.le_trans hbz hb4.size))
     | (at_builtin; refine wpList_append_rd slS codecS w4 rfl (.tmp 105) (.tmp 108) rfl (v := u7) rfl rfl ho5 (ho4.rd codecS) HLN.out.1 HLN.out.2 hz4 ?_; intro v8 w8 ho8 hg8 hat8)
     | fail)
    have HS8 : Hid (Own w8 W2.heap.size 9 encS 1 v8 ((allF.take (6 + 1)).flatMap (fieldJ t)) /\ Below W2.heap.size W2 w8) := ⟨by rw [HPS.out]; exact ho8, Below.appended (HBR.out.trans (hb4.mono hbz)) hg8 ho5 hz4⟩
    clear ho8 hg8 hat8 ho4 ho5 hb4
    go_roundw
    case rel => exact ⟨6 + 1, by omega, by go_num, HS8.out⟩
    case measure => simp [intOf]; try omega
   ·have HPS : Hid ((allF.take (7 + 1)).flatMap (fieldJ t) = (allF.take 7).flatMap (fieldJ t) ++ fieldJ t svNote) := flat_succ (f := fieldJ t) (l := allF) (j := 7) rfl
    have hpm := flat_mid (f := fieldJ t) (l := allF) (j := 7) (x := svNote) rfl
    have HFC := Lib.hid (HF7.out wr HBW.out)
    try dsimp only [RV.val] at HFC
    try rw [show ((7 : Nat) : Int) = 7 from rfl]
    have hix := ix_7
    obtain ⟨L0, hL0⟩ : ∃ L, (allF.take 7).flatMap (fieldJ t) = L := ⟨_, rfl⟩
    obtain ⟨LF, hLF⟩ : ∃ L, fieldJ t svNote = L := ⟨_, rfl⟩
    rw [hL0] at HO HPS hpm
    rw [hLF] at HFC HPS hpm
    have HLN : Hid (L0.length + LF.length <= maxLen /\ (L0.length + LF.length) * 16 <= 140737488355328) := by
     have h2 := HLL.out
     exact ⟨by unfold maxLen; omega, by omega⟩
    clear hL0 hLF hpm
    go_wp2_with (first
     | (go_at_call 26; (with_reducible refine HFC.out.mono ?_); rintro e w4 ⟨u4, rfl, ho4, hb4⟩; (have ho5 := HO.out.below hb4 (Nat.le_refl _)); (have hz4 : W2.heap.size <= w4.heap.size := Nat.le_trans hbz hb4.size))
     | (at_builtin; refine wpList_append_rd slS codecS w4 rfl (.tmp 105) (.tmp 108) rfl (v := u7) rfl rfl ho5 (ho4.rd codecS) HLN.out.1 HLN.out.2 hz4 ?_; intro v8 w8 ho8 hg8 hat8)
     | fail)
    have HS8 : Hid (Own w8 W2.heap.size 9 encS 1 v8 ((allF.take (7 + 1)).flatMap (fieldJ t)) /\ Below W2.heap.size W2 w8) := ⟨by rw [HPS.out]; exact ho8, Below.appended (HBR.out.trans (hb4.mono hbz)) hg8 ho5 hz4⟩
    clear ho8 hg8 hat8 ho4 ho5 hb4
    go_roundw
    case rel => exact ⟨7 + 1, by omega, by go_num, HS8.out⟩
    case measure => simp [intOf]; try omega
  ·obtain rfl : j = 8 := by omega
   have ho := HO.out
   have hta : allF.take 8 = allF := rfl
   rw [hta] at ho
   have HZ := Lib.hid (And.intro (ho.mono hw2) HBW.out)
   clear ho hta
   go_wp2_with fail
   go_ret
   exact ⟨_, rfl, HZ.out.1, HZ.out.2⟩
theorem svtexts_any (t : JV) (r : RV) (f : ByteArray) (w : World) (B : Nat) (hBw : B <= w.heap.size) (ht : TreeOf w B t r) (ot : t.Ok) (hct : countT t <= 100000) (hall : AllAt w) :
 Calls Tryz.prog 26 #[r.val, .string f] w (OwnRet w 9 encS 1 (textsJ t f)) := by
 unfold textsJ
 by_cases h : f = svText
 ·subst h
  rw [if_pos rfl]
  exact stx_text t r w B hBw ht ot hct hall
 ·rw [if_neg h]
  exact field_any t r f h w B hBw ht ot hct
end
section
open Go.RowKit Go.OpenShut
theorem rd_at {α : Type} {enc : α -> List Value} {sz n cap k B : Nat} {w : World} {p : Option Addr} {xs : List α} (h : Rd w B enc sz (.slice p n cap) xs) {x : α} (hx : xs[k]? = some x) :
 ∃ b o, p = some ⟨b, o, none⟩ /\ b < B /\ ∀ j u, (enc x)[j]? = some u -> w.cell? ⟨b, o + k * sz + j, none⟩ = some u := by
 obtain ⟨p', cap', he, h1, h2, h3, h4⟩ := h
 simp only [Value.slice.injEq] at he
 obtain ⟨rfl, rfl, rfl⟩ := he
 have hk := (List.getElem?_eq_some_iff.1 hx).1
 cases p with
 | none => have := h3 rfl; omega
 | some a =>
   obtain ⟨b, o, rfl, hb, hr⟩ := h4 a rfl (by omega)
   exact ⟨b, o, rfl, hb, hr k x hx⟩
theorem rd_len {α : Type} {enc : α -> List Value} {sz B : Nat} {w : World} {v : Value} {xs : List α} (h : Rd w B enc sz v xs) : ∃ p cap, v = .slice p xs.length cap /\ xs.length <= cap /\ cap <= 9223372036854775807 := by
 obtain ⟨p, cap, he, h1, h2, _⟩ := h
 exact ⟨p, cap, he, h1, h2⟩
theorem eqTake_ne {α : Type} [DecidableEq α] {l m : List α} {k : Nat} {x y : α} (hx : l[k]? = some x) (hy : m[k]? = some y) (h : x ≠ y) : decide (l = m) = false := by
 rw [decide_eq_false_iff_not]
 rintro rfl
 rw [hx] at hy
 exact h (by simpa using hy)
theorem sameParts_any (w : World) (B : Nat) (u v : Value) (l m : List ByteArray) (hu : Rd w B encS 1 u l) (hv : Rd w B encS 1 v m) :
 Calls Tryz.prog 25 #[u, v] w fun e w' => e = .returned (.bool (decide (l = m))) /\ ∃ n, w' = w.drewN n := by
 obtain ⟨p, c, rfl, hlc, hcm⟩ := rd_len hu
 obtain ⟨q, d, rfl, hmd, hdm⟩ := rd_len hv
 have HU := Lib.hid hu
 have HV := Lib.hid hv
 clear hu hv
 by_cases hlen : l.length = m.length
 ·have hb : ((l.length : Int) != (m.length : Int)) = false := by simp [hlen]
  have HL := Lib.hid hlen
  have hle : l.length <= m.length := by omega
  have hle2 : m.length <= l.length := by omega
  clear hlen
  go_enter Tryz.func25, Tryz.ntmps25
  go_wp2_with fail
  go_loopw [5] (fun i wr => ∃ k : Nat, k <= l.length /\ i = .int .i64 k /\ Hid (l.take k = m.take k) /\ ∃ n, wr = w.drewN n) (fun i _ => l.length - (intOf i).toNat)
  case atStart => exact ⟨0, Nat.zero_le _, rfl, rfl, 0, rfl⟩
  case round =>
   obtain ⟨k, hk, rfl, htk, nr, rfl⟩ := hrel
   by_cases hlt : k < l.length
   ·obtain ⟨x, hx⟩ : ∃ x, l[k]? = some x := ⟨_, List.getElem?_eq_getElem hlt⟩
    obtain ⟨y, hy⟩ : ∃ x, m[k]? = some x := ⟨_, List.getElem?_eq_getElem (by omega)⟩
    obtain ⟨b1, o1, rfl, hb1, hc1⟩ := rd_at HU.out hx
    obtain ⟨b2, o2, rfl, hb2, hc2⟩ := rd_at HV.out hy
    have f0 := hc1 0 _ rfl
    have g0 := hc2 0 _ rfl
    rw [Nat.add_zero, Nat.mul_one] at f0 g0
    have hk0 : (0 : Int) <= (k : Int) := Int.natCast_nonneg _
    have hk1 : (k : Int) < (l.length : Int) := by omega
    have hk2 : (k : Int) < (m.length : Int) := by omega
    have hq := str_beq x y
    by_cases hxy : x = y
    ·have e2 : (x.toList == y.toList) = true := by rw [hq]; simpa using hxy
     have e1 : (x.toList != y.toList) = false := by rw [bne, e2]; rfl
     have HTK : Hid (l.take (k + 1) = m.take (k + 1)) := by
      unfold Hid
      rw [List.take_add_one, List.take_add_one, hx, hy, htk.out, hxy]
     clear hx hy hc1 hc2 hq hxy htk
     go_wp2_with fail
     go_quiet (fail)
     go_wp2_with fail
     go_roundw
     case rel => exact ⟨k + 1, by omega, by go_num, HTK, _, rfl⟩
     case measure => simp [intOf]; omega
    ·have e2 : (x.toList == y.toList) = false := by rw [hq]; simpa using hxy
     have e1 : (x.toList != y.toList) = true := by rw [bne, e2]; rfl
     have HNO : Hid (decide (l = m) = false) := eqTake_ne hx hy hxy
     clear hx hy hc1 hc2 hq hxy htk
     go_wp2_with fail
     go_quiet (fail)
     go_wp2_with fail
     go_ret
     exact ⟨ret_bool HNO.out.symm, _, World.drewN_drewN _ _ _⟩
   ·obtain rfl : k = l.length := by omega
    have HYES : Hid (decide (l = m) = true) := by
     have h := htk.out
     rw [List.take_of_length_le (Nat.le_refl _), List.take_of_length_le hle2] at h
     unfold Hid
     simpa using h
    go_wp2_with fail
    go_ret
    exact ⟨ret_bool HYES.out.symm, _, rfl⟩
 ·have hb : ((l.length : Int) != (m.length : Int)) = true := by simp; omega
  have HNO : Hid (decide (l = m) = false) := by unfold Hid; rw [decide_eq_false_iff_not]; exact fun h => hlen (by rw [h])
  clear hlen
  go_enter Tryz.func25, Tryz.ntmps25
  go_wp2_with fail
  go_ret
  exact ⟨ret_bool HNO.out.symm, 0, rfl⟩
def SomeB (w : World) (e : Ending) (w' : World) : Prop := ∃ b : Bool, e = .returned (.bool b) /\ Below w.heap.size w w'
end
end Go.Proofs.YtffhccmppdgmfaaGreatDoor
