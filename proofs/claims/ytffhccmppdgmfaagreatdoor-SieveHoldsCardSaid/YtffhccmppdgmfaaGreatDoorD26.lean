import Derived.Test.YtffhccmppdgmfaaGreatDoorD25
import Derived.Test.YtffhccmppdgmfaaGreatDoorD12
set_option linter.unusedSimpArgs false
set_option linter.unusedVariables false
set_option maxRecDepth 200000
set_option maxHeartbeats 8000000
namespace Go.Proofs.YtffhccmppdgmfaaGreatDoor
section
open Go Go.RowKit Go.OpenShut
theorem rtx_name (t : JV) (r : RV) (w : World) (B : Nat) (hBw : B <= w.heap.size) (ht : TreeOf w B t r) (ot : t.Ok) (hct : countT t <= 100000) :
 Calls Tryz.prog 27 #[r.val, .string nameN] w (OwnRet w 9 encS 1 (wholeJ (nameV t))) := by
 obtain ⟨W0, hW0⟩ : ∃ W0, w.alloc r.obj = W0 := ⟨_, rfl⟩
 have hA0 : VAt W0 w.heap.size r := by rw [<- hW0]; exact heap_alloc_at rfl
 have hB0 : Below w.heap.size w W0 := by rw [<- hW0]; exact (Below.refl _ _).alloc (Nat.le_refl _) _
 have HC : Hid (Calls Tryz.prog 61 #[r.val, .string nameN] W0 (GetRetB W0 B (t.get nameN))) := refGetB_any t r nameN W0 B (Nat.le_trans hBw hB0.size) (ht.under (hB0.mono hBw) (Nat.le_refl _)) ot
 have hw0 := hB0.size
 have HTR : Hid (∀ W, Below w.heap.size w W -> TreeOf W B t r) := fun W hW => ht.under (hW.mono hBw) (Nat.le_refl _)
 have hcn : countT (nameV t) <= 100000 := Nat.le_trans (count_name t) hct
 have HON := Lib.hid (nameV_ok ot)
 obtain ⟨k, n, s, pl, nl, cl, pm, nm, cm⟩ := r
 dsimp only [RV.val, RV.obj] at *
 have HW := Lib.hid hW0
 have HB0 := Lib.hid hB0
 unfold nameN at HC
 try unfold nameN
 clear hW0 hB0 ht
 go_enter Tryz.func27, Tryz.ntmps27
 go_upto_region 1 with fail
 rw [HW.out]
 clear HW
 obtain ⟨a0, a1, a2, a3, a4⟩ := hA0.cells5
 have hz0 := hA0.lt
 go_upto_region 4 with (go_at_call 61; refine HC.out.mono ?_; rintro e w1 ⟨rv, bb, rfl, hbb, ht1, hb1⟩; obtain ⟨rk, rn, rS, rpl, rnl, rcl, rpm, rnm, rcm⟩ := rv)
 have hz1 := hb1.size
 have hb2 : Below W0.heap.size W0 (w1.alloc (.cells #[.int .i64 rk, .int .i64 rn, .string rS, .slice rpl rnl rcl, .slice rpm rnm rcm] 25)) := hb1.alloc hz1 _
 have hv2 : VAt (w1.alloc (.cells #[.int .i64 rk, .int .i64 rn, .string rS, .slice rpl rnl rcl, .slice rpm rnm rcm] 25)) w1.heap.size ⟨rk, rn, rS, rpl, rnl, rcl, rpm, rnm, rcm⟩ := heap_alloc_at rfl
 have ht2 := ht1.under ((Below.refl B w1).alloc (Nat.le_trans (Nat.le_trans hBw hw0) hz1) (.cells #[.int .i64 rk, .int .i64 rn, .string rS, .slice rpl rnl rcl, .slice rpm rnm rcm] 25)) (Nat.le_refl _)
 obtain ⟨g, hg⟩ : ∃ g, w1.heap.size = g := ⟨_, rfl⟩
 obtain ⟨W2, hW2⟩ : ∃ W, w1.alloc (.cells #[.int .i64 rk, .int .i64 rn, .string rS, .slice rpl rnl rcl, .slice rpm rnm rcm] 25) = W := ⟨_, rfl⟩
 rw [hW2] at hb2 hv2 ht2
 rw [hg] at hv2
 try rw [hW2]
 try rw [hg]
 obtain ⟨v0, v1, v2, v3, v4⟩ := hv2.cells5
 dsimp only at v0 v1 v2 v3 v4
 have hgl := hv2.lt
 have b0 := bcs hb2 hz0 a0
 have b1 := bcs hb2 hz0 a1
 have b2 := bcs hb2 hz0 a2
 have b3 := bcs hb2 hz0 a3
 have b4 := bcs hb2 hz0 a4
 have hbw := HB0.out.trans (hb2.mono hw0)
 have HX := Lib.hid hbw
 have hw2 := hbw.size
 have hBw2 : B <= W2.heap.size := Nat.le_trans hBw hw2
 have HT2 := Lib.hid ht2
 clear hW2 hg hb1 ht1 hb2 hv2 hz1 hbw ht2 a0 a1 a2 a3 a4 hbb
 have HTN : Hid (TreeOf W2 B (nameV t) ⟨rk, rn, rS, rpl, rnl, rcl, rpm, rnm, rcm⟩) := HT2.out
 have hb00 : Below W2.heap.size W2 W2.drew := (Below.refl _ _).drew
 have HAD : Hid (Calls Tryz.prog 63 #[.slice none 0 0, RV.val ⟨rk, rn, rS, rpl, rnl, rcl, rpm, rnm, rcm⟩, .string svFull] W2.drew fun e w' => ∃ v, e = .returned v /\ Own w' W2.heap.size 9 encS 1 v ([] ++ textM (nameV t) svFull) /\ Below W2.heap.size W2.drew w' /\ KeepO W2.drew w' (.slice none 0 0) v) := radd2_any (nameV t) _ svFull (.slice none 0 0) [] W2.drew B W2.heap.size hBw2 (Nat.le_refl _) (HTN.out.under (hb00.mono hBw2) (Nat.le_refl _)) HON.out (Own.nil _ _ _) (by simp)
 have HAE : Hid (∀ (u : Value) (W : World), Below W2.heap.size W2 W -> Own W W2.heap.size 9 encS 1 u ([] ++ textM (nameV t) svFull) -> Calls Tryz.prog 62 #[u, RV.val ⟨rk, rn, rS, rpl, rnl, rcl, rpm, rnm, rcm⟩, .string compN, .string valueN, .string ⟨#[]⟩] W fun e w' => ∃ v, e = .returned v /\ Own w' W2.heap.size 9 encS 1 v (([] ++ textM (nameV t) svFull) ++ eadL (inJ (nameV t) compN) valueN ⟨#[]⟩) /\ Below W2.heap.size W w' /\ KeepO W w' u v) := fun u W hW hO => addE_any (nameV t) _ compN valueN ⟨#[]⟩ u _ W B W2.heap.size hBw2 hW.size (HTN.out.under (hW.mono hBw2) (Nat.le_refl _)) HON.out hcn hO (by have := textM_len (nameV t) svFull; rw [List.nil_append]; omega)
 have HFIN : Hid (wholeJ (nameV t) = ([] ++ textM (nameV t) svFull) ++ eadL (inJ (nameV t) compN) valueN ⟨#[]⟩) := by
  unfold Hid wholeJ
  rw [partsJ_of]
  rfl
 obtain ⟨L1, hL1⟩ : ∃ L, [] ++ textM (nameV t) svFull = L := ⟨_, rfl⟩
 rw [hL1] at HAD HAE HFIN
 dsimp only [RV.val] at HAD HAE
 unfold svFull at HAD
 unfold compN valueN at HAE
 unfold compN valueN at HFIN
 clear hL1 hcn
 go_region_law
  (first
   | (go_simp; go_at_call 63
      (with_reducible refine HAD.out.mono ?_)
      rintro e wA ⟨uA, rfl, hoA, hbA', hkA⟩
      have hbA : Below W2.heap.size W2 wA := hb00.trans hbA'
      have d0 := bcs hbA hgl v0
      have d1 := bcs hbA hgl v1
      have d2 := bcs hbA hgl v2
      have d3 := bcs hbA hgl v3
      have d4 := bcs hbA hgl v4)
   | (go_simp; go_at_call 62
      (with_reducible refine (HAE.out _ _ hbA hoA).mono ?_)
      rintro e wP ⟨uP, rfl, hoP, hbP, hkP⟩)
   | fail)
 all_goals
  go_wp2_with fail
  rw [HFIN.out]
  go_ret
  exact ⟨uP, rfl, hoP.mono hw2, HX.out.trans ((hbA.trans hbP).mono hw2)⟩
theorem rtx_nick (t : JV) (r : RV) (w : World) (B : Nat) (hBw : B <= w.heap.size) (ht : TreeOf w B t r) (ot : t.Ok) (hct : countT t <= 100000) :
 Calls Tryz.prog 27 #[r.val, .string svNick] w (OwnRet w 9 encS 1 ((eachJ t svNicks).flatMap (fun x => [nameN].flatMap (textM x)))) := by
 obtain ⟨W0, hW0⟩ : ∃ W0, w.alloc r.obj = W0 := ⟨_, rfl⟩
 have hA0 : VAt W0 w.heap.size r := by rw [<- hW0]; exact heap_alloc_at rfl
 have hB0 : Below w.heap.size w W0 := by rw [<- hW0]; exact (Below.refl _ _).alloc (Nat.le_refl _) _
 have HC : Hid (Calls Tryz.prog 61 #[r.val, .string nameN] W0 (GetRetB W0 B (t.get nameN))) := refGetB_any t r nameN W0 B (Nat.le_trans hBw hB0.size) (ht.under (hB0.mono hBw) (Nat.le_refl _)) ot
 have hw0 := hB0.size
 have HTR : Hid (∀ W, Below w.heap.size w W -> TreeOf W B t r) := fun W hW => ht.under (hW.mono hBw) (Nat.le_refl _)
 have HEO := Lib.hid (eachJ_of t svNicks)
 have HEK := Lib.hid (eachJ_ok (name := svNicks) ot)
 have hec := eachJ_count t svNicks
 have hmc : ∀ x ∈ eachJ t svNicks, countT x <= 100000 := fun x hx => by have := countL_mem hx; omega
 have hfl : ((eachJ t svNicks).flatMap (fun x => [nameN].flatMap (textM x))).length <= 300000 := (by have h := namedJ_len t svNicks [nameN]; unfold namedJ at h; simp only [List.length_singleton, List.length_cons, List.length_nil] at h; omega)
 obtain ⟨es, hes⟩ : ∃ es, eachJ t svNicks = es := ⟨_, rfl⟩
 rw [hes] at HEO HEK hec hmc hfl
 rw [hes]
 have HNB := Lib.hid hfl
 have HMC : Hid (∀ (i : Nat) x, es[i]? = some x -> countT x <= 100000) := fun i x hx => hmc x (List.mem_of_getElem? hx)
 clear hes hec hmc hct hfl
 obtain ⟨k, n, s, pl, nl, cl, pm, nm, cm⟩ := r
 dsimp only [RV.val, RV.obj] at *
 have HW := Lib.hid hW0
 have HB0 := Lib.hid hB0
 unfold nameN at HC
 try unfold svNick
 clear hW0 hB0 ht
 go_enter Tryz.func27, Tryz.ntmps27
 go_upto_region 1 with fail
 rw [HW.out]
 clear HW
 obtain ⟨a0, a1, a2, a3, a4⟩ := hA0.cells5
 have hz0 := hA0.lt
 go_upto_region 15 with (go_at_call 61; refine HC.out.mono ?_; rintro e w1 ⟨rv, bb, rfl, hbb, ht1, hb1⟩; obtain ⟨rk, rn, rS, rpl, rnl, rcl, rpm, rnm, rcm⟩ := rv)
 have hz1 := hb1.size
 have hb2 : Below W0.heap.size W0 (w1.alloc (.cells #[.int .i64 rk, .int .i64 rn, .string rS, .slice rpl rnl rcl, .slice rpm rnm rcm] 25)) := hb1.alloc hz1 _
 have hv2 : VAt (w1.alloc (.cells #[.int .i64 rk, .int .i64 rn, .string rS, .slice rpl rnl rcl, .slice rpm rnm rcm] 25)) w1.heap.size ⟨rk, rn, rS, rpl, rnl, rcl, rpm, rnm, rcm⟩ := heap_alloc_at rfl
 have ht2 := ht1.under ((Below.refl B w1).alloc (Nat.le_trans (Nat.le_trans hBw hw0) hz1) (.cells #[.int .i64 rk, .int .i64 rn, .string rS, .slice rpl rnl rcl, .slice rpm rnm rcm] 25)) (Nat.le_refl _)
 obtain ⟨g, hg⟩ : ∃ g, w1.heap.size = g := ⟨_, rfl⟩
 obtain ⟨W2, hW2⟩ : ∃ W, w1.alloc (.cells #[.int .i64 rk, .int .i64 rn, .string rS, .slice rpl rnl rcl, .slice rpm rnm rcm] 25) = W := ⟨_, rfl⟩
 rw [hW2] at hb2 hv2 ht2
 rw [hg] at hv2
 try rw [hW2]
 try rw [hg]
 obtain ⟨v0, v1, v2, v3, v4⟩ := hv2.cells5
 dsimp only at v0 v1 v2 v3 v4
 have hgl := hv2.lt
 have b0 := bcs hb2 hz0 a0
 have b1 := bcs hb2 hz0 a1
 have b2 := bcs hb2 hz0 a2
 have b3 := bcs hb2 hz0 a3
 have b4 := bcs hb2 hz0 a4
 have hbw := HB0.out.trans (hb2.mono hw0)
 have HX := Lib.hid hbw
 have hw2 := hbw.size
 have hBw2 : B <= W2.heap.size := Nat.le_trans hBw hw2
 have HT2 := Lib.hid ht2
 clear hW2 hg hb1 ht1 hb2 hv2 hz1 hbw ht2 a0 a1 a2 a3 a4 hbb
 have HTR2 := HTR.out W2 HX.out
 have HC2 : Hid (Calls Tryz.prog 61 #[.agg #[.int .i64 k, .int .i64 n, .string s, .slice pl nl cl, .slice pm nm cm], .string svNicks] W2 (GetRetB W2 B (t.get svNicks))) := refGetB_any t ⟨k, n, s, pl, nl, cl, pm, nm, cm⟩ svNicks W2 B hBw2 HTR2 ot
 unfold svNicks at HC2
 clear HTR2 v0 v1 v2 v3 v4 HT2 hgl
 have hcat : (⟨#[110, 105, 99, 107, 110, 97, 109, 101]⟩ : ByteArray) ++ ⟨#[115]⟩ = ⟨#[110, 105, 99, 107, 110, 97, 109, 101, 115]⟩ := by decide +kernel
 go_upto_region 26 with (go_at_call 61; (with_reducible refine HC2.out.mono ?_); rintro e w3 ⟨rv, b3', rfl, hbb, ht1, hb1⟩; obtain ⟨mk, mn, mS, mpl, mnl, mcl, mpm, mnm, mcm⟩ := rv)
 clear hcat
 obtain ⟨hkk, hss⟩ := ht1.kk
 dsimp only at hkk hss
 have hz1 := hb1.size
 have hb2 : Below W2.heap.size W2 (w3.alloc (.cells #[.int .i64 mk, .int .i64 mn, .string mS, .slice mpl mnl mcl, .slice mpm mnm mcm] 25)) := hb1.alloc hz1 _
 have hv2 : VAt (w3.alloc (.cells #[.int .i64 mk, .int .i64 mn, .string mS, .slice mpl mnl mcl, .slice mpm mnm mcm] 25)) w3.heap.size ⟨mk, mn, mS, mpl, mnl, mcl, mpm, mnm, mcm⟩ := heap_alloc_at rfl
 have ht2 := (ht1.under ((Below.refl B w3).alloc (Nat.le_trans hBw2 hz1) (.cells #[.int .i64 mk, .int .i64 mn, .string mS, .slice mpl mnl mcl, .slice mpm mnm mcm] 25)) (Nat.le_refl _)).ml
 dsimp only at ht2
 obtain ⟨g3, hg3⟩ : ∃ g, w3.heap.size = g := ⟨_, rfl⟩
 obtain ⟨W3, hW3⟩ : ∃ W, w3.alloc (.cells #[.int .i64 mk, .int .i64 mn, .string mS, .slice mpl mnl mcl, .slice mpm mnm mcm] 25) = W := ⟨_, rfl⟩
 rw [hW3] at hb2 hv2 ht2
 rw [hg3] at hv2
 try rw [hW3]
 try rw [hg3]
 have HB3 : Hid (Below w.heap.size w W3) := HX.out.trans (hb2.mono hw2)
 have hw3 := HB3.out.size
 have hBw3 : B <= W3.heap.size := Nat.le_trans hBw hw3
 have HV3 := Lib.hid hv2
 have hgl3 := hv2.lt
 have HL := Lib.hid ht2
 clear hW3 hg3 hb1 ht1 hb2 hv2 hz1 ht2 hss hbb b0 b1 b2 b3 b4 HX
 by_cases hk6 : mk = 6
 ·subst hk6
  have hR6 : es = ((t.get svNicks).getD JV.zero).m.map (·.2) := by rw [HEO.out]; exact if_pos hkk.symm
  obtain ⟨rms, hm, hlen, htl⟩ := HL.out
  have hrl : rms.length = mnm := (rd_nlen hm).symm
  have hlen2 : ((t.get svNicks).getD JV.zero).m.length = rms.length := hlen
  have hRl : es.length = mnm := by rw [hR6, List.length_map]; omega
  have hno : mnm <= 1466015503658 := by have := HEK.out.1; omega
  have HTL : Hid (∀ (i : Nat) x q, es[i]? = some x -> rms[i]? = some q -> TreeOf W3 B x q.v) := fun i x q a b => by
   rw [hR6, List.getElem?_map, Option.map_eq_some_iff] at a
   obtain ⟨p, a1, rfl⟩ := a
   exact (htl i p q a1 b).2
  have HRD := Lib.hid hm
  have HN := Lib.hid hRl
  clear hm hlen hlen2 htl hR6 hRl hkk HL
  go_wp2_with fail
  go_loopw [5, 13] (fun u i wr => ∃ j : Nat, j <= mnm /\ i = .int .i64 (j : Int) /\ Hid (Own wr W3.heap.size 9 encS 1 u ((es.take j).flatMap (fun x => [nameN].flatMap (textM x))) /\ Below W3.heap.size W3 wr)) (fun _ i _ => mnm - (intOf i).toNat)
  case atStart => exact ⟨0, by omega, rfl, by rw [List.take_zero]; exact Own.nil _ _ _, Below.refl _ _⟩
  case round =>
   obtain ⟨j, hj, rfl, hH⟩ := hrel
   have HO := Lib.hid hH.out.1
   have HBR := Lib.hid hH.out.2
   have hbz := HBR.out.size
   clear hH
   have hvr := HV3.out.under HBR.out hgl3
   have c0 := hvr.cell 0 rfl
   have c4 := hvr.cell 4 rfl
   dsimp only at c0 c4
   have hj0 : (0 : Int) <= (j : Int) := Int.natCast_nonneg _
   by_cases hlt : j < mnm
   ·obtain ⟨y, hy⟩ : ∃ y, es[j]? = some y := ⟨_, List.getElem?_eq_getElem (by have := HN.out; omega)⟩
    obtain ⟨⟨xname, ⟨xk, xn, xs, xpl, xnl, xcl, xpm, xnm, xcm⟩⟩, hx⟩ : ∃ x, rms[j]? = some x := ⟨_, List.getElem?_eq_getElem (by omega)⟩
    have HYO := Lib.hid (HEK.out.2 j y hy)
    have HYC := Lib.hid (HMC.out j y hy)
    have HPS := Lib.hid (flat_succ (f := (fun x => [nameN].flatMap (textM x))) hy)
    have HPM := Lib.hid (flat_mid (f := (fun x => [nameN].flatMap (textM x))) hy)
    have HTA : Hid (∀ W, Below W3.heap.size W3 W -> TreeOf W B y ⟨xk, xn, xs, xpl, xnl, xcl, xpm, xnm, xcm⟩) := fun W hW => (HTL.out j y _ hy hx).under (hW.mono hBw3) (Nat.le_refl _)
    obtain ⟨L0, hL0⟩ : ∃ L, (es.take j).flatMap (fun x => [nameN].flatMap (textM x)) = L := ⟨_, rfl⟩
    rw [hL0] at HO HPS HPM
    have HLZ : Hid (L0.length <= 300000) := by have := HPM.out; have := HNB.out; unfold Hid; omega
    obtain ⟨bx, ox, rfl, hbx, hcx⟩ := rd_at' (HRD.out.below (HBR.out.mono hBw3) (Nat.le_refl _)) hx
    have f0 := hcx 0 _ rfl
    have f1 := hcx 1 _ rfl
    have f2 := hcx 2 _ rfl
    have f3 := hcx 3 _ rfl
    have f4 := hcx 4 _ rfl
    have f5 := hcx 5 _ rfl
    rw [Nat.add_zero] at f0
    dsimp only at f0 f1 f2 f3 f4 f5
    have hj1 : (j : Int) < (mnm : Int) := by omega
    clear hx hy hcx hL0
    go_upto_region 30 with fail
    have hB9 : Below W3.heap.size W3 (wr.alloc (.cells #[.int .i64 xk, .int .i64 xn, .string xs, .slice xpl xnl xcl, .slice xpm xnm xcm] 25)) := HBR.out.alloc hbz _
    have hO9 := HO.out.alloc (.cells #[.int .i64 xk, .int .i64 xn, .string xs, .slice xpl xnl xcl, .slice xpm xnm xcm] 25)
    have hV9 : VAt (wr.alloc (.cells #[.int .i64 xk, .int .i64 xn, .string xs, .slice xpl xnl xcl, .slice xpm xnm xcm] 25)) wr.heap.size ⟨xk, xn, xs, xpl, xnl, xcl, xpm, xnm, xcm⟩ := heap_alloc_at rfl
    have hN9 : u5.ownBlock ≠ some wr.heap.size := fun e => by have := (HO.out.lt _ e).2; omega
    obtain ⟨g9, hg9⟩ : ∃ g, wr.heap.size = g := ⟨_, rfl⟩
    obtain ⟨W9, hW9⟩ : ∃ W, wr.alloc (.cells #[.int .i64 xk, .int .i64 xn, .string xs, .slice xpl xnl xcl, .slice xpm xnm xcm] 25) = W := ⟨_, rfl⟩
    rw [hW9] at hB9 hO9 hV9
    rw [hg9] at hV9 hN9
    try rw [hW9]
    try rw [hg9]
    have HB9 := Lib.hid hB9
    have HO9 := Lib.hid hO9
    have HV9 := Lib.hid hV9
    have HN9 := Lib.hid hN9
    have hz9 := hB9.size
    have hgl9 := hV9.lt
    obtain ⟨e0, e1, e2, e3, e4⟩ := hV9.cells5
    dsimp only at e0 e1 e2 e3 e4
    clear hW9 hg9 hB9 hO9 hV9 hN9 f0 f1 f2 f3 f4 f5 c0 c4 hvr HO HBR
    have HA1 := Lib.hid (radd2_any y ⟨xk, xn, xs, xpl, xnl, xcl, xpm, xnm, xcm⟩ nameN u5 L0 W9 B W3.heap.size hBw3 hz9 (HTA.out W9 HB9.out) HYO.out HO9.out (by have := HLZ.out; omega))
    dsimp only [RV.val] at HA1
    unfold nameN at HA1
    go_wp2_with (go_at_call 63; (with_reducible refine HA1.out.mono ?_); rintro e w8 ⟨v8, rfl, ho8, hb8, hk8⟩)
    have HS8 : Hid (Own w8 W3.heap.size 9 encS 1 v8 ((es.take (j + 1)).flatMap (fun x => [nameN].flatMap (textM x))) /\ Below W3.heap.size W3 w8) := ⟨by rw [HPS.out]; simp only [List.flatMap_cons, List.flatMap_nil, List.append_nil]; exact ho8, HB9.out.trans hb8⟩
    clear ho8 hb8 hk8
    go_roundw
    case rel => exact ⟨j + 1, by omega, by go_num, HS8.out⟩
    case measure => simp [intOf]; omega
   ·obtain rfl : j = mnm := by omega
    have ho := HO.out
    have hta : es.take j = es := List.take_of_length_le (by have := HN.out; omega)
    rw [hta] at ho
    have HZ := Lib.hid (And.intro (ho.mono hw3) (HB3.out.trans (HBR.out.mono hw3)))
    clear ho hta
    go_wp2_with fail
    go_ret
    exact ⟨_, rfl, HZ.out.1, HZ.out.2⟩
 ·have q1 : (mk == 6) = false := by simpa using hk6
  have HR : Hid (es = []) := by unfold Hid; rw [HEO.out]; exact if_neg (fun e => hk6 (hkk.trans e))
  have c0 := HV3.out.cell 0 rfl
  have c4 := HV3.out.cell 4 rfl
  dsimp only at c0 c4
  obtain ⟨z, hz⟩ : ∃ b, decide ((0 : Int) < (mnm : Int)) = b := ⟨_, rfl⟩
  clear hkk hk6
  go_wp2_with fail
  go_loopw [5, 13] (fun u i wr => u = .slice none 0 0 /\ i = .int .i64 0 /\ W3 = wr) (fun _ i _ => 0)
  case atStart => exact ⟨rfl, rfl, rfl⟩
  case round =>
   obtain ⟨rfl, rfl, rfl⟩ := hrel
   clear hz z
   go_wp2_with fail
   all_goals go_ret
   all_goals exact ⟨_, rfl, by rw [HR.out]; exact Own.nil _ _ _, HB3.out⟩
theorem rtx_email (t : JV) (r : RV) (w : World) (B : Nat) (hBw : B <= w.heap.size) (ht : TreeOf w B t r) (ot : t.Ok) (hct : countT t <= 100000) :
 Calls Tryz.prog 27 #[r.val, .string svEmail] w (OwnRet w 9 encS 1 ((eachJ t svEmails).flatMap (fun x => [svAddr].flatMap (textM x)))) := by
 obtain ⟨W0, hW0⟩ : ∃ W0, w.alloc r.obj = W0 := ⟨_, rfl⟩
 have hA0 : VAt W0 w.heap.size r := by rw [<- hW0]; exact heap_alloc_at rfl
 have hB0 : Below w.heap.size w W0 := by rw [<- hW0]; exact (Below.refl _ _).alloc (Nat.le_refl _) _
 have HC : Hid (Calls Tryz.prog 61 #[r.val, .string nameN] W0 (GetRetB W0 B (t.get nameN))) := refGetB_any t r nameN W0 B (Nat.le_trans hBw hB0.size) (ht.under (hB0.mono hBw) (Nat.le_refl _)) ot
 have hw0 := hB0.size
 have HTR : Hid (∀ W, Below w.heap.size w W -> TreeOf W B t r) := fun W hW => ht.under (hW.mono hBw) (Nat.le_refl _)
 have HEO := Lib.hid (eachJ_of t svEmails)
 have HEK := Lib.hid (eachJ_ok (name := svEmails) ot)
 have hec := eachJ_count t svEmails
 have hmc : ∀ x ∈ eachJ t svEmails, countT x <= 100000 := fun x hx => by have := countL_mem hx; omega
 have hfl : ((eachJ t svEmails).flatMap (fun x => [svAddr].flatMap (textM x))).length <= 300000 := (by have h := namedJ_len t svEmails [svAddr]; unfold namedJ at h; simp only [List.length_singleton, List.length_cons, List.length_nil] at h; omega)
 obtain ⟨es, hes⟩ : ∃ es, eachJ t svEmails = es := ⟨_, rfl⟩
 rw [hes] at HEO HEK hec hmc hfl
 rw [hes]
 have HNB := Lib.hid hfl
 have HMC : Hid (∀ (i : Nat) x, es[i]? = some x -> countT x <= 100000) := fun i x hx => hmc x (List.mem_of_getElem? hx)
 clear hes hec hmc hct hfl
 obtain ⟨k, n, s, pl, nl, cl, pm, nm, cm⟩ := r
 dsimp only [RV.val, RV.obj] at *
 have HW := Lib.hid hW0
 have HB0 := Lib.hid hB0
 unfold nameN at HC
 try unfold svEmail
 clear hW0 hB0 ht
 go_enter Tryz.func27, Tryz.ntmps27
 go_upto_region 1 with fail
 rw [HW.out]
 clear HW
 obtain ⟨a0, a1, a2, a3, a4⟩ := hA0.cells5
 have hz0 := hA0.lt
 go_upto_region 15 with (go_at_call 61; refine HC.out.mono ?_; rintro e w1 ⟨rv, bb, rfl, hbb, ht1, hb1⟩; obtain ⟨rk, rn, rS, rpl, rnl, rcl, rpm, rnm, rcm⟩ := rv)
 have hz1 := hb1.size
 have hb2 : Below W0.heap.size W0 (w1.alloc (.cells #[.int .i64 rk, .int .i64 rn, .string rS, .slice rpl rnl rcl, .slice rpm rnm rcm] 25)) := hb1.alloc hz1 _
 have hv2 : VAt (w1.alloc (.cells #[.int .i64 rk, .int .i64 rn, .string rS, .slice rpl rnl rcl, .slice rpm rnm rcm] 25)) w1.heap.size ⟨rk, rn, rS, rpl, rnl, rcl, rpm, rnm, rcm⟩ := heap_alloc_at rfl
 have ht2 := ht1.under ((Below.refl B w1).alloc (Nat.le_trans (Nat.le_trans hBw hw0) hz1) (.cells #[.int .i64 rk, .int .i64 rn, .string rS, .slice rpl rnl rcl, .slice rpm rnm rcm] 25)) (Nat.le_refl _)
 obtain ⟨g, hg⟩ : ∃ g, w1.heap.size = g := ⟨_, rfl⟩
 obtain ⟨W2, hW2⟩ : ∃ W, w1.alloc (.cells #[.int .i64 rk, .int .i64 rn, .string rS, .slice rpl rnl rcl, .slice rpm rnm rcm] 25) = W := ⟨_, rfl⟩
 rw [hW2] at hb2 hv2 ht2
 rw [hg] at hv2
 try rw [hW2]
 try rw [hg]
 obtain ⟨v0, v1, v2, v3, v4⟩ := hv2.cells5
 dsimp only at v0 v1 v2 v3 v4
 have hgl := hv2.lt
 have b0 := bcs hb2 hz0 a0
 have b1 := bcs hb2 hz0 a1
 have b2 := bcs hb2 hz0 a2
 have b3 := bcs hb2 hz0 a3
 have b4 := bcs hb2 hz0 a4
 have hbw := HB0.out.trans (hb2.mono hw0)
 have HX := Lib.hid hbw
 have hw2 := hbw.size
 have hBw2 : B <= W2.heap.size := Nat.le_trans hBw hw2
 have HT2 := Lib.hid ht2
 clear hW2 hg hb1 ht1 hb2 hv2 hz1 hbw ht2 a0 a1 a2 a3 a4 hbb
 have HTR2 := HTR.out W2 HX.out
 have HC2 : Hid (Calls Tryz.prog 61 #[.agg #[.int .i64 k, .int .i64 n, .string s, .slice pl nl cl, .slice pm nm cm], .string svEmails] W2 (GetRetB W2 B (t.get svEmails))) := refGetB_any t ⟨k, n, s, pl, nl, cl, pm, nm, cm⟩ svEmails W2 B hBw2 HTR2 ot
 unfold svEmails at HC2
 clear HTR2 v0 v1 v2 v3 v4 HT2 hgl
 have hcat : (⟨#[101, 109, 97, 105, 108]⟩ : ByteArray) ++ ⟨#[115]⟩ = ⟨#[101, 109, 97, 105, 108, 115]⟩ := by decide +kernel
 go_upto_region 26 with (go_at_call 61; (with_reducible refine HC2.out.mono ?_); rintro e w3 ⟨rv, b3', rfl, hbb, ht1, hb1⟩; obtain ⟨mk, mn, mS, mpl, mnl, mcl, mpm, mnm, mcm⟩ := rv)
 clear hcat
 obtain ⟨hkk, hss⟩ := ht1.kk
 dsimp only at hkk hss
 have hz1 := hb1.size
 have hb2 : Below W2.heap.size W2 (w3.alloc (.cells #[.int .i64 mk, .int .i64 mn, .string mS, .slice mpl mnl mcl, .slice mpm mnm mcm] 25)) := hb1.alloc hz1 _
 have hv2 : VAt (w3.alloc (.cells #[.int .i64 mk, .int .i64 mn, .string mS, .slice mpl mnl mcl, .slice mpm mnm mcm] 25)) w3.heap.size ⟨mk, mn, mS, mpl, mnl, mcl, mpm, mnm, mcm⟩ := heap_alloc_at rfl
 have ht2 := (ht1.under ((Below.refl B w3).alloc (Nat.le_trans hBw2 hz1) (.cells #[.int .i64 mk, .int .i64 mn, .string mS, .slice mpl mnl mcl, .slice mpm mnm mcm] 25)) (Nat.le_refl _)).ml
 dsimp only at ht2
 obtain ⟨g3, hg3⟩ : ∃ g, w3.heap.size = g := ⟨_, rfl⟩
 obtain ⟨W3, hW3⟩ : ∃ W, w3.alloc (.cells #[.int .i64 mk, .int .i64 mn, .string mS, .slice mpl mnl mcl, .slice mpm mnm mcm] 25) = W := ⟨_, rfl⟩
 rw [hW3] at hb2 hv2 ht2
 rw [hg3] at hv2
 try rw [hW3]
 try rw [hg3]
 have HB3 : Hid (Below w.heap.size w W3) := HX.out.trans (hb2.mono hw2)
 have hw3 := HB3.out.size
 have hBw3 : B <= W3.heap.size := Nat.le_trans hBw hw3
 have HV3 := Lib.hid hv2
 have hgl3 := hv2.lt
 have HL := Lib.hid ht2
 clear hW3 hg3 hb1 ht1 hb2 hv2 hz1 ht2 hss hbb b0 b1 b2 b3 b4 HX
 by_cases hk6 : mk = 6
 ·subst hk6
  have hR6 : es = ((t.get svEmails).getD JV.zero).m.map (·.2) := by rw [HEO.out]; exact if_pos hkk.symm
  obtain ⟨rms, hm, hlen, htl⟩ := HL.out
  have hrl : rms.length = mnm := (rd_nlen hm).symm
  have hlen2 : ((t.get svEmails).getD JV.zero).m.length = rms.length := hlen
  have hRl : es.length = mnm := by rw [hR6, List.length_map]; omega
  have hno : mnm <= 1466015503658 := by have := HEK.out.1; omega
  have HTL : Hid (∀ (i : Nat) x q, es[i]? = some x -> rms[i]? = some q -> TreeOf W3 B x q.v) := fun i x q a b => by
   rw [hR6, List.getElem?_map, Option.map_eq_some_iff] at a
   obtain ⟨p, a1, rfl⟩ := a
   exact (htl i p q a1 b).2
  have HRD := Lib.hid hm
  have HN := Lib.hid hRl
  clear hm hlen hlen2 htl hR6 hRl hkk HL
  go_wp2_with fail
  go_loopw [5, 13] (fun u i wr => ∃ j : Nat, j <= mnm /\ i = .int .i64 (j : Int) /\ Hid (Own wr W3.heap.size 9 encS 1 u ((es.take j).flatMap (fun x => [svAddr].flatMap (textM x))) /\ Below W3.heap.size W3 wr)) (fun _ i _ => mnm - (intOf i).toNat)
  case atStart => exact ⟨0, by omega, rfl, by rw [List.take_zero]; exact Own.nil _ _ _, Below.refl _ _⟩
  case round =>
   obtain ⟨j, hj, rfl, hH⟩ := hrel
   have HO := Lib.hid hH.out.1
   have HBR := Lib.hid hH.out.2
   have hbz := HBR.out.size
   clear hH
   have hvr := HV3.out.under HBR.out hgl3
   have c0 := hvr.cell 0 rfl
   have c4 := hvr.cell 4 rfl
   dsimp only at c0 c4
   have hj0 : (0 : Int) <= (j : Int) := Int.natCast_nonneg _
   by_cases hlt : j < mnm
   ·obtain ⟨y, hy⟩ : ∃ y, es[j]? = some y := ⟨_, List.getElem?_eq_getElem (by have := HN.out; omega)⟩
    obtain ⟨⟨xname, ⟨xk, xn, xs, xpl, xnl, xcl, xpm, xnm, xcm⟩⟩, hx⟩ : ∃ x, rms[j]? = some x := ⟨_, List.getElem?_eq_getElem (by omega)⟩
    have HYO := Lib.hid (HEK.out.2 j y hy)
    have HYC := Lib.hid (HMC.out j y hy)
    have HPS := Lib.hid (flat_succ (f := (fun x => [svAddr].flatMap (textM x))) hy)
    have HPM := Lib.hid (flat_mid (f := (fun x => [svAddr].flatMap (textM x))) hy)
    have HTA : Hid (∀ W, Below W3.heap.size W3 W -> TreeOf W B y ⟨xk, xn, xs, xpl, xnl, xcl, xpm, xnm, xcm⟩) := fun W hW => (HTL.out j y _ hy hx).under (hW.mono hBw3) (Nat.le_refl _)
    obtain ⟨L0, hL0⟩ : ∃ L, (es.take j).flatMap (fun x => [svAddr].flatMap (textM x)) = L := ⟨_, rfl⟩
    rw [hL0] at HO HPS HPM
    have HLZ : Hid (L0.length <= 300000) := by have := HPM.out; have := HNB.out; unfold Hid; omega
    obtain ⟨bx, ox, rfl, hbx, hcx⟩ := rd_at' (HRD.out.below (HBR.out.mono hBw3) (Nat.le_refl _)) hx
    have f0 := hcx 0 _ rfl
    have f1 := hcx 1 _ rfl
    have f2 := hcx 2 _ rfl
    have f3 := hcx 3 _ rfl
    have f4 := hcx 4 _ rfl
    have f5 := hcx 5 _ rfl
    rw [Nat.add_zero] at f0
    dsimp only at f0 f1 f2 f3 f4 f5
    have hj1 : (j : Int) < (mnm : Int) := by omega
    clear hx hy hcx hL0
    go_upto_region 30 with fail
    have hB9 : Below W3.heap.size W3 (wr.alloc (.cells #[.int .i64 xk, .int .i64 xn, .string xs, .slice xpl xnl xcl, .slice xpm xnm xcm] 25)) := HBR.out.alloc hbz _
    have hO9 := HO.out.alloc (.cells #[.int .i64 xk, .int .i64 xn, .string xs, .slice xpl xnl xcl, .slice xpm xnm xcm] 25)
    have hV9 : VAt (wr.alloc (.cells #[.int .i64 xk, .int .i64 xn, .string xs, .slice xpl xnl xcl, .slice xpm xnm xcm] 25)) wr.heap.size ⟨xk, xn, xs, xpl, xnl, xcl, xpm, xnm, xcm⟩ := heap_alloc_at rfl
    have hN9 : u5.ownBlock ≠ some wr.heap.size := fun e => by have := (HO.out.lt _ e).2; omega
    obtain ⟨g9, hg9⟩ : ∃ g, wr.heap.size = g := ⟨_, rfl⟩
    obtain ⟨W9, hW9⟩ : ∃ W, wr.alloc (.cells #[.int .i64 xk, .int .i64 xn, .string xs, .slice xpl xnl xcl, .slice xpm xnm xcm] 25) = W := ⟨_, rfl⟩
    rw [hW9] at hB9 hO9 hV9
    rw [hg9] at hV9 hN9
    try rw [hW9]
    try rw [hg9]
    have HB9 := Lib.hid hB9
    have HO9 := Lib.hid hO9
    have HV9 := Lib.hid hV9
    have HN9 := Lib.hid hN9
    have hz9 := hB9.size
    have hgl9 := hV9.lt
    obtain ⟨e0, e1, e2, e3, e4⟩ := hV9.cells5
    dsimp only at e0 e1 e2 e3 e4
    clear hW9 hg9 hB9 hO9 hV9 hN9 f0 f1 f2 f3 f4 f5 c0 c4 hvr HO HBR
    have HA1 := Lib.hid (radd2_any y ⟨xk, xn, xs, xpl, xnl, xcl, xpm, xnm, xcm⟩ svAddr u5 L0 W9 B W3.heap.size hBw3 hz9 (HTA.out W9 HB9.out) HYO.out HO9.out (by have := HLZ.out; omega))
    dsimp only [RV.val] at HA1
    unfold svAddr at HA1
    go_wp2_with (go_at_call 63; (with_reducible refine HA1.out.mono ?_); rintro e w8 ⟨v8, rfl, ho8, hb8, hk8⟩)
    have HS8 : Hid (Own w8 W3.heap.size 9 encS 1 v8 ((es.take (j + 1)).flatMap (fun x => [svAddr].flatMap (textM x))) /\ Below W3.heap.size W3 w8) := ⟨by rw [HPS.out]; simp only [List.flatMap_cons, List.flatMap_nil, List.append_nil]; exact ho8, HB9.out.trans hb8⟩
    clear ho8 hb8 hk8
    go_roundw
    case rel => exact ⟨j + 1, by omega, by go_num, HS8.out⟩
    case measure => simp [intOf]; omega
   ·obtain rfl : j = mnm := by omega
    have ho := HO.out
    have hta : es.take j = es := List.take_of_length_le (by have := HN.out; omega)
    rw [hta] at ho
    have HZ := Lib.hid (And.intro (ho.mono hw3) (HB3.out.trans (HBR.out.mono hw3)))
    clear ho hta
    go_wp2_with fail
    go_ret
    exact ⟨_, rfl, HZ.out.1, HZ.out.2⟩
 ·have q1 : (mk == 6) = false := by simpa using hk6
  have HR : Hid (es = []) := by unfold Hid; rw [HEO.out]; exact if_neg (fun e => hk6 (hkk.trans e))
  have c0 := HV3.out.cell 0 rfl
  have c4 := HV3.out.cell 4 rfl
  dsimp only at c0 c4
  obtain ⟨z, hz⟩ : ∃ b, decide ((0 : Int) < (mnm : Int)) = b := ⟨_, rfl⟩
  clear hkk hk6
  go_wp2_with fail
  go_loopw [5, 13] (fun u i wr => u = .slice none 0 0 /\ i = .int .i64 0 /\ W3 = wr) (fun _ i _ => 0)
  case atStart => exact ⟨rfl, rfl, rfl⟩
  case round =>
   obtain ⟨rfl, rfl, rfl⟩ := hrel
   clear hz z
   go_wp2_with fail
   all_goals go_ret
   all_goals exact ⟨_, rfl, by rw [HR.out]; exact Own.nil _ _ _, HB3.out⟩
theorem rtx_phone (t : JV) (r : RV) (w : World) (B : Nat) (hBw : B <= w.heap.size) (ht : TreeOf w B t r) (ot : t.Ok) (hct : countT t <= 100000) :
 Calls Tryz.prog 27 #[r.val, .string svPhone] w (OwnRet w 9 encS 1 ((eachJ t svPhones).flatMap (fun x => [svNumber].flatMap (textM x)))) := by
 obtain ⟨W0, hW0⟩ : ∃ W0, w.alloc r.obj = W0 := ⟨_, rfl⟩
 have hA0 : VAt W0 w.heap.size r := by rw [<- hW0]; exact heap_alloc_at rfl
 have hB0 : Below w.heap.size w W0 := by rw [<- hW0]; exact (Below.refl _ _).alloc (Nat.le_refl _) _
 have HC : Hid (Calls Tryz.prog 61 #[r.val, .string nameN] W0 (GetRetB W0 B (t.get nameN))) := refGetB_any t r nameN W0 B (Nat.le_trans hBw hB0.size) (ht.under (hB0.mono hBw) (Nat.le_refl _)) ot
 have hw0 := hB0.size
 have HTR : Hid (∀ W, Below w.heap.size w W -> TreeOf W B t r) := fun W hW => ht.under (hW.mono hBw) (Nat.le_refl _)
 have HEO := Lib.hid (eachJ_of t svPhones)
 have HEK := Lib.hid (eachJ_ok (name := svPhones) ot)
 have hec := eachJ_count t svPhones
 have hmc : ∀ x ∈ eachJ t svPhones, countT x <= 100000 := fun x hx => by have := countL_mem hx; omega
 have hfl : ((eachJ t svPhones).flatMap (fun x => [svNumber].flatMap (textM x))).length <= 300000 := (by have h := namedJ_len t svPhones [svNumber]; unfold namedJ at h; simp only [List.length_singleton, List.length_cons, List.length_nil] at h; omega)
 obtain ⟨es, hes⟩ : ∃ es, eachJ t svPhones = es := ⟨_, rfl⟩
 rw [hes] at HEO HEK hec hmc hfl
 rw [hes]
 have HNB := Lib.hid hfl
 have HMC : Hid (∀ (i : Nat) x, es[i]? = some x -> countT x <= 100000) := fun i x hx => hmc x (List.mem_of_getElem? hx)
 clear hes hec hmc hct hfl
 obtain ⟨k, n, s, pl, nl, cl, pm, nm, cm⟩ := r
 dsimp only [RV.val, RV.obj] at *
 have HW := Lib.hid hW0
 have HB0 := Lib.hid hB0
 unfold nameN at HC
 try unfold svPhone
 clear hW0 hB0 ht
 go_enter Tryz.func27, Tryz.ntmps27
 go_upto_region 1 with fail
 rw [HW.out]
 clear HW
 obtain ⟨a0, a1, a2, a3, a4⟩ := hA0.cells5
 have hz0 := hA0.lt
 go_upto_region 15 with (go_at_call 61; refine HC.out.mono ?_; rintro e w1 ⟨rv, bb, rfl, hbb, ht1, hb1⟩; obtain ⟨rk, rn, rS, rpl, rnl, rcl, rpm, rnm, rcm⟩ := rv)
 have hz1 := hb1.size
 have hb2 : Below W0.heap.size W0 (w1.alloc (.cells #[.int .i64 rk, .int .i64 rn, .string rS, .slice rpl rnl rcl, .slice rpm rnm rcm] 25)) := hb1.alloc hz1 _
 have hv2 : VAt (w1.alloc (.cells #[.int .i64 rk, .int .i64 rn, .string rS, .slice rpl rnl rcl, .slice rpm rnm rcm] 25)) w1.heap.size ⟨rk, rn, rS, rpl, rnl, rcl, rpm, rnm, rcm⟩ := heap_alloc_at rfl
 have ht2 := ht1.under ((Below.refl B w1).alloc (Nat.le_trans (Nat.le_trans hBw hw0) hz1) (.cells #[.int .i64 rk, .int .i64 rn, .string rS, .slice rpl rnl rcl, .slice rpm rnm rcm] 25)) (Nat.le_refl _)
 obtain ⟨g, hg⟩ : ∃ g, w1.heap.size = g := ⟨_, rfl⟩
 obtain ⟨W2, hW2⟩ : ∃ W, w1.alloc (.cells #[.int .i64 rk, .int .i64 rn, .string rS, .slice rpl rnl rcl, .slice rpm rnm rcm] 25) = W := ⟨_, rfl⟩
 rw [hW2] at hb2 hv2 ht2
 rw [hg] at hv2
 try rw [hW2]
 try rw [hg]
 obtain ⟨v0, v1, v2, v3, v4⟩ := hv2.cells5
 dsimp only at v0 v1 v2 v3 v4
 have hgl := hv2.lt
 have b0 := bcs hb2 hz0 a0
 have b1 := bcs hb2 hz0 a1
 have b2 := bcs hb2 hz0 a2
 have b3 := bcs hb2 hz0 a3
 have b4 := bcs hb2 hz0 a4
 have hbw := HB0.out.trans (hb2.mono hw0)
 have HX := Lib.hid hbw
 have hw2 := hbw.size
 have hBw2 : B <= W2.heap.size := Nat.le_trans hBw hw2
 have HT2 := Lib.hid ht2
 clear hW2 hg hb1 ht1 hb2 hv2 hz1 hbw ht2 a0 a1 a2 a3 a4 hbb
 have HTR2 := HTR.out W2 HX.out
 have HC2 : Hid (Calls Tryz.prog 61 #[.agg #[.int .i64 k, .int .i64 n, .string s, .slice pl nl cl, .slice pm nm cm], .string svPhones] W2 (GetRetB W2 B (t.get svPhones))) := refGetB_any t ⟨k, n, s, pl, nl, cl, pm, nm, cm⟩ svPhones W2 B hBw2 HTR2 ot
 unfold svPhones at HC2
 clear HTR2 v0 v1 v2 v3 v4 HT2 hgl
 have hcat : (⟨#[112, 104, 111, 110, 101]⟩ : ByteArray) ++ ⟨#[115]⟩ = ⟨#[112, 104, 111, 110, 101, 115]⟩ := by decide +kernel
 go_upto_region 26 with (go_at_call 61; (with_reducible refine HC2.out.mono ?_); rintro e w3 ⟨rv, b3', rfl, hbb, ht1, hb1⟩; obtain ⟨mk, mn, mS, mpl, mnl, mcl, mpm, mnm, mcm⟩ := rv)
 clear hcat
 obtain ⟨hkk, hss⟩ := ht1.kk
 dsimp only at hkk hss
 have hz1 := hb1.size
 have hb2 : Below W2.heap.size W2 (w3.alloc (.cells #[.int .i64 mk, .int .i64 mn, .string mS, .slice mpl mnl mcl, .slice mpm mnm mcm] 25)) := hb1.alloc hz1 _
 have hv2 : VAt (w3.alloc (.cells #[.int .i64 mk, .int .i64 mn, .string mS, .slice mpl mnl mcl, .slice mpm mnm mcm] 25)) w3.heap.size ⟨mk, mn, mS, mpl, mnl, mcl, mpm, mnm, mcm⟩ := heap_alloc_at rfl
 have ht2 := (ht1.under ((Below.refl B w3).alloc (Nat.le_trans hBw2 hz1) (.cells #[.int .i64 mk, .int .i64 mn, .string mS, .slice mpl mnl mcl, .slice mpm mnm mcm] 25)) (Nat.le_refl _)).ml
 dsimp only at ht2
 obtain ⟨g3, hg3⟩ : ∃ g, w3.heap.size = g := ⟨_, rfl⟩
 obtain ⟨W3, hW3⟩ : ∃ W, w3.alloc (.cells #[.int .i64 mk, .int .i64 mn, .string mS, .slice mpl mnl mcl, .slice mpm mnm mcm] 25) = W := ⟨_, rfl⟩
 rw [hW3] at hb2 hv2 ht2
 rw [hg3] at hv2
 try rw [hW3]
 try rw [hg3]
 have HB3 : Hid (Below w.heap.size w W3) := HX.out.trans (hb2.mono hw2)
 have hw3 := HB3.out.size
 have hBw3 : B <= W3.heap.size := Nat.le_trans hBw hw3
 have HV3 := Lib.hid hv2
 have hgl3 := hv2.lt
 have HL := Lib.hid ht2
 clear hW3 hg3 hb1 ht1 hb2 hv2 hz1 ht2 hss hbb b0 b1 b2 b3 b4 HX
 by_cases hk6 : mk = 6
 ·subst hk6
  have hR6 : es = ((t.get svPhones).getD JV.zero).m.map (·.2) := by rw [HEO.out]; exact if_pos hkk.symm
  obtain ⟨rms, hm, hlen, htl⟩ := HL.out
  have hrl : rms.length = mnm := (rd_nlen hm).symm
  have hlen2 : ((t.get svPhones).getD JV.zero).m.length = rms.length := hlen
  have hRl : es.length = mnm := by rw [hR6, List.length_map]; omega
  have hno : mnm <= 1466015503658 := by have := HEK.out.1; omega
  have HTL : Hid (∀ (i : Nat) x q, es[i]? = some x -> rms[i]? = some q -> TreeOf W3 B x q.v) := fun i x q a b => by
   rw [hR6, List.getElem?_map, Option.map_eq_some_iff] at a
   obtain ⟨p, a1, rfl⟩ := a
   exact (htl i p q a1 b).2
  have HRD := Lib.hid hm
  have HN := Lib.hid hRl
  clear hm hlen hlen2 htl hR6 hRl hkk HL
  go_wp2_with fail
  go_loopw [5, 13] (fun u i wr => ∃ j : Nat, j <= mnm /\ i = .int .i64 (j : Int) /\ Hid (Own wr W3.heap.size 9 encS 1 u ((es.take j).flatMap (fun x => [svNumber].flatMap (textM x))) /\ Below W3.heap.size W3 wr)) (fun _ i _ => mnm - (intOf i).toNat)
  case atStart => exact ⟨0, by omega, rfl, by rw [List.take_zero]; exact Own.nil _ _ _, Below.refl _ _⟩
  case round =>
   obtain ⟨j, hj, rfl, hH⟩ := hrel
   have HO := Lib.hid hH.out.1
   have HBR := Lib.hid hH.out.2
   have hbz := HBR.out.size
   clear hH
   have hvr := HV3.out.under HBR.out hgl3
   have c0 := hvr.cell 0 rfl
   have c4 := hvr.cell 4 rfl
   dsimp only at c0 c4
   have hj0 : (0 : Int) <= (j : Int) := Int.natCast_nonneg _
   by_cases hlt : j < mnm
   ·obtain ⟨y, hy⟩ : ∃ y, es[j]? = some y := ⟨_, List.getElem?_eq_getElem (by have := HN.out; omega)⟩
    obtain ⟨⟨xname, ⟨xk, xn, xs, xpl, xnl, xcl, xpm, xnm, xcm⟩⟩, hx⟩ : ∃ x, rms[j]? = some x := ⟨_, List.getElem?_eq_getElem (by omega)⟩
    have HYO := Lib.hid (HEK.out.2 j y hy)
    have HYC := Lib.hid (HMC.out j y hy)
    have HPS := Lib.hid (flat_succ (f := (fun x => [svNumber].flatMap (textM x))) hy)
    have HPM := Lib.hid (flat_mid (f := (fun x => [svNumber].flatMap (textM x))) hy)
    have HTA : Hid (∀ W, Below W3.heap.size W3 W -> TreeOf W B y ⟨xk, xn, xs, xpl, xnl, xcl, xpm, xnm, xcm⟩) := fun W hW => (HTL.out j y _ hy hx).under (hW.mono hBw3) (Nat.le_refl _)
    obtain ⟨L0, hL0⟩ : ∃ L, (es.take j).flatMap (fun x => [svNumber].flatMap (textM x)) = L := ⟨_, rfl⟩
    rw [hL0] at HO HPS HPM
    have HLZ : Hid (L0.length <= 300000) := by have := HPM.out; have := HNB.out; unfold Hid; omega
    obtain ⟨bx, ox, rfl, hbx, hcx⟩ := rd_at' (HRD.out.below (HBR.out.mono hBw3) (Nat.le_refl _)) hx
    have f0 := hcx 0 _ rfl
    have f1 := hcx 1 _ rfl
    have f2 := hcx 2 _ rfl
    have f3 := hcx 3 _ rfl
    have f4 := hcx 4 _ rfl
    have f5 := hcx 5 _ rfl
    rw [Nat.add_zero] at f0
    dsimp only at f0 f1 f2 f3 f4 f5
    have hj1 : (j : Int) < (mnm : Int) := by omega
    clear hx hy hcx hL0
    go_upto_region 30 with fail
    have hB9 : Below W3.heap.size W3 (wr.alloc (.cells #[.int .i64 xk, .int .i64 xn, .string xs, .slice xpl xnl xcl, .slice xpm xnm xcm] 25)) := HBR.out.alloc hbz _
    have hO9 := HO.out.alloc (.cells #[.int .i64 xk, .int .i64 xn, .string xs, .slice xpl xnl xcl, .slice xpm xnm xcm] 25)
    have hV9 : VAt (wr.alloc (.cells #[.int .i64 xk, .int .i64 xn, .string xs, .slice xpl xnl xcl, .slice xpm xnm xcm] 25)) wr.heap.size ⟨xk, xn, xs, xpl, xnl, xcl, xpm, xnm, xcm⟩ := heap_alloc_at rfl
    have hN9 : u5.ownBlock ≠ some wr.heap.size := fun e => by have := (HO.out.lt _ e).2; omega
    obtain ⟨g9, hg9⟩ : ∃ g, wr.heap.size = g := ⟨_, rfl⟩
    obtain ⟨W9, hW9⟩ : ∃ W, wr.alloc (.cells #[.int .i64 xk, .int .i64 xn, .string xs, .slice xpl xnl xcl, .slice xpm xnm xcm] 25) = W := ⟨_, rfl⟩
    rw [hW9] at hB9 hO9 hV9
    rw [hg9] at hV9 hN9
    try rw [hW9]
    try rw [hg9]
    have HB9 := Lib.hid hB9
    have HO9 := Lib.hid hO9
    have HV9 := Lib.hid hV9
    have HN9 := Lib.hid hN9
    have hz9 := hB9.size
    have hgl9 := hV9.lt
    obtain ⟨e0, e1, e2, e3, e4⟩ := hV9.cells5
    dsimp only at e0 e1 e2 e3 e4
    clear hW9 hg9 hB9 hO9 hV9 hN9 f0 f1 f2 f3 f4 f5 c0 c4 hvr HO HBR
    have HA1 := Lib.hid (radd2_any y ⟨xk, xn, xs, xpl, xnl, xcl, xpm, xnm, xcm⟩ svNumber u5 L0 W9 B W3.heap.size hBw3 hz9 (HTA.out W9 HB9.out) HYO.out HO9.out (by have := HLZ.out; omega))
    dsimp only [RV.val] at HA1
    unfold svNumber at HA1
    go_wp2_with (go_at_call 63; (with_reducible refine HA1.out.mono ?_); rintro e w8 ⟨v8, rfl, ho8, hb8, hk8⟩)
    have HS8 : Hid (Own w8 W3.heap.size 9 encS 1 v8 ((es.take (j + 1)).flatMap (fun x => [svNumber].flatMap (textM x))) /\ Below W3.heap.size W3 w8) := ⟨by rw [HPS.out]; simp only [List.flatMap_cons, List.flatMap_nil, List.append_nil]; exact ho8, HB9.out.trans hb8⟩
    clear ho8 hb8 hk8
    go_roundw
    case rel => exact ⟨j + 1, by omega, by go_num, HS8.out⟩
    case measure => simp [intOf]; omega
   ·obtain rfl : j = mnm := by omega
    have ho := HO.out
    have hta : es.take j = es := List.take_of_length_le (by have := HN.out; omega)
    rw [hta] at ho
    have HZ := Lib.hid (And.intro (ho.mono hw3) (HB3.out.trans (HBR.out.mono hw3)))
    clear ho hta
    go_wp2_with fail
    go_ret
    exact ⟨_, rfl, HZ.out.1, HZ.out.2⟩
 ·have q1 : (mk == 6) = false := by simpa using hk6
  have HR : Hid (es = []) := by unfold Hid; rw [HEO.out]; exact if_neg (fun e => hk6 (hkk.trans e))
  have c0 := HV3.out.cell 0 rfl
  have c4 := HV3.out.cell 4 rfl
  dsimp only at c0 c4
  obtain ⟨z, hz⟩ : ∃ b, decide ((0 : Int) < (mnm : Int)) = b := ⟨_, rfl⟩
  clear hkk hk6
  go_wp2_with fail
  go_loopw [5, 13] (fun u i wr => u = .slice none 0 0 /\ i = .int .i64 0 /\ W3 = wr) (fun _ i _ => 0)
  case atStart => exact ⟨rfl, rfl, rfl⟩
  case round =>
   obtain ⟨rfl, rfl, rfl⟩ := hrel
   clear hz z
   go_wp2_with fail
   all_goals go_ret
   all_goals exact ⟨_, rfl, by rw [HR.out]; exact Own.nil _ _ _, HB3.out⟩
theorem rtx_note (t : JV) (r : RV) (w : World) (B : Nat) (hBw : B <= w.heap.size) (ht : TreeOf w B t r) (ot : t.Ok) (hct : countT t <= 100000) :
 Calls Tryz.prog 27 #[r.val, .string svNote] w (OwnRet w 9 encS 1 ((eachJ t svNotes).flatMap (fun x => [svNote].flatMap (textM x)))) := by
 obtain ⟨W0, hW0⟩ : ∃ W0, w.alloc r.obj = W0 := ⟨_, rfl⟩
 have hA0 : VAt W0 w.heap.size r := by rw [<- hW0]; exact heap_alloc_at rfl
 have hB0 : Below w.heap.size w W0 := by rw [<- hW0]; exact (Below.refl _ _).alloc (Nat.le_refl _) _
 have HC : Hid (Calls Tryz.prog 61 #[r.val, .string nameN] W0 (GetRetB W0 B (t.get nameN))) := refGetB_any t r nameN W0 B (Nat.le_trans hBw hB0.size) (ht.under (hB0.mono hBw) (Nat.le_refl _)) ot
 have hw0 := hB0.size
 have HTR : Hid (∀ W, Below w.heap.size w W -> TreeOf W B t r) := fun W hW => ht.under (hW.mono hBw) (Nat.le_refl _)
 have HEO := Lib.hid (eachJ_of t svNotes)
 have HEK := Lib.hid (eachJ_ok (name := svNotes) ot)
 have hec := eachJ_count t svNotes
 have hmc : ∀ x ∈ eachJ t svNotes, countT x <= 100000 := fun x hx => by have := countL_mem hx; omega
 have hfl : ((eachJ t svNotes).flatMap (fun x => [svNote].flatMap (textM x))).length <= 300000 := (by have h := namedJ_len t svNotes [svNote]; unfold namedJ at h; simp only [List.length_singleton, List.length_cons, List.length_nil] at h; omega)
 obtain ⟨es, hes⟩ : ∃ es, eachJ t svNotes = es := ⟨_, rfl⟩
 rw [hes] at HEO HEK hec hmc hfl
 rw [hes]
 have HNB := Lib.hid hfl
 have HMC : Hid (∀ (i : Nat) x, es[i]? = some x -> countT x <= 100000) := fun i x hx => hmc x (List.mem_of_getElem? hx)
 clear hes hec hmc hct hfl
 obtain ⟨k, n, s, pl, nl, cl, pm, nm, cm⟩ := r
 dsimp only [RV.val, RV.obj] at *
 have HW := Lib.hid hW0
 have HB0 := Lib.hid hB0
 unfold nameN at HC
 try unfold svNote
 clear hW0 hB0 ht
 go_enter Tryz.func27, Tryz.ntmps27
 go_upto_region 1 with fail
 rw [HW.out]
 clear HW
 obtain ⟨a0, a1, a2, a3, a4⟩ := hA0.cells5
 have hz0 := hA0.lt
 go_upto_region 15 with (go_at_call 61; refine HC.out.mono ?_; rintro e w1 ⟨rv, bb, rfl, hbb, ht1, hb1⟩; obtain ⟨rk, rn, rS, rpl, rnl, rcl, rpm, rnm, rcm⟩ := rv)
 have hz1 := hb1.size
 have hb2 : Below W0.heap.size W0 (w1.alloc (.cells #[.int .i64 rk, .int .i64 rn, .string rS, .slice rpl rnl rcl, .slice rpm rnm rcm] 25)) := hb1.alloc hz1 _
 have hv2 : VAt (w1.alloc (.cells #[.int .i64 rk, .int .i64 rn, .string rS, .slice rpl rnl rcl, .slice rpm rnm rcm] 25)) w1.heap.size ⟨rk, rn, rS, rpl, rnl, rcl, rpm, rnm, rcm⟩ := heap_alloc_at rfl
 have ht2 := ht1.under ((Below.refl B w1).alloc (Nat.le_trans (Nat.le_trans hBw hw0) hz1) (.cells #[.int .i64 rk, .int .i64 rn, .string rS, .slice rpl rnl rcl, .slice rpm rnm rcm] 25)) (Nat.le_refl _)
 obtain ⟨g, hg⟩ : ∃ g, w1.heap.size = g := ⟨_, rfl⟩
 obtain ⟨W2, hW2⟩ : ∃ W, w1.alloc (.cells #[.int .i64 rk, .int .i64 rn, .string rS, .slice rpl rnl rcl, .slice rpm rnm rcm] 25) = W := ⟨_, rfl⟩
 rw [hW2] at hb2 hv2 ht2
 rw [hg] at hv2
 try rw [hW2]
 try rw [hg]
 obtain ⟨v0, v1, v2, v3, v4⟩ := hv2.cells5
 dsimp only at v0 v1 v2 v3 v4
 have hgl := hv2.lt
 have b0 := bcs hb2 hz0 a0
 have b1 := bcs hb2 hz0 a1
 have b2 := bcs hb2 hz0 a2
 have b3 := bcs hb2 hz0 a3
 have b4 := bcs hb2 hz0 a4
 have hbw := HB0.out.trans (hb2.mono hw0)
 have HX := Lib.hid hbw
 have hw2 := hbw.size
 have hBw2 : B <= W2.heap.size := Nat.le_trans hBw hw2
 have HT2 := Lib.hid ht2
 clear hW2 hg hb1 ht1 hb2 hv2 hz1 hbw ht2 a0 a1 a2 a3 a4 hbb
 have HTR2 := HTR.out W2 HX.out
 have HC2 : Hid (Calls Tryz.prog 61 #[.agg #[.int .i64 k, .int .i64 n, .string s, .slice pl nl cl, .slice pm nm cm], .string svNotes] W2 (GetRetB W2 B (t.get svNotes))) := refGetB_any t ⟨k, n, s, pl, nl, cl, pm, nm, cm⟩ svNotes W2 B hBw2 HTR2 ot
 unfold svNotes at HC2
 clear HTR2 v0 v1 v2 v3 v4 HT2 hgl
 have hcat : (⟨#[110, 111, 116, 101]⟩ : ByteArray) ++ ⟨#[115]⟩ = ⟨#[110, 111, 116, 101, 115]⟩ := by decide +kernel
 go_upto_region 26 with (go_at_call 61; (with_reducible refine HC2.out.mono ?_); rintro e w3 ⟨rv, b3', rfl, hbb, ht1, hb1⟩; obtain ⟨mk, mn, mS, mpl, mnl, mcl, mpm, mnm, mcm⟩ := rv)
 clear hcat
 obtain ⟨hkk, hss⟩ := ht1.kk
 dsimp only at hkk hss
 have hz1 := hb1.size
 have hb2 : Below W2.heap.size W2 (w3.alloc (.cells #[.int .i64 mk, .int .i64 mn, .string mS, .slice mpl mnl mcl, .slice mpm mnm mcm] 25)) := hb1.alloc hz1 _
 have hv2 : VAt (w3.alloc (.cells #[.int .i64 mk, .int .i64 mn, .string mS, .slice mpl mnl mcl, .slice mpm mnm mcm] 25)) w3.heap.size ⟨mk, mn, mS, mpl, mnl, mcl, mpm, mnm, mcm⟩ := heap_alloc_at rfl
 have ht2 := (ht1.under ((Below.refl B w3).alloc (Nat.le_trans hBw2 hz1) (.cells #[.int .i64 mk, .int .i64 mn, .string mS, .slice mpl mnl mcl, .slice mpm mnm mcm] 25)) (Nat.le_refl _)).ml
 dsimp only at ht2
 obtain ⟨g3, hg3⟩ : ∃ g, w3.heap.size = g := ⟨_, rfl⟩
 obtain ⟨W3, hW3⟩ : ∃ W, w3.alloc (.cells #[.int .i64 mk, .int .i64 mn, .string mS, .slice mpl mnl mcl, .slice mpm mnm mcm] 25) = W := ⟨_, rfl⟩
 rw [hW3] at hb2 hv2 ht2
 rw [hg3] at hv2
 try rw [hW3]
 try rw [hg3]
 have HB3 : Hid (Below w.heap.size w W3) := HX.out.trans (hb2.mono hw2)
 have hw3 := HB3.out.size
 have hBw3 : B <= W3.heap.size := Nat.le_trans hBw hw3
 have HV3 := Lib.hid hv2
 have hgl3 := hv2.lt
 have HL := Lib.hid ht2
 clear hW3 hg3 hb1 ht1 hb2 hv2 hz1 ht2 hss hbb b0 b1 b2 b3 b4 HX
 by_cases hk6 : mk = 6
 ·subst hk6
  have hR6 : es = ((t.get svNotes).getD JV.zero).m.map (·.2) := by rw [HEO.out]; exact if_pos hkk.symm
  obtain ⟨rms, hm, hlen, htl⟩ := HL.out
  have hrl : rms.length = mnm := (rd_nlen hm).symm
  have hlen2 : ((t.get svNotes).getD JV.zero).m.length = rms.length := hlen
  have hRl : es.length = mnm := by rw [hR6, List.length_map]; omega
  have hno : mnm <= 1466015503658 := by have := HEK.out.1; omega
  have HTL : Hid (∀ (i : Nat) x q, es[i]? = some x -> rms[i]? = some q -> TreeOf W3 B x q.v) := fun i x q a b => by
   rw [hR6, List.getElem?_map, Option.map_eq_some_iff] at a
   obtain ⟨p, a1, rfl⟩ := a
   exact (htl i p q a1 b).2
  have HRD := Lib.hid hm
  have HN := Lib.hid hRl
  clear hm hlen hlen2 htl hR6 hRl hkk HL
  go_wp2_with fail
  go_loopw [5, 13] (fun u i wr => ∃ j : Nat, j <= mnm /\ i = .int .i64 (j : Int) /\ Hid (Own wr W3.heap.size 9 encS 1 u ((es.take j).flatMap (fun x => [svNote].flatMap (textM x))) /\ Below W3.heap.size W3 wr)) (fun _ i _ => mnm - (intOf i).toNat)
  case atStart => exact ⟨0, by omega, rfl, by rw [List.take_zero]; exact Own.nil _ _ _, Below.refl _ _⟩
  case round =>
   obtain ⟨j, hj, rfl, hH⟩ := hrel
   have HO := Lib.hid hH.out.1
   have HBR := Lib.hid hH.out.2
   have hbz := HBR.out.size
   clear hH
   have hvr := HV3.out.under HBR.out hgl3
   have c0 := hvr.cell 0 rfl
   have c4 := hvr.cell 4 rfl
   dsimp only at c0 c4
   have hj0 : (0 : Int) <= (j : Int) := Int.natCast_nonneg _
   by_cases hlt : j < mnm
   ·obtain ⟨y, hy⟩ : ∃ y, es[j]? = some y := ⟨_, List.getElem?_eq_getElem (by have := HN.out; omega)⟩
    obtain ⟨⟨xname, ⟨xk, xn, xs, xpl, xnl, xcl, xpm, xnm, xcm⟩⟩, hx⟩ : ∃ x, rms[j]? = some x := ⟨_, List.getElem?_eq_getElem (by omega)⟩
    have HYO := Lib.hid (HEK.out.2 j y hy)
    have HYC := Lib.hid (HMC.out j y hy)
    have HPS := Lib.hid (flat_succ (f := (fun x => [svNote].flatMap (textM x))) hy)
    have HPM := Lib.hid (flat_mid (f := (fun x => [svNote].flatMap (textM x))) hy)
    have HTA : Hid (∀ W, Below W3.heap.size W3 W -> TreeOf W B y ⟨xk, xn, xs, xpl, xnl, xcl, xpm, xnm, xcm⟩) := fun W hW => (HTL.out j y _ hy hx).under (hW.mono hBw3) (Nat.le_refl _)
    obtain ⟨L0, hL0⟩ : ∃ L, (es.take j).flatMap (fun x => [svNote].flatMap (textM x)) = L := ⟨_, rfl⟩
    rw [hL0] at HO HPS HPM
    have HLZ : Hid (L0.length <= 300000) := by have := HPM.out; have := HNB.out; unfold Hid; omega
    obtain ⟨bx, ox, rfl, hbx, hcx⟩ := rd_at' (HRD.out.below (HBR.out.mono hBw3) (Nat.le_refl _)) hx
    have f0 := hcx 0 _ rfl
    have f1 := hcx 1 _ rfl
    have f2 := hcx 2 _ rfl
    have f3 := hcx 3 _ rfl
    have f4 := hcx 4 _ rfl
    have f5 := hcx 5 _ rfl
    rw [Nat.add_zero] at f0
    dsimp only at f0 f1 f2 f3 f4 f5
    have hj1 : (j : Int) < (mnm : Int) := by omega
    clear hx hy hcx hL0
    go_upto_region 30 with fail
    have hB9 : Below W3.heap.size W3 (wr.alloc (.cells #[.int .i64 xk, .int .i64 xn, .string xs, .slice xpl xnl xcl, .slice xpm xnm xcm] 25)) := HBR.out.alloc hbz _
    have hO9 := HO.out.alloc (.cells #[.int .i64 xk, .int .i64 xn, .string xs, .slice xpl xnl xcl, .slice xpm xnm xcm] 25)
    have hV9 : VAt (wr.alloc (.cells #[.int .i64 xk, .int .i64 xn, .string xs, .slice xpl xnl xcl, .slice xpm xnm xcm] 25)) wr.heap.size ⟨xk, xn, xs, xpl, xnl, xcl, xpm, xnm, xcm⟩ := heap_alloc_at rfl
    have hN9 : u5.ownBlock ≠ some wr.heap.size := fun e => by have := (HO.out.lt _ e).2; omega
    obtain ⟨g9, hg9⟩ : ∃ g, wr.heap.size = g := ⟨_, rfl⟩
    obtain ⟨W9, hW9⟩ : ∃ W, wr.alloc (.cells #[.int .i64 xk, .int .i64 xn, .string xs, .slice xpl xnl xcl, .slice xpm xnm xcm] 25) = W := ⟨_, rfl⟩
    rw [hW9] at hB9 hO9 hV9
    rw [hg9] at hV9 hN9
    try rw [hW9]
    try rw [hg9]
    have HB9 := Lib.hid hB9
    have HO9 := Lib.hid hO9
    have HV9 := Lib.hid hV9
    have HN9 := Lib.hid hN9
    have hz9 := hB9.size
    have hgl9 := hV9.lt
    obtain ⟨e0, e1, e2, e3, e4⟩ := hV9.cells5
    dsimp only at e0 e1 e2 e3 e4
    clear hW9 hg9 hB9 hO9 hV9 hN9 f0 f1 f2 f3 f4 f5 c0 c4 hvr HO HBR
    have HA1 := Lib.hid (radd2_any y ⟨xk, xn, xs, xpl, xnl, xcl, xpm, xnm, xcm⟩ svNote u5 L0 W9 B W3.heap.size hBw3 hz9 (HTA.out W9 HB9.out) HYO.out HO9.out (by have := HLZ.out; omega))
    dsimp only [RV.val] at HA1
    unfold svNote at HA1
    go_wp2_with (go_at_call 63; (with_reducible refine HA1.out.mono ?_); rintro e w8 ⟨v8, rfl, ho8, hb8, hk8⟩)
    have HS8 : Hid (Own w8 W3.heap.size 9 encS 1 v8 ((es.take (j + 1)).flatMap (fun x => [svNote].flatMap (textM x))) /\ Below W3.heap.size W3 w8) := ⟨by rw [HPS.out]; simp only [List.flatMap_cons, List.flatMap_nil, List.append_nil]; exact ho8, HB9.out.trans hb8⟩
    clear ho8 hb8 hk8
    go_roundw
    case rel => exact ⟨j + 1, by omega, by go_num, HS8.out⟩
    case measure => simp [intOf]; omega
   ·obtain rfl : j = mnm := by omega
    have ho := HO.out
    have hta : es.take j = es := List.take_of_length_le (by have := HN.out; omega)
    rw [hta] at ho
    have HZ := Lib.hid (And.intro (ho.mono hw3) (HB3.out.trans (HBR.out.mono hw3)))
    clear ho hta
    go_wp2_with fail
    go_ret
    exact ⟨_, rfl, HZ.out.1, HZ.out.2⟩
 ·have q1 : (mk == 6) = false := by simpa using hk6
  have HR : Hid (es = []) := by unfold Hid; rw [HEO.out]; exact if_neg (fun e => hk6 (hkk.trans e))
  have c0 := HV3.out.cell 0 rfl
  have c4 := HV3.out.cell 4 rfl
  dsimp only at c0 c4
  obtain ⟨z, hz⟩ : ∃ b, decide ((0 : Int) < (mnm : Int)) = b := ⟨_, rfl⟩
  clear hkk hk6
  go_wp2_with fail
  go_loopw [5, 13] (fun u i wr => u = .slice none 0 0 /\ i = .int .i64 0 /\ W3 = wr) (fun _ i _ => 0)
  case atStart => exact ⟨rfl, rfl, rfl⟩
  case round =>
   obtain ⟨rfl, rfl, rfl⟩ := hrel
   clear hz z
   go_wp2_with fail
   all_goals go_ret
   all_goals exact ⟨_, rfl, by rw [HR.out]; exact Own.nil _ _ _, HB3.out⟩
end
end Go.Proofs.YtffhccmppdgmfaaGreatDoor
