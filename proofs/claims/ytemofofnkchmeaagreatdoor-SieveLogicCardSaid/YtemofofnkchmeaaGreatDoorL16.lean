import Derived.Test.YtemofofnkchmeaaGreatDoorL13
import Derived.Test.YtemofofnkchmeaaGreatDoorL11
set_option linter.unusedSimpArgs false
set_option linter.unusedVariables false
set_option maxRecDepth 200000
set_option maxHeartbeats 8000000
namespace Go.Proofs.YtemofofnkchmeaaGreatDoor
open _root_.Nat renaming le_refl->yd,le_trans->yg
open _root_.Go.Proofs.Tryz renaming prog->ye
section
open Go Go.RowKit Go.OpenShut
theorem zl5(a b:List UInt8):-1<=zc5 a b/\zc5 a b<=1:=by
 unfold zc5
 split
 ·exact zet _ _
 ·decide
 ·decide
 ·split
  ·decide
  ·split
   ·decide
   ·exact zet _ _
theorem zku{t:JV}(h:t.Ok){name x:ByteArray}(hx:x∈zj t name):x.size<=maxLen:=by
 unfold zj at hx;cases hg:t.get name with
 |none=>rw[hg]at hx;cases hx
 | some v =>
   rw[hg]at hx;dsimp only at hx;have:=(h.get hg).s_le.1
   split at hx
   ·rw[List.mem_singleton]at hx;subst hx;unfold maxLen;omega
   ·cases hx
theorem zj4{l:List ByteArray}(h:∀x∈l,x.size<=maxLen):(l.headD ⟨#[]⟩).size<=maxLen:=by
 cases l with
 |nil=>exact Nat.zero_le _
 |cons a r=>exact h a (List.mem_cons_self ..)
theorem zgN{t:JV}(h:t.Ok)(p:ByteArray):(zca t p).size<=maxLen:=by
 unfold zca
 split
 ·exact zj4 (fun x hx=>zku h hx)
 ·refine zj4 (fun x hx=> ?_)
  have hx:x∈zbP (zba t) (p.extract 5 p.size):=hx;rw[ze0]at hx;unfold zcU at hx;obtain⟨c,hc,hxc⟩:=List.mem_flatMap.1 hx;obtain⟨i,hi⟩:=List.mem_iff_getElem?.1 (List.mem_filter.1 hc).1;exact zku ((zj6 (zhm h)).2 i c hi) hxc
theorem zmD(p:ByteArray)(dn:Bool)(hp:zby p=true\/p=zbg\/p=zcj\/p=zbO)(t u:JV)(r q:RV)(w:World)(B:Nat)(hBw:B<=w.heap.size)(ht:TreeOf w B t r)(ot:t.Ok)(hu:TreeOf w B u q)(ou:u.Ok):
 Calls ye 315 #[.agg #[.string p,.bool dn],r.val,q.val] w fun e w'=>e= .returned (.int .i64 (zeI ⟨p,dn⟩ t u))/\Below w.heap.size w w':=by
 obtain⟨W0,hW0⟩:∃W0,((w.alloc (.cells #[.string p,.bool dn] 218)).alloc r.obj).alloc q.obj=W0:=⟨_,rfl⟩;have hC0:W0.heap[w.heap.size]? =some (.cells #[.string p,.bool dn] 218 (0,0)):=by rw[<-hW0];exact zb (by simp;omega) (zb (by simp) (za rfl))
 have hA0:VAt W0 (w.heap.size+1) r:=by rw[<-hW0];exact zb (by simp) (za (by simp))
 have hQ0:VAt W0 (w.heap.size+2) q:=by rw[<-hW0];exact za (by simp)
 have hB0:Below w.heap.size w W0:=by rw[<-hW0];exact(zM w _ _).alloc (by simp;omega) _
 have hc0:W0.cell? ⟨w.heap.size,0,none⟩=some (.string p):=(cell_of_row _ w.heap.size 0 _ _ _ hC0).trans rfl;have hc1:W0.cell? ⟨w.heap.size,1,none⟩=some (.bool dn):=(cell_of_row _ w.heap.size 1 _ _ _ hC0).trans rfl;have hl0:=hQ0.lt;have HDT:Hid (∀W,Calls ye 317 #[.agg #[.string p,.bool dn]] W fun e w'=>e= .returned (.bool (zby p))/\Below W.heap.size W w'):=fun W=>ziR p dn W
 have ht0:TreeOf W0 B t r:=ht.under (hB0.mono hBw) (yd _);have hu0:TreeOf W0 B u q:=hu.under (hB0.mono hBw) (yd _);have hw0:=hB0.size;have HKA:Hid (∀W,Below W0.heap.size W0 W->Calls ye 318 #[.agg #[.string p,.bool dn],r.val] W fun e w'=>e= .returned (.string (zca t p))/\Below W.heap.size W w'):=fun W hW=>zlC p dn hp t r W B (yg (yg hBw hw0) hW.size) (ht0.under (hW.mono (yg hBw hw0)) (yd _)) ot
 have HKB:Hid (∀W,Below W0.heap.size W0 W->Calls ye 318 #[.agg #[.string p,.bool dn],q.val] W fun e w'=>e= .returned (.string (zca u p))/\Below W.heap.size W w'):=fun W hW=>zlC p dn hp u q W B (yg (yg hBw hw0) hW.size) (hu0.under (hW.mono (yg hBw hw0)) (yd _)) ou
 have HS:Hid (∀W,Calls ye 204 #[.string (zca t p),.string (zca u p)] W fun e w'=>e= .returned (.int .i64 (zc5 (zca t p).data.toList (zca u p).data.toList))/\Below W.heap.size W w'):=fun W=>zi7 _ _ W (zgN ot p) (zgN ou p)
 have HF:Hid (∀W,Calls ye 316 #[.string (zca t p),.string (zca u p)] W fun e w'=>e= .returned (.int .i64 (Go.Lib.compareBytes (zN (zca t p).data.toList) (zN (zca u p).data.toList)))/\Below W.heap.size W w'):=fun W=>znv _ _ W (zgN ot p) (zgN ou p)
 obtain⟨nn,hnn⟩:∃n,(if zby p then zc5 (zca t p).data.toList (zca u p).data.toList else Go.Lib.compareBytes (zN (zca t p).data.toList) (zN (zca u p).data.toList))=n:=⟨_,rfl⟩
 have hnb:-1<=nn/\nn<=1:=by
  rw[<-hnn]
  split
  ·exact zl5 _ _
  ·exact zet _ _
 have HK:Hid (zeI ⟨p,dn⟩ t u=if dn then-nn else nn):=by
  unfold Hid zeI;rw[<-hnn];unfold zca;cases zby p<;>rfl
 obtain⟨R,hR⟩:∃R,zeI ⟨p,dn⟩ t u=R:=⟨_,rfl⟩;rw[hR]at HK;rw[hR];obtain⟨X,hX⟩:∃X,zca t p=X:=⟨_,rfl⟩;obtain⟨Y,hY⟩:∃X,zca u p=X:=⟨_,rfl⟩;rw[hX]at HKA HS HF hnn;rw[hY]at HKB HS HF hnn;obtain⟨k,n,s,pl,nl,cl,pm,nm,cm⟩:=r;obtain⟨qk,qn,qs,qpl,qnl,qcl,qpm,qnm,qcm⟩:=q;dsimp only[RV.val,RV.obj]at*;have HW:=Lib.hid hW0;have HB0:=Lib.hid hB0;obtain⟨n0,n1⟩:=hnb;clear hW0 hB0 ht ot hu ou hR hC0 hp ht0 hu0 hX hY;cases hd:zby p with
 | true =>
   rw[hd]at HDT hnn;rw[if_pos rfl]at hnn;rw[hnn]at HS;clear HF hnn hd;have h00:w.heap.size<W0.heap.size:=by omega
   have hw1:w.heap.size+1<W0.heap.size:=by omega
   cases dn
   all_goals
    go_enter Tryz.func315,Tryz.ntmps315
    go_upto_region 2 with fail
    rw[HW.out];clear HW
    go_upto_region 5 with(go_at_call 317;refine(HDT.out _).mono ?_;rintro e w1 ⟨rfl,hb1⟩;(have d0:=zc hb1 h00 hc0);(have d1:=zc hb1 h00 hc1))
    have hA1:=hA0.under hb1 hw1;have hQ1:=hQ0.under hb1 hl0;obtain⟨a0,a1,a2,a3,a4⟩:=hA1.cells5;obtain⟨b0,b1,b2,b3,b4⟩:=hQ1.cells5;have hz1:=hb1.size;have hlq:w.heap.size+2<w1.heap.size:=hQ1.lt
    go_cut [9]from 14 to 21 (fun v wq=>v= .int .i64 nn/\Below w1.heap.size w1 wq)
    case first=>
     go_region_with (first
      |(go_at_call 318;(have HK1:=HKA.out w1.drew hb1.drew);(with_reducible refine HK1.mono ?_);rintro e w2 ⟨rfl,hb2⟩;(have hQ2:VAt w2 (w.heap.size+2) ⟨qk,qn,qs,qpl,qnl,qcl,qpm,qnm,qcm⟩:=VAt.under (W:=w1.drew) hQ1 hb2 hlq);(obtain⟨f0,f1,f2,f3,f4⟩:=hQ2.cells5);dsimp only at f0 f1 f2 f3 f4)
      |(go_at_call 318;(have HK1:=HKA.out w1 hb1);(with_reducible refine HK1.mono ?_);rintro e w2 ⟨rfl,hb2⟩)
      |(go_at_call 318;(have HK2:=HKB.out w2 (hb1.drew.trans (hb2.mono hz1)));(with_reducible refine HK2.mono ?_);rintro e w3 ⟨rfl,hb3⟩)
      |(go_at_call 204;(with_reducible refine(HS.out _).mono ?_);rintro e w4 ⟨rfl,hb4⟩)
      |fail)
     all_goals
      first
       |go_meet
       |(go_wp2_with fail;go_meet)
      have hz2:w1.heap.size<=w2.heap.size:=hb2.size;have hz3:w2.heap.size<=w3.heap.size:=hb3.size;have hbb:Below w1.heap.size w1 w2:=(Below.refl _ _).drew.trans hb2;exact⟨rfl,(hbb.trans (hb3.mono hz2)).trans (hb4.mono (yg hz2 hz3))⟩
    case rest=>
    obtain⟨rfl,hbc⟩:=hcut;have g1:=zc hbc (by omega) d1
    go_wp2_with fail
    go_ret;exact⟨by rw[HK.out];rfl,HB0.out.trans ((hb1.trans (hbc.mono hz1)).mono hw0)⟩
 | false =>
   rw[hd]at HDT hnn;rw[if_neg (by decide)]at hnn
   rw[hnn]at HF;clear HS hnn hd;have h00:w.heap.size<W0.heap.size:=by omega
   have hw1:w.heap.size+1<W0.heap.size:=by omega
   cases dn
   all_goals
    go_enter Tryz.func315,Tryz.ntmps315
    go_upto_region 2 with fail
    rw[HW.out];clear HW
    go_upto_region 5 with(go_at_call 317;refine(HDT.out _).mono ?_;rintro e w1 ⟨rfl,hb1⟩;(have d0:=zc hb1 h00 hc0);(have d1:=zc hb1 h00 hc1))
    have hA1:=hA0.under hb1 hw1;have hQ1:=hQ0.under hb1 hl0;obtain⟨a0,a1,a2,a3,a4⟩:=hA1.cells5;obtain⟨b0,b1,b2,b3,b4⟩:=hQ1.cells5;have hz1:=hb1.size;have hlq:w.heap.size+2<w1.heap.size:=hQ1.lt
    go_cut [9]from 14 to 21 (fun v wq=>v= .int .i64 nn/\Below w1.heap.size w1 wq)
    case first=>
     go_region_with (first
      |(go_at_call 318;(have HK1:=HKA.out w1.drew hb1.drew);(with_reducible refine HK1.mono ?_);rintro e w2 ⟨rfl,hb2⟩;(have hQ2:VAt w2 (w.heap.size+2) ⟨qk,qn,qs,qpl,qnl,qcl,qpm,qnm,qcm⟩:=VAt.under (W:=w1.drew) hQ1 hb2 hlq);(obtain⟨f0,f1,f2,f3,f4⟩:=hQ2.cells5);dsimp only at f0 f1 f2 f3 f4)
      |(go_at_call 318;(have HK1:=HKA.out w1 hb1);(with_reducible refine HK1.mono ?_);rintro e w2 ⟨rfl,hb2⟩)
      |(go_at_call 318;(have HK2:=HKB.out w2 (hb1.drew.trans (hb2.mono hz1)));(with_reducible refine HK2.mono ?_);rintro e w3 ⟨rfl,hb3⟩)
      |(go_at_call 316;(with_reducible refine(HF.out _).mono ?_);rintro e w4 ⟨rfl,hb4⟩)
      |fail)
     all_goals
      first
       |go_meet
       |(go_wp2_with fail;go_meet)
      have hz2:w1.heap.size<=w2.heap.size:=hb2.size;have hz3:w2.heap.size<=w3.heap.size:=hb3.size;have hbb:Below w1.heap.size w1 w2:=(Below.refl _ _).drew.trans hb2;exact⟨rfl,(hbb.trans (hb3.mono hz2)).trans (hb4.mono (yg hz2 hz3))⟩
    case rest=>
    obtain⟨rfl,hbc⟩:=hcut;have g1:=zc hbc (by omega) d1
    go_wp2_with fail
    go_ret;exact⟨by rw[HK.out];rfl,HB0.out.trans ((hb1.trans (hbc.mono hz1)).mono hw0)⟩
end
end Go.Proofs.YtemofofnkchmeaaGreatDoor
