import Derived.Test.YtemofofnkchmeaaGreatDoorL18
import Derived.Test.YtemofofnkchmeaaGreatDoorL11
set_option linter.unusedSimpArgs false
set_option linter.unusedVariables false
set_option maxRecDepth 200000
set_option maxHeartbeats 8000000
namespace Go.Proofs.YtemofofnkchmeaaGreatDoor
open _root_.Go.RowKit.Below renaming refl->yh
open _root_.Int renaming natCast_nonneg->yj
open _root_.Go.Lib renaming hid->yc
open _root_.List renaming append_assoc->yV,getElem?_eq_getElem->yf,length_append->yp,mem_of_getElem?->ym,take_of_length_le->yq,take_zero->yM
open _root_.Nat renaming add_zero->yw,le_refl->yd,le_trans->yg
open _root_.Go.Proofs.Tryz renaming prog->ye
section
open Go Go.RowKit Go.OpenShut
theorem zpV(t:JV)(r:RV)(w:World)(B:Nat)(hBw:B<=w.heap.size)(ht:TreeOf w B t r)(ot:t.Ok)(hct:zf t<=100000):
 Calls ye 29 #[r.val,.string zX] w (zD w 9 zg 1 ((zY t zbS).flatMap zbn)):=by
 obtain⟨W0,hW0⟩:∃W0,w.alloc r.obj=W0:=⟨_,rfl⟩;have hA0:VAt W0 w.heap.size r:=by rw[<-hW0];exact za rfl
 have hB0:Below w.heap.size w W0:=by rw[<-hW0];exact(yh _ _).alloc (yd _) _
 have HC:Hid (Calls ye 62 #[r.val,.string zh] W0 (zV W0 B (t.get zh))):=zT t r zh W0 B (yg hBw hB0.size) (ht.under (hB0.mono hBw) (yd _)) ot;have hw0:=hB0.size;have HTR:Hid (∀W,Below w.heap.size w W->TreeOf W B t r):=fun W hW=>ht.under (hW.mono hBw) (yd _)
 have HE:Hid (∀W,Below w.heap.size w W->Calls ye 66 #[r.val,.string zbS] W (zjz W B (zY t zbS))):=fun W hW=>zhc t r zbS W B (yg hBw hW.size) (HTR.out W hW) ot
 have HEK:=yc (zfH (name:=zbS) ot);have hfc:=zeu zf0 (zY t zbS);have hec:=zdr t zbS;have hmc:∀x∈zY t zbS,zf x<=100000:=fun x hx=>by have:=zfC hx;omega
 obtain⟨es,hes⟩:∃es,zY t zbS=es:=⟨_,rfl⟩;rw[hes]at HE HEK hfc hec hmc;rw[hes];have HNB:Hid ((es.flatMap zbn).length<=100000):=by unfold Hid;omega
 have HMC:Hid (∀(i:Nat) x,es[i]? =some x->zf x<=100000):=fun i x hx=>hmc x (ym hx)
 clear hes hfc hec hmc hct;obtain⟨k,n,s,pl,nl,cl,pm,nm,cm⟩:=r;dsimp only[RV.val,RV.obj]at*;have HW:=yc hW0;have HB0:=yc hB0;unfold zh at HC
 try unfold zX at*
 try unfold zbS at*
 clear hW0 hB0 ht
 go_enter Tryz.func29,Tryz.ntmps29
 go_upto_region 1 with fail
 rw[HW.out];clear HW;obtain⟨a0,a1,a2,a3,a4⟩:=hA0.cells5;have hz0:=hA0.lt
 go_upto_region 3 with(go_at_call 62;refine HC.out.mono ?_;rintro e w1 ⟨rv,bb,rfl,hbb,ht1,hb1⟩;obtain⟨rk,rn,rS,rpl,rnl,rcl,rpm,rnm,rcm⟩:=rv)
 have hz1:=hb1.size;have hb2:Below W0.heap.size W0 (w1.alloc (.cells #[.int .i64 rk,.int .i64 rn,.string rS,.slice rpl rnl rcl,.slice rpm rnm rcm] 25)):=hb1.alloc hz1 _;have hv2:VAt (w1.alloc (.cells #[.int .i64 rk,.int .i64 rn,.string rS,.slice rpl rnl rcl,.slice rpm rnm rcm] 25)) w1.heap.size ⟨rk,rn,rS,rpl,rnl,rcl,rpm,rnm,rcm⟩:=za rfl;have ht2:=ht1.under ((yh B w1).alloc (yg (yg hBw hw0) hz1) (.cells #[.int .i64 rk,.int .i64 rn,.string rS,.slice rpl rnl rcl,.slice rpm rnm rcm] 25)) (yd _);obtain⟨g,hg⟩:∃g,w1.heap.size=g:=⟨_,rfl⟩;obtain⟨W2,hW2⟩:∃W,w1.alloc (.cells #[.int .i64 rk,.int .i64 rn,.string rS,.slice rpl rnl rcl,.slice rpm rnm rcm] 25)=W:=⟨_,rfl⟩;rw[hW2]at hb2 hv2 ht2;rw[hg]at hv2
 try rw[hW2]
 try rw[hg]
 obtain⟨v0,v1,v2,v3,v4⟩:=hv2.cells5;dsimp only at v0 v1 v2 v3 v4;have b0:=zc hb2 hz0 a0;have b1:=zc hb2 hz0 a1;have b2:=zc hb2 hz0 a2;have b3:=zc hb2 hz0 a3;have b4:=zc hb2 hz0 a4;have hbw:=HB0.out.trans (hb2.mono hw0);have HX:=yc hbw;have hw2:=hbw.size;have hBw2:B<=W2.heap.size:=yg hBw hw2;have HT2:=yc ht2;clear hW2 hg hb1 ht1 hb2 hv2 hz1 hbw ht2 a0 a1 a2 a3 a4 hbb;have HEC:=yc (HE.out _ HX.out)
 try dsimp only[RV.val]at HEC
 go_wp2_with (go_at_call 66;(with_reducible refine HEC.out.mono ?_);rintro e w1 ⟨v9,rs,rfl,ho,hlen,htl,hb1⟩;obtain⟨p9,n9,c9,rfl⟩:∃p n c,v9=Value.slice p n c:=by(obtain⟨p,c,h,_,_⟩:=ho.len;exact⟨p,_,c,h⟩))
 have hr:Rd w1 w1.heap.size zbc 5 (.slice p9 n9 c9) rs:=ho.rd zb8;have hrl:rs.length=n9:=(zi hr).symm;have HN:Hid (es.length=n9):=by unfold Hid;omega
 have hno:n9<=1466015503658:=by have:=HEK.out.1;have:=HN.out;omega
 have HTL:=yc htl;have HRD:=yc hr;have hbw1:=HX.out.trans (hb1.mono hw2);have HBW:=yc hbw1;have hw1:=hbw1.size;have hBw1:B<=w1.heap.size:=yg hBw hw1;clear hr htl hb1 hbw1 hlen ho b0 b1 b2 b3 b4 v0 v1 v2 v3 v4 HEC HE
 go_loopw [7,85] (fun u i wr=>∃j:Nat,j<=n9/\i= .int .i64 (j:Int)/\Hid (Own wr w1.heap.size 9 zg 1 u ((es.take j).flatMap zbn)/\Below w1.heap.size w1 wr)) (fun _ i _=>n9-(intOf i).toNat)
 case atStart=>exact⟨0,by omega,rfl,by rw[yM];exact Own.nil _ _ _,yh _ _⟩
 case round=>
  obtain⟨j,hj,rfl,hH⟩:=hrel;have HO:=yc hH.out.1;have HBR:=yc hH.out.2;clear hH;have hj0:(0:Int)<=(j:Int):=yj _;by_cases hlt:j<n9
  ·obtain⟨y,hy⟩:∃y,es[j]? =some y:=⟨_,yf (by have:=HN.out;omega)⟩
   obtain⟨⟨xk,xn,xs,xpl,xnl,xcl,xpm,xnm,xcm⟩,hx⟩:∃x,rs[j]? =some x:=⟨_,yf (by omega)⟩
   have HYO:=yc (HEK.out.2 j y hy);have HYC:=yc (HMC.out j y hy);have HPS:=yc (zbk (f:=zbn) hy);have HPM:=yc (zbH (f:=zbn) hy);have HTA:Hid (∀W,Below w1.heap.size w1 W->TreeOf W B y ⟨xk,xn,xs,xpl,xnl,xcl,xpm,xnm,xcm⟩):=fun W hW=>(HTL.out j y _ hy hx).under (hW.mono hBw1) (yd _)
   obtain⟨L0,hL0⟩:∃L,(es.take j).flatMap zbn=L:=⟨_,rfl⟩;rw[hL0]at HO HPS HPM;obtain⟨bx,ox,rfl,hbx,hcx⟩:=zq (HRD.out.below HBR.out HBR.out.size) hx;have f0:=hcx 0 _ rfl;have f1:=hcx 1 _ rfl;have f2:=hcx 2 _ rfl;have f3:=hcx 3 _ rfl;have f4:=hcx 4 _ rfl;rw[yw]at f0;dsimp only at f0 f1 f2 f3 f4;have hj1:(j:Int)<(n9:Int):=by omega
   have hbz:=HBR.out.size;clear hx hy hcx hL0
   go_upto_region 33 with fail
   have hB9:Below w1.heap.size w1 (wr.alloc (.cells #[.int .i64 xk,.int .i64 xn,.string xs,.slice xpl xnl xcl,.slice xpm xnm xcm] 25)):=HBR.out.alloc hbz _;have hO9:=HO.out.alloc (.cells #[.int .i64 xk,.int .i64 xn,.string xs,.slice xpl xnl xcl,.slice xpm xnm xcm] 25);have hV9:VAt (wr.alloc (.cells #[.int .i64 xk,.int .i64 xn,.string xs,.slice xpl xnl xcl,.slice xpm xnm xcm] 25)) wr.heap.size ⟨xk,xn,xs,xpl,xnl,xcl,xpm,xnm,xcm⟩:=za rfl;have hN9:u7.ownBlock≠some wr.heap.size:=fun e=>by have:=(HO.out.lt _ e).2;omega
   obtain⟨g9,hg9⟩:∃g,wr.heap.size=g:=⟨_,rfl⟩;obtain⟨W9,hW9⟩:∃W,wr.alloc (.cells #[.int .i64 xk,.int .i64 xn,.string xs,.slice xpl xnl xcl,.slice xpm xnm xcm] 25)=W:=⟨_,rfl⟩;rw[hW9]at hB9 hO9 hV9;rw[hg9]at hV9 hN9
   try rw[hW9]
   try rw[hg9]
   have HB9:=yc hB9;have HO9:=yc hO9;have HV9:=yc hV9;have HN9:=yc hN9;have hz9:=hB9.size;have hgl9:=hV9.lt;obtain⟨e0,e1,e2,e3,e4⟩:=hV9.cells5;dsimp only at e0 e1 e2 e3 e4;clear hW9 hg9 hB9 hO9 hV9 hN9 f0 f1 f2 f3 f4 HO HBR;have HWH:=yc (zjh y ⟨xk,xn,xs,xpl,xnl,xcl,xpm,xnm,xcm⟩ W9 B (yg hBw1 hz9) (HTA.out W9 HB9.out) HYO.out HYC.out);dsimp only[RV.val]at HWH;obtain⟨LF,hLF⟩:∃L,zbn y=L:=⟨_,rfl⟩;rw[hLF]at HWH HPS HPM
   have HLN:Hid (L0.length+LF.length<=maxLen/\(L0.length+LF.length)*16<=140737488355328):=by
    have h1:=HPM.out;have h2:=HNB.out;exact⟨by unfold maxLen;omega,by omega⟩
   clear hLF
   go_wp2_with (first
    |(go_at_call 63;(with_reducible refine HWH.out.mono ?_);rintro e w2 ⟨u2,rfl,ho2,hb2⟩;(have ho3:=HO9.out.below hb2 (yd _));(have hz2:w1.heap.size<=w2.heap.size:=yg hz9 hb2.size))
    |(at_builtin;refine zk slS zn w2 rfl (.tmp 89) (.tmp 91) rfl (v:=u7) rfl rfl ho3 (ho2.rd zn) HLN.out.1 HLN.out.2 hz2 ?_;intro v8 w8 ho8 hg8 hat8)
    |fail)
   have HS8:Hid (Own w8 w1.heap.size 9 zg 1 v8 ((es.take (j+1)).flatMap zbn)/\Below w1.heap.size w1 w8):=⟨by rw[HPS.out];exact ho8,Below.appended (HB9.out.trans (hb2.mono hz9)) hg8 ho3 hz2⟩
   clear ho8 hg8 hat8 ho2 ho3 hb2
   go_roundw
   case rel=>exact⟨j+1,by omega,by go_num,HS8.out⟩
   case measure=>simp[intOf];omega
  ·obtain rfl:j=n9:=by omega
   have ho:=HO.out;have hta:es.take j=es:=yq (by have:=HN.out;omega)
   rw[hta]at ho;have HZ:=yc (And.intro (ho.mono hw1) (HBW.out.trans (HBR.out.mono hw1)));clear ho hta
   go_wp2_with fail
   go_ret;exact⟨_,rfl,HZ.out.1,HZ.out.2⟩
theorem zrh(t:JV)(r:RV)(w:World)(B:Nat)(hBw:B<=w.heap.size)(ht:TreeOf w B t r)(ot:t.Ok)(hct:zf t<=100000):
 Calls ye 29 #[r.val,.string zdw] w (zD w 9 zg 1 ((zY t zcr).flatMap zdQ)):=by
 obtain⟨W0,hW0⟩:∃W0,w.alloc r.obj=W0:=⟨_,rfl⟩;have hA0:VAt W0 w.heap.size r:=by rw[<-hW0];exact za rfl
 have hB0:Below w.heap.size w W0:=by rw[<-hW0];exact(yh _ _).alloc (yd _) _
 have HC:Hid (Calls ye 62 #[r.val,.string zh] W0 (zV W0 B (t.get zh))):=zT t r zh W0 B (yg hBw hB0.size) (ht.under (hB0.mono hBw) (yd _)) ot;have hw0:=hB0.size;have HTR:Hid (∀W,Below w.heap.size w W->TreeOf W B t r):=fun W hW=>ht.under (hW.mono hBw) (yd _)
 have HE:Hid (∀W,Below w.heap.size w W->Calls ye 66 #[r.val,.string zcr] W (zjz W B (zY t zcr))):=fun W hW=>zhc t r zcr W B (yg hBw hW.size) (HTR.out W hW) ot
 have HEK:=yc (zfH (name:=zcr) ot);have hfc:=zeu zkj (zY t zcr);have hec:=zdr t zcr;have hmc:∀x∈zY t zcr,zf x<=100000:=fun x hx=>by have:=zfC hx;omega
 obtain⟨es,hes⟩:∃es,zY t zcr=es:=⟨_,rfl⟩;rw[hes]at HE HEK hfc hec hmc;rw[hes];have HNB:Hid ((es.flatMap zdQ).length<=100000):=by unfold Hid;omega
 have HMC:Hid (∀(i:Nat) x,es[i]? =some x->zf x<=100000):=fun i x hx=>hmc x (ym hx)
 clear hes hfc hec hmc hct;obtain⟨k,n,s,pl,nl,cl,pm,nm,cm⟩:=r;dsimp only[RV.val,RV.obj]at*;have HW:=yc hW0;have HB0:=yc hB0;unfold zh at HC
 try unfold zdw at*
 try unfold zcr at*
 clear hW0 hB0 ht
 go_enter Tryz.func29,Tryz.ntmps29
 go_upto_region 1 with fail
 rw[HW.out];clear HW;obtain⟨a0,a1,a2,a3,a4⟩:=hA0.cells5;have hz0:=hA0.lt
 go_upto_region 3 with(go_at_call 62;refine HC.out.mono ?_;rintro e w1 ⟨rv,bb,rfl,hbb,ht1,hb1⟩;obtain⟨rk,rn,rS,rpl,rnl,rcl,rpm,rnm,rcm⟩:=rv)
 have hz1:=hb1.size;have hb2:Below W0.heap.size W0 (w1.alloc (.cells #[.int .i64 rk,.int .i64 rn,.string rS,.slice rpl rnl rcl,.slice rpm rnm rcm] 25)):=hb1.alloc hz1 _;have hv2:VAt (w1.alloc (.cells #[.int .i64 rk,.int .i64 rn,.string rS,.slice rpl rnl rcl,.slice rpm rnm rcm] 25)) w1.heap.size ⟨rk,rn,rS,rpl,rnl,rcl,rpm,rnm,rcm⟩:=za rfl;have ht2:=ht1.under ((yh B w1).alloc (yg (yg hBw hw0) hz1) (.cells #[.int .i64 rk,.int .i64 rn,.string rS,.slice rpl rnl rcl,.slice rpm rnm rcm] 25)) (yd _);obtain⟨g,hg⟩:∃g,w1.heap.size=g:=⟨_,rfl⟩;obtain⟨W2,hW2⟩:∃W,w1.alloc (.cells #[.int .i64 rk,.int .i64 rn,.string rS,.slice rpl rnl rcl,.slice rpm rnm rcm] 25)=W:=⟨_,rfl⟩;rw[hW2]at hb2 hv2 ht2;rw[hg]at hv2
 try rw[hW2]
 try rw[hg]
 obtain⟨v0,v1,v2,v3,v4⟩:=hv2.cells5;dsimp only at v0 v1 v2 v3 v4;have b0:=zc hb2 hz0 a0;have b1:=zc hb2 hz0 a1;have b2:=zc hb2 hz0 a2;have b3:=zc hb2 hz0 a3;have b4:=zc hb2 hz0 a4;have hbw:=HB0.out.trans (hb2.mono hw0);have HX:=yc hbw;have hw2:=hbw.size;have hBw2:B<=W2.heap.size:=yg hBw hw2;have HT2:=yc ht2;clear hW2 hg hb1 ht1 hb2 hv2 hz1 hbw ht2 a0 a1 a2 a3 a4 hbb;have HEC:=yc (HE.out _ HX.out)
 try dsimp only[RV.val]at HEC
 go_wp2_with (go_at_call 66;(with_reducible refine HEC.out.mono ?_);rintro e w1 ⟨v9,rs,rfl,ho,hlen,htl,hb1⟩;obtain⟨p9,n9,c9,rfl⟩:∃p n c,v9=Value.slice p n c:=by(obtain⟨p,c,h,_,_⟩:=ho.len;exact⟨p,_,c,h⟩))
 have hr:Rd w1 w1.heap.size zbc 5 (.slice p9 n9 c9) rs:=ho.rd zb8;have hrl:rs.length=n9:=(zi hr).symm;have HN:Hid (es.length=n9):=by unfold Hid;omega
 have hno:n9<=1466015503658:=by have:=HEK.out.1;have:=HN.out;omega
 have HTL:=yc htl;have HRD:=yc hr;have hbw1:=HX.out.trans (hb1.mono hw2);have HBW:=yc hbw1;have hw1:=hbw1.size;have hBw1:B<=w1.heap.size:=yg hBw hw1;clear hr htl hb1 hbw1 hlen ho b0 b1 b2 b3 b4 v0 v1 v2 v3 v4 HEC HE
 go_loopw [7,44] (fun u i wr=>∃j:Nat,j<=n9/\i= .int .i64 (j:Int)/\Hid (Own wr w1.heap.size 9 zg 1 u ((es.take j).flatMap zdQ)/\Below w1.heap.size w1 wr)) (fun _ i _=>n9-(intOf i).toNat)
 case atStart=>exact⟨0,by omega,rfl,by rw[yM];exact Own.nil _ _ _,yh _ _⟩
 case round=>
  obtain⟨j,hj,rfl,hH⟩:=hrel;have HO:=yc hH.out.1;have HBR:=yc hH.out.2;clear hH;have hj0:(0:Int)<=(j:Int):=yj _;by_cases hlt:j<n9
  ·obtain⟨y,hy⟩:∃y,es[j]? =some y:=⟨_,yf (by have:=HN.out;omega)⟩
   obtain⟨⟨xk,xn,xs,xpl,xnl,xcl,xpm,xnm,xcm⟩,hx⟩:∃x,rs[j]? =some x:=⟨_,yf (by omega)⟩
   have HYO:=yc (HEK.out.2 j y hy);have HYC:=yc (HMC.out j y hy);have HPS:=yc (zbk (f:=zdQ) hy);have HPM:=yc (zbH (f:=zdQ) hy);have HTA:Hid (∀W,Below w1.heap.size w1 W->TreeOf W B y ⟨xk,xn,xs,xpl,xnl,xcl,xpm,xnm,xcm⟩):=fun W hW=>(HTL.out j y _ hy hx).under (hW.mono hBw1) (yd _)
   obtain⟨L0,hL0⟩:∃L,(es.take j).flatMap zdQ=L:=⟨_,rfl⟩;rw[hL0]at HO HPS HPM;obtain⟨bx,ox,rfl,hbx,hcx⟩:=zq (HRD.out.below HBR.out HBR.out.size) hx;have f0:=hcx 0 _ rfl;have f1:=hcx 1 _ rfl;have f2:=hcx 2 _ rfl;have f3:=hcx 3 _ rfl;have f4:=hcx 4 _ rfl;rw[yw]at f0;dsimp only at f0 f1 f2 f3 f4;have hj1:(j:Int)<(n9:Int):=by omega
   have hbz:=HBR.out.size;clear hx hy hcx hL0
   go_upto_region 16 with fail
   have hB9:Below w1.heap.size w1 (wr.alloc (.cells #[.int .i64 xk,.int .i64 xn,.string xs,.slice xpl xnl xcl,.slice xpm xnm xcm] 25)):=HBR.out.alloc hbz _;have hO9:=HO.out.alloc (.cells #[.int .i64 xk,.int .i64 xn,.string xs,.slice xpl xnl xcl,.slice xpm xnm xcm] 25);have hV9:VAt (wr.alloc (.cells #[.int .i64 xk,.int .i64 xn,.string xs,.slice xpl xnl xcl,.slice xpm xnm xcm] 25)) wr.heap.size ⟨xk,xn,xs,xpl,xnl,xcl,xpm,xnm,xcm⟩:=za rfl;have hN9:u7.ownBlock≠some wr.heap.size:=fun e=>by have:=(HO.out.lt _ e).2;omega
   obtain⟨g9,hg9⟩:∃g,wr.heap.size=g:=⟨_,rfl⟩;obtain⟨W9,hW9⟩:∃W,wr.alloc (.cells #[.int .i64 xk,.int .i64 xn,.string xs,.slice xpl xnl xcl,.slice xpm xnm xcm] 25)=W:=⟨_,rfl⟩;rw[hW9]at hB9 hO9 hV9;rw[hg9]at hV9 hN9
   try rw[hW9]
   try rw[hg9]
   have HB9:=yc hB9;have HO9:=yc hO9;have HV9:=yc hV9;have HN9:=yc hN9;have hz9:=hB9.size;have hgl9:=hV9.lt;obtain⟨e0,e1,e2,e3,e4⟩:=hV9.cells5;dsimp only at e0 e1 e2 e3 e4;clear hW9 hg9 hB9 hO9 hV9 hN9 f0 f1 f2 f3 f4 HO HBR;have HTX:=yc (zcR y ⟨xk,xn,xs,xpl,xnl,xcl,xpm,xnm,xcm⟩ zh W9 B (yg hBw1 hz9) (HTA.out W9 HB9.out) HYO.out);have HIN:Hid (∀W,Below w1.heap.size w1 W->Calls ye 68 #[RV.val ⟨xk,xn,xs,xpl,xnl,xcl,xpm,xnm,xcm⟩,.string zc1] W fun e w'=>∃v,e= .returned v/\TlOf w' B v (inJ y zc1)/\Below W.heap.size W w'):=fun W hW=>znG y _ zc1 W B (yg hBw1 hW.size) (HTA.out W hW) HYO.out
   have HIK:=yc (zj6 (name:=zc1) HYO.out);dsimp only[RV.val]at HTX HIN;have hoj:zdQ y=zj y zh++(inJ y zc1).flatMap (fun u=>zj u zh):=rfl
   obtain⟨cs,hcs⟩:∃cs,inJ y zc1=cs:=⟨_,rfl⟩;obtain⟨LF,hLF⟩:∃L,zj y zh=L:=⟨_,rfl⟩;rw[hcs]at HIN HIK hoj;rw[hLF]at HTX hoj;rw[hoj]at HPS HPM
   have HLM:Hid (L0.length+(LF++cs.flatMap (fun u=>zj u zh)).length<=100000):=by
    have h1:=HPM.out;have h2:=HNB.out;unfold Hid;omega
   have HLN:Hid (L0.length+LF.length<=maxLen/\(L0.length+LF.length)*16<=140737488355328):=by
    have h1:=HLM.out;rw[yp]at h1;exact⟨by unfold maxLen;omega,by omega⟩
   unfold zh at HTX;unfold zc1 at HIN;clear hcs hLF hoj HPM
   go_upto_region 17 with(first
    |(go_at_call 67;(with_reducible refine HTX.out.mono ?_);rintro e w2 ⟨u2,rfl,ho2,hb2⟩;(have ho3:=HO9.out.below hb2 (yd _));(have hz2:w1.heap.size<=w2.heap.size:=yg hz9 hb2.size))
    |(at_builtin;refine zk slS zn w2 rfl (.tmp 48) (.tmp 50) rfl (v:=u7) rfl rfl ho3 (ho2.rd zn) HLN.out.1 HLN.out.2 hz2 ?_;intro v8 w8 ho8 hg8 hat8)
    |fail)
   have hv2:VAt w2 g9 ⟨xk,xn,xs,xpl,xnl,xcl,xpm,xnm,xcm⟩:=HV9.out.under hb2 hgl9;have hv8:VAt w8 g9 ⟨xk,xn,xs,xpl,xnl,xcl,xpm,xnm,xcm⟩:=(hg8.block g9 hv2.lt (fun e=>HN9.out e.symm)).trans hv2
   have hb8:Below w1.heap.size w1 w8:=Below.appended (HB9.out.trans (hb2.mono hz9)) hg8 ho3 hz2;have HINC:=yc (HIN.out w8 hb8);have HO8:=yc ho8;have HB8:=yc hb8;have hz8:=hb8.size;obtain⟨d0,d1,d2,d3,d4⟩:=hv8.cells5;dsimp only at d0 d1 d2 d3 d4;clear e0 e1 e2 e3 e4 hv2 hv8 hb8 ho8 hg8 hat8 ho2 ho3 hb2 HIN HTX HO9 HB9 HV9 HN9
   go_wp2_with (go_at_call 68;(with_reducible refine HINC.out.mono ?_);rintro e w9 ⟨va,rfl,hta,hb9⟩;obtain⟨ra,hra,hal,hat⟩:=hta;obtain⟨pa,na,ca,rfl⟩:∃p n c,va=Value.slice p n c:=by(obtain⟨p,c,h,_⟩:=hra;exact⟨p,_,c,h⟩))
   have hral:ra.length=na:=(zi hra).symm;have HAN:Hid (cs.length=na):=by unfold Hid;omega
   have hna:na<=1759218604390:=by have:=HIK.out.1;have:=HAN.out;omega
   have HRA:=yc hra;have HAT:=yc hat;have hz9w:w1.heap.size<=w9.heap.size:=yg hz8 hb9.size;have HO9:Hid (Own w9 w1.heap.size 9 zg 1 v8 (L0++LF)):=HO8.out.below hb9 (yd _);have HB9:Hid (Below w1.heap.size w1 w9):=HB8.out.trans (hb9.mono hz8);have hBz9:B<=w1.heap.size:=hBw1;clear hra hat hal hb9 d0 d1 d2 d3 d4 HINC HO8 HB8
   go_loopw [7,55] (fun u i wr=>∃q:Nat,q<=na/\i= .int .i64 (q:Int)/\Hid (Own wr w1.heap.size 9 zg 1 u ((L0++LF)++(cs.take q).flatMap (fun u=>zj u zh))/\Below w1.heap.size w9 wr)) (fun _ i _=>na-(intOf i).toNat)
   case atStart=>exact⟨0,by omega,rfl,by rw[yM,List.flatMap_nil,List.append_nil];exact HO9.out,yh _ _⟩
   case round=>
    obtain⟨q,hq,rfl,hI⟩:=hrel;have hq0:(0:Int)<=(q:Int):=yj _;have HOI:=yc hI.out.1;have HBI:=yc hI.out.2;clear hI;by_cases hlq:q<na
    ·obtain⟨c,hc⟩:∃c,cs[q]? =some c:=⟨_,yf (by have:=HAN.out;omega)⟩
     obtain⟨⟨yk,yn,ys,ypl,ynl,ycl,ypm,ynm,ycm⟩,hy⟩:∃x,ra[q]? =some x:=⟨_,yf (by omega)⟩
     have hbi:Below B w9 wr:=HBI.out.mono hBw1;obtain⟨by',oy,rfl,hby,hcy⟩:=zq (HRA.out.below hbi (yd _)) hy;have f0:=hcy 0 _ rfl;have f1:=hcy 1 _ rfl;have f2:=hcy 2 _ rfl;have f3:=hcy 3 _ rfl;have f4:=hcy 4 _ rfl;rw[yw]at f0;dsimp only at f0 f1 f2 f3 f4;have hq1:(q:Int)<(na:Int):=by omega
     have HQS:=yc (zbk (f:=fun u=>zj u zh) hc)
     have hqm:=zbH (f:=fun u=>zj u zh) hc
     try dsimp only at HQS hqm
     obtain⟨L1,hL1⟩:∃L,(cs.take q).flatMap (fun u=>zj u zh)=L:=⟨_,rfl⟩
     rw[hL1]at HOI HQS hqm;have hzi:w1.heap.size<=wr.heap.size:=yg hz9w HBI.out.size;have hba:Below w1.heap.size w9 (wr.alloc (.cells #[.int .i64 yk,.int .i64 yn,.string ys,.slice ypl ynl ycl,.slice ypm ynm ycm] 25)):=HBI.out.alloc hzi _;have HBA:=yc hba;have HTC:=yc (zcR c ⟨yk,yn,ys,ypl,ynl,ycl,ypm,ynm,ycm⟩ zh (wr.alloc (.cells #[.int .i64 yk,.int .i64 yn,.string ys,.slice ypl ynl ycl,.slice ypm ynm ycm] 25)) B (by simp;omega) ((HAT.out q c _ hc hy).under (hba.mono hBw1) (yd _)) (HIK.out.2 q c hc))
     dsimp only[RV.val]at HTC;have HOA:=yc (HOI.out.alloc (.cells #[.int .i64 yk,.int .i64 yn,.string ys,.slice ypl ynl ycl,.slice ypm ynm ycm] 25));obtain⟨LC,hLC⟩:∃L,zj c zh=L:=⟨_,rfl⟩;rw[hLC]at HTC HQS hqm
     have HLC:Hid (((L0++LF)++L1).length+LC.length<=maxLen/\(((L0++LF)++L1).length+LC.length)*16<=140737488355328):=by
      have h1:=HLM.out;rw[yp]at h1;rw[yp,yp];exact⟨by unfold maxLen;omega,by omega⟩
     have hV3:VAt (wr.alloc (.cells #[.int .i64 yk,.int .i64 yn,.string ys,.slice ypl ynl ycl,.slice ypm ynm ycm] 25)) wr.heap.size ⟨yk,yn,ys,ypl,ynl,ycl,ypm,ynm,ycm⟩:=za rfl;unfold zh at HTC;clear hc hy hcy hL1 hLC hqm hbi hba
     go_upto_region 20 with fail
     obtain⟨g3,hg3⟩:∃g,wr.heap.size=g:=⟨_,rfl⟩;obtain⟨W3,hW3⟩:∃W,wr.alloc (.cells #[.int .i64 yk,.int .i64 yn,.string ys,.slice ypl ynl ycl,.slice ypm ynm ycm] 25)=W:=⟨_,rfl⟩;rw[hW3]at HBA HTC HOA hV3;rw[hg3]at hV3
     try rw[hW3]
     try rw[hg3]
     have hz3:w1.heap.size<=W3.heap.size:=yg hz9w HBA.out.size;obtain⟨e0,e1,e2,e3,e4⟩:=hV3.cells5;dsimp only at e0 e1 e2 e3 e4;clear hW3 hg3 f0 f1 f2 f3 f4 hV3 HOI HBI
     go_wp2_with (first
      |(go_at_call 67;(with_reducible refine HTC.out.mono ?_);rintro e w4 ⟨u4,rfl,ho4,hb4⟩;(have ho5:=HOA.out.below hb4 (yd _));(have hz4:w1.heap.size<=w4.heap.size:=yg hz3 hb4.size))
      |(at_builtin;refine zk slS zn w4 rfl (.tmp 59) (.tmp 61) rfl (v:=u7) rfl rfl ho5 (ho4.rd zn) HLC.out.1 HLC.out.2 hz4 ?_;intro v6 w6 ho6 hg6 hat6)
      |fail)
     have HS6:Hid (Own w6 w1.heap.size 9 zg 1 v6 ((L0++LF)++(cs.take (q+1)).flatMap (fun u=>zj u zh))/\Below w1.heap.size w9 w6):=⟨by rw[HQS.out,<-yV];exact ho6,Below.appended (HBA.out.trans (hb4.mono hz3)) hg6 ho5 hz4⟩
     clear ho6 hg6 hat6 ho4 ho5 hb4
     go_roundw
     case rel=>exact⟨q+1,by omega,by go_num,HS6.out⟩
     case measure=>simp[intOf];omega
    ·obtain rfl:q=na:=by omega
     have ho:=HOI.out;rw[yq (by have:=HAN.out;omega)]at ho
     have HSX:Hid (Own wr w1.heap.size 9 zg 1 u7 ((es.take (j+1)).flatMap zdQ)/\Below w1.heap.size w1 wr):=⟨by rw[HPS.out,<-yV];exact ho,HB9.out.trans HBI.out⟩
     clear ho HOI HBI
     go_wp2_with fail
     go_roundw
     case rel=>exact⟨j+1,by omega,by go_num,HSX.out⟩
     case measure=>simp[intOf];omega
  ·obtain rfl:j=n9:=by omega
   have ho:=HO.out;have hta:es.take j=es:=yq (by have:=HN.out;omega)
   rw[hta]at ho;have HZ:=yc (And.intro (ho.mono hw1) (HBW.out.trans (HBR.out.mono hw1)));clear ho hta
   go_wp2_with fail
   go_ret;exact⟨_,rfl,HZ.out.1,HZ.out.2⟩
def AllAt(w:World):Prop:=∀(i:Nat) x,allF[i]? =some x->w.cell? ⟨0,i,none⟩=some (.string x)
theorem AllAt.below{w w':World}(h:AllAt w)(hb:Below w.heap.size w w'):AllAt w':=fun i x hx=>zc hb (zbD (h i x hx)).2 (h i x hx)
theorem zkS(t:JV):ze t zh=zbn (zba t):=if_pos rfl
theorem zkT(t:JV)(f:ByteArray)(h:f=zbg\/f=zcj\/f=zbO):ze t f=zbP (zba t) (f.extract 5 f.size):=by
 unfold ze;rw[if_neg (by rcases h with rfl|rfl|rfl<;>decide),if_pos h]
theorem zjq(t:JV):ze t zcF=zO t zcZ [zh]:=by
 unfold ze;rw[if_neg (by decide),if_neg (by decide),if_pos rfl]
theorem zjZ(t:JV):ze t zdw=(zY t zcr).flatMap zdQ:=by
 unfold ze;rw[if_neg (by decide),if_neg (by decide),if_neg (by decide),if_pos rfl]
theorem zit(t:JV):ze t zb6=zO t zcw [zX]:=by
 unfold ze;rw[if_neg (by decide),if_neg (by decide),if_neg (by decide),if_neg (by decide),if_pos rfl]
theorem ziu(t:JV):ze t zb7=zO t zcx [zbr]:=by
 unfold ze;rw[if_neg (by decide),if_neg (by decide),if_neg (by decide),if_neg (by decide),if_neg (by decide),if_pos rfl]
theorem zhO(t:JV):ze t zbJ=zO t zb3 [zbe,zcQ,zcc]:=by
 unfold ze;rw[if_neg (by decide),if_neg (by decide),if_neg (by decide),if_neg (by decide),if_neg (by decide),if_neg (by decide),if_pos rfl]
theorem zjp(t:JV):ze t zX=(zY t zbS).flatMap zbn:=by
 unfold ze;rw[if_neg (by decide),if_neg (by decide),if_neg (by decide),if_neg (by decide),if_neg (by decide),if_neg (by decide),if_neg (by decide),if_pos rfl]
theorem zjr(t:JV):ze t zZ=zO t zc0 [zZ]:=by
 unfold ze;rw[if_neg (by decide),if_neg (by decide),if_neg (by decide),if_neg (by decide),if_neg (by decide),if_neg (by decide),if_neg (by decide),if_neg (by decide),if_pos rfl]
theorem ix_0(w:World):(Instr.index 122 (.agg #[.string ⟨#[110,97,109,101]⟩,.string ⟨#[110,105,99,107,110,97,109,101]⟩,.string ⟨#[111,114,103,97,110,105,122,97,116,105,111,110]⟩,.string ⟨#[101,109,97,105,108]⟩,.string ⟨#[112,104,111,110,101]⟩,.string ⟨#[111,110,108,105,110,101,83,101,114,118,105,99,101]⟩,.string ⟨#[97,100,100,114,101,115,115]⟩,.string ⟨#[110,111,116,101]⟩]) (.int .i64 0)).run ye w= .ok (.string ⟨#[110,97,109,101]⟩) w:=by kernel_rfl
theorem ix_1(w:World):(Instr.index 122 (.agg #[.string ⟨#[110,97,109,101]⟩,.string ⟨#[110,105,99,107,110,97,109,101]⟩,.string ⟨#[111,114,103,97,110,105,122,97,116,105,111,110]⟩,.string ⟨#[101,109,97,105,108]⟩,.string ⟨#[112,104,111,110,101]⟩,.string ⟨#[111,110,108,105,110,101,83,101,114,118,105,99,101]⟩,.string ⟨#[97,100,100,114,101,115,115]⟩,.string ⟨#[110,111,116,101]⟩]) (.int .i64 1)).run ye w= .ok (.string ⟨#[110,105,99,107,110,97,109,101]⟩) w:=by kernel_rfl
theorem ix_2(w:World):(Instr.index 122 (.agg #[.string ⟨#[110,97,109,101]⟩,.string ⟨#[110,105,99,107,110,97,109,101]⟩,.string ⟨#[111,114,103,97,110,105,122,97,116,105,111,110]⟩,.string ⟨#[101,109,97,105,108]⟩,.string ⟨#[112,104,111,110,101]⟩,.string ⟨#[111,110,108,105,110,101,83,101,114,118,105,99,101]⟩,.string ⟨#[97,100,100,114,101,115,115]⟩,.string ⟨#[110,111,116,101]⟩]) (.int .i64 2)).run ye w= .ok (.string ⟨#[111,114,103,97,110,105,122,97,116,105,111,110]⟩) w:=by kernel_rfl
theorem ix_3(w:World):(Instr.index 122 (.agg #[.string ⟨#[110,97,109,101]⟩,.string ⟨#[110,105,99,107,110,97,109,101]⟩,.string ⟨#[111,114,103,97,110,105,122,97,116,105,111,110]⟩,.string ⟨#[101,109,97,105,108]⟩,.string ⟨#[112,104,111,110,101]⟩,.string ⟨#[111,110,108,105,110,101,83,101,114,118,105,99,101]⟩,.string ⟨#[97,100,100,114,101,115,115]⟩,.string ⟨#[110,111,116,101]⟩]) (.int .i64 3)).run ye w= .ok (.string ⟨#[101,109,97,105,108]⟩) w:=by kernel_rfl
theorem ix_4(w:World):(Instr.index 122 (.agg #[.string ⟨#[110,97,109,101]⟩,.string ⟨#[110,105,99,107,110,97,109,101]⟩,.string ⟨#[111,114,103,97,110,105,122,97,116,105,111,110]⟩,.string ⟨#[101,109,97,105,108]⟩,.string ⟨#[112,104,111,110,101]⟩,.string ⟨#[111,110,108,105,110,101,83,101,114,118,105,99,101]⟩,.string ⟨#[97,100,100,114,101,115,115]⟩,.string ⟨#[110,111,116,101]⟩]) (.int .i64 4)).run ye w= .ok (.string ⟨#[112,104,111,110,101]⟩) w:=by kernel_rfl
theorem ix_5(w:World):(Instr.index 122 (.agg #[.string ⟨#[110,97,109,101]⟩,.string ⟨#[110,105,99,107,110,97,109,101]⟩,.string ⟨#[111,114,103,97,110,105,122,97,116,105,111,110]⟩,.string ⟨#[101,109,97,105,108]⟩,.string ⟨#[112,104,111,110,101]⟩,.string ⟨#[111,110,108,105,110,101,83,101,114,118,105,99,101]⟩,.string ⟨#[97,100,100,114,101,115,115]⟩,.string ⟨#[110,111,116,101]⟩]) (.int .i64 5)).run ye w= .ok (.string ⟨#[111,110,108,105,110,101,83,101,114,118,105,99,101]⟩) w:=by kernel_rfl
theorem ix_6(w:World):(Instr.index 122 (.agg #[.string ⟨#[110,97,109,101]⟩,.string ⟨#[110,105,99,107,110,97,109,101]⟩,.string ⟨#[111,114,103,97,110,105,122,97,116,105,111,110]⟩,.string ⟨#[101,109,97,105,108]⟩,.string ⟨#[112,104,111,110,101]⟩,.string ⟨#[111,110,108,105,110,101,83,101,114,118,105,99,101]⟩,.string ⟨#[97,100,100,114,101,115,115]⟩,.string ⟨#[110,111,116,101]⟩]) (.int .i64 6)).run ye w= .ok (.string ⟨#[97,100,100,114,101,115,115]⟩) w:=by kernel_rfl
theorem ix_7(w:World):(Instr.index 122 (.agg #[.string ⟨#[110,97,109,101]⟩,.string ⟨#[110,105,99,107,110,97,109,101]⟩,.string ⟨#[111,114,103,97,110,105,122,97,116,105,111,110]⟩,.string ⟨#[101,109,97,105,108]⟩,.string ⟨#[112,104,111,110,101]⟩,.string ⟨#[111,110,108,105,110,101,83,101,114,118,105,99,101]⟩,.string ⟨#[97,100,100,114,101,115,115]⟩,.string ⟨#[110,111,116,101]⟩]) (.int .i64 7)).run ye w= .ok (.string ⟨#[110,111,116,101]⟩) w:=by kernel_rfl
theorem ziS(t:JV)(r:RV)(f:ByteArray)(hf:f≠zdT)(w:World)(B:Nat)(hBw:B<=w.heap.size)(ht:TreeOf w B t r)(ot:t.Ok)(hct:zf t<=100000):
 Calls ye 29 #[r.val,.string f] w (zD w 9 zg 1 (ze t f)):=by
 by_cases h0:f=zh
 ·subst h0;rw[zkS];exact zpW t r w B hBw ht ot hct
 by_cases h1:f=zbg\/f=zcj\/f=zbO
 ·rw[zkT t f h1];exact zhT t r f h1 w B hBw ht ot
 by_cases h2:f=zcF
 ·subst h2;rw[zjq];exact zpX t r w B hBw ht ot hct
 by_cases h3:f=zdw
 ·subst h3;rw[zjZ];exact zrh t r w B hBw ht ot hct
 by_cases h4:f=zb6
 ·subst h4;rw[zit];exact zom t r w B hBw ht ot hct
 by_cases h5:f=zb7
 ·subst h5;rw[ziu];exact zon t r w B hBw ht ot hct
 by_cases h6:f=zbJ
 ·subst h6;rw[zhO];exact zmS t r w B hBw ht ot hct
 by_cases h7:f=zX
 ·subst h7;rw[zjp];exact zpV t r w B hBw ht ot hct
 by_cases h8:f=zZ
 ·subst h8;rw[zjr];exact zpZ t r w B hBw ht ot hct
 have e:ze t f=[]:=by
  unfold ze;rw[if_neg h0,if_neg h1,if_neg h2,if_neg h3,if_neg h4,if_neg h5,if_neg h6,if_neg h7,if_neg h8]
 rw[e];exact zpY t r f w B hBw ht ot hct h0 (fun e=>h1 (.inl e)) (fun e=>h1 (.inr (.inl e))) (fun e=>h1 (.inr (.inr e))) h2 h3 h4 h5 h6 h7 h8 hf
theorem zp0(t:JV)(r:RV)(w:World)(B:Nat)(hBw:B<=w.heap.size)(ht:TreeOf w B t r)(ot:t.Ok)(hct:zf t<=100000)(hall:AllAt w):
 Calls ye 29 #[r.val,.string zdT] w (zD w 9 zg 1 (allF.flatMap (ze t))):=by
 obtain⟨W0,hW0⟩:∃W0,w.alloc r.obj=W0:=⟨_,rfl⟩;have hA0:VAt W0 w.heap.size r:=by rw[<-hW0];exact za rfl
 have hB0:Below w.heap.size w W0:=by rw[<-hW0];exact(yh _ _).alloc (yd _) _
 have HC:Hid (Calls ye 62 #[r.val,.string zh] W0 (zV W0 B (t.get zh))):=zT t r zh W0 B (yg hBw hB0.size) (ht.under (hB0.mono hBw) (yd _)) ot;have hw0:=hB0.size;have HTR:Hid (∀W,Below w.heap.size w W->TreeOf W B t r):=fun W hW=>ht.under (hW.mono hBw) (yd _)
 have HF:Hid (∀f,f≠zdT->∀W,Below w.heap.size w W->Calls ye 29 #[r.val,.string f] W (zD W 9 zg 1 (ze t f))):=fun f hf W hW=>ziS t r f hf W B (yg hBw hW.size) (HTR.out W hW) ot hct
 have HLL:Hid ((allF.flatMap (ze t)).length<=24*100000):=by
  have h:=zii t zdT;unfold zbC at h;rw[if_pos rfl]at h;unfold Hid;omega
 have HAL:=yc hall;have HF0:Hid (∀W,Below w.heap.size w W->Calls ye 29 #[r.val,.string ⟨#[110,97,109,101]⟩] W (zD W 9 zg 1 (ze t zh))):=fun W hW=>HF.out zh (by decide) W hW
 have HF1:Hid (∀W,Below w.heap.size w W->Calls ye 29 #[r.val,.string ⟨#[110,105,99,107,110,97,109,101]⟩] W (zD W 9 zg 1 (ze t zcF))):=fun W hW=>HF.out zcF (by decide) W hW
 have HF2:Hid (∀W,Below w.heap.size w W->Calls ye 29 #[r.val,.string ⟨#[111,114,103,97,110,105,122,97,116,105,111,110]⟩] W (zD W 9 zg 1 (ze t zdw))):=fun W hW=>HF.out zdw (by decide) W hW
 have HF3:Hid (∀W,Below w.heap.size w W->Calls ye 29 #[r.val,.string ⟨#[101,109,97,105,108]⟩] W (zD W 9 zg 1 (ze t zb6))):=fun W hW=>HF.out zb6 (by decide) W hW
 have HF4:Hid (∀W,Below w.heap.size w W->Calls ye 29 #[r.val,.string ⟨#[112,104,111,110,101]⟩] W (zD W 9 zg 1 (ze t zb7))):=fun W hW=>HF.out zb7 (by decide) W hW
 have HF5:Hid (∀W,Below w.heap.size w W->Calls ye 29 #[r.val,.string ⟨#[111,110,108,105,110,101,83,101,114,118,105,99,101]⟩] W (zD W 9 zg 1 (ze t zbJ))):=fun W hW=>HF.out zbJ (by decide) W hW
 have HF6:Hid (∀W,Below w.heap.size w W->Calls ye 29 #[r.val,.string ⟨#[97,100,100,114,101,115,115]⟩] W (zD W 9 zg 1 (ze t zX))):=fun W hW=>HF.out zX (by decide) W hW
 have HF7:Hid (∀W,Below w.heap.size w W->Calls ye 29 #[r.val,.string ⟨#[110,111,116,101]⟩] W (zD W 9 zg 1 (ze t zZ))):=fun W hW=>HF.out zZ (by decide) W hW
 clear HF hall;obtain⟨k,n,s,pl,nl,cl,pm,nm,cm⟩:=r;dsimp only[RV.val,RV.obj]at*;have HW:=yc hW0;have HB0:=yc hB0;unfold zh at HC
 try unfold zdT at*
 clear hW0 hB0 ht
 go_enter Tryz.func29,Tryz.ntmps29
 go_upto_region 1 with fail
 rw[HW.out];clear HW;obtain⟨a0,a1,a2,a3,a4⟩:=hA0.cells5;have hz0:=hA0.lt
 go_upto_region 3 with(go_at_call 62;refine HC.out.mono ?_;rintro e w1 ⟨rv,bb,rfl,hbb,ht1,hb1⟩;obtain⟨rk,rn,rS,rpl,rnl,rcl,rpm,rnm,rcm⟩:=rv)
 have hz1:=hb1.size;have hb2:Below W0.heap.size W0 (w1.alloc (.cells #[.int .i64 rk,.int .i64 rn,.string rS,.slice rpl rnl rcl,.slice rpm rnm rcm] 25)):=hb1.alloc hz1 _;have hv2:VAt (w1.alloc (.cells #[.int .i64 rk,.int .i64 rn,.string rS,.slice rpl rnl rcl,.slice rpm rnm rcm] 25)) w1.heap.size ⟨rk,rn,rS,rpl,rnl,rcl,rpm,rnm,rcm⟩:=za rfl;have ht2:=ht1.under ((yh B w1).alloc (yg (yg hBw hw0) hz1) (.cells #[.int .i64 rk,.int .i64 rn,.string rS,.slice rpl rnl rcl,.slice rpm rnm rcm] 25)) (yd _);obtain⟨g,hg⟩:∃g,w1.heap.size=g:=⟨_,rfl⟩;obtain⟨W2,hW2⟩:∃W,w1.alloc (.cells #[.int .i64 rk,.int .i64 rn,.string rS,.slice rpl rnl rcl,.slice rpm rnm rcm] 25)=W:=⟨_,rfl⟩;rw[hW2]at hb2 hv2 ht2;rw[hg]at hv2
 try rw[hW2]
 try rw[hg]
 obtain⟨v0,v1,v2,v3,v4⟩:=hv2.cells5;dsimp only at v0 v1 v2 v3 v4;have b0:=zc hb2 hz0 a0;have b1:=zc hb2 hz0 a1;have b2:=zc hb2 hz0 a2;have b3:=zc hb2 hz0 a3;have b4:=zc hb2 hz0 a4;have hbw:=HB0.out.trans (hb2.mono hw0);have HX:=yc hbw;have hw2:=hbw.size;have hBw2:B<=W2.heap.size:=yg hBw hw2;have HT2:=yc ht2;clear hW2 hg hb1 ht1 hb2 hv2 hz1 hbw ht2 a0 a1 a2 a3 a4 hbb;have hag:=(HAL.out.below HX.out);have g0:W2.cell? ⟨0,0,none⟩=some (.string ⟨#[110,97,109,101]⟩):=hag 0 _ rfl;have g1:W2.cell? ⟨0,1,none⟩=some (.string ⟨#[110,105,99,107,110,97,109,101]⟩):=hag 1 _ rfl;have g2:W2.cell? ⟨0,2,none⟩=some (.string ⟨#[111,114,103,97,110,105,122,97,116,105,111,110]⟩):=hag 2 _ rfl;have g3:W2.cell? ⟨0,3,none⟩=some (.string ⟨#[101,109,97,105,108]⟩):=hag 3 _ rfl;have g4:W2.cell? ⟨0,4,none⟩=some (.string ⟨#[112,104,111,110,101]⟩):=hag 4 _ rfl;have g5:W2.cell? ⟨0,5,none⟩=some (.string ⟨#[111,110,108,105,110,101,83,101,114,118,105,99,101]⟩):=hag 5 _ rfl;have g6:W2.cell? ⟨0,6,none⟩=some (.string ⟨#[97,100,100,114,101,115,115]⟩):=hag 6 _ rfl;have g7:W2.cell? ⟨0,7,none⟩=some (.string ⟨#[110,111,116,101]⟩):=hag 7 _ rfl;clear hag v0 v1 v2 v3 v4;have hgx:w.heap.size<W2.heap.size:=(zbD b0).2
 have HB0:Hid (W2.cell? ⟨w.heap.size,0,none⟩=some (.int .i64 k)/\W2.cell? ⟨w.heap.size,1,none⟩=some (.int .i64 n)/\W2.cell? ⟨w.heap.size,2,none⟩=some (.string s)/\W2.cell? ⟨w.heap.size,3,none⟩=some (.slice pl nl cl)/\W2.cell? ⟨w.heap.size,4,none⟩=some (.slice pm nm cm)):=⟨b0,b1,b2,b3,b4⟩
 go_wp2_with fail
 clear b0 b1 b2 b3 b4 g0 g1 g2 g3 g4 g5 g6 g7
 go_loopw [7,102] (fun u i wr=>∃j:Nat,j<=8/\i= .int .i64 (j:Int)/\Hid (Own wr W2.heap.size 9 zg 1 u ((allF.take j).flatMap (ze t))/\Below W2.heap.size W2 wr)) (fun _ i _=>8-(intOf i).toNat)
 case atStart=>exact⟨0,by omega,rfl,Own.nil _ _ _,yh _ _⟩
 case round=>
  obtain⟨j,hj,rfl,hH⟩:=hrel;have HO:=yc hH.out.1;have HBR:=yc hH.out.2;have hbz:=HBR.out.size;have HBW:Hid (Below w.heap.size w wr):=HX.out.trans (HBR.out.mono hw2);have c0:=zc HBR.out hgx HB0.out.1;have c1:=zc HBR.out hgx HB0.out.2.1;have c2:=zc HBR.out hgx HB0.out.2.2.1;have c3:=zc HBR.out hgx HB0.out.2.2.2.1;have c4:=zc HBR.out hgx HB0.out.2.2.2.2;clear hH;by_cases hlt:j<8
  ·have hjj:j=0\/j=1\/j=2\/j=3\/j=4\/j=5\/j=6\/j=7:=by omega
   rcases hjj with rfl|rfl|rfl|rfl|rfl|rfl|rfl|rfl
   ·have HPS:Hid ((allF.take (0+1)).flatMap (ze t)=(allF.take 0).flatMap (ze t)++ze t zh):=zbk (f:=ze t) (l:=allF) (j:=0) rfl;have hpm:=zbH (f:=ze t) (l:=allF) (j:=0) (x:=zh) rfl;have HFC:=yc (HF0.out wr HBW.out)
    try dsimp only[RV.val]at HFC
    try rw[show((0:Nat):Int)=0 from rfl]
    have hix:=ix_0;obtain⟨L0,hL0⟩:∃L,(allF.take 0).flatMap (ze t)=L:=⟨_,rfl⟩;obtain⟨LF,hLF⟩:∃L,ze t zh=L:=⟨_,rfl⟩;rw[hL0]at HO HPS hpm;rw[hLF]at HFC HPS hpm
    have HLN:Hid (L0.length+LF.length<=maxLen/\(L0.length+LF.length)*16<=140737488355328):=by
     have h2:=HLL.out;exact⟨by unfold maxLen;omega,by omega⟩
    clear hL0 hLF hpm
    go_wp2_with (first
     |(go_at_call 29;(with_reducible refine HFC.out.mono ?_);rintro e w4 ⟨u4,rfl,ho4,hb4⟩;(have ho5:=HO.out.below hb4 (yd _));(have hz4:W2.heap.size<=w4.heap.size:=yg hbz hb4.size))
     |(at_builtin;refine zk slS zn w4 rfl (.tmp 105) (.tmp 108) rfl (v:=u7) rfl rfl ho5 (ho4.rd zn) HLN.out.1 HLN.out.2 hz4 ?_;intro v8 w8 ho8 hg8 hat8)
     |fail)
    have HS8:Hid (Own w8 W2.heap.size 9 zg 1 v8 ((allF.take (0+1)).flatMap (ze t))/\Below W2.heap.size W2 w8):=⟨by rw[HPS.out];exact ho8,Below.appended (HBR.out.trans (hb4.mono hbz)) hg8 ho5 hz4⟩
    clear ho8 hg8 hat8 ho4 ho5 hb4
    go_roundw
    case rel=>exact⟨0+1,by omega,by go_num,HS8.out⟩
    case measure=>simp[intOf];try omega
   ·have HPS:Hid ((allF.take (1+1)).flatMap (ze t)=(allF.take 1).flatMap (ze t)++ze t zcF):=zbk (f:=ze t) (l:=allF) (j:=1) rfl;have hpm:=zbH (f:=ze t) (l:=allF) (j:=1) (x:=zcF) rfl;have HFC:=yc (HF1.out wr HBW.out)
    try dsimp only[RV.val]at HFC
    try rw[show((1:Nat):Int)=1 from rfl]
    have hix:=ix_1;obtain⟨L0,hL0⟩:∃L,(allF.take 1).flatMap (ze t)=L:=⟨_,rfl⟩;obtain⟨LF,hLF⟩:∃L,ze t zcF=L:=⟨_,rfl⟩;rw[hL0]at HO HPS hpm;rw[hLF]at HFC HPS hpm
    have HLN:Hid (L0.length+LF.length<=maxLen/\(L0.length+LF.length)*16<=140737488355328):=by
     have h2:=HLL.out;exact⟨by unfold maxLen;omega,by omega⟩
    clear hL0 hLF hpm
    go_wp2_with (first
     |(go_at_call 29;(with_reducible refine HFC.out.mono ?_);rintro e w4 ⟨u4,rfl,ho4,hb4⟩;(have ho5:=HO.out.below hb4 (yd _));(have hz4:W2.heap.size<=w4.heap.size:=yg hbz hb4.size))
     |(at_builtin;refine zk slS zn w4 rfl (.tmp 105) (.tmp 108) rfl (v:=u7) rfl rfl ho5 (ho4.rd zn) HLN.out.1 HLN.out.2 hz4 ?_;intro v8 w8 ho8 hg8 hat8)
     |fail)
    have HS8:Hid (Own w8 W2.heap.size 9 zg 1 v8 ((allF.take (1+1)).flatMap (ze t))/\Below W2.heap.size W2 w8):=⟨by rw[HPS.out];exact ho8,Below.appended (HBR.out.trans (hb4.mono hbz)) hg8 ho5 hz4⟩
    clear ho8 hg8 hat8 ho4 ho5 hb4
    go_roundw
    case rel=>exact⟨1+1,by omega,by go_num,HS8.out⟩
    case measure=>simp[intOf];try omega
   ·have HPS:Hid ((allF.take (2+1)).flatMap (ze t)=(allF.take 2).flatMap (ze t)++ze t zdw):=zbk (f:=ze t) (l:=allF) (j:=2) rfl;have hpm:=zbH (f:=ze t) (l:=allF) (j:=2) (x:=zdw) rfl;have HFC:=yc (HF2.out wr HBW.out)
    try dsimp only[RV.val]at HFC
    try rw[show((2:Nat):Int)=2 from rfl]
    have hix:=ix_2;obtain⟨L0,hL0⟩:∃L,(allF.take 2).flatMap (ze t)=L:=⟨_,rfl⟩;obtain⟨LF,hLF⟩:∃L,ze t zdw=L:=⟨_,rfl⟩;rw[hL0]at HO HPS hpm;rw[hLF]at HFC HPS hpm
    have HLN:Hid (L0.length+LF.length<=maxLen/\(L0.length+LF.length)*16<=140737488355328):=by
     have h2:=HLL.out;exact⟨by unfold maxLen;omega,by omega⟩
    clear hL0 hLF hpm
    go_wp2_with (first
     |(go_at_call 29;(with_reducible refine HFC.out.mono ?_);rintro e w4 ⟨u4,rfl,ho4,hb4⟩;(have ho5:=HO.out.below hb4 (yd _));(have hz4:W2.heap.size<=w4.heap.size:=yg hbz hb4.size))
     |(at_builtin;refine zk slS zn w4 rfl (.tmp 105) (.tmp 108) rfl (v:=u7) rfl rfl ho5 (ho4.rd zn) HLN.out.1 HLN.out.2 hz4 ?_;intro v8 w8 ho8 hg8 hat8)
     |fail)
    have HS8:Hid (Own w8 W2.heap.size 9 zg 1 v8 ((allF.take (2+1)).flatMap (ze t))/\Below W2.heap.size W2 w8):=⟨by rw[HPS.out];exact ho8,Below.appended (HBR.out.trans (hb4.mono hbz)) hg8 ho5 hz4⟩
    clear ho8 hg8 hat8 ho4 ho5 hb4
    go_roundw
    case rel=>exact⟨2+1,by omega,by go_num,HS8.out⟩
    case measure=>simp[intOf];try omega
   ·have HPS:Hid ((allF.take (3+1)).flatMap (ze t)=(allF.take 3).flatMap (ze t)++ze t zb6):=zbk (f:=ze t) (l:=allF) (j:=3) rfl;have hpm:=zbH (f:=ze t) (l:=allF) (j:=3) (x:=zb6) rfl;have HFC:=yc (HF3.out wr HBW.out)
    try dsimp only[RV.val]at HFC
    try rw[show((3:Nat):Int)=3 from rfl]
    have hix:=ix_3;obtain⟨L0,hL0⟩:∃L,(allF.take 3).flatMap (ze t)=L:=⟨_,rfl⟩;obtain⟨LF,hLF⟩:∃L,ze t zb6=L:=⟨_,rfl⟩;rw[hL0]at HO HPS hpm;rw[hLF]at HFC HPS hpm
    have HLN:Hid (L0.length+LF.length<=maxLen/\(L0.length+LF.length)*16<=140737488355328):=by
     have h2:=HLL.out;exact⟨by unfold maxLen;omega,by omega⟩
    clear hL0 hLF hpm
    go_wp2_with (first
     |(go_at_call 29;(with_reducible refine HFC.out.mono ?_);rintro e w4 ⟨u4,rfl,ho4,hb4⟩;(have ho5:=HO.out.below hb4 (yd _));(have hz4:W2.heap.size<=w4.heap.size:=yg hbz hb4.size))
     |(at_builtin;refine zk slS zn w4 rfl (.tmp 105) (.tmp 108) rfl (v:=u7) rfl rfl ho5 (ho4.rd zn) HLN.out.1 HLN.out.2 hz4 ?_;intro v8 w8 ho8 hg8 hat8)
     |fail)
    have HS8:Hid (Own w8 W2.heap.size 9 zg 1 v8 ((allF.take (3+1)).flatMap (ze t))/\Below W2.heap.size W2 w8):=⟨by rw[HPS.out];exact ho8,Below.appended (HBR.out.trans (hb4.mono hbz)) hg8 ho5 hz4⟩
    clear ho8 hg8 hat8 ho4 ho5 hb4
    go_roundw
    case rel=>exact⟨3+1,by omega,by go_num,HS8.out⟩
    case measure=>simp[intOf];try omega
   ·have HPS:Hid ((allF.take (4+1)).flatMap (ze t)=(allF.take 4).flatMap (ze t)++ze t zb7):=zbk (f:=ze t) (l:=allF) (j:=4) rfl;have hpm:=zbH (f:=ze t) (l:=allF) (j:=4) (x:=zb7) rfl;have HFC:=yc (HF4.out wr HBW.out)
    try dsimp only[RV.val]at HFC
    try rw[show((4:Nat):Int)=4 from rfl]
    have hix:=ix_4;obtain⟨L0,hL0⟩:∃L,(allF.take 4).flatMap (ze t)=L:=⟨_,rfl⟩;obtain⟨LF,hLF⟩:∃L,ze t zb7=L:=⟨_,rfl⟩;rw[hL0]at HO HPS hpm;rw[hLF]at HFC HPS hpm
    have HLN:Hid (L0.length+LF.length<=maxLen/\(L0.length+LF.length)*16<=140737488355328):=by
     have h2:=HLL.out;exact⟨by unfold maxLen;omega,by omega⟩
    clear hL0 hLF hpm
    go_wp2_with (first
     |(go_at_call 29;(with_reducible refine HFC.out.mono ?_);rintro e w4 ⟨u4,rfl,ho4,hb4⟩;(have ho5:=HO.out.below hb4 (yd _));(have hz4:W2.heap.size<=w4.heap.size:=yg hbz hb4.size))
     |(at_builtin;refine zk slS zn w4 rfl (.tmp 105) (.tmp 108) rfl (v:=u7) rfl rfl ho5 (ho4.rd zn) HLN.out.1 HLN.out.2 hz4 ?_;intro v8 w8 ho8 hg8 hat8)
     |fail)
    have HS8:Hid (Own w8 W2.heap.size 9 zg 1 v8 ((allF.take (4+1)).flatMap (ze t))/\Below W2.heap.size W2 w8):=⟨by rw[HPS.out];exact ho8,Below.appended (HBR.out.trans (hb4.mono hbz)) hg8 ho5 hz4⟩
    clear ho8 hg8 hat8 ho4 ho5 hb4
    go_roundw
    case rel=>exact⟨4+1,by omega,by go_num,HS8.out⟩
    case measure=>simp[intOf];try omega
   ·have HPS:Hid ((allF.take (5+1)).flatMap (ze t)=(allF.take 5).flatMap (ze t)++ze t zbJ):=zbk (f:=ze t) (l:=allF) (j:=5) rfl;have hpm:=zbH (f:=ze t) (l:=allF) (j:=5) (x:=zbJ) rfl;have HFC:=yc (HF5.out wr HBW.out)
    try dsimp only[RV.val]at HFC
    try rw[show((5:Nat):Int)=5 from rfl]
    have hix:=ix_5;obtain⟨L0,hL0⟩:∃L,(allF.take 5).flatMap (ze t)=L:=⟨_,rfl⟩;obtain⟨LF,hLF⟩:∃L,ze t zbJ=L:=⟨_,rfl⟩;rw[hL0]at HO HPS hpm;rw[hLF]at HFC HPS hpm
    have HLN:Hid (L0.length+LF.length<=maxLen/\(L0.length+LF.length)*16<=140737488355328):=by
     have h2:=HLL.out;exact⟨by unfold maxLen;omega,by omega⟩
    clear hL0 hLF hpm
    go_wp2_with (first
     |(go_at_call 29;(with_reducible refine HFC.out.mono ?_);rintro e w4 ⟨u4,rfl,ho4,hb4⟩;(have ho5:=HO.out.below hb4 (yd _));(have hz4:W2.heap.size<=w4.heap.size:=yg hbz hb4.size))
     |(at_builtin;refine zk slS zn w4 rfl (.tmp 105) (.tmp 108) rfl (v:=u7) rfl rfl ho5 (ho4.rd zn) HLN.out.1 HLN.out.2 hz4 ?_;intro v8 w8 ho8 hg8 hat8)
     |fail)
    have HS8:Hid (Own w8 W2.heap.size 9 zg 1 v8 ((allF.take (5+1)).flatMap (ze t))/\Below W2.heap.size W2 w8):=⟨by rw[HPS.out];exact ho8,Below.appended (HBR.out.trans (hb4.mono hbz)) hg8 ho5 hz4⟩
    clear ho8 hg8 hat8 ho4 ho5 hb4
    go_roundw
    case rel=>exact⟨5+1,by omega,by go_num,HS8.out⟩
    case measure=>simp[intOf];try omega
   ·have HPS:Hid ((allF.take (6+1)).flatMap (ze t)=(allF.take 6).flatMap (ze t)++ze t zX):=zbk (f:=ze t) (l:=allF) (j:=6) rfl;have hpm:=zbH (f:=ze t) (l:=allF) (j:=6) (x:=zX) rfl;have HFC:=yc (HF6.out wr HBW.out)
    try dsimp only[RV.val]at HFC
    try rw[show((6:Nat):Int)=6 from rfl]
    have hix:=ix_6;obtain⟨L0,hL0⟩:∃L,(allF.take 6).flatMap (ze t)=L:=⟨_,rfl⟩;obtain⟨LF,hLF⟩:∃L,ze t zX=L:=⟨_,rfl⟩;rw[hL0]at HO HPS hpm;rw[hLF]at HFC HPS hpm
    have HLN:Hid (L0.length+LF.length<=maxLen/\(L0.length+LF.length)*16<=140737488355328):=by
     have h2:=HLL.out;exact⟨by unfold maxLen;omega,by omega⟩
    clear hL0 hLF hpm
    go_wp2_with (first
     |(go_at_call 29;(with_reducible refine HFC.out.mono ?_);rintro e w4 ⟨u4,rfl,ho4,hb4⟩;(have ho5:=HO.out.below hb4 (yd _));(have hz4:W2.heap.size<=w4.heap.size:=yg hbz hb4.size))
     |(at_builtin;refine zk slS zn w4 rfl (.tmp 105) (.tmp 108) rfl (v:=u7) rfl rfl ho5 (ho4.rd zn) HLN.out.1 HLN.out.2 hz4 ?_;intro v8 w8 ho8 hg8 hat8)
     |fail)
    have HS8:Hid (Own w8 W2.heap.size 9 zg 1 v8 ((allF.take (6+1)).flatMap (ze t))/\Below W2.heap.size W2 w8):=⟨by rw[HPS.out];exact ho8,Below.appended (HBR.out.trans (hb4.mono hbz)) hg8 ho5 hz4⟩
    clear ho8 hg8 hat8 ho4 ho5 hb4
    go_roundw
    case rel=>exact⟨6+1,by omega,by go_num,HS8.out⟩
    case measure=>simp[intOf];try omega
   ·have HPS:Hid ((allF.take (7+1)).flatMap (ze t)=(allF.take 7).flatMap (ze t)++ze t zZ):=zbk (f:=ze t) (l:=allF) (j:=7) rfl;have hpm:=zbH (f:=ze t) (l:=allF) (j:=7) (x:=zZ) rfl;have HFC:=yc (HF7.out wr HBW.out)
    try dsimp only[RV.val]at HFC
    try rw[show((7:Nat):Int)=7 from rfl]
    have hix:=ix_7;obtain⟨L0,hL0⟩:∃L,(allF.take 7).flatMap (ze t)=L:=⟨_,rfl⟩;obtain⟨LF,hLF⟩:∃L,ze t zZ=L:=⟨_,rfl⟩;rw[hL0]at HO HPS hpm;rw[hLF]at HFC HPS hpm
    have HLN:Hid (L0.length+LF.length<=maxLen/\(L0.length+LF.length)*16<=140737488355328):=by
     have h2:=HLL.out;exact⟨by unfold maxLen;omega,by omega⟩
    clear hL0 hLF hpm
    go_wp2_with (first
     |(go_at_call 29;(with_reducible refine HFC.out.mono ?_);rintro e w4 ⟨u4,rfl,ho4,hb4⟩;(have ho5:=HO.out.below hb4 (yd _));(have hz4:W2.heap.size<=w4.heap.size:=yg hbz hb4.size))
     |(at_builtin;refine zk slS zn w4 rfl (.tmp 105) (.tmp 108) rfl (v:=u7) rfl rfl ho5 (ho4.rd zn) HLN.out.1 HLN.out.2 hz4 ?_;intro v8 w8 ho8 hg8 hat8)
     |fail)
    have HS8:Hid (Own w8 W2.heap.size 9 zg 1 v8 ((allF.take (7+1)).flatMap (ze t))/\Below W2.heap.size W2 w8):=⟨by rw[HPS.out];exact ho8,Below.appended (HBR.out.trans (hb4.mono hbz)) hg8 ho5 hz4⟩
    clear ho8 hg8 hat8 ho4 ho5 hb4
    go_roundw
    case rel=>exact⟨7+1,by omega,by go_num,HS8.out⟩
    case measure=>simp[intOf];try omega
  ·obtain rfl:j=8:=by omega
   have ho:=HO.out;have hta:allF.take 8=allF:=rfl;rw[hta]at ho;have HZ:=yc (And.intro (ho.mono hw2) HBW.out);clear ho hta
   go_wp2_with fail
   go_ret;exact⟨_,rfl,HZ.out.1,HZ.out.2⟩
theorem zlp(t:JV)(r:RV)(f:ByteArray)(w:World)(B:Nat)(hBw:B<=w.heap.size)(ht:TreeOf w B t r)(ot:t.Ok)(hct:zf t<=100000)(hall:AllAt w):
 Calls ye 29 #[r.val,.string f] w (zD w 9 zg 1 (zbC t f)):=by
 unfold zbC;by_cases h:f=zdT
 ·subst h;rw[if_pos rfl];exact zp0 t r w B hBw ht ot hct hall
 ·rw[if_neg h];exact ziS t r f h w B hBw ht ot hct
end
section
open Go.RowKit Go.OpenShut
def ze4(l:List En)(id:ByteArray):Bool:=l.any (fun e=>decide (e.id=id))
def zhe(id:ByteArray)(e:En):Bool:=decide (e.id=id)
abbrev znJ(g:Nat):Value:= .func (.func 101) #[] #[.pointer (some ⟨g,0,none⟩)]
theorem ziV(x:En)(g:Nat)(name:ByteArray)(w:World)(hg:w.cell? ⟨g,0,none⟩=some (.string name)):
 Calls ye 101 #[.agg #[.int .i64 x.seq,.string x.id,.int .i64 x.what],.pointer (some ⟨g,0,none⟩)] w fun e w'=>e= .returned (.bool (decide (x.id=name)))/\Below w.heap.size w w':=by
 obtain⟨sq,nm,wh⟩:=x;dsimp only;have hlt:=(zbD hg).2;have hne:=World.new_ne w ⟨g,0,none⟩ hg;have hB:Below w.heap.size w (w.alloc (.cells #[.int .i64 sq,.string nm,.int .i64 wh] 144)):=(yh _ _).alloc (yd _) _;have hc:=zc hB hlt hg;have hq:=zdk nm name;have HQ:=yc hq;clear hq
 go_enter Tryz.func101,Tryz.ntmps101
 go_wp2_with fail
 go_ret;exact⟨by rw[<-HQ.out];rfl,hB⟩
theorem zmg(w:World)(p:Option Addr)(n c:Nat)(l:List En)(hv:Rd w w.heap.size zbh 3 (.slice p n c) l)(g:Nat)(name:ByteArray)(hg:w.cell? ⟨g,0,none⟩=some (.string name))(hlen:l.length<=4398046510976):
 Calls ye 162 #[.slice p n c,znJ g] w fun e w'=>e= .returned (.int .i64 (zbt (l.findIdx? (zhe name))))/\Below w.heap.size w w':=by
 have hn:=zi hv;subst hn;have HV:=yc hv;have hgl:=(zbD hg).2;clear hv
 go_enter Tryz.func162,Tryz.ntmps162
 go_wp2_with fail
 go_loopw [8] (fun i wr=>∃k:Nat,k<=l.length/\i= .int .i64 k/\Hid (∀(j:Nat) y,j<k->l[j]? =some y->zhe name y=false)/\Below w.heap.size w wr) (fun i _=>l.length-(intOf i).toNat)
 case atStart=>exact⟨0,Nat.zero_le _,rfl,fun j y h=>by omega,yh _ _⟩
 case round=>
  obtain⟨k,hk,rfl,hno,hbr⟩:=hrel;by_cases hlt:k<l.length
  ·obtain⟨x,hx⟩:∃x,l[k]? =some x:=⟨_,yf hlt⟩;obtain⟨b1,o1,rfl,hb1,hc1⟩:=zq (HV.out.below hbr (yd _)) hx;have f0:=hc1 0 _ rfl;have f1:=hc1 1 _ rfl;have f2:=hc1 2 _ rfl;rw[yw]at f0;have HX:=yc hx;have hz:=hbr.size;have HBR:=yc hbr;have hgr:=yc (zc hbr hgl hg);cases hnb:zhe name x with
   | true =>
     have HF:=yc (zfk HX.out hnb hno.out);have HNB:Hid (decide (x.id=name)=true):=hnb;clear hx hc1 hbr hnb hno hg
     go_wp2_with (go_at_call 101;refine(ziV x g name _ hgr.out).mono ?_;rintro e w1 ⟨rfl,hb1'⟩;rw[HNB.out])
     go_ret;exact⟨zcD (by rw[HF.out];rfl),HBR.out.trans (hb1'.mono HBR.out.size)⟩
   | false =>
     have HNB:Hid (decide (x.id=name)=false):=hnb
     have HNX:Hid (∀(j:Nat) y,j<k+1->l[j]? =some y->zhe name y=false):=by
      intro j y hj hy;by_cases e:j=k
      ·subst e;rw[hx]at hy;cases hy;exact hnb
      ·exact hno.out j y (by omega) hy
     clear hx hc1 hbr hnb hno hg
     go_wp2_with (go_at_call 101;refine(ziV x g name _ hgr.out).mono ?_;rintro e w1 ⟨rfl,hb1'⟩;rw[HNB.out])
     go_roundw
     case rel=>exact⟨k+1,by omega,by go_num,HNX,HBR.out.trans (hb1'.mono HBR.out.size)⟩
     case measure=>simp[intOf];omega
  ·obtain rfl:k=l.length:=by omega
   have HF:=yc (zeL (p:=zhe name) (l:=l) (fun j y hy=>hno.out j y (List.getElem?_eq_some_iff.1 hy).1 hy))
   go_wp2_with fail
   go_ret;exact⟨zcD (by rw[HF.out];rfl),hbr⟩
theorem zp9(l:List En)(id:ByteArray):ze4 l id=(l.findIdx? (zhe id)).isSome:=by
 unfold ze4;rw[List.findIdx?_isSome]
 rfl
theorem zjk(w:World)(p:Option Addr)(n c:Nat)(l:List En)(hv:Rd w w.heap.size zbh 3 (.slice p n c) l)(g:Nat)(name:ByteArray)(hg:w.cell? ⟨g,0,none⟩=some (.string name))(hlen:l.length<=4398046510976):
 Calls ye 100 #[.slice p n c,znJ g] w fun e w'=>e= .returned (.bool (ze4 l name))/\Below w.heap.size w w':=by
 have HC:=yc (zmg w p n c l hv g name hg hlen);have HT:=yc (zp9 l name);clear hv hg hlen
 generalize l.findIdx? (zhe name)=o at HC HT
 cases o with
 | none =>
   have hd:decide ((0:Int)<=zbt none)=false:=by decide
   go_enter Tryz.func100,Tryz.ntmps100
   go_wp2_with (go_at_call 162;refine HC.out.mono ?_;rintro e w1 ⟨rfl,hb1⟩)
   go_ret;exact⟨zbU (by rw[HT.out];rfl),hb1⟩
 | some i =>
   have hd:decide ((0:Int)<=zbt (some i))=true:=by simp[zbt]
   go_enter Tryz.func100,Tryz.ntmps100
   go_wp2_with (go_at_call 162;refine HC.out.mono ?_;rintro e w1 ⟨rfl,hb1⟩)
   go_ret;exact⟨zbU (by rw[HT.out];simp),hb1⟩
end
end Go.Proofs.YtemofofnkchmeaaGreatDoor
