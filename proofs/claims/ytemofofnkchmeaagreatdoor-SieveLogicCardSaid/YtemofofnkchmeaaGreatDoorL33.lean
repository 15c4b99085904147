import Derived.Test.YtemofofnkchmeaaGreatDoorL31
set_option linter.unusedSimpArgs false
set_option linter.unusedVariables false
set_option maxRecDepth 200000
set_option maxHeartbeats 8000000
namespace Go.Proofs.YtemofofnkchmeaaGreatDoor
open _root_.Go.RowKit.Below renaming refl->yh
open _root_.Go.Lib renaming hid->yc
open _root_.List renaming getElem?_eq_getElem->yf,mem_of_getElem?->ym
open _root_.Nat renaming le_refl->yd,le_trans->yg,lt_of_lt_of_le->yL
open _root_.Option renaming getD->yaR
open _root_.Go.Proofs.Tryz renaming prog->ye
section
open Go Go.RowKit Go.OpenShut
theorem zqF(v:JV)(s:ByteArray):zbw v zbq s=zd3 v zcH s:=by
 unfold zbw;rw[if_pos rfl]
theorem zqG(v:JV)(s:ByteArray):zbw v zbo s=decide (zj v zbo=[s]):=by
 unfold zbw;rw[if_neg (by decide),if_pos rfl]
theorem zqH(v:JV)(s:ByteArray):zbw v zcP s=zd3 v zcI s:=by
 unfold zbw;rw[if_neg (by decide),if_neg (by decide),if_pos rfl]
theorem zqI(v:JV)(s:ByteArray):zbw v zL s=(if(v.get zL).isSome then decide (zj v zL=[s])else decide (s=zfs)):=by
 unfold zbw;rw[if_neg (by decide),if_neg (by decide),if_neg (by decide),if_pos rfl]
theorem zqJ(v:JV)(s:ByteArray):zbw v zcY s=decide (zP v createdN s=some true):=by
 unfold zbw;rw[if_neg (by decide),if_neg (by decide),if_neg (by decide),if_neg (by decide),if_pos rfl]
theorem zqK(v:JV)(s:ByteArray):zbw v zcX s=decide (zP v createdN s=some false):=by
 unfold zbw;rw[if_neg (by decide),if_neg (by decide),if_neg (by decide),if_neg (by decide),if_neg (by decide),if_pos rfl]
theorem zqL(v:JV)(s:ByteArray):zbw v zc3 s=decide (zP v zG s=some true):=by
 unfold zbw;rw[if_neg (by decide),if_neg (by decide),if_neg (by decide),if_neg (by decide),if_neg (by decide),if_neg (by decide),if_pos rfl]
theorem zqM(v:JV)(s:ByteArray):zbw v zc2 s=decide (zP v zG s=some false):=by
 unfold zbw;rw[if_neg (by decide),if_neg (by decide),if_neg (by decide),if_neg (by decide),if_neg (by decide),if_neg (by decide),if_neg (by decide),if_pos rfl]
theorem zm6(n:ByteArray):(n=zbq/\zct n=some (fnV 117))\/(n=zbo/\zct n=some (fnV 118))\/(n=zcP/\zct n=some (fnV 119))\/(n=zL/\zct n=some (fnV 120))\/(n=zcY/\zct n=some (fnV 121))\/(n=zcX/\zct n=some (fnV 122))\/(n=zc3/\zct n=some (fnV 123))\/(n=zc2/\zct n=some (fnV 124))\/(zct n=none/\∀(v:JV) (s:ByteArray),zbw v n s=zel s.data.toList (zbC v n)):=by
 by_cases h0:n=zbq
 ·subst h0;exact .inl ⟨rfl,rfl⟩
 by_cases h1:n=zbo
 ·subst h1;exact .inr (.inl ⟨rfl,rfl⟩)
 by_cases h2:n=zcP
 ·subst h2;exact .inr (.inr (.inl ⟨rfl,rfl⟩))
 by_cases h3:n=zL
 ·subst h3;exact .inr (.inr (.inr (.inl ⟨rfl,rfl⟩)))
 by_cases h4:n=zcY
 ·subst h4;exact .inr (.inr (.inr (.inr (.inl ⟨rfl,rfl⟩))))
 by_cases h5:n=zcX
 ·subst h5;exact .inr (.inr (.inr (.inr (.inr (.inl ⟨rfl,rfl⟩)))))
 by_cases h6:n=zc3
 ·subst h6;exact .inr (.inr (.inr (.inr (.inr (.inr (.inl ⟨rfl,rfl⟩))))))
 by_cases h7:n=zc2
 ·subst h7;exact .inr (.inr (.inr (.inr (.inr (.inr (.inr (.inl ⟨rfl,rfl⟩)))))))
 refine .inr (.inr (.inr (.inr (.inr (.inr (.inr (.inr (⟨?_,fun v s=> ?_⟩))))))))
 ·unfold zct;rw[if_neg h7,if_neg h6,if_neg h5,if_neg h4,if_neg h3,if_neg h2,if_neg h1,if_neg h0]
 ·unfold zbw;rw[if_neg h0,if_neg h1,if_neg h2,if_neg h3,if_neg h4,if_neg h5,if_neg h6,if_neg h7]
theorem zkJ{n:ByteArray}{x:JV}(h:zdh n x=0):x.s.size<=255:=by
 unfold zdh at h
 split at h
 ·split at h
  ·rename_i h2;unfold zh1 at h2;simp only[Bool.and_eq_true,decide_eq_true_eq]at h2;exact h2.2.1
  ·cases h
 ·cases h
theorem zrw(bs:List Bool)(A:Bool):(bs.map (fun b=>b !=A)).any id=if A then !bs.all id else bs.any id:=by
 induction bs with
 |nil=>cases A<;>rfl
 | cons b r ih =>
   rw[List.map_cons,List.any_cons,ih];cases A<;>cases b<;>simp
theorem zoS{o:ByteArray}(ho:o=zch\/o=zdS\/o=ze3)(bs:List Bool):((bs.map (fun b=>b !=decide (o=zch))).any id==decide (o=zdS))=zhH o bs:=by
 rw[zrw];unfold zhH
 rcases ho with rfl|rfl|rfl
 ·rw[if_pos rfl,decide_eq_true rfl,if_pos rfl,show decide (zch=zdS)=false by decide]
  cases bs.all id<;>rfl
 ·rw[show decide (zdS=zch)=false by decide,if_neg (by decide),if_neg (by decide),if_pos rfl,decide_eq_true rfl]
  cases bs.any id<;>rfl
 ·rw[show decide (ze3=zch)=false by decide,if_neg (by decide),if_neg (by decide),if_neg (by decide),show decide (ze3=zdS)=false by decide]
  cases bs.any id<;>rfl
theorem znZ{t:JV}(h:zdP t=true):((t.get zJ).getD JV.zero).s=zch\/((t.get zJ).getD JV.zero).s=zdS\/((t.get zJ).getD JV.zero).s=ze3:=by
 unfold zdP at h;simp only[Bool.and_eq_true,Bool.or_eq_true,decide_eq_true_eq]at h;exact h.2.2.1
theorem zlo(v:JV)(rv:RV)(ov:v.Ok)(hct:zf v<=100000)(hsz:zr v<=4000000000)(N:Nat):∀(t:JV) (r:RV) (w:World) (B:Nat),SizeOf.sizeOf t<=N->B<=w.heap.size->TreeOf w B t r->TreeOf w B v rv->t.Ok->(zc4 t=0\/(t.k≠6/\t.m=[]))->AllAt w->MaxAt w->
 Calls ye 33 #[r.val,rv.val] w fun e w'=>e= .returned (.bool (zcL v t))/\Below w.heap.size w w':=by
 induction N with
 |zero=>intro t r w B hN;cases t;simp at hN
 | succ N ih =>
   intro t r w B hN hBw ht htv ot hchk hall hmax;obtain⟨W0,hW0⟩:∃W0,(w.alloc r.obj).alloc rv.kobj=W0:=⟨_,rfl⟩;have hA0:VAt W0 w.heap.size r:=by rw[<-hW0];exact zb (by simp) (za rfl)
   have hK0:KAt W0 (w.heap.size+1) rv:=by rw[<-hW0];exact za (by simp)
   have hB0:Below w.heap.size w W0:=by rw[<-hW0];exact((yh _ _).alloc (yd _) _).alloc (by simp) _
   have hw0:=hB0.size;have hBw0:B<=W0.heap.size:=yg hBw hw0;have HTR:Hid (∀W,Below W0.heap.size W0 W->TreeOf W B t r):=fun W hW=>(ht.under (hB0.mono hBw) (yd _)).under (hW.mono hBw0) (yd _)
   have HTV:Hid (∀W,Below W0.heap.size W0 W->TreeOf W B v rv):=fun W hW=>(htv.under (hB0.mono hBw) (yd _)).under (hW.mono hBw0) (yd _)
   have HALL:Hid (∀W,Below W0.heap.size W0 W->AllAt W):=fun W hW=>(hall.below hB0).below hW
   have HMAX:Hid (∀W,Below W0.heap.size W0 W->MaxAt W):=fun W hW=>(hmax.below hB0).below hW
   have HC:Hid (Calls ye 62 #[r.val,.string zJ] W0 (zV W0 B (t.get zJ))):=zT t r zJ W0 B hBw0 (HTR.out W0 (yh _ _)) ot;have HOP:Hid (∀W,Below W0.heap.size W0 W->Calls ye 73 #[r.val] W fun e w'=>∃u,e= .returned (.tuple #[.string ((t.get zJ).getD JV.zero).s,u,.bool (zdP t)])/\TlOf w' B u (zbx t)/\Below W.heap.size W w'):=fun W hW=>zlM t r W B (yg hBw0 hW.size) (HTR.out W hW) ot
   have HOK:Hid ((t.get zJ).isSome=true->zdP t=true/\zcf (zbx t)=0):=by
    intro h
    rcases hchk with hchk|⟨h6,_⟩
    ·have hck:=(ziq t).symm.trans hchk;by_cases hk6:t.k=6
     ·rw[if_pos hk6,if_pos h]at hck;by_cases h2:zdP t=true
      ·rw[if_pos h2]at hck;exact⟨h2,hck⟩
      ·rw[if_neg h2]at hck;cases hck
     ·rw[if_neg hk6]at hck;cases hck
    ·rw[zhf h6]at h;cases h
   have HCE:Hid ((t.get zJ).isSome=false->zck t.m=0):=by
    intro h
    rcases hchk with hchk|⟨h6,h0⟩
    ·have hck:=(ziq t).symm.trans hchk;by_cases hk6:t.k=6
     ·rw[if_pos hk6,if_neg (by rw[h];decide)]at hck
      exact hck
     ·rw[if_neg hk6]at hck;cases hck
    ·rw[h0]
     rfl
   have HIH:Hid (∀(i:Nat) x (q:RV) (W:World),(zbx t)[i]? =some x->zc4 x=0->Below W0.heap.size W0 W->TreeOf W B x q->Calls ye 33 #[q.val,rv.val] W fun e w'=>e= .returned (.bool (zcL v x))/\Below W.heap.size W w'):=fun i x q W hx hcx hW hq=>ih x q W B (by have:=ziQ (ym hx);omega) (yg hBw0 hW.size) hq (HTV.out W hW) ((zeT ot).2 i x hx) (.inl hcx) (HALL.out W hW) (HMAX.out W hW)
   obtain⟨rms,hm,hml,hmt⟩:=ht.ml;have hmo:=m_ok ot;have hrl:rms.length=r.nm:=(zi hm).symm
   have HMT:Hid (∀(i:Nat) p (q:RM),t.m[i]? =some p->rms[i]? =some q->p.1=q.name/\p.2.s=q.v.s/\p.1.size<=maxLen):=by
    intro i p q hp hq;obtain⟨h1,h2⟩:=hmt i p q hp hq;exact⟨h1,h2.kk.2.symm,by have:=hmo.2.1 i p hp;unfold maxLen;omega⟩
   have HRD:Hid (Rd W0 B zl 6 (.slice r.pm r.nm r.cm) rms):=hm.below (hB0.mono hBw) (yd _);have HHF:=yc (zqT v t);have HCO:=yc (zeT ot).1;have hno:r.nm<=1466015503658:=by have:=hmo.1;omega
   obtain⟨E,hE⟩:∃E,zcL v t=E:=⟨_,rfl⟩;obtain⟨X,hX⟩:∃X,t.get zJ=X:=⟨_,rfl⟩;obtain⟨OK,hOK⟩:∃b,zdP t=b:=⟨_,rfl⟩;obtain⟨CL,hCL⟩:∃b,zbx t=b:=⟨_,rfl⟩;obtain⟨M,hM⟩:∃b,t.m=b:=⟨_,rfl⟩
   have HNM:Hid (OK=true->(X.getD JV.zero).s=zch\/(X.getD JV.zero).s=zdS\/(X.getD JV.zero).s=ze3):=by
    intro h;have:=znZ (t:=t) (hOK.trans h);rw[hX]at this;exact this
   rw[hE,hX,hCL,hM]at HHF;rw[hE];rw[hX]at HC HOP HOK HCE;rw[hOK,hCL]at HOP HOK;rw[hCL]at HIH HCO;rw[hM]at HMT hml HCE;unfold zJ at HC;have HN:Hid (M.length=r.nm):=by unfold Hid;omega
   obtain⟨k,n,s,pl,nl,cl,pm,nm,cm⟩:=r;obtain⟨vk,vn,vs,vpl,vnl,vcl,vpm,vnm,vcm⟩:=rv;dsimp only[RV.val,RV.obj,RV.kobj]at*;have HB0:=yc hB0;have HRL:=yc hrl;clear hB0 ht htv ot hE hX hOK hCL hM hm hml hmt hmo ih hall hmax hrl hN hchk;have hmf:∀(fn:Fn) (first cap:Array Value) (w:World),(Instr.makeFunc fn first cap).run ye w= .ok (.func fn first cap) w:=fun _ _ _ _=>rfl
   go_enter Tryz.func33,Tryz.ntmps33
   go_upto_region 1 with fail
   try rw[hW0]
   clear hW0;obtain⟨a0,a1,a2,a3,a4⟩:=hA0.cells5;obtain⟨q0,q1,q2,q3,q4⟩:=hK0.cells5;dsimp only at q0 q1 q2 q3 q4;have hz0:=hA0.lt;have hzk:=hK0.lt;have HK0:=yc hK0;clear hA0 hK0
   go_upto_region 2 with(go_at_call 62;refine HC.out.mono ?_;rintro e w1 ⟨rv,bb,rfl,hbb,ht1,hb1⟩;(have HBB:=yc hbb);clear hbb;obtain⟨rk,rn,rS,rpl,rnl,rcl,rpm,rnm,rcm⟩:=rv)
   have hb2:Below W0.heap.size W0 (w1.alloc (.cells #[.int .i64 rk,.int .i64 rn,.string rS,.slice rpl rnl rcl,.slice rpm rnm rcm] 25)):=hb1.alloc hb1.size _;obtain⟨g,hg⟩:∃g,w1.heap.size=g:=⟨_,rfl⟩;obtain⟨W2,hW2⟩:∃W,w1.alloc (.cells #[.int .i64 rk,.int .i64 rn,.string rS,.slice rpl rnl rcl,.slice rpm rnm rcm] 25)=W:=⟨_,rfl⟩;rw[hW2]at hb2
   try rw[hW2]
   try rw[hg]
   have b0:=zc hb2 hz0 a0;have b1:=zc hb2 hz0 a1;have b2:=zc hb2 hz0 a2;have b3:=zc hb2 hz0 a3;have b4:=zc hb2 hz0 a4;have HB2:=yc hb2;have HQ0:Hid (W0.cell? ⟨w.heap.size+1,0,none⟩=some (.int .i64 vk)/\W0.cell? ⟨w.heap.size+1,1,none⟩=some (.int .i64 vn)/\W0.cell? ⟨w.heap.size+1,2,none⟩=some (.string vs)/\W0.cell? ⟨w.heap.size+1,3,none⟩=some (.slice vpl vnl vcl)/\W0.cell? ⟨w.heap.size+1,4,none⟩=some (.slice vpm vnm vcm)):=⟨q0,q1,q2,q3,q4⟩;have hz2:=yL hz0 hb2.size;have hzz:=hb2.size;clear hW2 hg hb1 ht1 hb2 a0 a1 a2 a3 a4 q0 q1 q2 q3 q4 HC;cases X with
   | none =>
     obtain rfl:bb=false:=HBB.out;have HE2:Hid (E=M.all (fun p=>zbw v p.1 p.2.s)):=HHF.out
     have HCZ:Hid (zck M=0):=HCE.out rfl;clear HHF HOP HIH HOK HCE HNM HTR HCO
     go_upto_region 7 with(go_at_call 76;(with_reducible refine(zg9 _).mono ?_);rintro e w3 ⟨mb,rfl,hA3,hlb,hb3⟩)
     have HA3:=yc hA3;have hmb:=hA3.lt;have HB3:Hid (Below W0.heap.size W0 w3):=HB2.out.trans (hb3.mono hzz);have d4:=zc hb3 hz2 b4;clear hA3 hb3 b0 b1 b2 b3 b4
     go_wp2_with fail
     go_loopw [38] (fun i wr=>∃j:Nat,j<=nm/\i= .int .i64 (j:Int)/\Hid ((M.drop j).all (fun p=>zbw v p.1 p.2.s)=E/\Below w3.heap.size w3 wr)) (fun i _=>nm-(intOf i).toNat)
     case atStart=>exact⟨0,by omega,rfl,HE2.out.symm,yh _ _⟩
     case round=>
      obtain⟨j,hj,rfl,hH⟩:=hrel;have HJ:=yc hH.out.1;have HBR:=yc hH.out.2;clear hH;have hj0:(0:Int)<=(j:Int):=Int.natCast_nonneg _;by_cases hlt:j<nm
      ·obtain⟨y,hy⟩:∃y,M[j]? =some y:=⟨_,yf (by have:=HN.out;omega)⟩
       obtain⟨⟨xname,⟨xk,xn,xs,xpl,xnl,xcl,xpm,xnm,xcm⟩⟩,hx⟩:∃x,rms[j]? =some x:=⟨_,yf (by have:=HRL.out;omega)⟩
       have hj1:(j:Int)<(nm:Int):=by omega
       have hbr0:Below W0.heap.size W0 wr:=HB3.out.trans (HBR.out.mono HB3.out.size);obtain⟨b1',o1,rfl,hb1,hc1⟩:=zq (HRD.out.below (hbr0.mono hBw0) (yd _)) hx;have f0:=hc1 0 _ rfl;have f1:=hc1 1 _ rfl;have f2:=hc1 2 _ rfl;have f3:=hc1 3 _ rfl;have f4:=hc1 4 _ rfl;have f5:=hc1 5 _ rfl;rw[Nat.add_zero]at f0;dsimp only at f0 f1 f2 f3 f4 f5;have hba:Below W0.heap.size W0 (wr.alloc (.cells #[.string xname,.int .i64 xk,.int .i64 xn,.string xs,.slice xpl xnl xcl,.slice xpm xnm xcm] 35)):=hbr0.alloc hbr0.size _;have hba3:Below w3.heap.size w3 (wr.alloc (.cells #[.string xname,.int .i64 xk,.int .i64 xn,.string xs,.slice xpl xnl xcl,.slice xpm xnm xcm] 35)):=HBR.out.alloc HBR.out.size _;have hh:(wr.alloc (.cells #[.string xname,.int .i64 xk,.int .i64 xn,.string xs,.slice xpl xnl xcl,.slice xpm xnm xcm] 35)).heap[wr.heap.size]? =some (.cells #[.string xname,.int .i64 xk,.int .i64 xn,.string xs,.slice xpl xnl xcl,.slice xpm xnm xcm] 35):=za rfl;have HJ2:=yc ((zoE hy).symm.trans HJ.out);obtain⟨h1,h2,h3⟩:=HMT.out j y _ hy hx;dsimp only at h1 h2;have hsm:=zkJ (condsE_zero.1 HCZ.out y (ym hy));rw[h1,h2]at HJ2;rw[h1]at h3;rw[h2]at hsm
       have HLK:Hid ((Instr.lookup 128 (.map (some mb)) (.string xname) false).run ye (wr.alloc (.cells #[.string xname,.int .i64 xk,.int .i64 xn,.string xs,.slice xpl xnl xcl,.slice xpm xnm xcm] 35))= .ok ((zct xname).getD .nilFunc) (wr.alloc (.cells #[.string xname,.int .i64 xk,.int .i64 xn,.string xs,.slice xpl xnl xcl,.slice xpm xnm xcm] 35))):=(HA3.out.below hba3 hmb).look h3;obtain⟨gb,hgb⟩:∃g,wr.heap.size=g:=⟨_,rfl⟩;have HWA:Hid (∃WA,wr.alloc (.cells #[.string xname,.int .i64 xk,.int .i64 xn,.string xs,.slice xpl xnl xcl,.slice xpm xnm xcm] 35)=WA):=⟨_,rfl⟩;obtain⟨WA,hWA⟩:=HWA.out;rw[hWA]at hba hba3 hh HLK;rw[hgb]at hh;have m0:WA.cell? ⟨gb,0,none⟩=some (.string xname):=(cell_of_row WA gb 0 _ _ _ hh).trans rfl;have m3:WA.cell? ⟨gb,3,none⟩=some (.string xs):=(cell_of_row WA gb 3 _ _ _ hh).trans rfl;obtain⟨q0,q1,q2,q3,q4⟩:=HQ0.out;have p0:=zc hba hzk q0;have p1:=zc hba hzk q1;have p2:=zc hba hzk q2;have p3:=zc hba hzk q3;have p4:=zc hba hzk q4;have HBA:=yc hba;have HBA3:=yc hba3;have htvA:=HTV.out WA hba;have hBA:B<=WA.heap.size:=yg hBw0 hba.size;have hallA:=HALL.out WA hba;have hmaxA:=HMAX.out WA hba;obtain⟨CB,hCB⟩:∃b,zbw v xname xs=b:=⟨_,rfl⟩;rw[hCB]at HJ2;have HXS:=yc hsm;clear hy hx hc1 hba hba3 hh hbr0 h1 h2 h3 q0 q1 q2 q3 q4 HWA hsm;have hsx:xs.size<=maxLen:=by have:=HXS.out;unfold maxLen;omega
       rcases zm6 xname with⟨rfl,hav⟩|⟨rfl,hav⟩|⟨rfl,hav⟩|⟨rfl,hav⟩|⟨rfl,hav⟩|⟨rfl,hav⟩|⟨rfl,hav⟩|⟨rfl,hav⟩|⟨hav,hcb⟩
       ·have HQ:Hid (Calls ye 117 #[.agg #[.int .i64 vk,.int .i64 vn,.string vs,.slice vpl vnl vcl,.slice vpm vnm vcm],.string xs] WA fun e w'=>e= .returned (.bool CB)/\Below WA.heap.size WA w'):=by
         rw[<-hCB,zqF];exact znK v ⟨vk,vn,vs,vpl,vnl,vcl,vpm,vnm,vcm⟩ xs WA B hBA htvA ov
        rw[hav]at HLK;have hfs:=zcm;unfold fnV at HLK;dsimp only[yaR]at HLK;clear hav hCB;clear htvA hallA hmaxA hBA hsx;cases CB
        all_goals
         go_upto_region 10 with fail
         try rw[hWA]
         try rw[hgb]
         clear hWA hgb;have hlk:=HLK.out
         go_wp2_with (go_at_call 117;(with_reducible refine HQ.out.mono ?_);rintro e w4 ⟨rfl,hb4⟩)
         first
          | (go_roundw
             case rel=>exact⟨j+1,by omega,by go_num,by simpa using HJ2.out,HBA3.out.trans (hb4.mono HBA3.out.size)⟩
             case measure=>simp[intOf];omega)
          | (go_ret
             exact⟨zK (by have:=HJ2.out;simpa using this),HB0.out.trans ((HBA.out.trans (hb4.mono HBA.out.size)).mono hw0)⟩)
       ·have HQ:Hid (Calls ye 118 #[.agg #[.int .i64 vk,.int .i64 vn,.string vs,.slice vpl vnl vcl,.slice vpm vnm vcm],.string xs] WA fun e w'=>e= .returned (.bool CB)/\Below WA.heap.size WA w'):=by
         rw[<-hCB,zqG];exact zpi v ⟨vk,vn,vs,vpl,vnl,vcl,vpm,vnm,vcm⟩ xs WA B hBA htvA ov
        rw[hav]at HLK;have hfs:=zcm;unfold fnV at HLK;dsimp only[yaR]at HLK;clear hav hCB;clear htvA hallA hmaxA hBA hsx;cases CB
        all_goals
         go_upto_region 10 with fail
         try rw[hWA]
         try rw[hgb]
         clear hWA hgb;have hlk:=HLK.out
         go_wp2_with (go_at_call 118;(with_reducible refine HQ.out.mono ?_);rintro e w4 ⟨rfl,hb4⟩)
         first
          | (go_roundw
             case rel=>exact⟨j+1,by omega,by go_num,by simpa using HJ2.out,HBA3.out.trans (hb4.mono HBA3.out.size)⟩
             case measure=>simp[intOf];omega)
          | (go_ret
             exact⟨zK (by have:=HJ2.out;simpa using this),HB0.out.trans ((HBA.out.trans (hb4.mono HBA.out.size)).mono hw0)⟩)
       ·have HQ:Hid (Calls ye 119 #[.agg #[.int .i64 vk,.int .i64 vn,.string vs,.slice vpl vnl vcl,.slice vpm vnm vcm],.string xs] WA fun e w'=>e= .returned (.bool CB)/\Below WA.heap.size WA w'):=by
         rw[<-hCB,zqH];exact zk0 v ⟨vk,vn,vs,vpl,vnl,vcl,vpm,vnm,vcm⟩ xs WA B hBA htvA ov
        rw[hav]at HLK;have hfs:=zcm;unfold fnV at HLK;dsimp only[yaR]at HLK;clear hav hCB;clear htvA hallA hmaxA hBA hsx;cases CB
        all_goals
         go_upto_region 10 with fail
         try rw[hWA]
         try rw[hgb]
         clear hWA hgb;have hlk:=HLK.out
         go_wp2_with (go_at_call 119;(with_reducible refine HQ.out.mono ?_);rintro e w4 ⟨rfl,hb4⟩)
         first
          | (go_roundw
             case rel=>exact⟨j+1,by omega,by go_num,by simpa using HJ2.out,HBA3.out.trans (hb4.mono HBA3.out.size)⟩
             case measure=>simp[intOf];omega)
          | (go_ret
             exact⟨zK (by have:=HJ2.out;simpa using this),HB0.out.trans ((HBA.out.trans (hb4.mono HBA.out.size)).mono hw0)⟩)
       ·have HQ:Hid (Calls ye 120 #[.agg #[.int .i64 vk,.int .i64 vn,.string vs,.slice vpl vnl vcl,.slice vpm vnm vcm],.string xs] WA fun e w'=>e= .returned (.bool CB)/\Below WA.heap.size WA w'):=by
         rw[<-hCB,zqI];exact znL v ⟨vk,vn,vs,vpl,vnl,vcl,vpm,vnm,vcm⟩ xs WA B hBA htvA ov
        rw[hav]at HLK;have hfs:=zcm;unfold fnV at HLK;dsimp only[yaR]at HLK;clear hav hCB;clear htvA hallA hmaxA hBA hsx;cases CB
        all_goals
         go_upto_region 10 with fail
         try rw[hWA]
         try rw[hgb]
         clear hWA hgb;have hlk:=HLK.out
         go_wp2_with (go_at_call 120;(with_reducible refine HQ.out.mono ?_);rintro e w4 ⟨rfl,hb4⟩)
         first
          | (go_roundw
             case rel=>exact⟨j+1,by omega,by go_num,by simpa using HJ2.out,HBA3.out.trans (hb4.mono HBA3.out.size)⟩
             case measure=>simp[intOf];omega)
          | (go_ret
             exact⟨zK (by have:=HJ2.out;simpa using this),HB0.out.trans ((HBA.out.trans (hb4.mono HBA.out.size)).mono hw0)⟩)
       ·have HQ:Hid (Calls ye 121 #[.agg #[.int .i64 vk,.int .i64 vn,.string vs,.slice vpl vnl vcl,.slice vpm vnm vcm],.string xs] WA fun e w'=>e= .returned (.bool CB)/\Below WA.heap.size WA w'):=by
         rw[<-hCB,zqJ];exact zpe v ⟨vk,vn,vs,vpl,vnl,vcl,vpm,vnm,vcm⟩ xs WA B hBA htvA ov hsx
        rw[hav]at HLK;have hfs:=zcm;unfold fnV at HLK;dsimp only[yaR]at HLK;clear hav hCB;clear htvA hallA hmaxA hBA hsx;cases CB
        all_goals
         go_upto_region 10 with fail
         try rw[hWA]
         try rw[hgb]
         clear hWA hgb;have hlk:=HLK.out
         go_wp2_with (go_at_call 121;(with_reducible refine HQ.out.mono ?_);rintro e w4 ⟨rfl,hb4⟩)
         first
          | (go_roundw
             case rel=>exact⟨j+1,by omega,by go_num,by simpa using HJ2.out,HBA3.out.trans (hb4.mono HBA3.out.size)⟩
             case measure=>simp[intOf];omega)
          | (go_ret
             exact⟨zK (by have:=HJ2.out;simpa using this),HB0.out.trans ((HBA.out.trans (hb4.mono HBA.out.size)).mono hw0)⟩)
       ·have HQ:Hid (Calls ye 122 #[.agg #[.int .i64 vk,.int .i64 vn,.string vs,.slice vpl vnl vcl,.slice vpm vnm vcm],.string xs] WA fun e w'=>e= .returned (.bool CB)/\Below WA.heap.size WA w'):=by
         rw[<-hCB,zqK];exact zpd v ⟨vk,vn,vs,vpl,vnl,vcl,vpm,vnm,vcm⟩ xs WA B hBA htvA ov hsx
        rw[hav]at HLK;have hfs:=zcm;unfold fnV at HLK;dsimp only[yaR]at HLK;clear hav hCB;clear htvA hallA hmaxA hBA hsx;cases CB
        all_goals
         go_upto_region 10 with fail
         try rw[hWA]
         try rw[hgb]
         clear hWA hgb;have hlk:=HLK.out
         go_wp2_with (go_at_call 122;(with_reducible refine HQ.out.mono ?_);rintro e w4 ⟨rfl,hb4⟩)
         first
          | (go_roundw
             case rel=>exact⟨j+1,by omega,by go_num,by simpa using HJ2.out,HBA3.out.trans (hb4.mono HBA3.out.size)⟩
             case measure=>simp[intOf];omega)
          | (go_ret
             exact⟨zK (by have:=HJ2.out;simpa using this),HB0.out.trans ((HBA.out.trans (hb4.mono HBA.out.size)).mono hw0)⟩)
       ·have HQ:Hid (Calls ye 123 #[.agg #[.int .i64 vk,.int .i64 vn,.string vs,.slice vpl vnl vcl,.slice vpm vnm vcm],.string xs] WA fun e w'=>e= .returned (.bool CB)/\Below WA.heap.size WA w'):=by
         rw[<-hCB,zqL];exact zpk v ⟨vk,vn,vs,vpl,vnl,vcl,vpm,vnm,vcm⟩ xs WA B hBA htvA ov hsx
        rw[hav]at HLK;have hfs:=zcm;unfold fnV at HLK;dsimp only[yaR]at HLK;clear hav hCB;clear htvA hallA hmaxA hBA hsx;cases CB
        all_goals
         go_upto_region 10 with fail
         try rw[hWA]
         try rw[hgb]
         clear hWA hgb;have hlk:=HLK.out
         go_wp2_with (go_at_call 123;(with_reducible refine HQ.out.mono ?_);rintro e w4 ⟨rfl,hb4⟩)
         first
          | (go_roundw
             case rel=>exact⟨j+1,by omega,by go_num,by simpa using HJ2.out,HBA3.out.trans (hb4.mono HBA3.out.size)⟩
             case measure=>simp[intOf];omega)
          | (go_ret
             exact⟨zK (by have:=HJ2.out;simpa using this),HB0.out.trans ((HBA.out.trans (hb4.mono HBA.out.size)).mono hw0)⟩)
       ·have HQ:Hid (Calls ye 124 #[.agg #[.int .i64 vk,.int .i64 vn,.string vs,.slice vpl vnl vcl,.slice vpm vnm vcm],.string xs] WA fun e w'=>e= .returned (.bool CB)/\Below WA.heap.size WA w'):=by
         rw[<-hCB,zqM];exact zpj v ⟨vk,vn,vs,vpl,vnl,vcl,vpm,vnm,vcm⟩ xs WA B hBA htvA ov hsx
        rw[hav]at HLK;have hfs:=zcm;unfold fnV at HLK;dsimp only[yaR]at HLK;clear hav hCB;clear htvA hallA hmaxA hBA hsx;cases CB
        all_goals
         go_upto_region 10 with fail
         try rw[hWA]
         try rw[hgb]
         clear hWA hgb;have hlk:=HLK.out
         go_wp2_with (go_at_call 124;(with_reducible refine HQ.out.mono ?_);rintro e w4 ⟨rfl,hb4⟩)
         first
          | (go_roundw
             case rel=>exact⟨j+1,by omega,by go_num,by simpa using HJ2.out,HBA3.out.trans (hb4.mono HBA3.out.size)⟩
             case measure=>simp[intOf];omega)
          | (go_ret
             exact⟨zK (by have:=HJ2.out;simpa using this),HB0.out.trans ((HBA.out.trans (hb4.mono HBA.out.size)).mono hw0)⟩)
       ·have HQ:Hid (Calls ye 77 #[.agg #[.int .i64 vk,.int .i64 vn,.string vs,.slice vpl vnl vcl,.slice vpm vnm vcm],.string xs,.pointer (some ⟨gb,0,none⟩)] WA fun e w'=>e= .returned (.bool CB)/\Below WA.heap.size WA w'):=by
         rw[<-hCB,hcb];exact znD v ⟨vk,vn,vs,vpl,vnl,vcl,vpm,vnm,vcm⟩ xname xs gb WA B hBA htvA ov m0 hct hsz (by have:=HXS.out;omega) hallA hmaxA
        rw[hav]at HLK;have hfs:=zj2;dsimp only[yaR]at HLK;clear hav hCB hcb;clear htvA hallA hmaxA hBA hsx;cases CB
        all_goals
         go_upto_region 10 with fail
         try rw[hWA]
         try rw[hgb]
         clear hWA hgb;have hlk:=HLK.out
         go_wp2_with (go_at_call 77;(with_reducible refine HQ.out.mono ?_);rintro e w4 ⟨rfl,hb4⟩)
         first
          | (go_roundw
             case rel=>exact⟨j+1,by omega,by go_num,by simpa using HJ2.out,HBA3.out.trans (hb4.mono HBA3.out.size)⟩
             case measure=>simp[intOf];omega)
          | (go_ret
             exact⟨zK (by have:=HJ2.out;simpa using this),HB0.out.trans ((HBA.out.trans (hb4.mono HBA.out.size)).mono hw0)⟩)
      ·obtain rfl:j=nm:=by omega
       have HJ3:Hid (true=E):=by
        have:=HJ.out;rw[List.drop_eq_nil_of_le (by have:=HN.out;omega)]at this
        exact this
       clear HJ
       go_wp2_with fail
       go_ret;exact⟨zK HJ3.out,HB0.out.trans ((HB3.out.trans (HBR.out.mono HB3.out.size)).mono hw0)⟩
   | some o =>
     obtain rfl:bb=true:=HBB.out;obtain⟨hop,hcz⟩:=HOK.out rfl;have HNM2:=yc (HNM.out hop);have HE2:Hid (E=zhH o.s (CL.map (zcL v))):=HHF.out;have HCZ:=yc (chkFL_zero.1 hcz);dsimp only[Option.getD_some]at HNM2 HOP;have HOP2:=yc (HOP.out W2 HB2.out);clear HHF HOK HCE HNM HOP hop hcz HMT HRD HN HRL HTR
     go_upto_region 4 with(go_at_call 73;(with_reducible refine HOP2.out.mono ?_);rintro e w3 ⟨u,rfl,htl,hb3⟩;(obtain⟨rs,hr3,hl3,ht3⟩:=id htl);(obtain⟨up,uc,rfl,_⟩:=id hr3))
     have hbA:Below W0.heap.size W0 (w3.alloc (.cells #[.string o.s] 9)):=(HB2.out.trans (hb3.mono hzz)).alloc (yg hzz hb3.size) _;have hhA:(w3.alloc (.cells #[.string o.s] 9)).heap[w3.heap.size]? =some (.cells #[.string o.s] 9 (0,0)):=za rfl;have hB3:B<=w3.heap.size:=yg hBw0 (yg hzz hb3.size);have hbT:Below B w3 (w3.alloc (.cells #[.string o.s] 9)):=(yh B w3).alloc hB3 _;have hrA:=hr3.below hbT (yd _);have htA:∀(i:Nat) (t:JV) (q:RV),CL[i]? =some t->rs[i]? =some q->TreeOf (w3.alloc (.cells #[.string o.s] 9)) B t q:=fun i t q h1 h2=>(ht3 i t q h1 h2).under hbT (yd _)
     obtain⟨gb,hgb⟩:∃g,w3.heap.size=g:=⟨_,rfl⟩;obtain⟨WA,hWA⟩:∃W,w3.alloc (.cells #[.string o.s] 9)=W:=⟨_,rfl⟩;rw[hWA]at hbA hhA hrA htA;rw[hgb]at hhA
     try rw[hWA]
     try rw[hgb]
     have m0:WA.cell? ⟨gb,0,none⟩=some (.string o.s):=(cell_of_row WA gb 0 _ _ _ hhA).trans rfl;have hBA:B<=WA.heap.size:=yg hBw0 hbA.size;have hun:up=up:=rfl
     have HCT:Hid (Calls ye 74 #[.slice up rs.length uc,.func (.func 75) #[] #[.pointer (some ⟨w.heap.size+1,0,none⟩),.pointer (some ⟨gb,0,none⟩)]] WA
      fun e w'=>e= .returned (.bool ((CL.map (fun x=>zcL v x !=decide (o.s=zch))).any id))/\Below WA.heap.size WA w'):=by
      refine zjl WA up rs.length uc (w.heap.size+1) gb rs (CL.map (fun x=>zcL v x !=decide (o.s=zch))) (by rw[List.length_map,hl3]) (hrA.mono hBA) (by have:=HCO.out;omega) ?_
      intro i x b hx hb W hW;rw[List.getElem?_map]at hb;cases hy:CL[i]? with
      |none=>rw[hy]at hb;cases hb
      | some y =>
        rw[hy]at hb;obtain rfl:=Option.some.inj hb;have hWW:Below W0.heap.size W0 W:=hbA.trans (hW.mono hbA.size);refine znC x ⟨vk,vn,vs,vpl,vnl,vcl,vpm,vnm,vcm⟩ o.s (zcL v y) (w.heap.size+1) gb W ((HK0.out.under hbA hzk).under hW (yL hzk hbA.size)) (zc hW (zbD m0).2 m0) ?_;intro W' hW';have hWW':Below WA.heap.size WA W':=hW.trans (hW'.mono hW.size);exact HIH.out i y x W' hy (HCZ.out y (ym hy)) (hbA.trans (hWW'.mono hbA.size)) ((htA i y x hy hx).under (hWW'.mono hBA) (yd _))
     have HR:Hid (((CL.map (fun x=>zcL v x !=decide (o.s=zch))).any id==decide (o.s=zdS))=E):=by
      have:=zoS HNM2.out (CL.map (zcL v));rw[List.map_map]at this;exact this.trans HE2.out.symm
     have hq:(o.s.toList==[79,82])=decide (o.s=zdS):=by rw[<-zF];rfl
     obtain⟨OR,hOR⟩:∃b,decide (o.s=zdS)=b:=⟨_,rfl⟩;obtain⟨R,hR⟩:∃b,(CL.map (fun x=>zcL v x !=decide (o.s=zch))).any id=b:=⟨_,rfl⟩
     rw[hR]at HCT HR;rw[hOR]at HR hq;have HBA:=yc hbA;have hzg:=(zbD m0).2;clear hWA hgb hR hOR hbA hhA hrA htA hbT hr3 hl3 ht3 htl hb3 hun HE2 HNM2 HCZ HIH HOP2 b0 b1 b2 b3 b4;cases R<;>cases OR
     all_goals
      go_wp2_with (go_at_call 74;(with_reducible refine HCT.out.mono ?_);rintro e w5 ⟨rfl,hb5⟩;have z0:=zc hb5 hzg m0)
      go_ret;exact⟨zK HR.out,HB0.out.trans ((HBA.out.trans (hb5.mono HBA.out.size)).mono hw0)⟩
theorem zln(f v:JV)(rf rv:RV)(w:World)(B:Nat)(hBw:B<=w.heap.size)(htf:TreeOf w B f rf)(htv:TreeOf w B v rv)(of:f.Ok)(ov:v.Ok)(hcf:zf f<=100000)(hct:zf v<=100000)(hsz:zr v<=4000000000)(hnull:f.k=1->f.m=[])(hall:AllAt w)(hmax:MaxAt w):
 Calls ye 13 #[rf.val,rv.val] w fun e w'=>e= .returned (.bool (zcn f v))/\Below w.heap.size w w':=by
 obtain⟨W0,hW0⟩:∃W0,(w.alloc rf.obj).alloc rv.obj=W0:=⟨_,rfl⟩;have hA0:VAt W0 w.heap.size rf:=by rw[<-hW0];exact zb (by simp) (za rfl)
 have hK0:VAt W0 (w.heap.size+1) rv:=by rw[<-hW0];exact za (by simp)
 have hB0:Below w.heap.size w W0:=by rw[<-hW0];exact((yh _ _).alloc (yd _) _).alloc (by simp) _
 have hw0:=hB0.size;have hBw0:B<=W0.heap.size:=yg hBw hw0;have HCK:Hid (Calls ye 11 #[rf.val] W0 fun e w'=>e= .returned (.int .i64 (zdq f))/\Below W0.heap.size W0 w'):=zlm f rf W0 B hBw0 (htf.under (hB0.mono hBw) (yd _)) of hcf (hall.below hB0)
 have HHO:Hid (zdq f=0->∀W,Below W0.heap.size W0 W->Calls ye 33 #[rf.val,rv.val] W fun e w'=>e= .returned (.bool (zcL v f))/\Below W.heap.size W w'):=fun hc W hW=>
  zlo v rv ov hct hsz _ f rf W B (yd _) (yg hBw0 hW.size) ((htf.under (hB0.mono hBw) (yd _)).under (hW.mono hBw0) (yd _)) ((htv.under (hB0.mono hBw) (yd _)).under (hW.mono hBw0) (yd _)) of (by
   unfold zdq at hc;by_cases h1:f.k=1
   ·exact .inr ⟨by omega,hnull h1⟩
   ·rw[if_neg h1]at hc;by_cases h2:30<zf f
    ·rw[if_pos h2]at hc;cases hc
    ·rw[if_neg h2]at hc;exact .inl hc) ((hall.below hB0).below hW) ((hmax.below hB0).below hW)
 have HJ:Hid (zcn f v=(decide (rv.k=6)&&(decide (zdq f=0)&&zcL v f))):=by
  unfold Hid zcn;rw[htv.kk.1]
 obtain⟨R,hR⟩:∃b,zcn f v=b:=⟨_,rfl⟩;obtain⟨CK,hCK⟩:∃b,zdq f=b:=⟨_,rfl⟩;obtain⟨HF,hHF⟩:∃b,zcL v f=b:=⟨_,rfl⟩;rw[hR,hCK,hHF]at HJ;rw[hCK]at HCK HHO;rw[hHF]at HHO;rw[hR];obtain⟨k,n,s,pl,nl,cl,pm,nm,cm⟩:=rf;obtain⟨vk,vn,vs,vpl,vnl,vcl,vpm,vnm,vcm⟩:=rv;dsimp only[RV.val,RV.obj]at*;have HB0:=yc hB0;clear hB0 htf htv hR hCK hHF hall hmax hnull
 go_enter Tryz.func13,Tryz.ntmps13
 go_upto_region 1 with fail
 try rw[hW0]
 clear hW0;obtain⟨a0,a1,a2,a3,a4⟩:=hA0.cells5;obtain⟨q0,q1,q2,q3,q4⟩:=hK0.cells5;dsimp only at q0 q1 q2 q3 q4;have hz0:=hA0.lt;have hzk:=hK0.lt;clear hA0 hK0;by_cases hv6:vk=6
 ·subst hv6;by_cases hc0:CK=0
  ·subst hc0;have HH2:=yc (HHO.out rfl);have HR:Hid (HF=R):=by unfold Hid;rw[HJ.out];simp
   clear HHO HJ
   go_wp2_with (first
    |(go_at_call 11;(with_reducible refine HCK.out.mono ?_);rintro e w1 ⟨rfl,hb1⟩;(have d0:=zc hb1 hz0 a0);(have d1:=zc hb1 hz0 a1);(have d2:=zc hb1 hz0 a2);(have d3:=zc hb1 hz0 a3);(have d4:=zc hb1 hz0 a4);(have x0:=zc hb1 hzk q0);(have x1:=zc hb1 hzk q1);(have x2:=zc hb1 hzk q2);(have x3:=zc hb1 hzk q3);(have x4:=zc hb1 hzk q4))
    |(go_at_call 33;(with_reducible refine(HH2.out _ hb1).mono ?_);rintro e w2 ⟨rfl,hb2⟩)
    |fail)
   go_ret;exact⟨zK HR.out,HB0.out.trans ((hb1.trans (hb2.mono hb1.size)).mono hw0)⟩
  ·have e1:(CK==0)=false:=by simpa using hc0
   have HR:Hid (false=R):=by unfold Hid;rw[HJ.out];simp[hc0]
   clear HHO HJ hc0
   go_wp2_with (first
    |(go_at_call 11;(with_reducible refine HCK.out.mono ?_);rintro e w1 ⟨rfl,hb1⟩)
    |fail)
   go_ret;exact⟨zK HR.out,HB0.out.trans (hb1.mono hw0)⟩
 ·have e1:(vk==6)=false:=by simpa using hv6
  have HR:Hid (false=R):=by unfold Hid;rw[HJ.out];simp[hv6]
  clear HHO HJ hv6 HCK
  go_wp2_with fail
  go_ret;exact⟨zK HR.out,HB0.out⟩
end
end Go.Proofs.YtemofofnkchmeaaGreatDoor
