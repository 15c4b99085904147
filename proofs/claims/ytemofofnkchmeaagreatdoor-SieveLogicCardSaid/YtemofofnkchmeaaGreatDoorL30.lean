import Derived.Test.YtemofofnkchmeaaGreatDoorL29
import Derived.Test.YtemofofnkchmeaaGreatDoorL09
set_option linter.unusedSimpArgs false
set_option linter.unusedVariables false
set_option maxRecDepth 200000
set_option maxHeartbeats 8000000
namespace Go.Proofs.YtemofofnkchmeaaGreatDoor
open _root_.Go.RowKit.Below renaming refl->yh
open _root_.Int renaming natCast_nonneg->yj
open _root_.Go.Lib renaming hid->yc
open _root_.List renaming drop_eq_nil_of_le->yaK,getElem?_eq_getElem->yf,mem_of_getElem?->ym
open _root_.Nat renaming add_zero->yw,le_refl->yd,le_trans->yg,lt_of_lt_of_le->yL
open _root_.Go.Proofs.Tryz renaming prog->ye
section
open Go Go.RowKit Go.OpenShut
theorem ziw{t:JV}{n:ByteArray}(h:t.Ok):((t.get n).getD JV.zero).Ok:=by
 cases hx:t.get n with
 |none=>exact .mk (by decide) (by decide) (by decide) (by decide) (by decide) (fun i x h=>by simp at h) (fun i p h=>by simp at h) (fun i p h=>by simp at h)
 |some x=>exact h.get hx
theorem zeT{t:JV}(h:t.Ok):(zbx t).length<=1759218604390/\∀(i:Nat) x,(zbx t)[i]? =some x->x.Ok:=by
 have:=ziw (n:=zbb) h;unfold zbx
 generalize(t.get zbb).getD JV.zero=z at this
 cases this with
 |mk _ _ _ b _ c _ _=>exact⟨b,c⟩
theorem m_ok{t:JV}(h:t.Ok):t.m.length<=1466015503658/\(∀(i:Nat) p,t.m[i]? =some p->p.1.size<=140737488351232)/\∀(i:Nat) p,t.m[i]? =some p->p.2.Ok:=by
 cases h with
 |mk _ _ _ _ b _ c d=>exact⟨b,c,d⟩
theorem Ok_s{t:JV}(h:t.Ok):t.s.size<=maxLen:=by
 have:=h.s_le.1;unfold maxLen;omega
theorem zlM(t:JV)(r:RV)(w:World)(B:Nat)(hBw:B<=w.heap.size)(ht:TreeOf w B t r)(ot:t.Ok):
 Calls ye 73 #[r.val] w fun e w'=>∃v,e= .returned (.tuple #[.string ((t.get zJ).getD JV.zero).s,v,.bool (zdP t)])/\TlOf w' B v (zbx t)/\Below w.heap.size w w':=by
 obtain⟨W0,hW0⟩:∃W0,w.alloc r.obj=W0:=⟨_,rfl⟩;have hA0:VAt W0 w.heap.size r:=by rw[<-hW0];exact za rfl
 have hB0:Below w.heap.size w W0:=by rw[<-hW0];exact(yh _ _).alloc (yd _) _
 have hw0:=hB0.size;have hBw0:B<=W0.heap.size:=yg hBw hw0;have HTR:Hid (∀W,Below W0.heap.size W0 W->TreeOf W B t r):=fun W hW=>(ht.under (hB0.mono hBw) (yd _)).under (hW.mono hBw0) (yd _)
 have HC:Hid (Calls ye 62 #[r.val,.string zJ] W0 (zV W0 B (t.get zJ))):=zT t r zJ W0 B hBw0 (HTR.out W0 (yh _ _)) ot;have HD:Hid (∀W,Below W0.heap.size W0 W->Calls ye 62 #[r.val,.string zbb] W (zV W B (t.get zbb))):=fun W hW=>zT t r zbb W B (yg hBw0 hW.size) (HTR.out W hW) ot
 have hml:t.m.length=r.nm:=by
  obtain⟨rms,h1,h2,_⟩:=ht.ml;have:=zi h1;omega
 have HOP:Hid (zdP t=(decide (r.nm=2)&&(decide (((t.get zJ).getD JV.zero).k=4)&&((decide (((t.get zJ).getD JV.zero).s=zch)||(decide (((t.get zJ).getD JV.zero).s=zdS)||decide (((t.get zJ).getD JV.zero).s=ze3)))&&decide (((t.get zbb).getD JV.zero).k=5))))):=by
  unfold Hid zdP;rw[hml]
 have HCL:Hid (zbx t=((t.get zbb).getD JV.zero).l):=rfl;obtain⟨OK,hOK⟩:∃b,zdP t=b:=⟨_,rfl⟩;obtain⟨CL,hCL⟩:∃b,zbx t=b:=⟨_,rfl⟩;rw[hOK]at HOP;rw[hCL]at HCL;rw[hOK,hCL];obtain⟨X,hX⟩:∃X,t.get zJ=X:=⟨_,rfl⟩;obtain⟨Y,hY⟩:∃X,t.get zbb=X:=⟨_,rfl⟩;rw[hX]at HC HOP;rw[hY]at HD HOP HCL;rw[hX];unfold zJ at HC;unfold zbb at HD;obtain⟨k,n,s,pl,nl,cl,pm,nm,cm⟩:=r;dsimp only[RV.val,RV.obj]at*;have HB0:=yc hB0;clear hB0 ht ot hOK hCL hX hY hml
 go_enter Tryz.func73,Tryz.ntmps73
 go_upto_region 1 with fail
 try rw[hW0]
 clear hW0;obtain⟨a0,a1,a2,a3,a4⟩:=hA0.cells5;have hz0:=hA0.lt;clear hA0
 go_upto_region 2 with(go_at_call 62;refine HC.out.mono ?_;rintro e w1 ⟨rv,bb,rfl,hbb,ht1,hb1⟩;obtain⟨rk,rn,rS,rpl,rnl,rcl,rpm,rnm,rcm⟩:=rv)
 have hxx:=ht1.kk;dsimp only at hxx;have hb2:Below W0.heap.size W0 (w1.alloc (.cells #[.int .i64 rk,.int .i64 rn,.string rS,.slice rpl rnl rcl,.slice rpm rnm rcm] 25)):=hb1.alloc hb1.size _;have hv2:VAt (w1.alloc (.cells #[.int .i64 rk,.int .i64 rn,.string rS,.slice rpl rnl rcl,.slice rpm rnm rcm] 25)) w1.heap.size ⟨rk,rn,rS,rpl,rnl,rcl,rpm,rnm,rcm⟩:=za rfl;obtain⟨g,hg⟩:∃g,w1.heap.size=g:=⟨_,rfl⟩;obtain⟨W2,hW2⟩:∃W,w1.alloc (.cells #[.int .i64 rk,.int .i64 rn,.string rS,.slice rpl rnl rcl,.slice rpm rnm rcm] 25)=W:=⟨_,rfl⟩;rw[hW2]at hb2 hv2;rw[hg]at hv2
 try rw[hW2]
 try rw[hg]
 have b0:=zc hb2 hz0 a0;have b1:=zc hb2 hz0 a1;have b2:=zc hb2 hz0 a2;have b3:=zc hb2 hz0 a3;have b4:=zc hb2 hz0 a4;have HB2:=yc hb2;have HV2:=yc hv2;have HXX:=yc hxx;have hz2:=yL hz0 hb2.size;have HDC:=yc (HD.out W2 hb2);clear hW2 hg hb1 ht1 hb2 hv2 hxx a0 a1 a2 a3 a4 hbb HD HC
 go_upto_region 3 with(go_at_call 62;refine HDC.out.mono ?_;rintro e w3 ⟨rv,b3',rfl,hbb,ht1,hb1⟩;obtain⟨qk,qn,qS,qpl,qnl,qcl,qpm,qnm,qcm⟩:=rv)
 have hyy:=ht1.kk;dsimp only at hyy;have hb3:Below W2.heap.size W2 (w3.alloc (.cells #[.int .i64 qk,.int .i64 qn,.string qS,.slice qpl qnl qcl,.slice qpm qnm qcm] 25)):=hb1.alloc hb1.size _;have hv3:VAt (w3.alloc (.cells #[.int .i64 qk,.int .i64 qn,.string qS,.slice qpl qnl qcl,.slice qpm qnm qcm] 25)) w3.heap.size ⟨qk,qn,qS,qpl,qnl,qcl,qpm,qnm,qcm⟩:=za rfl;have ht3:=(ht1.tl).under ((yh B w3).alloc (yg (yg hBw0 HB2.out.size) hb1.size) (.cells #[.int .i64 qk,.int .i64 qn,.string qS,.slice qpl qnl qcl,.slice qpm qnm qcm] 25)) (yd _);have hv23:=HV2.out.under hb3 HV2.out.lt;dsimp only at ht3;obtain⟨g3,hg3⟩:∃g,w3.heap.size=g:=⟨_,rfl⟩;obtain⟨W3,hW3⟩:∃W,w3.alloc (.cells #[.int .i64 qk,.int .i64 qn,.string qS,.slice qpl qnl qcl,.slice qpm qnm qcm] 25)=W:=⟨_,rfl⟩;rw[hW3]at hb3 hv3 ht3 hv23;rw[hg3]at hv3
 try rw[hW3]
 try rw[hg3]
 have c4:=zc hb3 hz2 b4;have x0:=hv23.cell 0 rfl;have x2:=hv23.cell 2 rfl;have y0:=hv3.cell 0 rfl;have y3:=hv3.cell 3 rfl;dsimp only at x0 x2 y0 y3;have HB3:Hid (Below w.heap.size w W3):=HB0.out.trans ((HB2.out.trans (hb3.mono HB2.out.size)).mono hw0);have HYY:=yc hyy
 have HTL:Hid (TlOf W3 B (.slice qpl qnl qcl) CL):=by
  unfold Hid;rw[HCL.out];exact ht3
 clear hW3 hg3 hb1 ht1 hb3 hv3 ht3 hv23 hyy b0 b1 b2 b3 b4 hbb HDC hz2 hz0
 have HO2:Hid (OK=(decide (nm=2)&&(decide (rk=4)&&((decide (rS=zch)||(decide (rS=zdS)||decide (rS=ze3)))&&decide (qk=5))))):=by
  unfold Hid;rw[HOP.out,HXX.out.1,HXX.out.2,HYY.out.1]
 clear HOP HYY;have nm0:(0:Int)<=(nm:Int):=yj _;obtain⟨e1,h1⟩:∃b,(rS.toList==[65,78,68])=b:=⟨_,rfl⟩;obtain⟨e2,h2⟩:∃b,(rS.toList==[79,82])=b:=⟨_,rfl⟩;obtain⟨e3,h3⟩:∃b,(rS.toList==[78,79,84])=b:=⟨_,rfl⟩;obtain⟨b2,g2⟩:∃b,decide (nm=2)=b:=⟨_,rfl⟩;obtain⟨b4,g4⟩:∃b,decide (rk=4)=b:=⟨_,rfl⟩;obtain⟨b5,g5⟩:∃b,decide (qk=5)=b:=⟨_,rfl⟩
 have HO3:Hid (OK=(b2&&(b4&&((e1||(e2||e3))&&b5)))):=by
  unfold Hid;rw[HO2.out,g2,g4,g5,<-h1,<-h2,<-h3,<-zF,<-zF,<-zF]
  rfl
 have q2:((nm:Int)==2)=b2:=by rw[<-g2,Bool.eq_iff_iff];simp;omega
 have q2':(nm==2)=b2:=by rw[<-g2];rfl
 have q4:(rk==4)=b4:=by rw[<-g4];rfl
 have q5:(qk==5)=b5:=by rw[<-g5];rfl
 clear g2 g4 g5 HO2
 go_cut [9]from 20 to 48 (fun v wx=>v= .bool OK/\W3=wx)
 case first=>
  cases b2<;>cases b4<;>cases b5<;>cases e1<;>cases e2<;>cases e3
  all_goals
   go_wp2_with fail
   go_meet
   exact⟨by rw[HO3.out];rfl,rfl⟩
 case rest=>
 obtain⟨rfl,rfl⟩:=hcut;clear h1 h2 h3 q2 q2' q4 q5
 go_upto_region 4 with fail
 go_region
 all_goals go_wp2_with fail
 all_goals
  rw[<-HXX.out.2];refine bodyPost_ret (v:= .tuple #[.string rS,.slice qpl qnl qcl,.bool OK]) (by simp[results,Tryz.results73,go_sem]) rfl ⟨_,rfl,?_,?_⟩
 all_goals first
  |exact HTL.out
  |exact HB3.out
  |exact HTL.out.under ((yh _ _).drew) (yd _)
  |exact HB3.out.drew
def KAt(W:World)(g:Nat)(r:RV):Prop:=W.heap[g]? =some (.cells #[.int .i64 r.k,.int .i64 r.n,.string r.s,.slice r.pl r.nl r.cl,.slice r.pm r.nm r.cm] 72 (0,0))
theorem KAt.cell{W:World}{g:Nat}{r:RV}(h:KAt W g r)(j:Nat){u:Value}(hu:(zbc r)[j]? =some u):W.cell? ⟨g,j,none⟩=some u:=by
 unfold KAt at h;rw[cell_of_row W g j _ _ _ h,<-Array.getElem?_toList];exact hu
theorem KAt.cells5{W:World}{g:Nat}{r:RV}(h:KAt W g r):W.cell? ⟨g,0,none⟩=some (.int .i64 r.k)/\W.cell? ⟨g,1,none⟩=some (.int .i64 r.n)/\W.cell? ⟨g,2,none⟩=some (.string r.s)/\W.cell? ⟨g,3,none⟩=some (.slice r.pl r.nl r.cl)/\W.cell? ⟨g,4,none⟩=some (.slice r.pm r.nm r.cm):=⟨h.cell 0 rfl,h.cell 1 rfl,h.cell 2 rfl,h.cell 3 rfl,h.cell 4 rfl⟩
theorem KAt.under{W W':World}{g B:Nat}{r:RV}(h:KAt W g r)(hb:Below B W W')(hg:g<B):KAt W' g r:=(hb.block g hg).trans h
theorem KAt.lt{W:World}{g:Nat}{r:RV}(h:KAt W g r):g<W.heap.size:=(Array.getElem?_eq_some_iff.1 h).1
def RV.kobj(r:RV):Obj:= .cells #[.int .i64 r.k,.int .i64 r.n,.string r.s,.slice r.pl r.nl r.cl,.slice r.pm r.nm r.cm] 72
theorem zqc(s:ByteArray):JV.zero.get s=none:=zhf (by decide) s
theorem zqQ(t:JV)(name s:ByteArray):zd3 t name s=(((t.get name).getD JV.zero).get s).isSome:=by
 unfold zd3;cases t.get name with
 |none=>rw[Option.getD_none,zqc];rfl
 |some x=>rfl
theorem zgD(t:JV)(n:ByteArray):zj t n=[]\/∃x,zj t n=[x]/\∃y,t.get n=some y/\y.s=x:=by
 unfold zj;cases t.get n with
 |none=>exact .inl rfl
 | some x =>
   by_cases h:x.k=4
   ·exact .inr ⟨x.s,if_pos h,x,rfl,rfl⟩
   ·exact .inl (if_neg h)
theorem zjf(t:JV)(n s:ByteArray):inB (zj t n) s=decide (zj t n=[s]):=by
 rcases zgD t n with h|⟨x,h,_⟩
 ·rw[h];unfold inB;simp
 ·rw[h];unfold inB;simp[eq_comm]
theorem zlr{t:JV}(ot:t.Ok)(n:ByteArray):∀x∈zj t n,x.size<=maxLen:=by
 intro x hx
 rcases zgD t n with h|⟨z,h,y,hy,e⟩
 ·rw[h]at hx;cases hx
 ·rw[h,List.mem_singleton]at hx;subst hx;subst e;have:=(ziw (n:=n) ot);rw[hy]at this;exact yg this.s_le.1 (by decide)
theorem zka(t:JV)(r:RV)(name s:ByteArray)(w:World)(B:Nat)(hBw:B<=w.heap.size)(ht:TreeOf w B t r)(ot:t.Ok):
 Calls ye 174 #[r.val,.string name,.string s] w fun e w'=>e= .returned (.bool (zd3 t name s))/\Below w.heap.size w w':=by
 obtain⟨W0,hW0⟩:∃W0,w.alloc r.kobj=W0:=⟨_,rfl⟩;have hA0:KAt W0 w.heap.size r:=by rw[<-hW0];exact za rfl
 have hB0:Below w.heap.size w W0:=by rw[<-hW0];exact(yh _ _).alloc (yd _) _
 have hw0:=hB0.size;have hBw0:B<=W0.heap.size:=yg hBw hw0;have HTR:Hid (∀W,Below W0.heap.size W0 W->TreeOf W B t r):=fun W hW=>(ht.under (hB0.mono hBw) (yd _)).under (hW.mono hBw0) (yd _)
 rw[zqQ];have HC:Hid (Calls ye 62 #[r.val,.string name] W0 (zV W0 B (t.get name))):=zT t r name W0 B hBw0 (HTR.out W0 (yh _ _)) ot;have HD:Hid (∀W q,B<=W.heap.size->TreeOf W B ((t.get name).getD JV.zero) q->Calls ye 62 #[q.val,.string s] W (zV W B (((t.get name).getD JV.zero).get s))):=fun W q h1 h2=>zT _ q s W B h1 h2 (ziw ot)
 obtain⟨X,hX⟩:∃X,t.get name=X:=⟨_,rfl⟩;rw[hX]at HC HD⊢;clear hX;obtain⟨k,n,s0,pl,nl,cl,pm,nm,cm⟩:=r;dsimp only[RV.val,RV.kobj]at*;have HB0:=yc hB0;clear hB0 ht ot
 go_enter Tryz.func174,Tryz.ntmps174
 go_upto_region 1 with fail
 try rw[hW0]
 clear hW0;obtain⟨a0,a1,a2,a3,a4⟩:=hA0.cells5;have hz0:=hA0.lt;clear hA0
 go_upto_region 2 with(go_at_call 62;refine HC.out.mono ?_;rintro e w1 ⟨rv,bb,rfl,hbb,ht1,hb1⟩;obtain⟨rk,rn,rS,rpl,rnl,rcl,rpm,rnm,rcm⟩:=rv)
 have hb2:Below W0.heap.size W0 (w1.alloc (.cells #[.int .i64 rk,.int .i64 rn,.string rS,.slice rpl rnl rcl,.slice rpm rnm rcm] 25)):=hb1.alloc hb1.size _;have hv2:VAt (w1.alloc (.cells #[.int .i64 rk,.int .i64 rn,.string rS,.slice rpl rnl rcl,.slice rpm rnm rcm] 25)) w1.heap.size ⟨rk,rn,rS,rpl,rnl,rcl,rpm,rnm,rcm⟩:=za rfl;have ht2:=ht1.under ((yh B w1).alloc (yg hBw0 hb1.size) (.cells #[.int .i64 rk,.int .i64 rn,.string rS,.slice rpl rnl rcl,.slice rpm rnm rcm] 25)) (yd _);obtain⟨g,hg⟩:∃g,w1.heap.size=g:=⟨_,rfl⟩;obtain⟨W2,hW2⟩:∃W,w1.alloc (.cells #[.int .i64 rk,.int .i64 rn,.string rS,.slice rpl rnl rcl,.slice rpm rnm rcm] 25)=W:=⟨_,rfl⟩;rw[hW2]at hb2 hv2 ht2;rw[hg]at hv2
 try rw[hW2]
 try rw[hg]
 obtain⟨v0,v1,v2,v3,v4⟩:=hv2.cells5;dsimp only at v0 v1 v2 v3 v4;have HE:=yc (HD.out W2 _ (yg hBw0 hb2.size) ht2);dsimp only[RV.val]at HE;have HB2:=yc hb2;clear hW2 hg hb1 ht1 hb2 hv2 ht2 a0 a1 a2 a3 a4 hbb HC HD
 go_wp2_with (go_at_call 62;refine HE.out.mono ?_;rintro e w3 ⟨rv,b3,rfl,hbb,ht1,hb3⟩;(have HBB:=yc hbb);clear hbb;obtain⟨qk,qn,qS,qpl,qnl,qcl,qpm,qnm,qcm⟩:=rv)
 go_ret;exact⟨zK HBB.out,HB0.out.trans ((HB2.out.trans ((hb3.alloc hb3.size _).mono HB2.out.size)).mono hw0)⟩
theorem znK(t:JV)(r:RV)(s:ByteArray)(w:World)(B:Nat)(hBw:B<=w.heap.size)(ht:TreeOf w B t r)(ot:t.Ok):
 Calls ye 117 #[r.val,.string s] w fun e w'=>e= .returned (.bool (zd3 t zcH s))/\Below w.heap.size w w':=by
 obtain⟨W0,hW0⟩:∃W0,w.alloc r.kobj=W0:=⟨_,rfl⟩;have hA0:KAt W0 w.heap.size r:=by rw[<-hW0];exact za rfl
 have hB0:Below w.heap.size w W0:=by rw[<-hW0];exact(yh _ _).alloc (yd _) _
 have hw0:=hB0.size;have hBw0:B<=W0.heap.size:=yg hBw hw0;have HTR:Hid (∀W,Below W0.heap.size W0 W->TreeOf W B t r):=fun W hW=>(ht.under (hB0.mono hBw) (yd _)).under (hW.mono hBw0) (yd _)
 have HC:Hid (Calls ye 174 #[r.val,.string zcH,.string s] W0 fun e w'=>e= .returned (.bool (zd3 t zcH s))/\Below W0.heap.size W0 w'):=zka t r zcH s W0 B hBw0 (HTR.out W0 (yh _ _)) ot
 obtain⟨X,hX⟩:∃X,zd3 t zcH s=X:=⟨_,rfl⟩;rw[hX]at HC⊢;unfold zcH at HC;clear hX;obtain⟨k,n,s0,pl,nl,cl,pm,nm,cm⟩:=r;dsimp only[RV.val,RV.kobj]at*;have HB0:=yc hB0;clear hB0 ht ot
 go_enter Tryz.func117,Tryz.ntmps117
 go_upto_region 1 with fail
 try rw[hW0]
 clear hW0;obtain⟨a0,a1,a2,a3,a4⟩:=hA0.cells5;have hz0:=hA0.lt;clear hA0
 go_wp2_with (go_at_call 174;refine HC.out.mono ?_;rintro e w1 ⟨rfl,hb1⟩)
 go_ret;exact⟨rfl,HB0.out.trans (hb1.mono hw0)⟩
theorem zk0(t:JV)(r:RV)(s:ByteArray)(w:World)(B:Nat)(hBw:B<=w.heap.size)(ht:TreeOf w B t r)(ot:t.Ok):
 Calls ye 119 #[r.val,.string s] w fun e w'=>e= .returned (.bool (zd3 t zcI s))/\Below w.heap.size w w':=by
 obtain⟨W0,hW0⟩:∃W0,w.alloc r.kobj=W0:=⟨_,rfl⟩;have hA0:KAt W0 w.heap.size r:=by rw[<-hW0];exact za rfl
 have hB0:Below w.heap.size w W0:=by rw[<-hW0];exact(yh _ _).alloc (yd _) _
 have hw0:=hB0.size;have hBw0:B<=W0.heap.size:=yg hBw hw0;have HTR:Hid (∀W,Below W0.heap.size W0 W->TreeOf W B t r):=fun W hW=>(ht.under (hB0.mono hBw) (yd _)).under (hW.mono hBw0) (yd _)
 have HC:Hid (Calls ye 174 #[r.val,.string zcI,.string s] W0 fun e w'=>e= .returned (.bool (zd3 t zcI s))/\Below W0.heap.size W0 w'):=zka t r zcI s W0 B hBw0 (HTR.out W0 (yh _ _)) ot
 obtain⟨X,hX⟩:∃X,zd3 t zcI s=X:=⟨_,rfl⟩;rw[hX]at HC⊢;unfold zcI at HC;clear hX;obtain⟨k,n,s0,pl,nl,cl,pm,nm,cm⟩:=r;dsimp only[RV.val,RV.kobj]at*;have HB0:=yc hB0;clear hB0 ht ot
 go_enter Tryz.func119,Tryz.ntmps119
 go_upto_region 1 with fail
 try rw[hW0]
 clear hW0;obtain⟨a0,a1,a2,a3,a4⟩:=hA0.cells5;have hz0:=hA0.lt;clear hA0
 go_wp2_with (go_at_call 174;refine HC.out.mono ?_;rintro e w1 ⟨rfl,hb1⟩)
 go_ret;exact⟨rfl,HB0.out.trans (hb1.mono hw0)⟩
theorem zpi(t:JV)(r:RV)(s:ByteArray)(w:World)(B:Nat)(hBw:B<=w.heap.size)(ht:TreeOf w B t r)(ot:t.Ok):
 Calls ye 118 #[r.val,.string s] w fun e w'=>e= .returned (.bool (decide (zj t zbo=[s])))/\Below w.heap.size w w':=by
 obtain⟨W0,hW0⟩:∃W0,w.alloc r.kobj=W0:=⟨_,rfl⟩;have hA0:KAt W0 w.heap.size r:=by rw[<-hW0];exact za rfl
 have hB0:Below w.heap.size w W0:=by rw[<-hW0];exact(yh _ _).alloc (yd _) _
 have hw0:=hB0.size;have hBw0:B<=W0.heap.size:=yg hBw hw0;have HTR:Hid (∀W,Below W0.heap.size W0 W->TreeOf W B t r):=fun W hW=>(ht.under (hB0.mono hBw) (yd _)).under (hW.mono hBw0) (yd _)
 have HT:Hid (∀W,Below W0.heap.size W0 W->Calls ye 67 #[r.val,.string zbo] W fun e w'=>∃p c,e= .returned (.slice p (zj t zbo).length c)/\Rd w' w'.heap.size zg 1 (.slice p (zj t zbo).length c) (zj t zbo)/\Below W.heap.size W w'):=by
  intro W hW;refine(zcR t r zbo W B (yg hBw0 hW.size) (HTR.out W hW) ot).mono ?_;rintro e w1 ⟨v,rfl,ho,hb⟩;obtain⟨a,cap,rfl,_⟩:=ho.len;exact⟨_,_,rfl,ho.rd zn,hb⟩
 have HI:Hid (∀W p c,Rd W W.heap.size zg 1 (.slice p (zj t zbo).length c) (zj t zbo)->Calls ye 111 #[.slice p (zj t zbo).length c,.string s] W fun e w'=>e= .returned (.bool (decide (zj t zbo=[s])))/\w'=W):=by
  intro W p c hr;rw[<-zjf];exact zdb hr (yg (zb4 t zbo) (by decide)) s
 obtain⟨L,hL⟩:∃L,(zj t zbo).length=L:=⟨_,rfl⟩;rw[hL]at HT HI;obtain⟨X,hX⟩:∃X,decide (zj t zbo=[s])=X:=⟨_,rfl⟩;rw[hX]at HI⊢;clear hX hL;rw[show zbo=⟨#[117,105,100]⟩from rfl]at HT
 obtain⟨k,n,s0,pl,nl,cl,pm,nm,cm⟩:=r;dsimp only[RV.val,RV.kobj]at*;have HB0:=yc hB0;clear hB0 ht ot
 go_enter Tryz.func118,Tryz.ntmps118
 go_upto_region 1 with fail
 try rw[hW0]
 clear hW0;obtain⟨a0,a1,a2,a3,a4⟩:=hA0.cells5;have hz0:=hA0.lt;clear hA0
 go_wp2_with (first
  |(go_at_call 67;refine(HT.out _ (yh _ _)).mono ?_;rintro e w1 ⟨p1,c1,rfl,hr1,hb1⟩;have HR1:=yc hr1;clear hr1)
  |(go_at_call 111;refine(HI.out _ _ _ HR1.out).mono ?_;rintro e w2 ⟨rfl,rfl⟩))
 go_ret;exact⟨rfl,HB0.out.trans (hb1.mono hw0)⟩
theorem znL(t:JV)(r:RV)(s:ByteArray)(w:World)(B:Nat)(hBw:B<=w.heap.size)(ht:TreeOf w B t r)(ot:t.Ok):
 Calls ye 120 #[r.val,.string s] w fun e w'=>e= .returned (.bool (if(t.get zL).isSome then decide (zj t zL=[s])else decide (s=zfs)))/\Below w.heap.size w w':=by
 obtain⟨W0,hW0⟩:∃W0,w.alloc r.kobj=W0:=⟨_,rfl⟩;have hA0:KAt W0 w.heap.size r:=by rw[<-hW0];exact za rfl
 have hB0:Below w.heap.size w W0:=by rw[<-hW0];exact(yh _ _).alloc (yd _) _
 have hw0:=hB0.size;have hBw0:B<=W0.heap.size:=yg hBw hw0;have HTR:Hid (∀W,Below W0.heap.size W0 W->TreeOf W B t r):=fun W hW=>(ht.under (hB0.mono hBw) (yd _)).under (hW.mono hBw0) (yd _)
 have HC:Hid (Calls ye 62 #[r.val,.string zL] W0 (zV W0 B (t.get zL))):=zT t r zL W0 B hBw0 (HTR.out W0 (yh _ _)) ot;have HQ:Hid ((s.toList==[105,110,100,105,118,105,100,117,97,108])=decide (s=zfs)):=by unfold Hid;rw[<-zF];rfl
 have HT:Hid (∀W,Below W0.heap.size W0 W->Calls ye 67 #[r.val,.string zL] W fun e w'=>∃p c,e= .returned (.slice p (zj t zL).length c)/\Rd w' w'.heap.size zg 1 (.slice p (zj t zL).length c) (zj t zL)/\Below W.heap.size W w'):=by
  intro W hW;refine(zcR t r zL W B (yg hBw0 hW.size) (HTR.out W hW) ot).mono ?_;rintro e w1 ⟨v,rfl,ho,hb⟩;obtain⟨a,cap,rfl,_⟩:=ho.len;exact⟨_,_,rfl,ho.rd zn,hb⟩
 have HI:Hid (∀W p c,Rd W W.heap.size zg 1 (.slice p (zj t zL).length c) (zj t zL)->Calls ye 111 #[.slice p (zj t zL).length c,.string s] W fun e w'=>e= .returned (.bool (decide (zj t zL=[s])))/\w'=W):=by
  intro W p c hr;rw[<-zjf];exact zdb hr (yg (zb4 t zL) (by decide)) s
 obtain⟨L,hL⟩:∃L,(zj t zL).length=L:=⟨_,rfl⟩;rw[hL]at HT HI;obtain⟨X,hX⟩:∃X,decide (zj t zL=[s])=X:=⟨_,rfl⟩;rw[hX]at HI⊢;clear hX hL;rw[show zL=⟨#[107,105,110,100]⟩from rfl]at HT HC
 obtain⟨O,hO⟩:∃O,t.get zL=O:=⟨_,rfl⟩;rw[show⟨#[107,105,110,100]⟩=zL from rfl]at HC
 rw[hO]at HC⊢;rw[show zL=⟨#[107,105,110,100]⟩from rfl]at HC
 clear hO;obtain⟨k,n,s0,pl,nl,cl,pm,nm,cm⟩:=r;dsimp only[RV.val,RV.kobj]at*;have HB0:=yc hB0;clear hB0 ht ot;cases O with
 | none =>
   rw[if_neg (by decide)]
   obtain⟨Y,hY⟩:∃Y,decide (s=zfs)=Y:=⟨_,rfl⟩;have hq:=HQ.out;rw[hY]at hq;rw[hY];clear hY HQ
   go_enter Tryz.func120,Tryz.ntmps120
   go_upto_region 1 with fail
   try rw[hW0]
   clear hW0;obtain⟨a0,a1,a2,a3,a4⟩:=hA0.cells5;have hz0:=hA0.lt;clear hA0
   go_upto_region 2 with(go_at_call 62;refine HC.out.mono ?_;rintro e w1 ⟨rv,bb,rfl,rfl,ht1,hb1⟩;obtain⟨rk,rn,rS,rpl,rnl,rcl,rpm,rnm,rcm⟩:=rv)
   go_wp2_with fail
   go_ret;exact⟨rfl,HB0.out.trans ((hb1.alloc hb1.size _).mono hw0)⟩
 | some y =>
   rw[if_pos (show(some y).isSome=true from rfl)]
   go_enter Tryz.func120,Tryz.ntmps120
   go_upto_region 1 with fail
   try rw[hW0]
   clear hW0;obtain⟨a0,a1,a2,a3,a4⟩:=hA0.cells5;have hz0:=hA0.lt;clear hA0
   go_upto_region 2 with(go_at_call 62;refine HC.out.mono ?_;rintro e w1 ⟨rv,bb,rfl,rfl,ht1,hb1⟩;obtain⟨rk,rn,rS,rpl,rnl,rcl,rpm,rnm,rcm⟩:=rv)
   have hb2:Below W0.heap.size W0 (w1.alloc (.cells #[.int .i64 rk,.int .i64 rn,.string rS,.slice rpl rnl rcl,.slice rpm rnm rcm] 25)):=hb1.alloc hb1.size _;have d0:=zc hb2 hz0 a0;have d1:=zc hb2 hz0 a1;have d2:=zc hb2 hz0 a2;have d3:=zc hb2 hz0 a3;have d4:=zc hb2 hz0 a4;have HT2:=yc (HT.out _ hb2);have HB2:=yc hb2;clear ht1 hb2 hb1 HC
   go_wp2_with (first
    |(go_at_call 67;refine HT2.out.mono ?_;rintro e w2 ⟨p1,c1,rfl,hr1,hb3⟩;have HR1:=yc hr1;clear hr1)
    |(go_at_call 111;refine(HI.out _ _ _ HR1.out).mono ?_;rintro e w3 ⟨rfl,rfl⟩))
   go_ret;exact⟨rfl,HB0.out.trans ((HB2.out.trans (hb3.mono HB2.out.size)).mono hw0)⟩
theorem zev(t:JV)(r:RV)(name s:ByteArray)(w:World)(B:Nat)(hBw:B<=w.heap.size)(ht:TreeOf w B t r)(ot:t.Ok)(hs:s.size<=maxLen):
 Calls ye 175 #[r.val,.string name,.string s] w fun e w'=>e= .returned (.tuple #[.bool (decide (zP t name s=some true)),.bool (zP t name s).isSome])/\Below w.heap.size w w':=by
 obtain⟨W0,hW0⟩:∃W0,w.alloc r.kobj=W0:=⟨_,rfl⟩;have hA0:KAt W0 w.heap.size r:=by rw[<-hW0];exact za rfl
 have hB0:Below w.heap.size w W0:=by rw[<-hW0];exact(yh _ _).alloc (yd _) _
 have hw0:=hB0.size;have hBw0:B<=W0.heap.size:=yg hBw hw0;have HTR:Hid (∀W,Below W0.heap.size W0 W->TreeOf W B t r):=fun W hW=>(ht.under (hB0.mono hBw) (yd _)).under (hW.mono hBw0) (yd _)
 have HT:Hid (∀W,Below W0.heap.size W0 W->Calls ye 67 #[r.val,.string name] W fun e w'=>∃p c,e= .returned (.slice p (zj t name).length c)/\Rd w' w'.heap.size zg 1 (.slice p (zj t name).length c) (zj t name)/\Below W.heap.size W w'):=by
  intro W hW;refine(zcR t r name W B (yg hBw0 hW.size) (HTR.out W hW) ot).mono ?_;rintro e w1 ⟨v,rfl,ho,hb⟩;obtain⟨a,cap,rfl,_⟩:=ho.len;exact⟨_,_,rfl,ho.rd zn,hb⟩
 have hts:=zlr ot name
 rcases zgD t name with h|⟨x,h,_⟩
 ·rw[h]at HT;have HA:Hid (zP t name s=none):=by unfold Hid zP;rw[h]
  rw[HA.out];clear h hts HA;obtain⟨k,n,s0,pl,nl,cl,pm,nm,cm⟩:=r;dsimp only[RV.val,RV.kobj]at*;have HB0:=yc hB0;clear hB0 ht ot
  go_enter Tryz.func175,Tryz.ntmps175
  go_upto_region 1 with fail
  try rw[hW0]
  clear hW0;obtain⟨a0,a1,a2,a3,a4⟩:=hA0.cells5;have hz0:=hA0.lt;clear hA0
  go_wp2_with (go_at_call 67;refine(HT.out _ (yh _ _)).mono ?_;rintro e w1 ⟨p1,c1,rfl,hr1,hb1⟩)
  refine bodyPost_ret (v:= .tuple #[.bool false,.bool false]) (by simp[results,Tryz.results175,go_sem]) rfl ⟨by rfl,HB0.out.trans (hb1.mono hw0)⟩
 ·rw[h]at HT hts;have hxs:=hts x (by simp)
  have HS:Hid (∀W,Calls ye 204 #[.string x,.string s] W fun e w'=>e= .returned (.int .i64 (zc5 x.data.toList s.data.toList))/\Below W.heap.size W w'):=fun W=>zi7 x s W hxs hs
  have HA:Hid (zP t name s=some (decide (zc5 x.data.toList s.data.toList<0))):=by unfold Hid zP;rw[h]
  rw[HA.out];clear h hts HA;obtain⟨C,hC⟩:∃C,zc5 x.data.toList s.data.toList=C:=⟨_,rfl⟩;rw[hC]at HS⊢;clear hC;obtain⟨Y,hY⟩:∃Y,decide (C<0)=Y:=⟨_,rfl⟩;rw[hY];obtain⟨k,n,s0,pl,nl,cl,pm,nm,cm⟩:=r;dsimp only[RV.val,RV.kobj]at*;have HB0:=yc hB0;clear hB0 ht ot
  go_enter Tryz.func175,Tryz.ntmps175
  go_upto_region 1 with fail
  try rw[hW0]
  clear hW0;obtain⟨a0,a1,a2,a3,a4⟩:=hA0.cells5;have hz0:=hA0.lt;clear hA0
  go_upto_region 2 with(go_at_call 67;refine(HT.out _ (yh _ _)).mono ?_;rintro e w1 ⟨p1,c1,rfl,hr1,hb1⟩)
  obtain⟨b1,o1,rfl,hb1',hc1⟩:=zq hr1 (k:=0) (x:=x) rfl;have f0:=hc1 0 _ rfl;rw[yw]at f0
  try rw[Nat.zero_mul]at f0
  try rw[yw]at f0
  clear hr1 hc1 HT
  go_wp2_with (go_at_call 204;refine(HS.out _).mono ?_;rintro e w2 ⟨rfl,hb2⟩)
  refine bodyPost_ret (v:= .tuple #[.bool Y,.bool true]) (by simp[results,Tryz.results175,go_sem]) rfl ⟨by cases Y<;>rfl,HB0.out.trans ((hb1.trans (hb2.mono hb1.size)).mono hw0)⟩
theorem zpe(t:JV)(r:RV)(s:ByteArray)(w:World)(B:Nat)(hBw:B<=w.heap.size)(ht:TreeOf w B t r)(ot:t.Ok)(hs:s.size<=maxLen):
 Calls ye 121 #[r.val,.string s] w fun e w'=>e= .returned (.bool (decide (zP t createdN s=some true)))/\Below w.heap.size w w':=by
 obtain⟨W0,hW0⟩:∃W0,w.alloc r.kobj=W0:=⟨_,rfl⟩;have hA0:KAt W0 w.heap.size r:=by rw[<-hW0];exact za rfl
 have hB0:Below w.heap.size w W0:=by rw[<-hW0];exact(yh _ _).alloc (yd _) _
 have hw0:=hB0.size;have hBw0:B<=W0.heap.size:=yg hBw hw0;have HTR:Hid (∀W,Below W0.heap.size W0 W->TreeOf W B t r):=fun W hW=>(ht.under (hB0.mono hBw) (yd _)).under (hW.mono hBw0) (yd _)
 have HC:Hid (Calls ye 175 #[r.val,.string createdN,.string s] W0 fun e w'=>e= .returned (.tuple #[.bool (decide (zP t createdN s=some true)),.bool (zP t createdN s).isSome])/\Below W0.heap.size W0 w'):=zev t r createdN s W0 B hBw0 (HTR.out W0 (yh _ _)) ot hs
 obtain⟨X,hX⟩:∃X,zP t createdN s=X:=⟨_,rfl⟩;rw[hX]at HC⊢;rw[show createdN=⟨#[99,114,101,97,116,101,100]⟩from rfl]at HC
 clear hX;obtain⟨k,n,s0,pl,nl,cl,pm,nm,cm⟩:=r;dsimp only[RV.val,RV.kobj]at*;have HB0:=yc hB0;clear hB0 ht ot
 rcases X with _|(_|_)
 all_goals
  go_enter Tryz.func121,Tryz.ntmps121
  go_upto_region 1 with fail
  try rw[hW0]
  clear hW0;obtain⟨a0,a1,a2,a3,a4⟩:=hA0.cells5;have hz0:=hA0.lt;clear hA0
  go_wp2_with (go_at_call 175;refine HC.out.mono ?_;rintro e w1 ⟨rfl,hb1⟩)
  go_ret;exact⟨by first|rfl|simp,HB0.out.trans (hb1.mono hw0)⟩
theorem zpd(t:JV)(r:RV)(s:ByteArray)(w:World)(B:Nat)(hBw:B<=w.heap.size)(ht:TreeOf w B t r)(ot:t.Ok)(hs:s.size<=maxLen):
 Calls ye 122 #[r.val,.string s] w fun e w'=>e= .returned (.bool (decide (zP t createdN s=some false)))/\Below w.heap.size w w':=by
 obtain⟨W0,hW0⟩:∃W0,w.alloc r.kobj=W0:=⟨_,rfl⟩;have hA0:KAt W0 w.heap.size r:=by rw[<-hW0];exact za rfl
 have hB0:Below w.heap.size w W0:=by rw[<-hW0];exact(yh _ _).alloc (yd _) _
 have hw0:=hB0.size;have hBw0:B<=W0.heap.size:=yg hBw hw0;have HTR:Hid (∀W,Below W0.heap.size W0 W->TreeOf W B t r):=fun W hW=>(ht.under (hB0.mono hBw) (yd _)).under (hW.mono hBw0) (yd _)
 have HC:Hid (Calls ye 175 #[r.val,.string createdN,.string s] W0 fun e w'=>e= .returned (.tuple #[.bool (decide (zP t createdN s=some true)),.bool (zP t createdN s).isSome])/\Below W0.heap.size W0 w'):=zev t r createdN s W0 B hBw0 (HTR.out W0 (yh _ _)) ot hs
 obtain⟨X,hX⟩:∃X,zP t createdN s=X:=⟨_,rfl⟩;rw[hX]at HC⊢;rw[show createdN=⟨#[99,114,101,97,116,101,100]⟩from rfl]at HC
 clear hX;obtain⟨k,n,s0,pl,nl,cl,pm,nm,cm⟩:=r;dsimp only[RV.val,RV.kobj]at*;have HB0:=yc hB0;clear hB0 ht ot
 rcases X with _|(_|_)
 all_goals
  go_enter Tryz.func122,Tryz.ntmps122
  go_upto_region 1 with fail
  try rw[hW0]
  clear hW0;obtain⟨a0,a1,a2,a3,a4⟩:=hA0.cells5;have hz0:=hA0.lt;clear hA0
  go_wp2_with (go_at_call 175;refine HC.out.mono ?_;rintro e w1 ⟨rfl,hb1⟩)
  go_ret;exact⟨by first|rfl|simp,HB0.out.trans (hb1.mono hw0)⟩
theorem zpk(t:JV)(r:RV)(s:ByteArray)(w:World)(B:Nat)(hBw:B<=w.heap.size)(ht:TreeOf w B t r)(ot:t.Ok)(hs:s.size<=maxLen):
 Calls ye 123 #[r.val,.string s] w fun e w'=>e= .returned (.bool (decide (zP t zG s=some true)))/\Below w.heap.size w w':=by
 obtain⟨W0,hW0⟩:∃W0,w.alloc r.kobj=W0:=⟨_,rfl⟩;have hA0:KAt W0 w.heap.size r:=by rw[<-hW0];exact za rfl
 have hB0:Below w.heap.size w W0:=by rw[<-hW0];exact(yh _ _).alloc (yd _) _
 have hw0:=hB0.size;have hBw0:B<=W0.heap.size:=yg hBw hw0;have HTR:Hid (∀W,Below W0.heap.size W0 W->TreeOf W B t r):=fun W hW=>(ht.under (hB0.mono hBw) (yd _)).under (hW.mono hBw0) (yd _)
 have HC:Hid (Calls ye 175 #[r.val,.string zG,.string s] W0 fun e w'=>e= .returned (.tuple #[.bool (decide (zP t zG s=some true)),.bool (zP t zG s).isSome])/\Below W0.heap.size W0 w'):=zev t r zG s W0 B hBw0 (HTR.out W0 (yh _ _)) ot hs
 obtain⟨X,hX⟩:∃X,zP t zG s=X:=⟨_,rfl⟩;rw[hX]at HC⊢;rw[show zG=⟨#[117,112,100,97,116,101,100]⟩from rfl]at HC
 clear hX;obtain⟨k,n,s0,pl,nl,cl,pm,nm,cm⟩:=r;dsimp only[RV.val,RV.kobj]at*;have HB0:=yc hB0;clear hB0 ht ot
 rcases X with _|(_|_)
 all_goals
  go_enter Tryz.func123,Tryz.ntmps123
  go_upto_region 1 with fail
  try rw[hW0]
  clear hW0;obtain⟨a0,a1,a2,a3,a4⟩:=hA0.cells5;have hz0:=hA0.lt;clear hA0
  go_wp2_with (go_at_call 175;refine HC.out.mono ?_;rintro e w1 ⟨rfl,hb1⟩)
  go_ret;exact⟨by first|rfl|simp,HB0.out.trans (hb1.mono hw0)⟩
theorem zpj(t:JV)(r:RV)(s:ByteArray)(w:World)(B:Nat)(hBw:B<=w.heap.size)(ht:TreeOf w B t r)(ot:t.Ok)(hs:s.size<=maxLen):
 Calls ye 124 #[r.val,.string s] w fun e w'=>e= .returned (.bool (decide (zP t zG s=some false)))/\Below w.heap.size w w':=by
 obtain⟨W0,hW0⟩:∃W0,w.alloc r.kobj=W0:=⟨_,rfl⟩;have hA0:KAt W0 w.heap.size r:=by rw[<-hW0];exact za rfl
 have hB0:Below w.heap.size w W0:=by rw[<-hW0];exact(yh _ _).alloc (yd _) _
 have hw0:=hB0.size;have hBw0:B<=W0.heap.size:=yg hBw hw0;have HTR:Hid (∀W,Below W0.heap.size W0 W->TreeOf W B t r):=fun W hW=>(ht.under (hB0.mono hBw) (yd _)).under (hW.mono hBw0) (yd _)
 have HC:Hid (Calls ye 175 #[r.val,.string zG,.string s] W0 fun e w'=>e= .returned (.tuple #[.bool (decide (zP t zG s=some true)),.bool (zP t zG s).isSome])/\Below W0.heap.size W0 w'):=zev t r zG s W0 B hBw0 (HTR.out W0 (yh _ _)) ot hs
 obtain⟨X,hX⟩:∃X,zP t zG s=X:=⟨_,rfl⟩;rw[hX]at HC⊢;rw[show zG=⟨#[117,112,100,97,116,101,100]⟩from rfl]at HC
 clear hX;obtain⟨k,n,s0,pl,nl,cl,pm,nm,cm⟩:=r;dsimp only[RV.val,RV.kobj]at*;have HB0:=yc hB0;clear hB0 ht ot
 rcases X with _|(_|_)
 all_goals
  go_enter Tryz.func124,Tryz.ntmps124
  go_upto_region 1 with fail
  try rw[hW0]
  clear hW0;obtain⟨a0,a1,a2,a3,a4⟩:=hA0.cells5;have hz0:=hA0.lt;clear hA0
  go_wp2_with (go_at_call 175;refine HC.out.mono ?_;rintro e w1 ⟨rfl,hb1⟩)
  go_ret;exact⟨by first|rfl|simp,HB0.out.trans (hb1.mono hw0)⟩
theorem zoo(N:Nat):∀(t:JV) (r:RV) (w:World) (B:Nat),SizeOf.sizeOf t<=N->B<=w.heap.size->TreeOf w B t r->t.Ok->AllAt w->
 Calls ye 32 #[r.val] w fun e w'=>e= .returned (.int .i64 (zc4 t))/\Below w.heap.size w w':=by
 induction N with
 |zero=>intro t r w B hN;cases t;simp at hN
 | succ N ih =>
   intro t r w B hN hBw ht ot hall;obtain⟨W0,hW0⟩:∃W0,w.alloc r.obj=W0:=⟨_,rfl⟩;have hA0:VAt W0 w.heap.size r:=by rw[<-hW0];exact za rfl
   have hB0:Below w.heap.size w W0:=by rw[<-hW0];exact(yh _ _).alloc (yd _) _
   have hw0:=hB0.size;have hBw0:B<=W0.heap.size:=yg hBw hw0;have HTR:Hid (∀W,Below W0.heap.size W0 W->TreeOf W B t r):=fun W hW=>(ht.under (hB0.mono hBw) (yd _)).under (hW.mono hBw0) (yd _)
   have HALL:Hid (∀W,Below W0.heap.size W0 W->AllAt W):=fun W hW=>(hall.below hB0).below hW
   have HC:Hid (Calls ye 62 #[r.val,.string zJ] W0 (zV W0 B (t.get zJ))):=zT t r zJ W0 B hBw0 (HTR.out W0 (yh _ _)) ot;have HOP:Hid (∀W,Below W0.heap.size W0 W->Calls ye 73 #[r.val] W fun e w'=>∃v,e= .returned (.tuple #[.string ((t.get zJ).getD JV.zero).s,v,.bool (zdP t)])/\TlOf w' B v (zbx t)/\Below W.heap.size W w'):=fun W hW=>zlM t r W B (yg hBw0 hW.size) (HTR.out W hW) ot
   have HIH:Hid (∀(i:Nat) x (q:RV) (W:World),(zbx t)[i]? =some x->Below W0.heap.size W0 W->TreeOf W B x q->Calls ye 32 #[q.val] W fun e w'=>e= .returned (.int .i64 (zc4 x))/\Below W.heap.size W w'):=fun i x q W hx hW hq=>ih x q W B (by have:=ziQ (ym hx);omega) (yg hBw0 hW.size) hq ((zeT ot).2 i x hx) (HALL.out W hW)
   obtain⟨rms,hm,hml,hmt⟩:=ht.ml;have hmo:=m_ok ot;have hrl:rms.length=r.nm:=(zi hm).symm
   have HCM:Hid (∀(i:Nat) p (q:RM) (W:World),t.m[i]? =some p->rms[i]? =some q->Below W0.heap.size W0 W->Calls ye 72 #[q.val] W fun e w'=>e= .returned (.int .i64 (zdh p.1 p.2))/\Below W.heap.size W w'):=fun i p q W hp hq hW=>by
    obtain⟨h1,h2⟩:=hmt i p q hp hq;have h3:=h2.kk;obtain⟨qn,qv⟩:=q;dsimp only at h1;subst h1;exact zoT p.1 p.2 qv h3.1 h3.2 (by have:=hmo.2.1 i p hp;unfold maxLen;omega) (Ok_s (hmo.2.2 i p hp)) W (HALL.out W hW)
   have HRD:Hid (Rd W0 B zl 6 (.slice r.pm r.nm r.cm) rms):=hm.below (hB0.mono hBw) (yd _);have HCF:=yc (ziq t);have HKK:=yc ht.kk.1;have HCO:=yc (zeT ot).1;obtain⟨E,hE⟩:∃E,zc4 t=E:=⟨_,rfl⟩;obtain⟨X,hX⟩:∃X,t.get zJ=X:=⟨_,rfl⟩;obtain⟨OK,hOK⟩:∃b,zdP t=b:=⟨_,rfl⟩;obtain⟨CL,hCL⟩:∃b,zbx t=b:=⟨_,rfl⟩;obtain⟨M,hM⟩:∃b,t.m=b:=⟨_,rfl⟩;obtain⟨TK,hTK⟩:∃b,t.k=b:=⟨_,rfl⟩;rw[hE,hX,hOK,hCL,hM,hTK]at HCF;rw[hE];rw[hX]at HC HOP;rw[hOK,hCL]at HOP;rw[hCL]at HIH HCO;rw[hM]at HCM hml hmo;rw[hTK]at HKK;unfold zJ at HC;have hno:r.nm<=1466015503658:=by have:=hmo.1;omega
   have HN:Hid (M.length=r.nm):=by unfold Hid;omega
   obtain⟨k,n,s,pl,nl,cl,pm,nm,cm⟩:=r;dsimp only[RV.val,RV.obj]at*;have HB0:=yc hB0;have HRL:=yc hrl;clear hB0 ht ot hE hX hOK hCL hM hTK hm hml hmt hmo ih hall hrl hN
   go_enter Tryz.func32,Tryz.ntmps32
   go_upto_region 1 with fail
   try rw[hW0]
   clear hW0;obtain⟨a0,a1,a2,a3,a4⟩:=hA0.cells5;have hz0:=hA0.lt;clear hA0;by_cases hk6:k=6
   ·have HCF2:Hid (E=if X.isSome=true then(if OK=true then zcf CL else 1)else zck M):=by
     unfold Hid;rw[HCF.out,<-HKK.out,if_pos hk6]
    subst hk6;clear HCF HKK
    go_upto_region 4 with(go_at_call 62;refine HC.out.mono ?_;rintro e w1 ⟨rv,bb,rfl,hbb,ht1,hb1⟩;(have HBB:=yc hbb);clear hbb;obtain⟨rk,rn,rS,rpl,rnl,rcl,rpm,rnm,rcm⟩:=rv)
    have hb2:Below W0.heap.size W0 (w1.alloc (.cells #[.int .i64 rk,.int .i64 rn,.string rS,.slice rpl rnl rcl,.slice rpm rnm rcm] 25)):=hb1.alloc hb1.size _;obtain⟨g,hg⟩:∃g,w1.heap.size=g:=⟨_,rfl⟩;obtain⟨W2,hW2⟩:∃W,w1.alloc (.cells #[.int .i64 rk,.int .i64 rn,.string rS,.slice rpl rnl rcl,.slice rpm rnm rcm] 25)=W:=⟨_,rfl⟩;rw[hW2]at hb2
    try rw[hW2]
    try rw[hg]
    have b0:=zc hb2 hz0 a0;have b1:=zc hb2 hz0 a1;have b2:=zc hb2 hz0 a2;have b3:=zc hb2 hz0 a3;have b4:=zc hb2 hz0 a4;have HB2:=yc hb2;have hz2:=yL hz0 hb2.size;have hzz:=hb2.size;clear hW2 hg hb1 ht1 hb2 a0 a1 a2 a3 a4 HC;cases X with
    | none =>
      obtain rfl:bb=false:=HBB.out;have HE2:Hid (E=zck M):=HCF2.out;clear HCF2 HOP HIH
      go_wp2_with fail
      go_loopw [27] (fun i wr=>∃j:Nat,j<=nm/\i= .int .i64 (j:Int)/\Hid (zck (M.drop j)=E/\Below W0.heap.size W0 wr)) (fun i _=>nm-(intOf i).toNat)
      case atStart=>exact⟨0,by omega,rfl,HE2.out.symm,HB2.out⟩
      case round=>
       obtain⟨j,hj,rfl,hH⟩:=hrel;have HJ:=yc hH.out.1;have HBR:=yc hH.out.2;clear hH;have hj0:(0:Int)<=(j:Int):=yj _;have hbz:=HBR.out.size;by_cases hlt:j<nm
       ·obtain⟨y,hy⟩:∃y,M[j]? =some y:=⟨_,yf (by have:=HN.out;omega)⟩
        obtain⟨⟨xname,⟨xk,xn,xs,xpl,xnl,xcl,xpm,xnm,xcm⟩⟩,hx⟩:∃x,rms[j]? =some x:=⟨_,yf (by have:=HRL.out;omega)⟩
        have hj1:(j:Int)<(nm:Int):=by omega
        obtain⟨b1',o1,rfl,hb1,hc1⟩:=zq (HRD.out.below (HBR.out.mono hBw0) (yd _)) hx;have f0:=hc1 0 _ rfl;have f1:=hc1 1 _ rfl;have f2:=hc1 2 _ rfl;have f3:=hc1 3 _ rfl;have f4:=hc1 4 _ rfl;have f5:=hc1 5 _ rfl;rw[yw]at f0;dsimp only at f0 f1 f2 f3 f4 f5;have hba:Below W0.heap.size W0 (wr.alloc (.cells #[.string xname,.int .i64 xk,.int .i64 xn,.string xs,.slice xpl xnl xcl,.slice xpm xnm xcm] 35)):=HBR.out.alloc hbz _;have HBA:=yc hba;have HCC:=yc (HCM.out j y _ _ hy hx hba);dsimp only[RM.val]at HCC;have HJ2:=yc ((zkK hy).symm.trans HJ.out);obtain⟨CE,hCE⟩:∃c,zdh y.1 y.2=c:=⟨_,rfl⟩;rw[hCE]at HCC HJ2;clear hy hx hc1 hba hCE;by_cases hce:CE=0
        ·have HJ3:Hid (zck (M.drop (j+1))=E):=by
          have:=HJ2.out;rw[if_pos hce]at this;exact this
         subst hce;clear HJ2
         go_wp2_with (go_at_call 72;(with_reducible refine HCC.out.mono ?_);rintro e w3 ⟨rfl,hb3⟩)
         go_roundw
         case rel=>exact⟨j+1,by omega,by go_num,HJ3.out,HBA.out.trans (hb3.mono HBA.out.size)⟩
         case measure=>simp[intOf];omega
        ·have HJ3:Hid (CE=E):=by
          have:=HJ2.out;rw[if_neg hce]at this;exact this
         have q1:(CE !=0)=true:=by simpa using hce
         have q2:(CE==0)=false:=by simpa using hce
         clear HJ2 hce
         go_wp2_with (go_at_call 72;(with_reducible refine HCC.out.mono ?_);rintro e w3 ⟨rfl,hb3⟩)
         go_ret;exact⟨by rw[HJ3.out];rfl,HB0.out.trans ((HBA.out.trans (hb3.mono HBA.out.size)).mono hw0)⟩
       ·obtain rfl:j=nm:=by omega
        have HJ3:Hid (E=0):=by
         have:=HJ.out;rw[yaK (by have:=HN.out;omega)]at this
         exact this.symm
        clear HJ
        go_wp2_with fail
        go_ret;exact⟨by rw[HJ3.out];rfl,HB0.out.trans (HBR.out.mono hw0)⟩
    | some o =>
      obtain rfl:bb=true:=HBB.out;have HOC:=yc (HOP.out W2 HB2.out);cases OK with
      | false =>
        have HE2:Hid (E=1):=HCF2.out;clear HCF2 HOP HIH HCM
        go_wp2_with (go_at_call 73;(with_reducible refine HOC.out.mono ?_);rintro e w3 ⟨v,rfl,htl,hb3⟩)
        go_ret;exact⟨by rw[HE2.out];rfl,HB0.out.trans ((HB2.out.trans (hb3.mono hzz)).mono hw0)⟩
      | true =>
        have HE2:Hid (E=zcf CL):=HCF2.out;clear HCF2 HOP HCM
        go_upto_region 16 with(go_at_call 73;(with_reducible refine HOC.out.mono ?_);rintro e w3 ⟨v,rfl,htl,hb3⟩)
        obtain⟨rs,hr,hlen,htt⟩:=htl;obtain⟨p9,n9,c9,rfl⟩:∃p n c,v=Value.slice p n c:=by(obtain⟨p,c,h,_⟩:=hr;exact⟨p,_,c,h⟩)
        have hrl:rs.length=n9:=(zi hr).symm;have HNL:Hid (CL.length=n9):=by unfold Hid;omega
        have hn9:n9<=1759218604390:=by have:=HCO.out;have:=HNL.out;omega
        have HRS:=yc hr;have HTT:=yc htt;have HB3:Hid (Below W0.heap.size W0 w3):=HB2.out.trans (hb3.mono hzz);have hBw3:B<=w3.heap.size:=yg hBw0 HB3.out.size;have hz3:=HB3.out.size;clear hr hlen htt hb3 b0 b1 b2 b3 b4 HOC HRD
        go_wp2_with fail
        go_loopw [47] (fun i wr=>∃j:Nat,j<=n9/\i= .int .i64 (j:Int)/\Hid (zcf (CL.drop j)=E/\Below w3.heap.size w3 wr)) (fun i _=>n9-(intOf i).toNat)
        case atStart=>exact⟨0,by omega,rfl,HE2.out.symm,yh _ _⟩
        case round=>
         obtain⟨j,hj,rfl,hH⟩:=hrel;have HJ:=yc hH.out.1;have HBR:=yc hH.out.2;clear hH;have hj0:(0:Int)<=(j:Int):=yj _;have hbz:=HBR.out.size;by_cases hlt:j<n9
         ·obtain⟨y,hy⟩:∃y,CL[j]? =some y:=⟨_,yf (by have:=HNL.out;omega)⟩
          obtain⟨⟨xk,xn,xs,xpl,xnl,xcl,xpm,xnm,xcm⟩,hx⟩:∃x,rs[j]? =some x:=⟨_,yf (by omega)⟩
          have hj1:(j:Int)<(n9:Int):=by omega
          obtain⟨b1',o1,rfl,hb1,hc1⟩:=zq (HRS.out.below (HBR.out.mono hBw3) (yd _)) hx;have f0:=hc1 0 _ rfl;have f1:=hc1 1 _ rfl;have f2:=hc1 2 _ rfl;have f3:=hc1 3 _ rfl;have f4:=hc1 4 _ rfl;rw[yw]at f0;dsimp only at f0 f1 f2 f3 f4;have hba:Below w3.heap.size w3 (wr.alloc (.cells #[.int .i64 xk,.int .i64 xn,.string xs,.slice xpl xnl xcl,.slice xpm xnm xcm] 25)):=HBR.out.alloc hbz _;have HBA:=yc hba;have HCC:=yc (HIH.out j y _ _ hy (HB3.out.trans (hba.mono hz3)) ((HTT.out j y _ hy hx).under (hba.mono hBw3) (yd _)));dsimp only[RV.val]at HCC;have HJ2:=yc ((zl2 hy).symm.trans HJ.out);obtain⟨CE,hCE⟩:∃c,zc4 y=c:=⟨_,rfl⟩;rw[hCE]at HCC HJ2;clear hy hx hc1 hba hCE;by_cases hce:CE=0
          ·have HJ3:Hid (zcf (CL.drop (j+1))=E):=by
            have:=HJ2.out;rw[if_pos hce]at this;exact this
           subst hce;clear HJ2
           go_wp2_with (go_at_call 32;(with_reducible refine HCC.out.mono ?_);rintro e w4 ⟨rfl,hb4⟩)
           go_roundw
           case rel=>exact⟨j+1,by omega,by go_num,HJ3.out,HBA.out.trans (hb4.mono HBA.out.size)⟩
           case measure=>simp[intOf];omega
          ·have HJ3:Hid (CE=E):=by
            have:=HJ2.out;rw[if_neg hce]at this;exact this
           have q1:(CE !=0)=true:=by simpa using hce
           have q2:(CE==0)=false:=by simpa using hce
           clear HJ2 hce
           go_wp2_with (go_at_call 32;(with_reducible refine HCC.out.mono ?_);rintro e w4 ⟨rfl,hb4⟩)
           go_ret;exact⟨by rw[HJ3.out];rfl,HB0.out.trans ((HB3.out.trans ((HBA.out.trans (hb4.mono HBA.out.size)).mono hz3)).mono hw0)⟩
         ·obtain rfl:j=n9:=by omega
          have HJ3:Hid (E=0):=by
           have:=HJ.out;rw[yaK (by have:=HNL.out;omega)]at this
           have h0:zcf []=0:=by rw[zcf]
           exact(h0.symm.trans this).symm
          clear HJ
          go_wp2_with fail
          go_ret;exact⟨by rw[HJ3.out];rfl,HB0.out.trans ((HB3.out.trans (HBR.out.mono hz3)).mono hw0)⟩
   ·have HE2:Hid (E=1):=by
     unfold Hid;rw[HCF.out,<-HKK.out,if_neg hk6]
    have q1:(k !=6)=true:=by simpa using hk6
    have q2:(k==6)=false:=by simpa using hk6
    clear HCF HKK hk6 HIH HOP HCM
    go_wp2_with fail
    go_ret;exact⟨by rw[HE2.out];rfl,HB0.out⟩
theorem zlm(t:JV)(r:RV)(w:World)(B:Nat)(hBw:B<=w.heap.size)(ht:TreeOf w B t r)(ot:t.Ok)(hct:zf t<=100000)(hall:AllAt w):
 Calls ye 11 #[r.val] w fun e w'=>e= .returned (.int .i64 (zdq t))/\Below w.heap.size w w':=by
 obtain⟨W0,hW0⟩:∃W0,w.alloc r.obj=W0:=⟨_,rfl⟩;have hA0:VAt W0 w.heap.size r:=by rw[<-hW0];exact za rfl
 have hB0:Below w.heap.size w W0:=by rw[<-hW0];exact(yh _ _).alloc (yd _) _
 have hw0:=hB0.size;have hBw0:B<=W0.heap.size:=yg hBw hw0;have hT0:TreeOf W0 B t r:=ht.under (hB0.mono hBw) (yd _)
 have HCN:Hid (Calls ye 12 #[r.val] W0 fun e w'=>e= .returned (.int .i64 (zf t))/\Below W0.heap.size W0 w'):=(zl7 _ t r W0 (yd _) (hT0.mono hBw0) ot).mono fun e w' h=>by
  obtain⟨h1,h2⟩:=h;have e1:IntKind.i64.wrap (zf t:Int)=(zf t:Int):=by rw[IntKind.wrap_i64];omega
  rw[e1]at h1;exact⟨h1,h2⟩
 have HCK:Hid (∀W,Below W0.heap.size W0 W->Calls ye 32 #[r.val] W fun e w'=>e= .returned (.int .i64 (zc4 t))/\Below W.heap.size W w'):=fun W hW=>zoo _ t r W B (yd _) (yg hBw0 hW.size) (hT0.under (hW.mono hBw0) (yd _)) ot ((hall.below hB0).below hW)
 have HCF:Hid (zdq t=if r.k=1 then 0 else if 30<zf t then 200 else zc4 t):=by
  unfold Hid zdq;rw[ht.kk.1]
 obtain⟨E,hE⟩:∃E,zdq t=E:=⟨_,rfl⟩;obtain⟨C,hC⟩:∃E,zf t=E:=⟨_,rfl⟩;obtain⟨F,hF⟩:∃E,zc4 t=E:=⟨_,rfl⟩;rw[hE,hC,hF]at HCF;rw[hE];rw[hC]at HCN;rw[hF]at HCK;obtain⟨k,n,s,pl,nl,cl,pm,nm,cm⟩:=r;dsimp only[RV.val,RV.obj]at*;have HB0:=yc hB0;have c0:(0:Int)<=(C:Int):=yj _;clear hB0 ht ot hE hC hF hct hall hT0
 go_enter Tryz.func11,Tryz.ntmps11
 go_upto_region 1 with fail
 try rw[hW0]
 clear hW0;obtain⟨a0,a1,a2,a3,a4⟩:=hA0.cells5;have hz0:=hA0.lt;clear hA0;by_cases hk1:k=1
 ·have HE2:Hid (E=0):=by unfold Hid;rw[HCF.out,if_pos hk1]
  subst hk1;clear HCF HCN HCK
  go_wp2_with fail
  go_ret;exact⟨by rw[HE2.out];rfl,HB0.out⟩
 have q1:(k==1)=false:=by simpa using hk1
 by_cases hc:30<C
 ·have HE2:Hid (E=200):=by unfold Hid;rw[HCF.out,if_neg hk1,if_pos hc]
  have q2:decide ((30:Int)<(C:Int))=true:=decide_eq_true (by omega)
  have q3:decide (30<C)=true:=decide_eq_true hc;clear HCF HCK hk1
  go_wp2_with (go_at_call 12;(with_reducible refine HCN.out.mono ?_);rintro e w1 ⟨rfl,hb1⟩)
  go_ret;exact⟨by rw[HE2.out];rfl,HB0.out.trans (hb1.mono hw0)⟩
 ·have HE2:Hid (E=F):=by unfold Hid;rw[HCF.out,if_neg hk1,if_neg hc]
  have q2:decide ((30:Int)<(C:Int))=false:=decide_eq_false (by omega)
  have q3:decide (30<C)=false:=decide_eq_false hc;clear HCF hk1
  go_wp2_with (first
   |(go_at_call 12;(with_reducible refine HCN.out.mono ?_);rintro e w1 ⟨rfl,hb1⟩;(have d0:=zc hb1 hz0 a0);(have d1:=zc hb1 hz0 a1);(have d2:=zc hb1 hz0 a2);(have d3:=zc hb1 hz0 a3);(have d4:=zc hb1 hz0 a4))
   |(go_at_call 32;(with_reducible refine(HCK.out _ hb1).mono ?_);rintro e w2 ⟨rfl,hb2⟩)
   |fail)
  go_ret;exact⟨by rw[HE2.out];rfl,HB0.out.trans ((hb1.trans (hb2.mono hb1.size)).mono hw0)⟩
end
section
open Go.RowKit Go.OpenShut
def zqe(w:World)(b:BoxD)(e:Ending)(w':World):Prop:=∃y:Bool,e= .returned (.bool y)/\Hid (y=true->(b.objs.length<=100/\b.trail.length<=300)/\∀p∈b.objs,(p.2.m.length<=10000/\zf p.2<=200))/\Below w.heap.size w w'
theorem zmb(b:BoxD)(r:RB)(w:World)(hb:BoxOf w w.heap.size b r)(ob:b.Ok):
 Calls ye 37 #[r.val] w (zqe w b):=by
 have ho:=hb.objs;have hnt:=hb.trail.nlen;obtain⟨po,no,co,pt,nt,ct,sq,fl,kp⟩:=r;dsimp only[RB.val]at*;obtain⟨rms,hrd,hms⟩:=ho;have hn:=zi hrd;have hlm:=hms.len;have hzo:=ob.objs;have hA0:BoxAt (w.alloc (.cells #[.slice po no co,.slice pt nt ct,.int .i64 sq,.int .i64 fl,.int .i64 kp] 40)) w.heap.size ⟨po,no,co,pt,nt,ct,sq,fl,kp⟩:=za rfl;have hB0:Below w.heap.size w (w.alloc (.cells #[.slice po no co,.slice pt nt ct,.int .i64 sq,.int .i64 fl,.int .i64 kp] 40)):=(yh _ _).alloc (yd _) _;have HRD:=yc hrd;have HMS:=yc hms;have HOK:=yc ob.each;have HN:Hid (b.objs.length=no/\rms.length=no/\b.trail.length=nt):=⟨by omega,by omega,hnt⟩
 clear hb hrd hms hn hlm hzo ob hnt
 go_enter Tryz.func37,Tryz.ntmps37
 go_upto_region 1 with fail
 obtain⟨W0,hW0⟩:∃W0,(w.alloc (.cells #[.slice po no co,.slice pt nt ct,.int .i64 sq,.int .i64 fl,.int .i64 kp] 40))=W0:=⟨_,rfl⟩;rw[hW0]at hA0 hB0⊢;clear hW0;have c0:=hA0.cell 0 rfl;have c1:=hA0.cell 1 rfl;dsimp only at c0 c1;have HB:=yc hB0;have HA:=yc hA0;have hz:=hA0.lt;clear hA0 hB0;by_cases h1:100<no
 ·have d1:decide ((100:Int)<(no:Int))=true:=by simp;omega
  clear h1
  go_wp2_with fail
  go_ret;exact⟨false,rfl,(fun h=>by cases h),HB.out⟩
 have d1:decide ((100:Int)<(no:Int))=false:=by simp;omega
 by_cases h2:300<nt
 ·have d2:decide ((300:Int)<(nt:Int))=true:=by simp;omega
  clear h2
  go_wp2_with fail
  go_ret;exact⟨false,rfl,(fun h=>by cases h),HB.out⟩
 have d2:decide ((300:Int)<(nt:Int))=false:=by simp;omega
 have hno:no<=100:=by omega
 have HNT:Hid (nt<=300):=by unfold Hid;omega
 clear h1 h2
 go_wp2_with fail
 go_loopw [3] (fun i wr=>∃k:Nat,k<=no/\i= .int .i64 k/\Hid (∀(i:Nat) p,i<k->b.objs[i]? =some p->(p.2.m.length<=10000/\zf p.2<=200))/\Below W0.heap.size W0 wr) (fun i _=>no-(intOf i).toNat)
 case atStart=>exact⟨0,Nat.zero_le _,rfl,(fun i p h=>by omega),yh _ _⟩
 case round=>
  obtain⟨k,hk,rfl,HMJ,hbr⟩:=hrel;have c0:=zc hbr hz c0;have hbw:Below w.heap.size w wr:=HB.out.trans (hbr.mono HB.out.size);by_cases hlt:k<no
  ·obtain⟨x,hx⟩:∃x,rms[k]? =some x:=⟨_,yf (by have:=HN.out;omega)⟩
   obtain⟨p,hp⟩:∃x,b.objs[k]? =some x:=⟨_,yf (by have:=HN.out;omega)⟩
   have HC:=yc (zeV p.2 x.v 200 wr (by decide) ((HMS.out.val _ p x hp hx).under hbw hbw.size) (HOK.out p (ym hp)).2)
   have hvm:p.2.m.length=x.v.nm:=by
    obtain⟨rms2,hm1,hm2,_⟩:=(HMS.out.val _ p x hp hx).mems;rw[hm2.len];exact(zi hm1).symm
   have HVM:=yc (And.intro hvm hp);clear hvm;obtain⟨b1,o1,rfl,hb1,hc1⟩:=zq (HRD.out.below hbw (yd _)) hx;have f0:=hc1 0 _ rfl;have f1:=hc1 1 _ rfl;have f2:=hc1 2 _ rfl;have f3:=hc1 3 _ rfl;have f4:=hc1 4 _ rfl;have f5:=hc1 5 _ rfl;have hk0:(0:Int)<=(k:Int):=yj _;have hk1:(k:Int)<(no:Int):=by omega
   have HBR:=yc hbr;clear hx hp hc1 hbr hbw
   go_wp2_with (go_at_call 30;refine HC.out.mono ?_;rintro e w2 ⟨y,rfl,hyM,hb2⟩;cases y)
   ·go_ret;exact⟨false,rfl,(fun h=>by cases h),HB.out.trans ((HBR.out.trans (hb2.mono HBR.out.size)).mono HB.out.size)⟩
   ·go_roundw
    case rel=>
     refine⟨k+1,by omega,by go_num,fun i q hi hq=> ?_,HBR.out.trans (hb2.mono HBR.out.size)⟩
     by_cases hij:i<k
     ·exact HMJ.out i q hij hq
     ·obtain rfl:i=k:=by omega
      obtain rfl:p=q:=Option.some.inj (HVM.out.2.symm.trans hq);have h1:=hyM.out (by trivial)
      have h2:=HVM.out.1;exact⟨by omega,h1.2.2⟩
    case measure=>simp[intOf];omega
  ·obtain rfl:k=no:=by omega
   go_wp2_with fail
   go_ret;refine⟨true,rfl,fun _=>⟨by have:=HN.out;have:=HNT.out;omega,fun p hp=> ?_⟩,hbw⟩
   obtain⟨i,hi⟩:=List.getElem?_of_mem hp;have hlt:=(List.getElem?_eq_some_iff.1 hi).1;exact HMJ.out i p (by have:=HN.out;have h3:i<b.objs.length:=hlt;omega) hi
end
end Go.Proofs.YtemofofnkchmeaaGreatDoor
