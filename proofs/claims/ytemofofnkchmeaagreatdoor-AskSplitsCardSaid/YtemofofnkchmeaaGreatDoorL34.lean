import Derived.Test.YtemofofnkchmeaaGreatDoorL24
import Derived.Test.YtemofofnkchmeaaGreatDoorL09
import Derived.Test.YtemofofnkchmeaaGreatDoorL29
import Derived.Test.YtemofofnkchmeaaGreatDoorL33
import Derived.Test.YtemofofnkchmeaaGreatDoorL22
import Derived.Test.YtemofofnkchmeaaGreatDoorL23
import Derived.Test.YtemofofnkchmeaaGreatDoorL27
import Derived.Test.YtemofofnkchmeaaGreatDoorL28
import Derived.Shelf.SlSortCmp.NoneTotal
import Derived.Test.YtemofofnkchmeaaGreatDoorL06
import Derived.Test.YtemofofnkchmeaaGreatDoorL10
import Derived.Test.YtemofofnkchmeaaGreatDoorL00
set_option linter.unusedSimpArgs false
set_option linter.unusedVariables false
set_option maxRecDepth 200000
set_option maxHeartbeats 8000000
namespace Go.Proofs.YtemofofnkchmeaaGreatDoor
open _root_.Array renaming getElem?_eq_some_iff->yl,getElem?_modify->yC
open _root_.Go.RowKit.Below renaming refl->yh
open _root_.Go.Lib renaming hid->yc
open _root_.List renaming Pairwise->yaA,Perm->yaV,getElem?_eq_getElem->yf,getElem?_eq_none->ya1,getElem?_eq_some_iff->yi,getElem?_map->yG,getElem?_zip_eq_some->yaC,length_map->yy,mem_filter->yaS,mem_map->y8,mem_of_getElem?->ym,mem_singleton->yai,pairwise_map->yaH,range->yam,take_add_one->yD,take_of_length_le->yq
open _root_.Nat renaming le_refl->yd,le_trans->yg,zero_le->yu
open _root_.Option renaming map_some->yaU
open _root_.Go.Proofs.Tryz renaming prog->ye
section
open Go Go.RowKit Go.OpenShut
theorem kbQ{B:Nat}{W w:World}(h:KB B W w):Below B W w:=h.1
def zd8(f:JV)(os:List (ByteArray×JV)):List (ByteArray×JV):=os.filter (fun p=>zcn f p.2)
def zcv(f so:JV)(os:List (ByteArray×JV)):List ByteArray:=(zfd (zbB so) (zd8 f os)).map (fun i=>((zd8 f os).getD i dO).1)
theorem zpM(f:JV)(os:List (ByteArray×JV)):(zd8 f os).length<=os.length:=List.length_filter_le _ _
theorem zpL(f so:JV)(os:List (ByteArray×JV)):(zcv f so os).length<=os.length:=by
 unfold zcv;rw[yy,(zeZ _ _).length_eq,List.length_range];exact zpM f os
def RowsJ(w:World)(B:Nat)(xs:List (RM×JV)):Prop:=∀x∈xs,TreeOf w B x.2 x.1.v/\x.2.Ok/\x.1.name.size<=140737488351232
theorem RowsJ.under{w w':World}{B B':Nat}{xs:List (RM×JV)}(h:RowsJ w B xs)(hb:Below B w w')(hB:B<=B'):RowsJ w' B' xs:=fun x hx=>⟨(h x hx).1.under hb hB,(h x hx).2⟩
theorem znW{w:World}{B:Nat}{os:List (ByteArray×JV)}{v:Value}(h:ObjsOf w B os v)(ok:∀p∈os,p.1.size<=140737488351232/\p.2.Ok):
 ∃xs:List (RM×JV),Rd w B zcz 6 v xs/\RowsJ w B xs/\os=xs.map (fun x=>(x.1.name,x.2)):=by
 obtain⟨ros,hr,hm⟩:=h;have hl:=hm.len;refine⟨ros.zip (os.map (·.2)),?_,?_,?_⟩
 ·have e:(ros.zip (os.map (·.2))).map (·.1)=ros:=List.map_fst_zip (by rw[yy];omega)
  rw[<-e]at hr;obtain⟨p,cap,h1,h2,h3,h4,h5⟩:=hr;rw[yy]at h1 h2;refine⟨p,cap,h1,h2,h3,h4,fun a ha h0=> ?_⟩
  obtain⟨b,o,e1,e2,e3⟩:=h5 a ha (by rw[yy];exact h0)
  exact⟨b,o,e1,e2,fun i x hx j u hu=>e3 i x.1 (by rw[yG,hx];rfl) j u hu⟩
 ·intro x hx;obtain⟨i,hi⟩:=List.getElem?_of_mem hx;rw[yaC,yG]at hi;obtain⟨h1,h2⟩:=hi;cases ho:os[i]? with
  |none=>rw[ho]at h2;simp at h2
  | some p =>
    rw[ho]at h2;simp only[yaU,Option.some.injEq]at h2;have hn:=hm.name i p x.1 ho h1;have hk:=ok p (ym ho);exact⟨h2▸hm.val i p x.1 ho h1,h2▸hk.2,hn▸hk.1⟩
 ·refine List.ext_getElem? fun i=> ?_
  rw[yG];cases ho:os[i]? with
  | none =>
    have:(ros.zip (os.map (·.2)))[i]? =none:=by
     rw[List.getElem?_eq_none_iff]at ho⊢;simp[List.length_zip];omega
    rw[this];rfl
  | some p =>
    have hi:=(yi.1 ho).1;obtain⟨q,hq⟩:∃q,ros[i]? =some q:=⟨_,yf (by omega)⟩
    have:(ros.zip (os.map (·.2)))[i]? =some (q,p.2):=by
     rw[yaC];exact⟨hq,by rw[yG,ho];rfl⟩
    rw[this];simp only[yaU,<-hm.name i p q ho hq]
theorem RowsJ.objL{w:World}{B:Nat}{xs:List (RM×JV)}(h:RowsJ w B xs){v:Value}(hr:Rd w B zl 6 v (xs.map (·.1))):ObjL w B (xs.map (fun x=>(x.1.name,x.2))) (xs.map (·.1)) v:=by
 refine⟨hr,by simp,fun i hi=> ?_,fun o ho=> ?_⟩
 ·rw[yy]at hi;obtain⟨x,hx⟩:∃x,xs[i]? =some x:=⟨_,yf hi⟩;have h1:(xs.map (fun x=>(x.1.name,x.2))).getD i dO=(x.1.name,x.2):=ziv (by rw[yG,hx];rfl)
  have h2:(xs.map (·.1)).getD i dRM=x.1:=ziv (by rw[yG,hx];rfl)
  rw[h1,h2];have:=h x (ym hx);exact⟨rfl,this.1,this.2.1⟩
 ·obtain⟨x,hx,rfl⟩:=y8.1 ho;exact(h x hx).2.2
theorem zn5(f:JV)(xs:List (RM×JV)):zd8 f (xs.map (fun x=>(x.1.name,x.2)))=(xs.filter (fun x=> !(!zcn f x.2))).map (fun x=>(x.1.name,x.2)):=by
 unfold zd8;rw[List.filter_map]
 congr 1
 refine List.filter_congr fun x _=> ?_
 simp
theorem zq9(f v:JV)(rf:RV)(x:RM)(g:Nat)(w:World)(B:Nat)(hBw:B<=w.heap.size)(hg:VAt w g rf)(htf:TreeOf w B f rf)(htv:TreeOf w B v x.v)(of:f.Ok)(ov:v.Ok)(hcf:zf f<=100000)(hct:zf v<=100000)(hsz:zr v<=4000000000)(hnull:f.k=1->f.m=[])(hall:AllAt w)(hmax:MaxAt w):
 Calls ye 49 #[x.val,.pointer (some ⟨g,0,none⟩)] w fun e w'=>e= .returned (.bool (!zcn f v))/\Below w.heap.size w w':=by
 obtain⟨nm,k,n,s,pl,nl,cl,pm,nm',cm⟩:=x;dsimp only[RM.val]at*;have hB:Below w.heap.size w (w.alloc (.cells #[.string nm,.int .i64 k,.int .i64 n,.string s,.slice pl nl cl,.slice pm nm' cm] 62)):=(yh _ _).alloc (yd _) _;have HH:=yc (zln f v rf ⟨k,n,s,pl,nl,cl,pm,nm',cm⟩ (w.alloc (.cells #[.string nm,.int .i64 k,.int .i64 n,.string s,.slice pl nl cl,.slice pm nm' cm] 62)) B (yg hBw hB.size) (htf.under (hB.mono hBw) (yd _)) (htv.under (hB.mono hBw) (yd _)) of ov hcf hct hsz hnull (hall.below hB) (hmax.below hB));have hg1:VAt (w.alloc (.cells #[.string nm,.int .i64 k,.int .i64 n,.string s,.slice pl nl cl,.slice pm nm' cm] 62)) g rf:=hg.under hB hg.lt;have hgl:=hg1.lt;obtain⟨fk,fn,fs,fpl,fnl,fcl,fpm,fnm,fcm⟩:=rf;obtain⟨c0,c1,c2,c3,c4⟩:=hg1.cells5;dsimp only at c0 c1 c2 c3 c4;have HB:=yc hB;have hne:g≠w.heap.size:=Nat.ne_of_lt hg.lt;clear hg htf htv of ov hcf hct hsz hnull hall hmax hg1 hB
 go_enter Tryz.func49,Tryz.ntmps49
 go_wp2_with (go_at_call 13;(with_reducible refine HH.out.mono ?_);rintro e w1 ⟨rfl,hb1⟩)
 go_ret;exact⟨rfl,HB.out.trans (hb1.mono HB.out.size)⟩
theorem zeF(b:BoxD)(r:RB)(f so:JV)(rf rs:RV)(w:World)(B:Nat)(hBw:B<=w.heap.size)(hb:BoxOf w B b r)(ob:b.Ok)(hf:TreeOf w B f rf)(of:f.Ok)(hs:TreeOf w B so rs)(os:so.Ok)
 (hcf:zf f<=100000) (hv:∀p∈b.objs,zf p.2<=100000/\zr p.2<=4000000000) (hnull:f.k=1->f.m=[]) (hall:AllAt w) (hmax:MaxAt w) (hn:b.objs.length<=1000000):
 Calls ye 22 #[r.val,rf.val,rs.val] w fun e w'=>∃u,e= .returned u/\Own w' w.heap.size 9 zg 1 u (zcv f so b.objs)/\Below w.heap.size w w':=by
 obtain⟨W0,hW0⟩:∃W0,((w.alloc r.obj).alloc rf.obj).alloc rs.obj=W0:=⟨_,rfl⟩;have hA0:BoxAt W0 w.heap.size r:=by rw[<-hW0];exact zb (by simp;omega) (zb (by simp) (za rfl))
 have hC0:VAt W0 (w.heap.size+1) rf:=by rw[<-hW0];exact zb (by simp) (za (by simp))
 have hD0:VAt W0 (w.heap.size+2) rs:=by rw[<-hW0];exact za (by simp)
 have hB0:Below w.heap.size w W0:=by rw[<-hW0];exact(zM w _ _).alloc (zM w _ _).size _
 have hw0:=hB0.size;obtain⟨xs,hr,hx,ho⟩:=znW (hb.objs.under (hB0.mono hBw) (yg hBw hw0)) ob.each;have hl:xs.length=b.objs.length:=by rw[ho,yy]
 have HXV:Hid (∀x∈xs,zf x.2<=100000/\zr x.2<=4000000000):=fun x h=>hv (x.1.name,x.2) (by rw[ho];exact y8.2 ⟨x,h,rfl⟩)
 have HQ:Hid (zd8 f b.objs=(xs.filter (fun x=> !(!zcn f x.2))).map (fun x=>(x.1.name,x.2))):=by unfold Hid;rw[ho];exact zn5 f xs
 have HL:Hid (xs.length<=1000000):=by unfold Hid;omega
 have HFT:Hid (∀W,Below W0.heap.size W0 W->TreeOf W W0.heap.size f rf/\TreeOf W W0.heap.size so rs/\RowsJ W W0.heap.size xs/\VAt W (w.heap.size+1) rf/\AllAt W/\MaxAt W):=fun W h=>⟨(hf.under (hB0.mono hBw) (yg hBw hw0)).under h (yd _),(hs.under (hB0.mono hBw) (yg hBw hw0)).under h (yd _),(hx.under h (yd _)),hC0.under h hC0.lt,(hall.below hB0).below h,(hmax.below hB0).below h⟩
 have HK:Hid (f.Ok/\so.Ok/\zf f<=100000/\(f.k=1->f.m=[])):=⟨of,os,hcf,hnull⟩;have HR:=yc hr;have HB0:=yc hB0;obtain⟨po,no,co,pt,nt,ct,sq,fl,kp⟩:=r;obtain⟨sk,sn,ss,spl,snl,scl,spm,snm,scm⟩:=rs;dsimp only[RB.val,RB.obj,RV.val,RV.obj]at*;obtain⟨a0,a1,a2,a3,a4⟩:=hA0.cells5;obtain⟨d0,d1,d2,d3,d4⟩:=hD0.cells5;have hza:=hA0.lt;have hzc:=hC0.lt;have hzd:=hD0.lt;have HW:=yc hW0;have HCL:Hid (∀W,Below W0.heap.size W0 W->Calls ye 52 #[.slice po no co] W fun e w'=>∃p' c',e= .returned (.slice p' no c')/\(po=none↔p'=none)/\Own w' W.heap.size 62 zcz 6 (.slice p' no c') xs/\Below W.heap.size W w'):=fun W h=>zhG zb5 W po no co xs (HR.out.below h h.size) (by have:=HL.out;omega)
 have HDL : Hid (∀ W, Below W0.heap.size W0 W -> ∀ p c, Own W W0.heap.size 62 zcz 6 (.slice p no c) xs -> Calls ye 51 #[.slice p no c, outV (w.heap.size + 1)] W fun e w' => ∃ m, e = .returned (.slice p m c) /\ Own w' W0.heap.size 62 zcz 6 (.slice p m c) (xs.filter (fun x => !(!zcn f x.2))) /\ Below W0.heap.size W w') := fun W hW0 p c hO => zno W W0.heap.size p no c xs hO hW0.size (w.heap.size + 1) (fun x => !zcn f x.2) (fun x hx W' hW => by
          have h:=HFT.out W' (hW0.trans hW);have h3:=h.2.2.1 x hx;exact zq9 f x.2 rf x.1 (w.heap.size+1) W' W0.heap.size (hW0.trans hW).size h.2.2.2.1 h.1 h3.1 HK.out.1 h3.2.1 HK.out.2.2.1 (HXV.out x hx).1 (HXV.out x hx).2 HK.out.2.2.2 h.2.2.2.2.1 h.2.2.2.2.2) (by have:=HL.out;omega)
 have HOR:Hid (∀W,Below W0.heap.size W0 W->∀p m c,Own W W0.heap.size 62 zcz 6 (.slice p m c) (xs.filter (fun x=> !(!zcn f x.2)))->Calls ye 50 #[RV.val ⟨sk,sn,ss,spl,snl,scl,spm,snm,scm⟩,.slice p m c] W fun e w'=>∃u,e= .returned u/\Own w' W.heap.size 9 zg 1 u (zcv f so b.objs)/\Below W.heap.size W w'):=fun W hW p m c hO=>by
  have h:=zlf so ⟨sk,sn,ss,spl,snl,scl,spm,snm,scm⟩ _ _ p m c W W.heap.size (yd _) ((HFT.out W hW).2.1.under (yh _ _) hW.size) HK.out.2.1 (RowsJ.objL (xs:=xs.filter (fun x=> !(!zcn f x.2))) (fun x hx=>(((HFT.out W hW).2.2.1.under (yh _ _) hW.size) x (yaS.1 hx).1)) (hO.ofOJ.rd codecM)) (by have:=HL.out;have:=List.length_filter_le (fun x:RM×JV=> !(!zcn f x.2)) xs;rw[yy];omega)
  unfold zcv;rw[HQ.out];exact h
 clear hb ob hf of hs os hcf hv hnull hall hmax hn hW0 hr hx ho hl hA0 hC0 hD0 hB0
 go_enter Tryz.func22,Tryz.ntmps22
 go_upto_region 2 with fail
 try rw[HW.out]
 clear HW;have hk0:=KB.drew W0
 go_region_held3 (fun w'=>Below W0.heap.size W0 w'/\∀b o,b<W0.heap.size->w'.cell? ⟨b,o,none⟩=W0.cell? ⟨b,o,none⟩)
  (first|with_reducible exact ziA W0|with_reducible exact ziB hbk)
  (first
   |(go_at_call 52;(with_reducible refine(HCL.out _ (kbQ hk0)).mono ?_);rintro e w1 ⟨p1,c1,rfl,_,ho1,hb1⟩;(have hbk:=KB.step (W:=W0) hk0 hb1);(have HO1:Hid (Own w1 W0.heap.size 62 zcz 6 (.slice p1 no c1) xs):=ho1))
   |(go_at_call 51;(with_reducible refine(HDL.out _ (kbQ hbk) p1 c1 HO1.out).mono ?_);rintro e w2 ⟨m2,rfl,ho2,hb2⟩;(have hbk:=(KB.mk ((kbQ hbk).trans hb2):KB W0.heap.size W0 w2));(have HO2:=yc ho2);(have hz2:=(kbQ hbk).size))
   |(go_at_call 50;(with_reducible refine(HOR.out _ (kbQ hbk) p1 m2 c1 HO2.out).mono ?_);rintro e w3 ⟨u,rfl,ho3,hb3⟩;(have hbk:=KB.step (W:=W0) hbk hb3);(have HO3:=yc ho3)))
 all_goals go_wp2_with fail
 all_goals go_ret
 all_goals exact⟨u,rfl,HO3.out.mono (yg HB0.out.size hz2),HB0.out.trans (hbk.1.mono HB0.out.size)⟩
end
section
open Go Go.RowKit
theorem zmz{α β:Type}(g:α->β)(d:α)(l:List α):(yam l.length).map (fun i=>g (l.getD i d))=l.map g:=by
 refine List.ext_getElem? fun i=> ?_
 rw[yG,yG];by_cases h:i<l.length
 ·rw[List.getElem?_range h];simp[yf h,List.getD_eq_getElem?_getD]
 ·rw[ya1 (by simp;omega),ya1 (by omega)]
  rfl
theorem zi6(f so:JV)(os:List (ByteArray×JV)):(zcv f so os).Perm ((zd8 f os).map (·.1)):=by
 unfold zcv;have h:=(zeZ (zbB so) (zd8 f os)).map (fun i=>((zd8 f os).getD i dO).1)
 rwa[zmz (fun p:ByteArray×JV=>p.1)]at h
theorem zmy(f so:JV){os:List (ByteArray×JV)}(h:(os.map (·.1)).Nodup):(zcv f so os).Nodup:=by
 rw[(zi6 f so os).nodup_iff];exact(List.filter_sublist.map _).nodup h
structure DlD where
 rem:List ByteArray
 add:List (ByteArray×Int)
 tot:Int
def DlD.zero:DlD:=⟨[],[],0⟩
def zbv(ys:List Pa):List ByteArray:=(ys.filter (·.was)).map (·.id)
def plP(now:List ByteArray)(p:Pa):Option (ByteArray×Int):=if p.isb then(now.findIdx? (fun x=>decide (p.id=x))).map (fun(i:Nat)=>(p.id,(i:Int)))else none
def zbA(now:List ByteArray)(ys:List Pa):List (ByteArray×Int):=ys.filterMap (plP now)
def zin(now:List ByteArray)(ys:List Pa)(i:Nat):List (ByteArray×Int):=(ys.filter (fun p=>decide (now[i]? =some p.id)&&p.isb)).map (fun p=>(p.id,(i:Int)))
def zcs(now:List ByteArray)(ys:List Pa)(n:Nat):List (ByteArray×Int):=(yam n).flatMap (zin now ys)
def zeS(a b:ByteArray×Int):Prop:=a.2<b.2
theorem zpx{l:List ByteArray}(h:l.Nodup){i j:Nat}{s:ByteArray}(hi:l[i]? =some s)(hj:l[j]? =some s):i=j:=
 (List.getElem?_inj (yi.1 hi).1 h).1 (hi.trans hj.symm)
theorem zfL{l:List ByteArray}{s:ByteArray}{i:Nat}(h:l.findIdx? (fun x=>decide (s=x))=some i):l[i]? =some s:=by
 rw[List.findIdx?_eq_some_iff_getElem]at h;obtain⟨h1,h2,h3⟩:=h;simp only[decide_eq_true_eq]at h2;rw[yf h1,h2]
theorem zmc{l:List ByteArray}(hn:l.Nodup){s:ByteArray}{i:Nat}(h:l[i]? =some s):l.findIdx? (fun x=>decide (s=x))=some i:=by
 cases hf:l.findIdx? (fun x=>decide (s=x))with
 | none =>
   have:=List.findIdx?_eq_none_iff.1 hf s (ym h);simp at this
 |some k=>rw[zpx hn (zfL hf) h]
theorem zhp{now:List ByteArray}{p:Pa}{y:ByteArray×Int}(h:plP now p=some y):p.isb=true/\y.1=p.id/\∃i:Nat,y.2=(i:Int)/\now[i]? =some p.id:=by
 unfold plP at h
 split at h
 ·rename_i hb;cases hf:now.findIdx? (fun x=>decide (p.id=x))with
  |none=>rw[hf]at h;cases h
  | some i =>
    rw[hf]at h;simp only[yaU,Option.some.injEq]at h;subst h;exact⟨hb,rfl,i,rfl,zfL hf⟩
 ·cases h
theorem zrb{now:List ByteArray}{ys:List Pa}(h:(ys.map (·.id)).Nodup):(zbA now ys).Pairwise (fun a b=>a.2≠b.2):=by
 unfold zbA;rw[List.pairwise_filterMap];rw[List.Nodup,yaH]at h;refine h.imp fun{p q} hpq a ha b hb e=> ?_
 obtain⟨_,_,i,hi,h1⟩:=zhp ha;obtain⟨_,_,j,hj,h2⟩:=zhp hb;have:i=j:=by omega
 subst this;rw[h1]at h2;exact hpq (by simpa using h2)
theorem zhl{now:List ByteArray}(hn:now.Nodup){ys:List Pa}{y:ByteArray×Int}:y∈zbA now ys↔∃p∈ys,p.isb=true/\y.1=p.id/\∃i:Nat,y.2=(i:Int)/\now[i]? =some p.id:=by
 unfold zbA;rw[List.mem_filterMap]
 constructor
 ·rintro⟨p,hp,h⟩;exact⟨p,hp,zhp h⟩
 ·rintro⟨p,hp,hb,h1,i,h2,h3⟩;refine⟨p,hp,?_⟩;unfold plP;rw[if_pos hb,zmc hn h3,yaU];obtain⟨a,b⟩:=y;simp only at h1 h2;rw[h1,h2]
theorem mem_addI{now:List ByteArray}{ys:List Pa}{i:Nat}{y:ByteArray×Int}:y∈zin now ys i↔∃p∈ys,p.isb=true/\y.1=p.id/\y.2=(i:Int)/\now[i]? =some p.id:=by
 unfold zin;rw[y8]
 constructor
 ·rintro⟨p,hp,rfl⟩;rw[yaS]at hp;simp only[Bool.and_eq_true,decide_eq_true_eq]at hp;exact⟨p,hp.1,hp.2.2,rfl,rfl,hp.2.1⟩
 ·rintro⟨p,hp,hb,h1,h2,h3⟩;refine⟨p,yaS.2 ⟨hp,by simp[hb,h3]⟩,?_⟩
  obtain⟨a,b⟩:=y;simp only at h1 h2;rw[h1,h2]
theorem mem_addR{now:List ByteArray}{ys:List Pa}{n:Nat}{y:ByteArray×Int}:y∈zcs now ys n↔∃i,i<n/\y∈zin now ys i:=by
 unfold zcs;simp[List.mem_flatMap]
theorem zm5(now:List ByteArray)(ys:List Pa)(n:Nat):zcs now ys (n+1)=zcs now ys n++zin now ys n:=by
 unfold zcs;rw[List.range_succ,List.flatMap_append,List.flatMap_singleton]
theorem zgg{now:List ByteArray}{ys:List Pa}(h:(ys.map (·.id)).Nodup):∀n,(zcs now ys n).Pairwise zeS
 |0=>yaA.nil
 | n + 1 => by
   rw[zm5,List.pairwise_append];refine⟨zgg h n,?_,?_⟩
   ·unfold zin;rw[yaH];rw[List.Nodup,yaH]at h;refine yaA.imp_of_mem (fun{a b} ha hb hne=> ?_) (h.filter _)
    rw[yaS]at ha hb;simp only[Bool.and_eq_true,decide_eq_true_eq]at ha hb;have:=ha.2.1.symm.trans hb.2.1;exact absurd (by simpa using this) hne
   ·intro a ha b hb;obtain⟨i,hi,ha⟩:=mem_addR.1 ha;obtain⟨_,_,_,_,h1,_⟩:=mem_addI.1 ha;obtain⟨_,_,_,_,h2,_⟩:=mem_addI.1 hb;unfold zeS;omega
theorem zh2{l:List (ByteArray×Int)}(h:l.Pairwise zeS):l.Nodup:=h.imp fun{a b} hab e=>by subst e;unfold zeS at hab;omega
theorem zg8{now:List ByteArray}(hn:now.Nodup){ys:List Pa}(h:(ys.map (·.id)).Nodup){zs:List (ByteArray×Int)}(hp:zs.Perm (zbA now ys))(hs:zs.Pairwise (fun a b=>a.2<=b.2)):zs=zcs now ys now.length:=by
 have hne:zs.Pairwise (fun a b=>a.2≠b.2):=(hp.pairwise_iff (fun{a b} h=>Ne.symm h)).2 (zrb h)
 have hlt:zs.Pairwise zeS:=(hs.and hne).imp fun{a b} h=>by unfold zeS;omega
 refine zdj (r:=zeS) (fun x y h1 h2=>by unfold zeS at h1 h2;omega) ?_ hlt (zgg h _)
 rw[List.perm_ext_iff_of_nodup (zh2 hlt) (zh2 (zgg h _))];intro y;rw[hp.mem_iff,zhl hn,mem_addR]
 constructor
 ·rintro⟨p,hp,hb,h1,i,h2,h3⟩;exact⟨i,(yi.1 h3).1,mem_addI.2 ⟨p,hp,hb,h1,h2,h3⟩⟩
 ·rintro⟨i,_,hi⟩;obtain⟨p,hp,hb,h1,h2,h3⟩:=mem_addI.1 hi;exact⟨p,hp,hb,h1,i,h2,h3⟩
theorem zm4{now:List ByteArray}(hn:now.Nodup){ys:List Pa}(h:(ys.map (·.id)).Nodup):(zbA now ys).length=(zcs now ys now.length).length:=by
 have hp:=List.mergeSort_perm (zbA now ys) (fun a b=>decide (a.2<=b.2))
 have hs:((zbA now ys).mergeSort (fun a b=>decide (a.2<=b.2))).Pairwise (fun a b=>a.2<=b.2):=by
  have:=List.pairwise_mergeSort (le:=fun a b:ByteArray×Int=>decide (a.2<=b.2)) (fun a b c h1 h2=>by simp only[decide_eq_true_eq]at*;omega) (fun a b=>by simp only[Bool.or_eq_true,decide_eq_true_eq];omega) (zbA now ys)
  exact this.imp fun{a b} h=>by simpa using h
 rw[<-zg8 hn h hp hs,hp.length_eq]
theorem zkx(ys:List Pa):(zbv ys).length<=ys.length:=by
 unfold zbv;rw[yy];exact List.length_filter_le _ _
theorem zkl(now:List ByteArray)(ys:List Pa):(zbA now ys).length<=ys.length:=List.length_filterMap_le _ _
def zdD(now:List ByteArray)(b:BoxD)(ys:List Pa)(seq most:Int):DlD×Int:=
 if seq<b.floor\/b.seq<seq then(DlD.zero,190)
 else if 0<=most/\most<((zbv ys).length:Int)+((zcs now ys now.length).length:Int)then(DlD.zero,230)
 else(⟨zb2 (zbv ys),zcs now ys now.length,now.length⟩,0)
theorem zjg{ys:List Pa}{j:Nat}{x:Pa}(hx:ys[j]? =some x):zbv (ys.take (j+1))=zbv (ys.take j)++(if x.was=true then[x.id]else[]):=by
 unfold zbv;rw[yD,hx,List.filter_append,List.map_append];cases h:x.was<;>simp[h]
theorem zgv{now:List ByteArray}{ys:List Pa}{j:Nat}{x:Pa}(hx:ys[j]? =some x):zbA now (ys.take (j+1))=zbA now (ys.take j)++(plP now x).toList:=by
 unfold zbA;rw[yD,hx,List.filterMap_append];cases h:plP now x<;>simp[h]
theorem zpf{ys:List Pa}{j:Nat}{x:Pa}(hx:ys[j]? =some x)(hw:x.was=false):zbv (ys.take (j+1))=zbv (ys.take j):=by
 rw[zjg hx,hw];simp
def zdI(x:ByteArray×Int):List Value:=[.string x.1,.int .i64 x.2]
theorem codecA:Codec zdI 2:=⟨fun _=>rfl,fun x u hu=>by
 simp only[zdI,List.mem_cons,List.not_mem_nil,or_false]at hu
 rcases hu with rfl|rfl<;>rfl,by decide⟩
theorem infoA:(ye.info? 80).map (fun i=>(i.zero,i.size,i.bytes))=some (some (.agg #[.string ByteArray.empty,.int .i64 0]),2,24):=by kernel_rfl
theorem slA:SlT ye 43 80 2 24:=SlT.mk Tryz.underlying43 infoA rfl
structure RD where
 pr:Option Addr
 nr:Nat
 cr:Nat
 pa:Option Addr
 na:Nat
 ca:Nat
 tot:Int
abbrev RD.val(r:RD):Value:= .agg #[.slice r.pr r.nr r.cr,.slice r.pa r.na r.ca,.int .i64 r.tot]
def encD(r:RD):List Value:=[.slice r.pr r.nr r.cr,.slice r.pa r.na r.ca,.int .i64 r.tot]
def RD.zero:RD:=⟨none,0,0,none,0,0,0⟩
def DAt(T:TypeId)(W:World)(g:Nat)(r:RD):Prop:=W.heap[g]? =some (.cells #[.slice r.pr r.nr r.cr,.slice r.pa r.na r.ca,.int .i64 r.tot] T (0,0))
section
variable {T:TypeId} {W W':World} {g B:Nat} {r:RD}
theorem DAt.lt(h:DAt T W g r):g<W.heap.size:=(yl.1 h).1
theorem DAt.cell(h:DAt T W g r)(j:Nat){u:Value}(hu:(encD r)[j]? =some u):W.cell? ⟨g,j,none⟩=some u:=by
 unfold DAt at h;rw[cell_of_row W g j _ _ _ h,<-Array.getElem?_toList];exact hu
theorem DAt.frozen(h:DAt T W g r)(j:Nat):W.frozen? ⟨g,j,none⟩=false:=by
 unfold DAt at h;simp[World.frozen?,h]
theorem DAt.under(h:DAt T W g r)(hb:Below B W W')(hg:g<B):DAt T W' g r:=(hb.block g hg).trans h
theorem DAt.set0(h:DAt T W g r)(p:Option Addr)(n c:Nat):DAt T (W.setCell ⟨g,0,none⟩ (.slice p n c)) g {r with pr:=p,nr:=n,cr:=c}:=by
 unfold DAt at h⊢;exact(heap_setCell_same W g 0 _ _ _ h).trans rfl
theorem DAt.set1(h:DAt T W g r)(p:Option Addr)(n c:Nat):DAt T (W.setCell ⟨g,1,none⟩ (.slice p n c)) g {r with pa:=p,na:=n,ca:=c}:=by
 unfold DAt at h⊢;exact(heap_setCell_same W g 1 _ _ _ h).trans rfl
theorem DAt.stored(h:DAt T W g r)(q:RD):DAt T (((W.setCell ⟨g,0,none⟩ (.slice q.pr q.nr q.cr)).setCell ⟨g,1,none⟩ (.slice q.pa q.na q.ca)).setCell ⟨g,2,none⟩ (.int .i64 q.tot)) g q:=by
 unfold DAt at h⊢;exact(heap_setCell_same _ g 2 _ _ _ (heap_setCell_same _ g 1 _ _ _ (heap_setCell_same W g 0 _ _ _ h))).trans rfl
theorem zdK(W:World)(g o:Nat)(v:Value):W.grownBy (W.setCell ⟨g,o,none⟩ v) (some g):=zdy W g o v
theorem zdL(W:World)(g:Nat)(a b c:Value):W.grownBy (((W.setCell ⟨g,0,none⟩ a).setCell ⟨g,1,none⟩ b).setCell ⟨g,2,none⟩ c) (some g):=
 ((zdK W g 0 a).trans (zdK _ g 1 b)).trans (zdK _ g 2 c)
end
structure AskS(w3:World)(base gz gd:Nat)(yv:Value)(ys:List Pa)(l1:List ByteArray)(l2:List (ByteArray×Int))(r:RD)(W:World):Prop where
 z:DAt 45 W gz RD.zero
 own:Own W (gd+1) 87 zcB 4 yv ys
 rem:Own W base 9 zg 1 (.slice r.pr r.nr r.cr) l1
 add:Own W base 80 zdI 2 (.slice r.pa r.na r.ca) l2
 apart:∀k,(Value.slice r.pr r.nr r.cr).ownBlock=some k->(Value.slice r.pa r.na r.ca).ownBlock≠some k
 below:Below gd w3 W
 ord:gz<gd/\gd<base/\base<=W.heap.size
 yb:∀k,yv.ownBlock=some k->k<base
section
variable {w3 W W':World} {base gz gd j:Nat} {yv:Value} {ys:List Pa} {l1:List ByteArray} {l2:List (ByteArray×Int)} {r:RD}
theorem AskS.go(h:AskS w3 base gz gd yv ys l1 l2 r W)(hb:Below W.heap.size W W'):AskS w3 base gz gd yv ys l1 l2 r W':=
 ⟨h.z.under hb h.z.lt,h.own.below hb (yd _),h.rem.below hb (yd _),h.add.below hb (yd _),h.apart,h.below.trans (hb.mono (by have:=h.ord;omega)),⟨h.ord.1,h.ord.2.1,yg h.ord.2.2 hb.size⟩,h.yb⟩
theorem zcp{v:Value}{g:Nat}(h:∀k,v.ownBlock=some k->k≠g):v.ownBlock=none\/v.ownBlock≠some g:=by
 cases hk:v.ownBlock with
 |none=>exact .inl rfl
 |some m=>exact .inr (fun e=>h m hk (by cases e;rfl))
theorem zew{v u:Value}(h:∀k,v.ownBlock=some k->u.ownBlock≠some k):v.ownBlock=none\/v.ownBlock≠u.ownBlock:=by
 cases hk:v.ownBlock with
 |none=>exact .inl rfl
 |some m=>exact .inr (fun e=>h m hk e.symm)
theorem AskS.turnR(h:AskS w3 base gz gd yv ys l1 l2 r W){w9:World}{p9:Option Addr}{n9 c9:Nat}{l9:List ByteArray}(ho:Own w9 base 9 zg 1 (.slice p9 n9 c9) l9)(hg:W.grownBy w9 (Value.slice r.pr r.nr r.cr).ownBlock)
 (hat:(Value.slice p9 n9 c9).ownBlock=(Value.slice r.pr r.nr r.cr).ownBlock\/(Value.slice p9 n9 c9).ownBlock=some W.heap.size):
 AskS w3 base gz gd yv ys l9 l2 {r with pr:=p9,nr:=n9,cr:=c9} w9/\∀rd,DAt 45 W gd rd->DAt 45 w9 gd rd:=by
 have hrb:∀k,(Value.slice r.pr r.nr r.cr).ownBlock=some k->base<=k:=fun k e=>(h.rem.lt k e).1
 have hne:∀g,g<base->some g≠(Value.slice r.pr r.nr r.cr).ownBlock:=fun g hg' e=>by have:=hrb g e.symm;omega
 have hz9:=hg.size;have ho1:=h.ord;refine⟨⟨(hg.block gz h.z.lt (hne gz (by omega))).trans h.z,h.own.kept hg (zew fun k e e2=>hne k (h.yb k e) e2.symm),ho,h.add.kept hg (zew fun k e e2=>h.apart k e2 e),?_,h.below.grown hg (by omega) (fun k e=>by have:=hrb k e;omega),⟨ho1.1,ho1.2.1,by omega⟩,h.yb⟩,fun rd hd=>(hg.block gd hd.lt (hne gd ho1.2.1)).trans hd⟩
 intro k e e2
 rcases hat with h1|h1
 ·rw[h1]at e;exact h.apart k e e2
 ·rw[h1]at e;cases e;have:=(h.add.lt _ e2).2;omega
theorem AskS.turnA(h:AskS w3 base gz gd yv ys l1 l2 r W){w9:World}{p9:Option Addr}{n9 c9:Nat}{l9:List (ByteArray×Int)}(ho:Own w9 base 80 zdI 2 (.slice p9 n9 c9) l9)(hg:W.grownBy w9 (Value.slice r.pa r.na r.ca).ownBlock)
 (hat:(Value.slice p9 n9 c9).ownBlock=(Value.slice r.pa r.na r.ca).ownBlock\/(Value.slice p9 n9 c9).ownBlock=some W.heap.size):
 AskS w3 base gz gd yv ys l1 l9 {r with pa:=p9,na:=n9,ca:=c9} w9/\∀rd,DAt 45 W gd rd->DAt 45 w9 gd rd:=by
 have hrb:∀k,(Value.slice r.pa r.na r.ca).ownBlock=some k->base<=k:=fun k e=>(h.add.lt k e).1
 have hne:∀g,g<base->some g≠(Value.slice r.pa r.na r.ca).ownBlock:=fun g hg' e=>by have:=hrb g e.symm;omega
 have hz9:=hg.size;have ho1:=h.ord;refine⟨⟨(hg.block gz h.z.lt (hne gz (by omega))).trans h.z,h.own.kept hg (zew fun k e e2=>hne k (h.yb k e) e2.symm),h.rem.kept hg (zew fun k e e2=>h.apart k e e2),ho,?_,h.below.grown hg (by omega) (fun k e=>by have:=hrb k e;omega),⟨ho1.1,ho1.2.1,by omega⟩,h.yb⟩,fun rd hd=>(hg.block gd hd.lt (hne gd ho1.2.1)).trans hd⟩
 intro k e e2
 rcases hat with h1|h1
 ·rw[h1]at e2;exact h.apart k e e2
 ·rw[h1]at e2;cases e2;have:=(h.rem.lt _ e).2;omega
theorem AskS.setD(h:AskS w3 base gz gd yv ys l1 l2 r W)(o:Nat)(v:Value):AskS w3 base gz gd yv ys l1 l2 r (W.setCell ⟨gd,o,none⟩ v):=by
 have hs:=zdK W gd o v;have ho1:=h.ord;refine⟨(hs.block gz h.z.lt (fun e=>by cases e;omega)).trans h.z,h.own.kept hs (zcp fun k e=>by have:=(h.own.lt k e).1;omega),h.rem.kept hs (zcp fun k e=>by have:=(h.rem.lt k e).1;omega),h.add.kept hs (zcp fun k e=>by have:=(h.add.lt k e).1;omega),h.apart,h.below.grown hs (by omega) (fun k e=>by cases e;exact yd _),⟨ho1.1,ho1.2.1,?_⟩,h.yb⟩
 have:(W.setCell ⟨gd,o,none⟩ v).heap.size=W.heap.size:=by simp
 omega
end
end
section
open Go.RowKit Go.OpenShut
def RowT(W:World)(B0 B1:Nat)(p:Option Addr)(n:Nat):Prop:=n<=maxLen/\(n=0\/∃g cs,p=some ⟨g,0,none⟩/\B0<=g/\g<B1/\W.heap[g]? =some (.cells cs 9 (0,0))/\n<=cs.size)
theorem RowT.of{W:World}{base:Nat}{p:Option Addr}{n c:Nat}{l:List ByteArray}(h:Own W base 9 zg 1 (.slice p n c) l):RowT W base W.heap.size p n:=by
 have hlt:=h.lt;obtain⟨p',cap0,hv0,hc1,hc2⟩:=h.len;obtain⟨hl,h0⟩:=h;simp only[Value.slice.injEq]at hv0;obtain⟨rfl,rfl,rfl⟩:=hv0;refine⟨by omega,?_⟩
 rcases h0 with⟨hv,hn⟩|⟨g,cap',cur,hv,hg,hh,hnc,hcm,hcs,ht⟩
 ·exact .inl hn
 ·simp only[Value.slice.injEq]at hv;obtain⟨rfl,_,rfl⟩:=hv;exact .inr ⟨g,_,rfl,hg,(hlt g rfl).2,hh,by omega⟩
theorem RowT.below{W W':World}{B0 B1:Nat}{p:Option Addr}{n:Nat}(h:RowT W B0 B1 p n)(hb:Below B1 W W'):RowT W' B0 B1 p n:=by
 refine⟨h.1,?_⟩
 rcases h.2 with h|⟨g,cs,h1,h2,h3,h4,h5⟩
 ·exact .inl h
 ·exact .inr ⟨g,cs,h1,h2,h3,(hb.block g h3).trans h4,h5⟩
theorem RowT.put{W:World}{B0 B1:Nat}{p:Option Addr}{n:Nat}(h:RowT W B0 B1 p n)(g j:Nat)(v:Value):RowT (W.setCell ⟨g,j,none⟩ v) B0 B1 p n:=by
 refine⟨h.1,?_⟩
 rcases h.2 with h|⟨g',cs,h1,h2,h3,h4,h5⟩
 ·exact .inl h
 ·by_cases e:g=g'
  ·subst e;exact .inr ⟨g,cs.setIfInBounds j v,h1,h2,h3,by simp[World.setCell,yC,h4],by simpa using h5⟩
  ·exact .inr ⟨g',cs,h1,h2,h3,by simp[World.setCell,yC,h4,e],h5⟩
theorem RowT.at{W:World}{B0 B1:Nat}{p:Option Addr}{n k:Nat}(h:RowT W B0 B1 p n)(hk:k<n):∃g u,p=some ⟨g,0,none⟩/\B0<=g/\g<B1/\W.cell? ⟨g,k,none⟩=some u/\∀j,W.frozen? ⟨g,j,none⟩=false:=by
 rcases h.2 with h|⟨g,cs,h1,h2,h3,h4,h5⟩
 ·omega
 ·refine⟨g,cs[k]'(by omega),h1,h2,h3,?_,fun j=>by simp[World.frozen?,h4]⟩
  rw[cell_of_row W g k _ _ _ h4];exact Array.getElem?_eq_getElem (by omega)
structure KkS(W0 W:World)(b:BoxD)(r q:RB)(gw B0:Nat):Prop where
 below:Below W0.heap.size W0 W
 of:BoxOf W B0 b r
 was:BoxAt W gw q
 wof:BoxOf W B0 b q
 o1:W0.heap.size<=gw
 o2:gw<B0
 o3:B0<=W.heap.size
theorem KkS.go{W0 W W':World}{b:BoxD}{r q:RB}{gw B0:Nat}(h:KkS W0 W b r q gw B0)(hb:Below B0 W W'):KkS W0 W' b r q gw B0:=
 ⟨h.below.trans (hb.mono (by have:=h.o1;have:=h.o2;omega)),h.of.under hb (yd _),h.was.under hb h.o2,h.wof.under hb (yd _),h.o1,h.o2,yg h.o3 hb.size⟩
theorem KkS.now{W0 W:World}{b:BoxD}{r q:RB}{gw B0:Nat}(h:KkS W0 W b r q gw B0):BoxOf W W.heap.size b r:=h.of.under (yh _ _) h.o3
theorem KkS.wnow{W0 W:World}{b:BoxD}{r q:RB}{gw B0:Nat}(h:KkS W0 W b r q gw B0):BoxOf W W.heap.size b q:=h.wof.under (yh _ _) h.o3
structure KkC(W0 W:World)(b:BoxD)(r q:RB)(gw B0:Nat)(pl:Option Addr)(nl B1 g1:Nat)(r1:RD):Prop where
 k:KkS W0 W b r q gw B0
 l:RowT W B0 B1 pl nl
 d:RowT W B1 g1 r1.pr r1.nr
 c:DAt 45 W g1 r1
 o4:B0<=B1
 o5:B1<=g1
theorem KkC.put{W0 W:World}{b:BoxD}{r q:RB}{gw B0:Nat}{pl:Option Addr}{nl B1 g1:Nat}{r1:RD}(h:KkC W0 W b r q gw B0 pl nl B1 g1 r1)(g j:Nat)(v:Value)(h0:B0<=g)(h1:g<g1):KkC W0 (W.setCell ⟨g,j,none⟩ v) b r q gw B0 pl nl B1 g1 r1:=by
 have hg:=zz W g j v;have hb:Below B0 W (W.setCell ⟨g,j,none⟩ v):=(yh _ _).grown hg h.k.o3 (fun k e=>by cases e;exact h0)
 exact⟨h.k.go hb,h.l.put g j v,h.d.put g j v,(hg.block g1 h.c.lt (fun e=>by cases e;omega)).trans h.c,h.o4,h.o5⟩
end
section
open Go Go.RowKit Go.OpenShut
def qA:ByteArray:=⟨#[97]⟩
def qB:ByteArray:=⟨#[98]⟩
def qC:ByteArray:=⟨#[99]⟩
def dt1:ByteArray:=⟨#[50,48,48,49,45,48,49,45,48,49,84,48,48,58,48,48,58,48,48,90]⟩
def dt2:ByteArray:=⟨#[50,48,48,50,45,48,49,45,48,49,84,48,48,58,48,48,58,48,48,90]⟩
def dt3:ByteArray:=⟨#[50,48,48,51,45,48,49,45,48,49,84,48,48,58,48,48,58,48,48,90]⟩
def dt4:ByteArray:=⟨#[49,57,57,57,45,48,49,45,48,49,84,48,48,58,48,48,58,48,48,90]⟩
def zB(s:ByteArray):JV:= .mk 6 0 mt [] [(createdN,tJ s)]
def nul23:JV:= .mk 1 0 mt [] []
def zik:JV:= .mk 0 0 mt [] []
def so23:JV:= .mk 5 0 mt [.mk 6 0 mt [] [(propN,tJ createdN)]] []
theorem zd6{s:ByteArray}(hs:s.size<=1000):(zB s).Ok:=zqh (fun p hp=>by
 rw[yai]at hp;subst hp;exact⟨show createdN.size<=1000 by decide,zqk hs⟩) (by simp)
theorem zlS:so23.Ok:=jvokL (fun x hx=>by
 rw[yai]at hx;subst hx;refine zqh (fun p hp=> ?_) (by decide)
 rw[yai]at hp;subst hp;exact⟨by decide,zqk (by decide)⟩) (by decide)
theorem zkh:nul23.Ok:=zmn (by decide) (by decide)
def zjB:BoxD:=⟨[(qA,zB dt1)],[⟨1,qA,1⟩],1,0,9⟩
def zjC:BoxD:=⟨[(qA,zB dt1),(qB,zB dt2)],[⟨1,qA,1⟩,⟨2,qB,1⟩],2,0,9⟩
def b23:BoxD:=⟨[(qA,zB dt1),(qB,zB dt2),(qC,zB dt3)],[⟨1,qA,1⟩,⟨2,qB,1⟩,⟨3,qC,1⟩],3,0,9⟩
def zjD:BoxD:=⟨[(qA,zB dt1),(qB,zB dt4),(qC,zB dt3)],[⟨1,qA,1⟩,⟨2,qB,1⟩,⟨3,qC,1⟩,⟨4,qB,2⟩],4,0,9⟩
def c23:BoxD:=⟨[(qB,zB dt4),(qC,zB dt3)],[⟨1,qA,1⟩,⟨2,qB,1⟩,⟨3,qC,1⟩,⟨4,qB,2⟩,⟨5,qA,3⟩],5,0,9⟩
theorem zqo:zR ⟨[],[],0,0,9⟩ 1 qA (zB dt1)=zjB:=by
 have h:zbF ⟨[],[],0,0,9⟩ qA (zB dt1)=(zjB,0):=by
  unfold zbF;rw[if_neg (by decide),if_neg (by decide),if_neg (by decide)]
  rfl
 unfold zR zbZ;rw[if_pos rfl,h,if_pos rfl]
theorem zqp:zR zjB 1 qB (zB dt2)=zjC:=by
 have h:zbF zjB qB (zB dt2)=(zjC,0):=by
  unfold zbF;rw[if_neg (by decide),if_neg (by decide),if_neg (by decide)]
  rfl
 unfold zR zbZ;rw[if_pos rfl,h,if_pos rfl]
theorem zqq:zR zjC 1 qC (zB dt3)=b23:=by
 have h:zbF zjC qC (zB dt3)=(b23,0):=by
  unfold zbF;rw[if_neg (by decide),if_neg (by decide),if_neg (by decide)]
  rfl
 unfold zR zbZ;rw[if_pos rfl,h,if_pos rfl]
theorem zkw:¬SameT (zB dt2) (zB dt4):=by
 intro h;cases h with
 | mk _ _ _ _ h5 =>
   have h1:=h5 0 0 (createdN,tJ dt2) (createdN,tJ dt4) rfl rfl rfl;cases h1
theorem zqr:zR b23 1 qB (zB dt4)=zjD:=by
 have h:zbF b23 qB (zB dt4)=(zjD,0):=by
  unfold zbF;have ho:zgt b23.objs qB=zB dt2:=rfl;rw[if_pos (by decide),ho,if_neg zkw,if_neg (by decide)]
  rfl
 unfold zR zbZ;rw[if_pos rfl,h,if_pos rfl]
theorem zqs:zR zjD 2 qA zik=c23:=by
 have h:zcy zjD qA=(c23,0):=by
  unfold zcy;rw[if_neg (by decide),if_neg (by decide)]
  rfl
 unfold zR zbZ;rw[if_neg (show¬(2:Int)=1 by decide),if_pos rfl,h,if_pos rfl]
theorem zpG(r1 r2 r3:RV):zex ⟨[],[],0,0,9⟩ [(⟨1,qA,r1⟩,zB dt1),(⟨1,qB,r2⟩,zB dt2),(⟨1,qC,r3⟩,zB dt3)]=b23:=by
 show zR (zR (zR ⟨[],[],0,0,9⟩ 1 qA (zB dt1)) 1 qB (zB dt2)) 1 qC (zB dt3)=b23
 rw[zqo,zqp,zqq]
theorem zpH(r1 r2:RV):zex b23 [(⟨1,qB,r1⟩,zB dt4),(⟨2,qA,r2⟩,zik)]=c23:=by
 show zR (zR b23 1 qB (zB dt4)) 2 qA zik=c23
 rw[zqr,zqs]
theorem zo2:Good ⟨[],[],0,0,9⟩ 0 0:=⟨⟨by decide,fun p h=>by simp at h,by decide,by decide,by decide,by decide⟩,fun x h=>by simp at h,yaA.nil,yd _,yd _⟩
theorem zrX:zfd (zbB so23) b23.objs=[0,1,2]:=by
 refine(zfe ?_ ?_).symm
 ·show yaV [0,1,2] [0,1,2]
  decide
 ·have h1:ltQ (zbB so23) b23.objs 1 0=false:=by kernel_rfl
  have h2:ltQ (zbB so23) b23.objs 2 0=false:=by kernel_rfl
  have h3:ltQ (zbB so23) b23.objs 2 1=false:=by kernel_rfl
  simp[h1,h2,h3]
theorem zrY:zfd (zbB so23) c23.objs=[0,1]:=by
 refine(zfe ?_ ?_).symm
 ·show yaV [0,1] [0,1]
  decide
 ·have h1:ltQ (zbB so23) c23.objs 1 0=false:=by kernel_rfl
  simp[h1]
theorem zhP(s:ByteArray):zcn nul23 (zB s)=true:=by kernel_rfl
theorem zr1:zcv nul23 so23 b23.objs=[qA,qB,qC]:=by
 unfold zcv;have e:zd8 nul23 b23.objs=b23.objs:=by simp[zd8,b23,zhP]
 rw[e,zrX]
 rfl
theorem zr2:zcv nul23 so23 c23.objs=[qB,qC]:=by
 unfold zcv;have e:zd8 nul23 c23.objs=c23.objs:=by simp[zd8,c23,zhP]
 rw[e,zrY]
 rfl
def zec:List Pa:=[⟨qB,true,true,4⟩,⟨qA,true,false,5⟩]
theorem zre:zU 3 c23.trail=zec:=by rfl
theorem zmR{p q:Pa}(h:p.last<q.last):IsStable cfP [p,q] [p,q]:=by
 have h1:IsStable cfP [p] [p]:=IsStable.snoc zl4 (A:=[]) (B:=[]) (xs:=[]) (p:=p) IsStable.nil (fun a ha=>by simp at ha) (fun b hb=>by simp at hb)
 exact IsStable.snoc zl4 (A:=[p]) (B:=[]) (xs:=[p]) (p:=q) h1 (fun a ha=>by
  simp at ha;subst ha;unfold cfP;rw[if_neg (by omega),if_pos h]
  decide) (fun b hb=>by simp at hb)
theorem zrn{ys:List Pa}(h:IsStable cfP (zU 3 c23.trail) ys):ys=zec:=by
 rw[zre]at h;exact IsStable.unique zl4 h (zmR (by decide))
def zjV:DlD:=⟨[qA,qB],[(qB,0)],2⟩
theorem zrx(most:Int)(h:most<0):zdD [qB,qC] c23 zec 3 most=(zjV,0):=by
 unfold zdD;rw[if_neg (by decide),if_neg (by omega)]
 have e:zbv zec=[qB,qA]:=rfl;have e2:zcs [qB,qC] zec 2=[(qB,0)]:=by rfl
 have e3:zb2 [qB,qA]=[qA,qB]:=by
  refine zjt (zkp (by decide)) ?_ ((zh8 _).trans (yaV.swap _ _ _))
  unfold zgI;simp
  decide
 show((⟨zb2 (zbv zec),zcs [qB,qC] zec 2,2⟩:DlD),(0:Int))=_
 rw[e,e2,e3]
 rfl
theorem zkz:zdD [qB,qC] c23 zec 3 2=(DlD.zero,230):=by
 unfold zdD;rw[if_neg (by decide),if_pos]
 have e:zbv zec=[qB,qA]:=rfl;have e2:zcs [qB,qC] zec 2=[(qB,0)]:=by rfl
 refine⟨by decide,?_⟩
 show(2:Int)<((zbv zec).length:Int)+((zcs [qB,qC] zec 2).length:Int)
 rw[e,e2]
 decide
theorem good23:b23.Ok/\c23.Ok:=by
 constructor
 ·exact⟨by decide,fun p h=>by simp[b23]at h;rcases h with rfl|rfl|rfl<;>exact⟨by decide,zd6 (by decide)⟩,by decide,by decide,by decide,by decide⟩
 ·exact⟨by decide,fun p h=>by simp[c23]at h;rcases h with rfl|rfl<;>exact⟨by decide,zd6 (by decide)⟩,by decide,by decide,by decide,by decide⟩
theorem zi1{s:ByteArray}(h:s.size<=1000):zf (zB s)<=100000/\zr (zB s)<=4000000000:=by
 have e1:zf (zB s)=2:=by rfl
 have e2:zr (zB s)=s.size:=by
  have e3:zr (zB s)=0+0+(zr (tJ s)+0):=rfl;have e4:zr (tJ s)=s.size+0+0:=rfl;omega
 omega
theorem vals23:(∀p∈b23.objs,zf p.2<=100000/\zr p.2<=4000000000)/\∀p∈c23.objs,zf p.2<=100000/\zr p.2<=4000000000:=by
 constructor
 ·intro p h;simp[b23]at h
  rcases h with rfl|rfl|rfl<;>exact zi1 (by decide)
 ·intro p h;simp[c23]at h
  rcases h with rfl|rfl<;>exact zi1 (by decide)
end
section
open Go.RowKit Go.OpenShut
theorem zhX(b:BoxD)(r:RB)(ops:List (RO×JV))(v:Value)(w:World)(a c:Nat)(hb:BoxOf w w.heap.size b r)(hgd:Good b a c)(hv:Rd w w.heap.size zeU 7 v (ops.map (·.1)))(ht:∀o∈ops,TreeOf w w.heap.size o.2 o.1.v/\zlV o.1 o.2)(ha:a+ops.length<=1000)(hc:c+ops.length<=1000):
 Calls ye 23 #[r.val,v] w (zgG w (zex b ops)):=by
 obtain⟨p,cc,rfl,hlc,hcm⟩:=zfq hv;have hS:PlS w ((w.alloc r.obj).alloc RB.zero.obj) r:=⟨zb (by simp) (za rfl),za (by simp),zM w _ _⟩
 have HBX:=yc hb;have HGD:=yc (hgd.play (fun o h=>(ht o h).2) ha hc)
 have HV:=yc hv;have HT:=yc ht;obtain⟨n,hn⟩:∃n,(ops.map (·.1)).length=n:=⟨_,rfl⟩
 have HN:Hid (ops.length=n):=by unfold Hid;rw[<-hn,yy]
 have hn1:n<=1000:=by have:=HN.out;omega
 rw[hn];clear hb hgd hv ht hlc hcm hn ha hc
 go_enter Tryz.func23,Tryz.ntmps23
 go_upto_region 1 with fail
 obtain⟨W0,hW0⟩:∃W0,((w.alloc r.obj).alloc RB.zero.obj)=W0:=⟨_,rfl⟩;rw[hW0]at hS;dsimp only[RB.obj,RB.zero]at hW0;rw[hW0];clear hW0;have HS:=yc hS;have HB0:=yc (HBX.out.under hS.below hS.below.size);clear hS
 go_wp2_with fail
 go_loopw [5] (fun i wr=>∃(j:Nat) (q:RB),j<=n/\i= .int .i64 (j:Int)/\Hid (PlS w wr q)/\Hid (BoxOf wr wr.heap.size (zex b (ops.take j)) q)) (fun i _=>n-(intOf i).toNat)
 case atStart=>exact⟨0,r,yu _,rfl,HS.out,HB0.out⟩
 case round=>
  obtain⟨j,q,hj,rfl,HP,HB⟩:=hrel;by_cases hlt:j<n
  ·obtain⟨o,hx⟩:∃x,ops[j]? =some x:=⟨_,yf (by have:=HN.out;omega)⟩
   have hx1:(ops.map (·.1))[j]? =some o.1:=by rw[yG,hx];rfl
   obtain⟨b1,o1,rfl,hb1,hc1⟩:=zq (HV.out.below HP.out.below (yd _)) hx1;have HD:=yc (zhY (b:=b) hx);have HG:=yc (HGD.out j (by have:=HN.out;omega))
   obtain⟨d,hd⟩:∃d,zex b (ops.take j)=d:=⟨_,rfl⟩;have HTO:=HT.out o (ym hx);have HTO:=yc HTO;rw[hd]at HB HD HG;obtain⟨o,t⟩:=o;dsimp only at hc1 HD HTO;obtain⟨gx,hgx⟩:∃g,wr.heap.size=g:=⟨_,rfl⟩;have hX1:BoxAt (wr.alloc q.obj) gx q:=by rw[<-hgx];exact za rfl
   have hP1:PlS w (wr.alloc q.obj) q:=HP.out.go ((yh _ _).alloc (yd _) _);have hB1:BoxOf (wr.alloc q.obj) (wr.alloc q.obj).heap.size d q:=HB.out.under ((yh _ _).alloc (yd _) _) (by simp)
   have HGX:Hid (w.heap.size+1<gx):=by rw[<-hgx];exact HP.out.zero.lt
   have HBW:Hid (Below w.heap.size wr (wr.alloc q.obj)):=(yh _ _).alloc HP.out.below.size _;have hk0:(0:Int)<=(j:Int):=Int.natCast_nonneg _;have hk1:(j:Int)<(n:Int):=by omega
   have f0:=hc1 0 _ rfl;have f1:=hc1 1 _ rfl;have f2:=hc1 2 _ rfl;have f3:=hc1 3 _ rfl;have f4:=hc1 4 _ rfl;have f5:=hc1 5 _ rfl;have f6:=hc1 6 _ rfl;rw[Nat.add_zero]at f0;obtain⟨c0,c1,c2,c3,c4⟩:=HP.out.box.cells5;clear hx hx1 hd
   go_upto_region 5 with fail
   try rw[hgx]
   obtain⟨W1,hW1⟩:∃W1,wr.alloc q.obj=W1:=⟨_,rfl⟩;rw[hW1]at hX1 hP1 hB1 HBW;dsimp only[RB.obj]at hW1;rw[hW1];clear hW1 hgx c0 c1 c2 c3 c4;rw[<-HBW.out.cell (p:=⟨_,_,none⟩) hb1]at f0 f1 f2 f3 f4 f5 f6;have HF:Hid (∀W,Below w.heap.size W1.drew W->W.cell? ⟨b1,o1+j*7,none⟩=some (.int .i64 o.k)/\W.cell? ⟨b1,o1+j*7+1,none⟩=some (.string o.id)):=fun W h=>⟨by rw[h.cell (p:=⟨_,_,none⟩) hb1];exact f0,by rw[h.cell (p:=⟨_,_,none⟩) hb1];exact f1⟩
   have HX1:=yc hX1;have HP1:=yc hP1;have HB1:=yc hB1;have hne1:gx≠w.heap.size:=by have:=HGX.out;omega
   clear hX1 hP1 hB1 hb1 hc1;obtain⟨x0,x1,x2,x3,x4⟩:=HX1.out.cells5;have y0:=HX1.out.frozen 0;have y1:=HX1.out.frozen 1;have y2:=HX1.out.frozen 2;have y3:=HX1.out.frozen 3;have y4:=HX1.out.frozen 4;have HX1D:Hid (BoxAt W1.drew gx q):=HX1.out;have HP1D:Hid (PlS w W1.drew q):=HP1.out.go (yh _ _).drew;have HB1D:Hid (BoxOf W1.drew W1.drew.heap.size d q):=HB1.out.under (yh _ _).drew (yd _);by_cases k1:o.k=1
   ·have kb:(o.k==1)=true:=by simp[k1]
    have kb2:(o.k==2)=false:=by simp[k1]
    have HTW:=(HTO.out.1.under (HP1.out.below.trans (yh _ _).drew) HP1.out.below.size);have HPT:=yc (zlQ d q o.id t o.v W1.drew (HB1.out.under (yh _ _).drew (yd _)) (rise_iff.2 HG.out.rise) HG.out.ok HTW HTO.out.2.2 HTO.out.2.1);have HA:Hid (zbZ d o.k o.id t=zbF d o.id t):=by unfold Hid zbZ;rw[if_pos k1]
    obtain⟨c0,c1,c2,c3,c4⟩:=HP1.out.box.cells5;clear k1 HTW
    go_upto_region 7 with fail
    go_region_law (first
     |(go_simp;go_at_call 53;refine HPT.out.mono ?_;rintro e w2 ⟨q2,rfl,hN,hb2⟩;(have HX2:=yc (HX1D.out.under hb2 HX1D.out.lt));(obtain⟨d0,d1,d2,d3,d4⟩:=HX2.out.cells5);(have e0:=HX2.out.frozen 0);(have e1:=HX2.out.frozen 1);(have e2:=HX2.out.frozen 2);(have e3:=HX2.out.frozen 3);(have e4:=HX2.out.frozen 4))
     |fail)
    all_goals
     have HP2:=HP1D.out.go hb2;have hlt0:=HX1D.out.lt;have hg:=zt w2 gx q2;have hne:=hN.ne (g:=gx) hlt0;have hN2:=hN.unbox HX2.out hg hne.1 hne.2 hb2.size;have hbo:=hN2.box (by simp;exact hb2.size)
     have HX3:=yc (HX2.out.stored q2);have HBQ:Hid (BoxOf (((((w2.setCell ⟨gx,0,none⟩ (.slice q2.po q2.no q2.co)).setCell ⟨gx,1,none⟩ (.slice q2.pt q2.nt q2.ct)).setCell ⟨gx,2,none⟩ (.int .i64 q2.sq)).setCell ⟨gx,3,none⟩ (.int .i64 q2.fl)).setCell ⟨gx,4,none⟩ (.int .i64 q2.kp)) ((((((w2.setCell ⟨gx,0,none⟩ (.slice q2.po q2.no q2.co)).setCell ⟨gx,1,none⟩ (.slice q2.pt q2.nt q2.ct)).setCell ⟨gx,2,none⟩ (.int .i64 q2.sq)).setCell ⟨gx,3,none⟩ (.int .i64 q2.fl)).setCell ⟨gx,4,none⟩ (.int .i64 q2.kp))).heap.size d q):=(HB1D.out.under hb2 hb2.size).unbox HX2.out hg;have HP3:=yc (HP2.row hg HGX.out);have HBW3:Hid (Below w.heap.size W1.drew (((((w2.setCell ⟨gx,0,none⟩ (.slice q2.po q2.no q2.co)).setCell ⟨gx,1,none⟩ (.slice q2.pt q2.nt q2.ct)).setCell ⟨gx,2,none⟩ (.int .i64 q2.sq)).setCell ⟨gx,3,none⟩ (.int .i64 q2.fl)).setCell ⟨gx,4,none⟩ (.int .i64 q2.kp))):=(hb2.mono HP1D.out.below.size).grown hg (by have:=hb2.size;have:=HP1D.out.below.size;exact yg this ‹_›) (fun k e=>by simp at e;have:=HGX.out;omega)
     have hff:=HF.out _ HBW3.out;obtain⟨W2,hW2⟩:∃W2,(((((w2.setCell ⟨gx,0,none⟩ (.slice q2.po q2.no q2.co)).setCell ⟨gx,1,none⟩ (.slice q2.pt q2.nt q2.ct)).setCell ⟨gx,2,none⟩ (.int .i64 q2.sq)).setCell ⟨gx,3,none⟩ (.int .i64 q2.fl)).setCell ⟨gx,4,none⟩ (.int .i64 q2.kp))=W2:=⟨_,rfl⟩;rw[hW2]at HX3 hbo HP3 HBW3 hff HBQ⊢;have HBO:=yc hbo;obtain⟨er,her⟩:∃er,(zbF d o.id t).2=er:=⟨_,rfl⟩;rw[her];have HER:Hid ((zbZ d o.k o.id t).2=er):=by unfold Hid;rw[HA.out];exact her
     have HBO':Hid (BoxOf W2 W2.heap.size (zbZ d o.k o.id t).1 q2):=by unfold Hid;rw[HA.out];exact HBO.out
     clear her HBO HA hW2 hbo hN2 hne hg hlt0 HP2 HPT hN hb2 HX2 x0 x1 x2 x3 x4 y0 y1 y2 y3 y4 d0 d1 d2 d3 d4 e0 e1 e2 e3 e4 f0 f1 f2 f3 f4 f5 f6 c0 c1 c2 c3 c4 HBW;obtain⟨f0,f1⟩:=hff;by_cases he:er=0
     ·have he1:(er !=0)=false:=by simp[he]
      have he2:(er==0)=true:=by simp[he]
      have HDD:Hid (zR d o.k o.id t=(zbZ d o.k o.id t).1):=by unfold Hid zR;rw[HER.out,if_pos he]
      clear he;obtain⟨x0,x1,x2,x3,x4⟩:=HX3.out.cells5;obtain⟨c0,c1,c2,c3,c4⟩:=HP3.out.box.cells5;have y0:=HP3.out.box.frozen 0;have y1:=HP3.out.box.frozen 1;have y2:=HP3.out.box.frozen 2;have y3:=HP3.out.box.frozen 3;have y4:=HP3.out.box.frozen 4
      go_wp2_with fail
      have hgb:=zt W2 w.heap.size q2
      go_roundw
      case rel=>exact⟨j+1,q2,by omega,by go_num,HP3.out.set q2,by unfold Hid;rw[HD.out,HDD.out];exact HBO'.out.unbox HP3.out.box hgb⟩
      case measure=>simp[intOf];omega
     ·have he1:(er !=0)=true:=by simp[he]
      have he2:(er==0)=false:=by simp[he]
      have HDD:Hid (zR d o.k o.id t=d):=by unfold Hid zR;rw[HER.out,if_neg he]
      clear he
      go_wp2_with fail
      go_roundw
      case rel=>exact⟨j+1,q,by omega,by go_num,HP3.out,by unfold Hid;rw[HD.out,HDD.out];exact HBQ.out⟩
      case measure=>simp[intOf];omega
   ·have kb:(o.k==1)=false:=by simp[k1]
    by_cases k2:o.k=2
    ·have kb2:(o.k==2)=true:=by simp[k2]
     have HPT:=yc (zjX d q o.id W1.drew HB1D.out (rise_iff.2 HG.out.rise) HG.out.ok HTO.out.2.1);have HA:Hid (zbZ d o.k o.id t=zcy d o.id):=by unfold Hid zbZ;rw[if_neg k1,if_pos k2]
     obtain⟨c0,c1,c2,c3,c4⟩:=HP1D.out.box.cells5;clear k1 k2
     go_upto_region 9 with fail
     go_region_law (first
      |(go_simp;go_at_call 54;refine HPT.out.mono ?_;rintro e w2 ⟨q2,rfl,hN,hb2⟩;(have HX2:=yc (HX1D.out.under hb2 HX1D.out.lt));(obtain⟨d0,d1,d2,d3,d4⟩:=HX2.out.cells5);(have e0:=HX2.out.frozen 0);(have e1:=HX2.out.frozen 1);(have e2:=HX2.out.frozen 2);(have e3:=HX2.out.frozen 3);(have e4:=HX2.out.frozen 4))
      |fail)
     all_goals
      have HP2:=HP1D.out.go hb2;have hlt0:=HX1D.out.lt;have hg:=zt w2 gx q2;have hne:=hN.ne (g:=gx) hlt0;have hN2:=hN.unbox HX2.out hg hne.1 hne.2 hb2.size;have hbo:=hN2.box (by simp;exact hb2.size)
      have HX3:=yc (HX2.out.stored q2);have HBQ:Hid (BoxOf (((((w2.setCell ⟨gx,0,none⟩ (.slice q2.po q2.no q2.co)).setCell ⟨gx,1,none⟩ (.slice q2.pt q2.nt q2.ct)).setCell ⟨gx,2,none⟩ (.int .i64 q2.sq)).setCell ⟨gx,3,none⟩ (.int .i64 q2.fl)).setCell ⟨gx,4,none⟩ (.int .i64 q2.kp)) ((((((w2.setCell ⟨gx,0,none⟩ (.slice q2.po q2.no q2.co)).setCell ⟨gx,1,none⟩ (.slice q2.pt q2.nt q2.ct)).setCell ⟨gx,2,none⟩ (.int .i64 q2.sq)).setCell ⟨gx,3,none⟩ (.int .i64 q2.fl)).setCell ⟨gx,4,none⟩ (.int .i64 q2.kp))).heap.size d q):=(HB1D.out.under hb2 hb2.size).unbox HX2.out hg;have HP3:=yc (HP2.row hg HGX.out);obtain⟨W2,hW2⟩:∃W2,(((((w2.setCell ⟨gx,0,none⟩ (.slice q2.po q2.no q2.co)).setCell ⟨gx,1,none⟩ (.slice q2.pt q2.nt q2.ct)).setCell ⟨gx,2,none⟩ (.int .i64 q2.sq)).setCell ⟨gx,3,none⟩ (.int .i64 q2.fl)).setCell ⟨gx,4,none⟩ (.int .i64 q2.kp))=W2:=⟨_,rfl⟩;rw[hW2]at HX3 hbo HP3 HBQ⊢;have HBO:=yc hbo;obtain⟨er,her⟩:∃er,(zcy d o.id).2=er:=⟨_,rfl⟩;rw[her];have HER:Hid ((zbZ d o.k o.id t).2=er):=by unfold Hid;rw[HA.out];exact her
      have HBO':Hid (BoxOf W2 W2.heap.size (zbZ d o.k o.id t).1 q2):=by unfold Hid;rw[HA.out];exact HBO.out
      clear her HBO HA hW2 hbo hN2 hne hg hlt0 HP2 HPT hN hb2 HX2 x0 x1 x2 x3 x4 y0 y1 y2 y3 y4 d0 d1 d2 d3 d4 e0 e1 e2 e3 e4 f0 f1 f2 f3 f4 f5 f6 c0 c1 c2 c3 c4 HBW;by_cases he:er=0
      ·have he1:(er !=0)=false:=by simp[he]
       have he2:(er==0)=true:=by simp[he]
       have HDD:Hid (zR d o.k o.id t=(zbZ d o.k o.id t).1):=by unfold Hid zR;rw[HER.out,if_pos he]
       clear he;obtain⟨x0,x1,x2,x3,x4⟩:=HX3.out.cells5;obtain⟨c0,c1,c2,c3,c4⟩:=HP3.out.box.cells5;have y0:=HP3.out.box.frozen 0;have y1:=HP3.out.box.frozen 1;have y2:=HP3.out.box.frozen 2;have y3:=HP3.out.box.frozen 3;have y4:=HP3.out.box.frozen 4
       go_wp2_with fail
       have hgb:=zt W2 w.heap.size q2
       go_roundw
       case rel=>exact⟨j+1,q2,by omega,by go_num,HP3.out.set q2,by unfold Hid;rw[HD.out,HDD.out];exact HBO'.out.unbox HP3.out.box hgb⟩
       case measure=>simp[intOf];omega
      ·have he1:(er !=0)=true:=by simp[he]
       have he2:(er==0)=false:=by simp[he]
       have HDD:Hid (zR d o.k o.id t=d):=by unfold Hid zR;rw[HER.out,if_neg he]
       clear he
       go_wp2_with fail
       go_roundw
       case rel=>exact⟨j+1,q,by omega,by go_num,HP3.out,by unfold Hid;rw[HD.out,HDD.out];exact HBQ.out⟩
       case measure=>simp[intOf];omega
    ·have kb2:(o.k==2)=false:=by simp[k2]
     have HDD:Hid (zR d o.k o.id t=d):=by unfold Hid zR zbZ;rw[if_neg k1,if_neg k2];rfl
     clear k1 k2
     go_wp2_with fail
     go_roundw
     case rel=>exact⟨j+1,q,by omega,by go_num,HP1.out,by unfold Hid;rw[HD.out,HDD.out];exact HB1.out⟩
     case measure=>simp[intOf];omega
  ·obtain rfl:j=n:=by omega
   have hjj:ops.take j=ops:=yq (by have:=HN.out;omega)
   rw[hjj]at HB;obtain⟨c0,c1,c2,c3,c4⟩:=HP.out.box.cells5;obtain⟨z0,z1,z2,z3,z4⟩:=HP.out.zero.cells5;have y0:=HP.out.zero.frozen 0;have y1:=HP.out.zero.frozen 1;have y2:=HP.out.zero.frozen 2;have y3:=HP.out.zero.frozen 3;have y4:=HP.out.zero.frozen 4;dsimp only[RB.zero]at z0 z1 z2 z3 z4;clear hjj
   go_wp2_with fail
   have hg:=zt wr (w.heap.size+1) q;refine bodyPost_ret (v:=RB.val q) (by simp[results,Tryz.results23,go_sem,z0,z1,z2,z3,z4]) rfl ⟨q,rfl,?_,HP.out.below.grown hg HP.out.below.size (fun a e=>by simp at e;omega)⟩
   exact HB.out.unbox HP.out.zero hg
end
section
open Go Go.Shelf Go.RowKit Go.Lib Go.Sort
abbrev AdN:={x:ByteArray×Int//0<=x.2/\x.2<=1000000}
instance:Inhabited AdN:=⟨⟨(⟨#[]⟩,0),by decide⟩⟩
def zgL(x:AdN):List Value:=zdI x.1
theorem codecAd:Codec zgL 2:=⟨fun x=>codecA.len x.1,fun x=>codecA.one x.1,by decide⟩
theorem zlu(xs:List AdN):cellsOf zgL xs=cellsOf zdI (xs.map (·.1)):=by
 unfold cellsOf;rw[List.flatMap_map]
 rfl
def zl1(x y:AdN×Nat):Int:=x.1.1.2-y.1.1.2
theorem zgK(x y:AdN×Nat):ltOf zl1 x y=decide (x.1.1.2<y.1.1.2):=by
 unfold ltOf zl1;by_cases h:x.1.1.2<y.1.1.2
 ·simp[h];omega
 ·simp[h];omega
theorem zoN:SWO (ltOf zl1) where
 irrefl x:=by rw[zgK];simp
 trans x y z h1 h2:=by rw[zgK]at*;simp at*;omega
 ntrans x y z h1 h2:=by rw[zgK]at*;simp at*;omega
theorem zkF(a b:ByteArray)(i j:Int)(hi:0<=i/\i<=1000000)(hj:0<=j/\j<=1000000)(W:World):
 Calls ye 45 #[.agg #[.string a,.int .i64 i],.agg #[.string b,.int .i64 j]] W fun e w'=>e= .returned (.int .i64 (i-j))/\∃q os',w'=grow (W.drewN q) os':=by
 have hw:IntKind.i64.wrap (i-j)=i-j:=by rw[IntKind.wrap_i64]<;>omega
 go_enter Tryz.func45,Tryz.ntmps45
 go_wp2_with fail
 go_ret;exact⟨rfl,0,_,by rw[alloc_eq_grow,alloc_eq_grow,grow_grow];rfl⟩
theorem zmO(w:World)(base:Nat)(p:Option Addr)(n c:Nat)(xs:List AdN)(ho:Own w base 80 zgL 2 (.slice p n c) xs)(hl:xs.length<4611686018427387904):
 Calls ye 44 #[.slice p n c,.func (.func 45) #[] #[]] w fun e w'=>e= .returned (.tuple #[])/\∃ys:List AdN,ys.Perm xs/\ys.Pairwise (fun a b=>a.1.2<=b.1.2)/\Own w' base 80 zgL 2 (.slice p n c) ys/\w.grownBy w' (Value.slice p n c).ownBlock:=by
 rcases ho.2 with⟨hv,hn⟩|⟨g,cap,cur,hv,hbase,hb,h1,h2,h3,h4⟩
 ·simp only[Value.slice.injEq]at hv;obtain⟨rfl,rfl,rfl⟩:=hv;have:xs=[]:=List.eq_nil_of_length_eq_zero hn;subst this;have hc:=AnyF.slices_SortFunc_none (P:=ye) (ρ:=zgA) zh6 none 0 (.func (.func 45) #[] #[]) w;change Calls ye 44 _ _ _ at hc;refine hc.mono fun e w' ⟨he,hw⟩=> ?_
  subst hw;exact⟨he,[],yaV.nil,yaA.nil,Own.nil _ _ _,World.grownBy.refl _ _⟩
 ·simp only[Value.slice.injEq]at hv;obtain⟨rfl,rfl,rfl⟩:=hv
  have hc:=AnyQ.slices_SortFunc (P:=ye) (ρ:=zgA) zh6 2 Tryz.isAgg80 Tryz.sizeOf80 (zhd zgL) (fun x=>codecAd.len x.1) (fun x=>codecAd.one x.1) zl1 zoN 45 #[] g 0 c xs.zipIdx.toArray w (enters_of Tryz.func45 (by kernel_rfl) rfl)
   (fun m os dk _ x y=>zkF x.1.1.1 y.1.1.1 x.1.1.2 y.1.1.2 x.1.2 y.1.2 _)
   (zgo codecAd hb h4) (yl.1 hb).1 (by simpa using hl)
  change Calls ye 44 _ _ _ at hc;rw[show xs.zipIdx.toArray.size=xs.length by simp]at hc
  refine hc.mono fun e w' ⟨he,d',k,os,hp,hs,hw⟩=> ?_
  have hsz:d'.size=xs.length:=by rw[hp.1];simp
  have hperm:d'.toList.Perm xs.zipIdx:=by
   have h:=hp.2.2;have e1:d'.extract 0 xs.length=d':=by rw[<-hsz];simp
   have e2:xs.zipIdx.toArray.extract 0 xs.length=xs.zipIdx.toArray:=by
    simp;exact yq (by simp)
   rw[e1,e2]at h;exact h
  have hO:=zhV codecAd hsz hbase hb h1 h2 h3 ⟨k,os,hw⟩;refine⟨he,d'.toList.map (·.1),?_,?_,hO.1,hO.2⟩
  ·have:=hperm.map (·.1)
   rwa[List.zipIdx_map_fst]at this
  ·rw[yaH,List.pairwise_iff_getElem];intro i j hi hj hij;simp only[Array.length_toList]at hi hj;have h5:=hs i j (yu _) hij (by omega)
   rw[getElem!_pos d' i hi,getElem!_pos d' j hj,zgK]at h5;simp only[Array.getElem_toList];simp at h5;exact h5
theorem zjb(w:World)(base:Nat)(p:Option Addr)(n c:Nat)(l:List (ByteArray×Int))(ho:Own w base 80 zdI 2 (.slice p n c) l)(hl:l.length<4611686018427387904)(hi:∀x∈l,0<=x.2/\x.2<=1000000):
 Calls ye 44 #[.slice p n c,.func (.func 45) #[] #[]] w fun e w'=>e= .returned (.tuple #[])/\∃zs:List (ByteArray×Int),zs.Perm l/\zs.Pairwise (fun a b=>a.2<=b.2)/\Own w' base 80 zdI 2 (.slice p n c) zs/\w.grownBy w' (Value.slice p n c).ownBlock:=by
 obtain⟨xs,rfl⟩:∃xs:List AdN,xs.map (·.1)=l:=⟨l.attach.map fun e=>⟨e.1,hi e.1 e.2⟩,by rw[List.map_map];exact List.attach_map_subtype_val l⟩
 have ho':Own w base 80 zgL 2 (.slice p n c) xs:=by
  unfold Own at*;rw[zlu]
  rwa[yy]at ho
 refine(zmO w base p n c xs ho' (by simpa using hl)).mono fun e w' ⟨he,ys,h1,h2,h3,h4⟩=>⟨he,ys.map (·.1),h1.map _,?_,?_,h4⟩
 ·rw[yaH];exact h2
 ·unfold Own at*;rw[zlu]at h3
  rwa[yy]
end
end Go.Proofs.YtemofofnkchmeaaGreatDoor
