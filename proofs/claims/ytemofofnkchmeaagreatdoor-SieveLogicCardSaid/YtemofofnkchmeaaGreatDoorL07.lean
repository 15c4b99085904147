import Derived.Test.YtemofofnkchmeaaGreatDoorL04
import Derived.Test.YtemofofnkchmeaaGreatDoorL05
import Derived.ProofKit
import Derived.Below
import Derived.Test.YtemofofnkchmeaaGreatDoorL02
import Derived.Deep.RegionHeld3
import Derived.Deep.RegionLaw
import Derived.Lib.Bytealg
set_option linter.unusedSimpArgs false
set_option linter.unusedVariables false
set_option maxRecDepth 200000
set_option maxHeartbeats 8000000
namespace Go.Proofs.YtemofofnkchmeaaGreatDoor
open _root_.Go.RowKit.Below renaming refl->yh
open _root_.Bool renaming and_eq_true->yO,true_and->ya9
open _root_.Int renaming natCast_nonneg->yj
open _root_.Go.Lib renaming hid->yc
open _root_.List renaming all_cons->ybs,cons->ybu,drop_succ_cons->yaJ,drop_zero->yaY,getD_eq_getElem?_getD->yJ,getElem?_append_left->yad,getElem?_eq_getElem->yf,getElem?_eq_some_iff->yi,getElem?_of_mem->yQ,getElem?_set->yae,getElem?_zip_eq_some->yaC,getElem_mem->ya8,length_set->yaj,mem_of_getElem?->ym,take_add_one->yD,take_succ_cons->yI,take_zero->yM
open _root_.Nat renaming le_refl->yd,le_trans->yg
open _root_.Option renaming toList_some->ybc
open _root_.Go.Proofs.Tryz renaming prog->ye
section
open Go.RowKit Go.OpenShut
structure MemsOf(w:World)(B:Nat)(ms:List (ByteArray×JV))(rms:List RM):Prop where
 len:ms.length=rms.length
 name:∀(i:Nat) (p:ByteArray×JV) (q:RM),ms[i]? =some p->rms[i]? =some q->p.1=q.name
 val:∀(i:Nat) (p:ByteArray×JV) (q:RM),ms[i]? =some p->rms[i]? =some q->TreeOf w B p.2 q.v
theorem MemsOf.under{w w':World}{B B':Nat}{ms:List (ByteArray×JV)}{rms:List RM}(h:MemsOf w B ms rms)(hb:Below B w w')(hB:B<=B'):MemsOf w' B' ms rms:=
 ⟨h.len,h.name,fun i p q h1 h2=>(h.val i p q h1 h2).under hb hB⟩
theorem MemsOf.nil(w:World)(B:Nat):MemsOf w B [] []:=⟨rfl,fun i p q h=>by simp at h,fun i p q h=>by simp at h⟩
theorem MemsOf.set{w:World}{B:Nat}{ms:List (ByteArray×JV)}{rms:List RM}(h:MemsOf w B ms rms)(i:Nat){p:ByteArray×JV}{q:RM}(hn:p.1=q.name)(ht:TreeOf w B p.2 q.v):MemsOf w B (ms.set i p) (rms.set i q):=by
 refine⟨by rw[yaj,yaj,h.len],fun j a b h1 h2=> ?_,fun j a b h1 h2=> ?_⟩
 ·rw[yae]at h1 h2
  split at h1
  ·rename_i e;rw[if_pos e]at h2
   split at h1
   ·rw[if_pos (by rw[<-h.len];assumption)]at h2
    cases h1;cases h2;exact hn
   ·cases h1
  ·rename_i e;rw[if_neg e]at h2;exact h.name j a b h1 h2
 ·rw[yae]at h1 h2
  split at h1
  ·rename_i e;rw[if_pos e]at h2
   split at h1
   ·rw[if_pos (by rw[<-h.len];assumption)]at h2
    cases h1;cases h2;exact ht
   ·cases h1
  ·rename_i e;rw[if_neg e]at h2;exact h.val j a b h1 h2
theorem MemsOf.snoc{w:World}{B:Nat}{ms:List (ByteArray×JV)}{rms:List RM}(h:MemsOf w B ms rms){p:ByteArray×JV}{q:RM}(hn:p.1=q.name)(ht:TreeOf w B p.2 q.v):MemsOf w B (ms++[p]) (rms++[q]):=by
 have key:∀(j:Nat) (a:ByteArray×JV) (b:RM),(ms++[p])[j]? =some a->(rms++[q])[j]? =some b->(ms[j]? =some a/\rms[j]? =some b)\/(a=p/\b=q):=by
  intro j a b h1 h2;have hl:=h.len;by_cases hj:j<ms.length
  ·rw[yad hj]at h1;rw[yad (by omega)]at h2
   exact .inl ⟨h1,h2⟩
  ·rw[List.getElem?_append_right (by omega)]at h1 h2
   have:j-ms.length=0:=by
    have:=(yi.1 h1).1;simp at this;omega
   rw[this]at h1;rw[<-hl,this]at h2;simp at h1 h2;exact .inr ⟨h1.symm,h2.symm⟩
 refine⟨by simp[h.len],fun j a b h1 h2=> ?_,fun j a b h1 h2=> ?_⟩
 ·rcases key j a b h1 h2 with⟨h1,h2⟩|⟨rfl,rfl⟩
  ·exact h.name j a b h1 h2
  ·exact hn
 ·rcases key j a b h1 h2 with⟨h1,h2⟩|⟨rfl,rfl⟩
  ·exact h.val j a b h1 h2
  ·exact ht
theorem TreeOf.mems{w:World}{B:Nat}{t:JV}{r:RV}(h:TreeOf w B t r):∃rms,Rd w B zl 6 (.slice r.pm r.nm r.cm) rms/\MemsOf w B t.m rms/\t.k=r.k:=by
 cases h with
 |mk hl el hcl hm em hcn hcm=>exact⟨_,hm,⟨em,hcn,hcm⟩,rfl⟩
theorem TreeOf.map{w:World}{B base:Nat}{ms:List (ByteArray×JV)}{rms:List RM}{pm:Option Addr}{nm cm:Nat}(h:Own w base 35 zl 6 (.slice pm nm cm) rms)(hm:MemsOf w B ms rms)(hB:B<=w.heap.size):
 TreeOf w w.heap.size (.mk 6 0 ⟨#[]⟩ [] ms) ⟨6,0,⟨#[]⟩,none,0,0,pm,nm,cm⟩:=
 TreeOf.mk (r:=⟨6,0,⟨#[]⟩,none,0,0,pm,nm,cm⟩) (rs:=[]) (rms:=rms) (Rd.nil _ _) rfl (fun i t q h=>by simp at h) (h.rd codecM) hm.len hm.name (fun i p q h1 h2=>(hm.val i p q h1 h2).mono hB)
def MapRet(w:World)(B:Nat)(ms:List (ByteArray×JV))(e:Ending)(w':World):Prop:=
 ∃pm nm cm rms,e= .returned (RV.val ⟨6,0,⟨#[]⟩,none,0,0,pm,nm,cm⟩)/\Own w' w.heap.size 35 zl 6 (.slice pm nm cm) rms/\MemsOf w' B ms rms/\Below w.heap.size w w'
theorem zz(W:World)(b o:Nat)(v:Value):W.grownBy (W.setCell ⟨b,o,none⟩ v) (some b):=
 ⟨rfl,rfl,rfl,by simp,fun k _ hk=>heap_setCell_other W ⟨b,o,none⟩ k v (fun e=>hk (by simp[e]))⟩
theorem zeM(W:World)(g:Nat)(q:RV):W.grownBy (((((W.setCell ⟨g,0,none⟩ (.int .i64 q.k)).setCell ⟨g,1,none⟩ (.int .i64 q.n)).setCell ⟨g,2,none⟩ (.string q.s)).setCell ⟨g,3,none⟩ (.slice q.pl q.nl q.cl)).setCell ⟨g,4,none⟩ (.slice q.pm q.nm q.cm)) (some g):=
 ((((zz W g 0 _).trans (zz _ g 1 _)).trans (zz _ g 2 _)).trans (zz _ g 3 _)).trans (zz _ g 4 _)
end
section
open Go.ChangeShapes Go.WideShapes Go.Deep Go.RowKit Go.Lib
theorem zrD:ye.cellsOf 2=1:=by kernel_rfl
theorem zrE:ye.cellsOf 3=1:=by kernel_rfl
theorem zrF:ye.cellsOf 9=1:=by kernel_rfl
theorem ziO:ye.cellsOf 144=3:=by kernel_rfl
theorem znd:ye.bytesOf 144=32:=by kernel_rfl
section
variable {H:Type} {enc:TypeId×Value->H} {W:World} {base b0:Nat} {spare:Nat->Bool} {held:Bool}
theorem zmv{n:Nat}{cs:List Value}{y:DataW H×List MemPlace}(h:DataW.trod enc ye W base spare held n 144 cs=some y):∃a:En,cs=zbh a/\a.ok:=by
 obtain⟨y0,y1,y2,n,_,hlen,t0,t1,t2⟩:=trod_struct3 Tryz.underlying144 h;rw[ziO]at hlen
 obtain⟨x0,x1,x2,rfl⟩:∃x0 x1 x2,cs=[x0,x1,x2]:=by
  match cs,hlen with
  |[x0,x1,x2],_=>exact⟨x0,x1,x2,rfl⟩
 dsimp only at t0 t1 t2;rw[zrD]at t0;rw[zrF]at t1;rw[zrE]at t2;obtain⟨s,e0,_,w0⟩:=DataW.trod_int Tryz.underlying2 t0;obtain⟨t,e1,_,w1⟩:=DataW.trod_string Tryz.underlying9 t1;obtain⟨u,e2,_,w2⟩:=DataW.trod_int Tryz.underlying3 t2;simp at e0 e1 e2;subst e0 e1 e2;exact⟨⟨s,t,u⟩,rfl,w0,w1,w2⟩
theorem zhU{fuel:Nat}{cs:List Value}{x:DataW H×List MemPlace}(h:DataW.trod enc ye W base spare held fuel 38 cs=some x):
 ∃p n c,∃l:List En,cs=[.slice p n c]/\RdE W W.heap.size (.slice p n c) l/\(l=[]\/∃es sp,x.1= .slice es sp/\es.length=l.length):=by
 obtain⟨p,n,c,l,e,hr,hd⟩:=zeY (Q:=fun(a:En) _=>a.ok) Tryz.underlying38 ziO codecE h (fun n _ cs y hy=>zmv hy)
 rcases hd with⟨rfl,_⟩|⟨es,sp,h1,h2,h3⟩
 ·exact⟨p,n,c,[],e,rdE_iff.2 ⟨by simp,hr⟩,.inl rfl⟩
 ·refine⟨p,n,c,l,e,rdE_iff.2 ⟨fun a ha=> ?_,hr⟩,.inr ⟨es,sp,h1,h2⟩⟩
  obtain⟨i,hi⟩:=yQ ha;obtain⟨_,_,hq⟩:=h3 i a hi;exact hq
end
end
section
open Go Go.RowKit Go.ChangeShapes Go.WideShapes Go.Deep
structure BoxD where
 objs:List (ByteArray×JV)
 trail:List En
 seq:Int
 floor:Int
 keep:Int
structure RB where
 po:Option Addr
 no:Nat
 co:Nat
 pt:Option Addr
 nt:Nat
 ct:Nat
 sq:Int
 fl:Int
 kp:Int
abbrev RB.val(r:RB):Value:= .agg #[.slice r.po r.no r.co,.slice r.pt r.nt r.ct,.int .i64 r.sq,.int .i64 r.fl,.int .i64 r.kp]
def encB(r:RB):List Value:=[.slice r.po r.no r.co,.slice r.pt r.nt r.ct,.int .i64 r.sq,.int .i64 r.fl,.int .i64 r.kp]
abbrev RB.obj(r:RB):Obj:= .cells #[.slice r.po r.no r.co,.slice r.pt r.nt r.ct,.int .i64 r.sq,.int .i64 r.fl,.int .i64 r.kp] 40
def RB.zero:RB:=⟨none,0,0,none,0,0,0,0,0⟩
def BoxD.zero:BoxD:=⟨[],[],0,0,0⟩
def ObjsOf(w:World)(B:Nat)(os:List (ByteArray×JV))(v:Value):Prop:=∃ros,Rd w B zl 6 v ros/\MemsOf w B os ros
theorem ObjsOf.under{w w':World}{B B':Nat}{os:List (ByteArray×JV)}{v:Value}(h:ObjsOf w B os v)(hb:Below B w w')(hB:B<=B'):ObjsOf w' B' os v:=by
 obtain⟨ros,h1,h2⟩:=h;exact⟨ros,h1.below hb hB,h2.under hb hB⟩
theorem ObjsOf.nlen{w:World}{B n c:Nat}{os:List (ByteArray×JV)}{p:Option Addr}(h:ObjsOf w B os (.slice p n c)):os.length=n:=by
 obtain⟨ros,h1,h2⟩:=h;have:=zi h1;have:=h2.len;omega
theorem ObjsOf.nil(w:World)(B:Nat):ObjsOf w B [] (.slice none 0 0):=⟨[],Rd.nil _ _,MemsOf.nil _ _⟩
theorem RdE.under{w w':World}{B B':Nat}{v:Value}{l:List En}(h:RdE w B v l)(hb:Below B w w')(hB:B<=B'):RdE w' B' v l:=
 rdE_iff.2 ⟨(rdE_iff.1 h).1,(rdE_iff.1 h).2.below hb hB⟩
theorem RdE.nlen{w:World}{B n c:Nat}{l:List En}{p:Option Addr}(h:RdE w B (.slice p n c) l):l.length=n:=(zi (rdE_iff.1 h).2).symm
theorem RdE.nil(w:World)(B:Nat):RdE w B (.slice none 0 0) []:=rdE_iff.2 ⟨fun e h=>by simp at h,Rd.nil _ _⟩
structure BoxOf(w:World)(B:Nat)(b:BoxD)(r:RB):Prop where
 objs:ObjsOf w B b.objs (.slice r.po r.no r.co)
 trail:RdE w B (.slice r.pt r.nt r.ct) b.trail
 seq:b.seq=r.sq
 floor:b.floor=r.fl
 keep:b.keep=r.kp
theorem BoxOf.under{w w':World}{B B':Nat}{b:BoxD}{r:RB}(h:BoxOf w B b r)(hb:Below B w w')(hB:B<=B'):BoxOf w' B' b r:=
 ⟨h.objs.under hb hB,h.trail.under hb hB,h.seq,h.floor,h.keep⟩
theorem BoxOf.zero(w:World)(B:Nat):BoxOf w B BoxD.zero RB.zero:=⟨ObjsOf.nil _ _,RdE.nil _ _,rfl,rfl,rfl⟩
structure BoxD.Ok(b:BoxD):Prop where
 objs:b.objs.length<=1466015503658
 each:∀p∈b.objs,p.1.size<=140737488351232/\p.2.Ok
 trail:b.trail.length<=4398046510976
 seq:(Lit.int .i64 b.seq).wf=true
 floor:(Lit.int .i64 b.floor).wf=true
 keep:(Lit.int .i64 b.keep).wf=true
theorem slO:SlT ye 37 62 6 96:=SlT.mk (z:= .agg #[.string ByteArray.empty,.int .i64 0,.int .i64 0,.string ByteArray.empty,.slice none 0 0,.slice none 0 0]) Tryz.underlying37 (by kernel_rfl) rfl
theorem slEn:SlT ye 38 144 3 32:=SlT.mk Tryz.underlying38 zmj rfl
theorem znf:ye.cellsOf 62=6:=by kernel_rfl
theorem zrz:ye.bytesOf 62=96:=by kernel_rfl
theorem celO:ye.cellsOf 37=1:=by kernel_rfl
theorem celE:ye.cellsOf 38=1:=by kernel_rfl
theorem zrG:ye.cellsOf 40=5:=by kernel_rfl
section
variable {H:Type} {enc:TypeId×Value->H} {W:World} {base b0:Nat} {spare:Nat->Bool} {held:Bool}
theorem zn0{fuel:Nat}{cs:List Value}{x:DataW H×List MemPlace}(h:DataW.trod enc ye W base spare held fuel 37 cs=some x):
 ∃p n c os,cs=[.slice p n c]/\ObjsOf W W.heap.size os (.slice p n c)/\((∀n∈x.1.weights ye 37,n<=140737488351232)->os.length<=1466015503658/\∀p∈os,p.1.size<=140737488351232/\p.2.Ok):=by
 obtain⟨pm,nm,cm,rms,e4,hr4,hd4⟩:=zeY (Q:=fun(r:RM) (d:DataW H)=>∃t,TreeOf W W.heap.size t r.v/\((∀n∈d.weights ye 62,n<=140737488351232)->r.name.size<=140737488351232/\t.Ok)) Tryz.underlying37 znf codecM h
  (fun m hm cs y hy=>by
   obtain⟨z0,z1,j,rfl,hy1,hlen,u0,u1⟩:=zoy Tryz.underlying62 hy;rw[znf]at hlen
   obtain⟨a0,a1,a2,a3,a4,a5,rfl⟩:∃a0 a1 a2 a3 a4 a5,cs=[a0,a1,a2,a3,a4,a5]:=by
    match cs,hlen with
    |[a,b,c,d,e,f],_=>exact⟨a,b,c,d,e,f,rfl⟩
   rw[hy1];dsimp only at u0 u1;rw[cel3]at u0;rw[zhF]at u1;simp only[yaY,yaJ,yI,yM]at u0 u1;obtain⟨nm,g0,g1,g2⟩:=DataW.trod_string Tryz.underlying9 u0;simp only[ybu.injEq,and_true]at g0;subst g0 g1;obtain⟨r,t,h1,h2,h3⟩:=zki j _ _ u1;refine⟨⟨nm,r⟩,by rw[h1];rfl,t,h2,fun hw=>⟨zeb (zbf Tryz.underlying62 hw (i:=0) rfl rfl),h3 (zbf Tryz.underlying62 hw (i:=1) rfl rfl)⟩⟩)
 have hM:∀i,i<rms.length->∃p:ByteArray×JV,∀q,rms[i]? =some q->p.1=q.name/\TreeOf W W.heap.size p.2 q.v/\((∀n∈x.1.weights ye 37,n<=140737488351232)->p.1.size<=140737488351232/\p.2.Ok):=by
  intro i hi;obtain⟨q,hq⟩:∃q,rms[i]? =some q:=⟨_,yf hi⟩
  rcases hd4 with⟨rfl,_⟩|⟨es,sp,h1,h2,h3⟩
  ·simp at hi
  ·obtain⟨d,hd,t,ht1,ht2⟩:=h3 i q hq;refine⟨(q.name,t),fun q' hq'=> ?_⟩
   rw[hq]at hq';cases hq';refine⟨rfl,ht1,fun hw=>ht2 ?_⟩
   rw[h1]at hw;exact(zbV Tryz.underlying37 hw).2 d (ym hd)
 obtain⟨ps,hps,hps2⟩:=zfp rms.length hM;refine⟨pm,nm,cm,ps,e4,⟨rms,hr4,hps,fun i p q h1 h2=>(hps2 i p h1 q h2).1,fun i p q h1 h2=>(hps2 i p h1 q h2).2.1⟩,fun hw=>⟨?_,fun p hp=> ?_⟩⟩
 ·rcases hd4 with⟨rfl,_⟩|⟨es,sp,h1,h2,_⟩
  ·rw[hps];simp
  ·rw[h1]at hw;have:=(zbV Tryz.underlying37 hw).1;rw[zrz]at this;omega
 ·obtain⟨i,hi⟩:=yQ hp;obtain⟨q,hq⟩:∃q,rms[i]? =some q:=⟨_,yf (by have:=(yi.1 hi).1;omega)⟩
  exact(hps2 i p hi q hq).2.2 hw
theorem ziH{fuel:Nat}{cs:List Value}{x:DataW H×List MemPlace}(h:DataW.trod enc ye W base spare held fuel 40 cs=some x):
 ∃r b,cs=encB r/\BoxOf W W.heap.size b r/\((∀n∈x.1.weights ye 40,n<=140737488351232)->b.Ok):=by
 obtain⟨y0,y1,y2,y3,y4,n,rfl,hx1,hlen,t0,t1,t2,t3,t4⟩:=zoz Tryz.underlying40 h;rw[zrG]at hlen
 obtain⟨c0,c1,c2,c3,c4,rfl⟩:∃c0 c1 c2 c3 c4,cs=[c0,c1,c2,c3,c4]:=by
  match cs,hlen with
  |[a,b,c,d,e],_=>exact⟨a,b,c,d,e,rfl⟩
 rw[hx1];dsimp only at t0 t1 t2 t3 t4;rw[celO]at t0;rw[celE]at t1;rw[cel1]at t2 t3;rw[cel2]at t4;simp only[yaY,yaJ,yI,yM]at t0 t1 t2 t3 t4;obtain⟨sq,e2,f2,w2⟩:=DataW.trod_int Tryz.underlying2 t2;obtain⟨fl,e3,f3,w3⟩:=DataW.trod_int Tryz.underlying2 t3;obtain⟨kp,e4,f4,w4⟩:=DataW.trod_int Tryz.underlying3 t4;simp only[ybu.injEq,and_true]at e2 e3 e4;subst e2 e3 e4 f2 f3 f4;obtain⟨po,no,co,os,e0,ho,wo⟩:=zn0 t0;obtain⟨pt,nt,ct,l,e1,hl,wl⟩:=zhU t1;simp only[ybu.injEq,and_true]at e0 e1;subst e0 e1;refine⟨⟨po,no,co,pt,nt,ct,sq,fl,kp⟩,⟨os,l,sq,fl,kp⟩,rfl,⟨ho,hl,rfl,rfl,rfl⟩,fun hw=> ?_⟩
 have hwo:=wo (zbf Tryz.underlying40 hw (i:=0) rfl rfl);have hwl:∀n∈y1.1.weights ye 38,n<=140737488351232:=zbf Tryz.underlying40 hw (i:=1) rfl rfl;refine⟨hwo.1,hwo.2,?_,w2,w3,w4⟩
 rcases wl with rfl|⟨es,sp,h1,h2⟩
 ·simp
 ·rw[h1]at hwl;have:=(zbV Tryz.underlying38 hwl).1;rw[znd]at this
  show l.length<=_
  omega
theorem zpA{v:Value}{d:DataW H}{p:List MemPlace}(hval:Value.okWide ye W .any b0 40 v)(h:DataW.Trod enc ye W base spare held 40 v d p):
 ∃r b,v=RB.val r/\BoxOf W W.heap.size b r/\((∀n∈d.weights ye 40,n<=140737488351232)->b.Ok):=by
 obtain⟨cs,rfl,hsz⟩:=okWide_struct Tryz.underlying40 hval;obtain⟨fuel,hf⟩:=h;obtain⟨r,b,h1,h2,h3⟩:=ziH hf;refine⟨r,b,?_,h2,h3⟩
 have:cs=(encB r).toArray:=by
  apply Array.ext';simpa[Value.cells]using h1
 rw[this]
 rfl
end
end
section
open Go.RowKit Go.OpenShut
def zV(w:World)(B:Nat)(o:Option JV)(e:Ending)(w':World):Prop:=
 ∃r b,e= .returned (.tuple #[RV.val r,.bool b])/\b=o.isSome/\TreeOf w' B (o.getD JV.zero) r/\Below w.heap.size w w'
theorem zT(t:JV)(r:RV)(name:ByteArray)(w:World)(B:Nat)(hBw:B<=w.heap.size)(ht:TreeOf w B t r)(ot:t.Ok):
 Calls ye 62 #[r.val,.string name] w (zV w B (t.get name)):=by
 obtain⟨k,n,s,pl,nl,cl,pm,nm,cm⟩:=r;dsimp only[RV.val]at*;have HT:=yc ht;have HO:=yc ot;have hA0:VAt ((w.alloc (.cells #[.int .i64 k,.int .i64 n,.string s,.slice pl nl cl,.slice pm nm cm] 25)).alloc (.cells #[.int .i64 0,.int .i64 0,.string ⟨#[]⟩,.slice none 0 0,.slice none 0 0] 25)) w.heap.size ⟨k,n,s,pl,nl,cl,pm,nm,cm⟩:=zb (by simp) (za rfl)
 have hA1:VAt ((w.alloc (.cells #[.int .i64 k,.int .i64 n,.string s,.slice pl nl cl,.slice pm nm cm] 25)).alloc (.cells #[.int .i64 0,.int .i64 0,.string ⟨#[]⟩,.slice none 0 0,.slice none 0 0] 25)) (w.heap.size+1) RV.zero:=za (by simp)
 have hB0:=zM w (.cells #[.int .i64 k,.int .i64 n,.string s,.slice pl nl cl,.slice pm nm cm] 25) (.cells #[.int .i64 0,.int .i64 0,.string ⟨#[]⟩,.slice none 0 0,.slice none 0 0] 25);clear ht ot
 go_enter Tryz.func62,Tryz.ntmps62
 go_upto_region 1 with fail
 obtain⟨W0,hW0⟩:∃W0,((w.alloc (.cells #[.int .i64 k,.int .i64 n,.string s,.slice pl nl cl,.slice pm nm cm] 25)).alloc (.cells #[.int .i64 0,.int .i64 0,.string ⟨#[]⟩,.slice none 0 0,.slice none 0 0] 25))=W0:=⟨_,rfl⟩;rw[hW0]at hA0 hA1 hB0⊢;clear hW0;obtain⟨p0,p1,p2,p3,p4⟩:=hA0.cells5
 go_upto_region 2 with(go_at_call 110;refine(zn4 t ⟨k,n,s,pl,nl,cl,pm,nm,cm⟩ name _ (HT.out.under (hB0.mono hBw) (yg hBw hB0.size)) HO.out).mono ?_;rintro e w1 ⟨rfl,hb1⟩)
 have hzz:w.heap.size+1<W0.heap.size:=hA1.lt;have HA1:VAt w1 (w.heap.size+1) RV.zero:=hA1.under hb1 hzz;have HA0:VAt w1 w.heap.size ⟨k,n,s,pl,nl,cl,pm,nm,cm⟩:=hA0.under hb1 (by omega)
 have HB1:=hB0.trans (hb1.mono hB0.size);have hTw:=yc (HT.out.under (HB1.mono hBw) (yd _));clear p0 p1 p2 p3 p4 hA0 hA1 hB0 hb1;obtain⟨z0,z1,z2,z3,z4⟩:=HA1.cells5;have y0:=HA1.frozen 0;have y1:=HA1.frozen 1;have y2:=HA1.frozen 2;have y3:=HA1.frozen 3;have y4:=HA1.frozen 4;have p4:=HA0.cell 4 rfl;dsimp only[RV.zero]at z0 z1 z2 z3 z4 p4;have HZ:=yc HA1;clear HA1 HA0
 generalize hp:t.place name=o
 cases o with
 | none =>
   have HG:Hid (t.get name=none):=by unfold Hid JV.get;rw[hp];rfl
   have hn:zbt (none:Option Nat)= -1:=rfl;rw[hn];clear hp hn
   go_wp2_with fail
   have HZ2:=HZ.out.stored RV.zero;refine bodyPost_ret (v:= .tuple #[RV.val RV.zero,.bool false]) (by simp[results,Tryz.results62,go_sem,RV.zero,z0,z1,z2,z3,z4]) rfl ⟨RV.zero,false,rfl,by rw[HG.out];rfl,by rw[HG.out];exact TreeOf.zero _ _,Below.stored HB1 (by omega) RV.zero⟩
 | some i =>
   obtain⟨p,hm1,hk6,hget⟩:=zi3 hp;have HG:=yc hget;have hn:zbt (some i)=(i:Int):=rfl;rw[hn];clear hp hn hget;have hT2:=hTw.out
   generalize hr:(⟨k,n,s,pl,nl,cl,pm,nm,cm⟩:RV)=r at hT2
   cases hT2 with
   | @mk _ l m rs rms hl el hcl hm em hcn hcm=>
   subst hr;dsimp only[JV.m]at*;have hi:=(yi.1 hm1).1;obtain⟨q,hq⟩:∃q,rms[i]? =some q:=⟨_,yf (by omega)⟩
   obtain⟨b1,o1,rfl,hb1,hc1⟩:=zq hm hq;have HTq:=yc (hcm i p q hm1 hq);have f0:=hc1 0 _ rfl;have f1:=hc1 1 _ rfl;have f2:=hc1 2 _ rfl;have f3:=hc1 3 _ rfl;have f4:=hc1 4 _ rfl;have f5:=hc1 5 _ rfl;have hi0:(0:Int)<=(i:Int):=yj _;have hi1:(i:Int)<(nm:Int):=by have:=zi hm;omega
   clear hcl hcn hcm hl hm em el hc1 hm1 hq
   go_wp2_with fail
   have HZ2:=HZ.out.stored q.v;have HBs:Below w1.heap.size w1 w1:=yh _ _;refine bodyPost_ret (v:= .tuple #[RV.val q.v,.bool true]) (by simp[results,Tryz.results62,go_sem,z0,z1,z2,z3,z4]) rfl ⟨q.v,true,rfl,by rw[HG.out];rfl,?_,Below.stored HB1 (by omega) q.v⟩
   rw[HG.out];exact HTq.out.under (Below.stored (yh _ _) (by omega) q.v) (yd _)
end
section
open Go Go.RowKit Go.OpenShut
theorem zK{a b:Bool}(h:a=b):Ending.returned (.bool a)= .returned (.bool b):=by rw[h]
def zhj(c:UInt8):Bool:=decide (97<=c.toNat)&&decide (c.toNat<=122)||decide (65<=c.toNat)&&decide (c.toNat<=90)||decide (48<=c.toNat)&&decide (c.toNat<=57)||decide (c.toNat=45)||decide (c.toNat=95)
def zgM(s:ByteArray):Bool:=s.data.toList.all zhj
def idB(s:ByteArray):Bool:=decide (1<=s.size)&&decide (s.size<=255)&&zgM s
theorem znE{s:ByteArray}(h:∀j,j<s.size->zhj s[j]! =true):zgM s=true:=by
 unfold zgM;rw[List.all_eq_true];intro c hc;obtain⟨j,hj,e⟩:=List.getElem_of_mem hc;have hj':j<s.size:=by rw[<-zdA];exact hj
 have:=h j hj';rw[zhg s j hj']at this;rw[<-e];exact this
theorem zo9{s:ByteArray}{j:Nat}(hj:j<s.size)(h:zhj s[j]! =false):zgM s=false:=by
 unfold zgM;rw[List.all_eq_false];refine⟨s[j],?_,by rw[<-zhg s j hj,h];simp⟩
 exact ya8 (l:=s.data.toList) (by rw[zdA];exact hj)
theorem zkX(s:ByteArray)(w:World)(hs:s.size<=maxLen):Calls ye 114 #[.string s] w fun e w'=>e= .returned (.bool (idB s))/\w'=w:=by
 unfold maxLen at hs;by_cases h1:s.size<1
 ·have HR:Hid (idB s=false):=by unfold Hid idB;rw[decide_eq_false (by omega)];rfl
  have q1:decide ((s.size:Int)<1)=true:=by simp;omega
  have q2:(s.size:Int)<1:=by omega
  have q3:s.size<1:=h1;rw[HR.out];clear HR
  go_enter Tryz.func114,Tryz.ntmps114
  go_wp2_with fail
  go_ret;exact⟨rfl,rfl⟩
 ·by_cases h2:255<s.size
  ·have HR:Hid (idB s=false):=by unfold Hid idB;rw[decide_eq_false (p:=s.size<=255) (by omega),Bool.and_false];rfl
   have q1:decide ((s.size:Int)<1)=false:=by simp;omega
   have q2:¬(s.size:Int)<1:=by omega
   have q4:decide ((255:Int)<(s.size:Int))=true:=by simp;omega
   have q5:(255:Int)<(s.size:Int):=by omega
   rw[HR.out];clear HR
   go_enter Tryz.func114,Tryz.ntmps114
   go_wp2_with fail
   go_ret;exact⟨rfl,rfl⟩
  ·have HR:Hid (idB s=zgM s):=by unfold Hid idB;rw[decide_eq_true (by omega),decide_eq_true (by omega)];rfl
   have q1:decide ((s.size:Int)<1)=false:=by simp;omega
   have q2:¬(s.size:Int)<1:=by omega
   have q4:decide ((255:Int)<(s.size:Int))=false:=by simp;omega
   have q5:¬(255:Int)<(s.size:Int):=by omega
   rw[HR.out];clear HR
   go_enter Tryz.func114,Tryz.ntmps114
   go_wp2_with fail
   go_loop [15] (fun i=>∃k:Nat,k<=s.size/\i= .int .i64 (k:Int)/\Hid (∀j,j<k->zhj s[j]! =true)) (fun i=>s.size-(intOf i).toNat)
   case atStart=>exact⟨0,Nat.zero_le _,rfl,fun j h=>by omega⟩
   case round=>
    obtain⟨k,hk,rfl,hall⟩:=hrel;by_cases hlt:k<s.size
    ·have k0:(0:Int)<=(k:Int):=yj _;have k1:(k:Int)<(s.size:Int):=by omega
     have b0:(0:Int)<=((s[k].toNat:Nat):Int):=yj _;have hcc:Hid (zhj s[k]! =zhj s[k]):=by unfold Hid;rw[zhg s k hlt]
     obtain⟨c,hc⟩:∃c,s[k]=c:=⟨_,rfl⟩;rw[hc]at hcc b0;have HC:=yc hc;by_cases a1:97<=c.toNat<;>by_cases a2:c.toNat<=122<;>by_cases a3:65<=c.toNat<;>by_cases a4:c.toNat<=90<;>by_cases a5:48<=c.toNat<;>by_cases a6:c.toNat<=57<;>by_cases a7:c.toNat=45<;>by_cases a8:c.toNat=95
     all_goals first|(exfalso;omega)|skip
     all_goals
      have hp:Hid (zhj c=(decide (97<=c.toNat)&&decide (c.toNat<=122)||decide (65<=c.toNat)&&decide (c.toNat<=90)||decide (48<=c.toNat)&&decide (c.toNat<=57)||decide (c.toNat=45)||decide (c.toNat=95))):=rfl
      first
       | (have d1 : decide ((97 : Int) <= ((c.toNat : Nat) : Int)) = true := decide_eq_true (by omega)
          have p1:(97:Int)<=((c.toNat:Nat):Int):=by omega)
       | (have d1 : decide ((97 : Int) <= ((c.toNat : Nat) : Int)) = false := decide_eq_false (by omega)
          have p1:¬((97:Int)<=((c.toNat:Nat):Int)):=by omega)
      first
       | (have d2 : decide (((c.toNat : Nat) : Int) <= 122) = true := decide_eq_true (by omega)
          have p2:((c.toNat:Nat):Int)<=122:=by omega)
       | (have d2 : decide (((c.toNat : Nat) : Int) <= 122) = false := decide_eq_false (by omega)
          have p2:¬(((c.toNat:Nat):Int)<=122):=by omega)
      first
       | (have d3 : decide ((65 : Int) <= ((c.toNat : Nat) : Int)) = true := decide_eq_true (by omega)
          have p3:(65:Int)<=((c.toNat:Nat):Int):=by omega)
       | (have d3 : decide ((65 : Int) <= ((c.toNat : Nat) : Int)) = false := decide_eq_false (by omega)
          have p3:¬((65:Int)<=((c.toNat:Nat):Int)):=by omega)
      first
       | (have d4 : decide (((c.toNat : Nat) : Int) <= 90) = true := decide_eq_true (by omega)
          have p4:((c.toNat:Nat):Int)<=90:=by omega)
       | (have d4 : decide (((c.toNat : Nat) : Int) <= 90) = false := decide_eq_false (by omega)
          have p4:¬(((c.toNat:Nat):Int)<=90):=by omega)
      first
       | (have d5 : decide ((48 : Int) <= ((c.toNat : Nat) : Int)) = true := decide_eq_true (by omega)
          have p5:(48:Int)<=((c.toNat:Nat):Int):=by omega)
       | (have d5 : decide ((48 : Int) <= ((c.toNat : Nat) : Int)) = false := decide_eq_false (by omega)
          have p5:¬((48:Int)<=((c.toNat:Nat):Int)):=by omega)
      first
       | (have d6 : decide (((c.toNat : Nat) : Int) <= 57) = true := decide_eq_true (by omega)
          have p6:((c.toNat:Nat):Int)<=57:=by omega)
       | (have d6 : decide (((c.toNat : Nat) : Int) <= 57) = false := decide_eq_false (by omega)
          have p6:¬(((c.toNat:Nat):Int)<=57):=by omega)
      first
       |(have d7:(((c.toNat:Nat):Int)==45)=true:=by simp;omega)
       |(have d7:(((c.toNat:Nat):Int)==45)=false:=by simp;omega)
      first
       |(have d8:(((c.toNat:Nat):Int)==95)=true:=by simp;omega)
       |(have d8:(((c.toNat:Nat):Int)==95)=false:=by simp;omega)
      go_wp2_with fail
      first
       | (go_round
          case rel=>
           refine⟨k+1,by omega,by go_num,fun j hj=> ?_⟩
           by_cases e:j=k
           ·subst e;rw[hcc.out,hp.out];simp[a1,a2,a3,a4,a5,a6,a7,a8]
           ·exact hall.out j (by omega)
          case measure=>simp[intOf];omega)
       | (go_ret
          refine⟨zK ?_,rfl⟩;exact(zo9 hlt (by rw[hcc.out,hp.out];simp[a1,a2,a3,a4,a5,a6,a7,a8])).symm)
    ·obtain rfl:k=s.size:=by omega
     go_wp2_with fail
     go_ret;exact⟨zK (znE hall.out).symm,rfl⟩
end
section
open Go.RowKit Go.OpenShut
theorem VAt.set4{W:World}{g:Nat}{r:RV}(h:VAt W g r)(p:Option Addr)(n c:Nat):VAt (W.setCell ⟨g,4,none⟩ (.slice p n c)) g {r with pm:=p,nm:=n,cm:=c}:=by
 unfold VAt at h⊢;simp[World.setCell,Array.getElem?_modify,h]
def KB(B:Nat)(W w:World):Prop:=Below B W w/\∀b o,b<B->w.cell? ⟨b,o,none⟩=W.cell? ⟨b,o,none⟩
theorem KB.mk{B:Nat}{W w:World}(h:Below B W w):KB B W w:=⟨h,fun b o hb=>h.cell (p:=⟨b,o,none⟩) hb⟩
theorem KB.fin{b B:Nat}{w W w':World}(hk:KB B W w')(h:Below b w W)(hb:b<=B):Below b w w':=h.trans (hk.1.mono hb)
theorem KB.refl(W:World):KB W.heap.size W W:=KB.mk (yh _ _)
theorem KB.step{W w w':World}(hk:KB W.heap.size W w)(h:Below w.heap.size w w'):KB W.heap.size W w':=KB.mk (hk.1.trans (h.mono hk.1.size))
theorem KB.drew(W:World):KB W.heap.size W W.drew:=KB.mk (yh _ _).drew
abbrev RV.obj(r:RV):Obj:= .cells #[.int .i64 r.k,.int .i64 r.n,.string r.s,.slice r.pl r.nl r.cl,.slice r.pm r.nm r.cm] 25
structure Ctx(b:Nat)(w0 W:World)(L:List (Nat×RV))(T:List (JV×RV)):Prop where
 below:Below b w0 W
 le:b<=W.heap.size
 loc:∀(i g:Nat) (r:RV),L[i]? =some (g,r)->g<W.heap.size/\VAt W g r
 tree:∀(i:Nat) (t:JV) (r:RV),T[i]? =some (t,r)->TreeOf W W.heap.size t r
theorem Ctx.nil(w:World):Ctx w.heap.size w w [] []:=⟨yh _ _,yd _,fun i g r h=>by simp at h,fun i t r h=>by simp at h⟩
section
variable {b:Nat} {w0 W w:World} {L:List (Nat×RV)} {T:List (JV×RV)} (h:Ctx b w0 W L T)
include h
theorem Ctx.go(hb:Below W.heap.size W w):Ctx b w0 w L T:=
 ⟨h.below.trans (hb.mono h.le),yg h.le hb.size,fun i g r hi=>⟨Nat.lt_of_lt_of_le (h.loc i g r hi).1 hb.size,(h.loc i g r hi).2.under hb (h.loc i g r hi).1⟩,fun i t r hi=>(h.tree i t r hi).under hb hb.size⟩
theorem Ctx.alloc(x:RV):Ctx b w0 (W.alloc x.obj) ((W.heap.size,x)::L) T:=by
 have g:=h.go ((yh _ _).alloc (yd _) x.obj);refine⟨g.below,g.le,fun i k r hi=> ?_,g.tree⟩
 cases i with
 | zero =>
   cases hi;exact⟨by simp,za rfl⟩
 |succ i=>exact g.loc i k r hi
theorem Ctx.know{t:JV}{x:RV}(hx:TreeOf W W.heap.size t x):Ctx b w0 W L ((t,x)::T):=by
 refine⟨h.below,h.le,h.loc,fun i u r hi=> ?_⟩
 cases i with
 |zero=>cases hi;exact hx
 |succ i=>exact h.tree i u r hi
theorem Ctx.box(hk:KB W.heap.size W w){t:JV}{x:RV}(hx:TreeOf w w.heap.size t x):Ctx b w0 (w.alloc x.obj) ((w.heap.size,x)::L) ((t,x)::T):=
 ((h.go hk.1).know hx).alloc x
theorem Ctx.lt(i:Nat){g:Nat}{r:RV}(hi:L[i]? =some (g,r)):g<W.heap.size:=(h.loc i g r hi).1
theorem Ctx.at(i:Nat){g:Nat}{r:RV}(hi:L[i]? =some (g,r)):VAt W g r:=(h.loc i g r hi).2
theorem Ctx.fin(hk:KB W.heap.size W w):Below b w0 w:=h.below.trans (hk.1.mono h.le)
end
end
section
def zw(b:UInt8):Bool:=decide (48<=b.toNat)&&decide (b.toNat<=57)
def zcO(n:Int)(b:UInt8):Int:=n*10+((b.toNat:Int)-48)
def ziL(l:List UInt8):Int:=l.foldl zcO 0
theorem zoC(r:List UInt8)(b:UInt8):ziL (r++[b])=zcO (ziL r) b:=by unfold ziL;rw[List.foldl_append];rfl
theorem zj0:∀(l:List UInt8) (n:Int),l.all zw=true->0<=n->n<=l.foldl zcO n
 |[],n,_,_=>Int.le_refl _
 | b :: l, n, h, h0 => by
   rw[ybs,yO]at h;have hb:=h.1;unfold zw at hb;rw[yO,decide_eq_true_eq,decide_eq_true_eq]at hb;have h1:n<=zcO n b:=by unfold zcO;omega
   exact Int.le_trans h1 (zj0 l (zcO n b) h.2 (Int.le_trans h0 h1))
theorem zlt{l:List UInt8}(h:l.all zw=true):0<=ziL l:=zj0 l 0 h (Int.le_refl _)
def formL:List UInt8:=[48,48,48,48,45,48,48,45,48,48,84,48,48,58,48,48,58,48,48]
def zeg(f c:UInt8):Bool:=if f=48 then zw c else decide (c=f)
def zci(l:List UInt8):Bool:=decide (19<=l.length)&&((formL.zip l).all (fun p=>zeg p.1 p.2))
def zo(l:List UInt8)(i n:Nat):Int:=ziL ((l.drop i).take n)
def zes(t:List UInt8):Bool:=decide (t=[90])||(decide (3<=t.length)&&(decide (t.length<=11)&&(decide (t[0]? =some 46)&&(decide (t[t.length-1]? =some 90)&&(decide (t[t.length-2]? ≠some 48)&&((t.drop 1).take (t.length-2)).all zw)))))
def zfO(y:Int):Bool:=(decide (y % 4=0)&&decide (y % 100≠0))||decide (y % 400=0)
def zcb(y m:Int):Int:=if m=4\/m=6\/m=9\/m=11 then 30 else if m=2 then(if zfO y then 29 else 28)else 31
def zbW(y:Int):Int:=if y=0 then 0 else 365*y+(y-1)/4-(y-1)/100+(y-1)/400+1
def zbR(y:Int):Nat->Int
 |0=>0
 |k+1=>zbR y k+zcb y (k+1:Nat)
def zef(y m d:Int):Option Int:=if 0<=y/\y<=9999/\1<=m/\m<=12/\1<=d/\d<=zcb y m then some (zbW y-zbW 1970+zbR y (m.toNat-1)+d-1)else none
def zbm(l:List UInt8):Option Int:=
 if zci l&&(zes (l.drop 19)&&(decide (zo l 11 2<=23)&&(decide (zo l 14 2<=59)&&decide (zo l 17 2<=59))))then(zef (zo l 0 4) (zo l 5 2) (zo l 8 2)).map (fun D=>((D*24+zo l 11 2)*60+zo l 14 2)*60+zo l 17 2)else none
def zcq(l:List UInt8):List UInt8:=((l.drop 20).take (l.length-21))++List.replicate (10-(l.length-21)) 48
theorem zgr(y m:Int):28<=zcb y m/\zcb y m<=31:=by
 unfold zcb
 split
 ·omega
 ·split
  ·split<;>omega
  ·omega
theorem zgh{y:Int}(h0:0<=y)(h1:y<=10000):0<=zbW y/\zbW y<=3660000:=by
 unfold zbW
 split<;>omega
theorem zeq(y:Int):∀k:Nat,0<=zbR y k/\zbR y k<=31*k
 |0=>by simp[zbR]
 | k + 1 => by
   have h:=zeq y k;have h2:=zgr y ((k+1:Nat):Int)
   show 0<=zbR y k+zcb y ((k+1:Nat):Int)/\zbR y k+zcb y ((k+1:Nat):Int)<=_
   omega
def zc5(a b:List UInt8):Int:=
 match zbm a,zbm b with
 |none,none=>Go.Lib.compareBytes a b
 |none,some _=> -1
 |some _,none=>1
 |some x,some y=>if x<y then-1 else if y<x then 1 else Go.Lib.compareBytes (zcq a) (zcq b)
theorem zgR{l:List UInt8}{x:Int}(h:zbm l=some x):zci l=true/\zes (l.drop 19)=true:=by
 unfold zbm at h
 split at h
 ·rename_i hc;rw[yO,yO]at hc;exact⟨hc.1,hc.2.1⟩
 ·cases h
theorem zW{l:List UInt8}{k:Nat}(h:k+1<=l.length):∃c r,l=c::r/\k<=r.length:=by
 cases l with
 |nil=>simp at h
 |cons c r=>exact⟨c,r,rfl,by simpa using h⟩
theorem zkg{l:List UInt8}(h:19<=l.length):∃c0 c1 c2 c3 c4 c5 c6 c7 c8 c9 c10 c11 c12 c13 c14 c15 c16 c17 c18 t,l=c0::c1::c2::c3::c4::c5::c6::c7::c8::c9::c10::c11::c12::c13::c14::c15::c16::c17::c18::t:=by
 obtain⟨c0,l1,rfl,h1⟩:=zW (k:=18) h;obtain⟨c1,l2,rfl,h2⟩:=zW (k:=17) h1;obtain⟨c2,l3,rfl,h3⟩:=zW (k:=16) h2;obtain⟨c3,l4,rfl,h4⟩:=zW (k:=15) h3;obtain⟨c4,l5,rfl,h5⟩:=zW (k:=14) h4;obtain⟨c5,l6,rfl,h6⟩:=zW (k:=13) h5;obtain⟨c6,l7,rfl,h7⟩:=zW (k:=12) h6;obtain⟨c7,l8,rfl,h8⟩:=zW (k:=11) h7;obtain⟨c8,l9,rfl,h9⟩:=zW (k:=10) h8;obtain⟨c9,l10,rfl,h10⟩:=zW (k:=9) h9;obtain⟨c10,l11,rfl,h11⟩:=zW (k:=8) h10;obtain⟨c11,l12,rfl,h12⟩:=zW (k:=7) h11;obtain⟨c12,l13,rfl,h13⟩:=zW (k:=6) h12;obtain⟨c13,l14,rfl,h14⟩:=zW (k:=5) h13;obtain⟨c14,l15,rfl,h15⟩:=zW (k:=4) h14;obtain⟨c15,l16,rfl,h16⟩:=zW (k:=3) h15;obtain⟨c16,l17,rfl,h17⟩:=zW (k:=2) h16;obtain⟨c17,l18,rfl,h18⟩:=zW (k:=1) h17;obtain⟨c18,l19,rfl,h19⟩:=zW (k:=0) h18;exact⟨_,_,_,_,_,_,_,_,_,_,_,_,_,_,_,_,_,_,_,_,rfl⟩
theorem zmf{l:List UInt8}(h:19<=l.length):zci l=((decide (l[4]? =some 45)&&(decide (l[7]? =some 45)&&(decide (l[10]? =some 84)&&(decide (l[13]? =some 58)&&decide (l[16]? =some 58)))))&&
 ((((l.drop 0).take 4).all zw&&(((l.drop 5).take 2).all zw&&((l.drop 8).take 2).all zw))&&(((l.drop 11).take 2).all zw&&(((l.drop 14).take 2).all zw&&((l.drop 17).take 2).all zw)))):=by
 obtain⟨c0,c1,c2,c3,c4,c5,c6,c7,c8,c9,c10,c11,c12,c13,c14,c15,c16,c17,c18,t,rfl⟩:=zkg h;unfold zci;rw[decide_eq_true h,ya9];have e:((formL.zip (c0::c1::c2::c3::c4::c5::c6::c7::c8::c9::c10::c11::c12::c13::c14::c15::c16::c17::c18::t)).all (fun p=>zeg p.1 p.2))=(zw c0&&(zw c1&&(zw c2&&(zw c3&&(decide (c4=45)&&(zw c5&&(zw c6&&(decide (c7=45)&&(zw c8&&(zw c9&&(decide (c10=84)&&(zw c11&&(zw c12&&(decide (c13=58)&&(zw c14&&(zw c15&&(decide (c16=58)&&(zw c17&&(zw c18&&true))))))))))))))))))):=rfl
 rw[e];simp only[List.getElem?_cons_succ,List.getElem?_cons_zero,Option.some.injEq,yaJ,yaY,yI,yM,ybs,List.all_nil,Bool.and_true]
 generalize zw c0=d0;generalize zw c1=d1;generalize zw c2=d2;generalize zw c3=d3;generalize zw c5=d5;generalize zw c6=d6;generalize zw c8=d8;generalize zw c9=d9;generalize zw c11=d11;generalize zw c12=d12;generalize zw c14=d14;generalize zw c15=d15;generalize zw c17=d17;generalize zw c18=d18
 generalize decide (c4=45)=s4;generalize decide (c7=45)=s7;generalize decide (c10=84)=s10;generalize decide (c13=58)=s13;generalize decide (c16=58)=s16
 rw[Bool.eq_iff_iff];simp only[yO]
 constructor
 ·rintro⟨h0,h1,h2,h3,h4,h5,h6,h7,h8,h9,h10,h11,h12,h13,h14,h15,h16,h17,h18⟩;exact⟨⟨h4,h7,h10,h13,h16⟩,⟨⟨h0,h1,h2,h3⟩,⟨h5,h6⟩,h8,h9⟩,⟨h11,h12⟩,⟨h14,h15⟩,h17,h18⟩
 ·rintro⟨⟨h4,h7,h10,h13,h16⟩,⟨⟨h0,h1,h2,h3⟩,⟨h5,h6⟩,h8,h9⟩,⟨h11,h12⟩,⟨h14,h15⟩,h17,h18⟩;exact⟨h0,h1,h2,h3,h4,h5,h6,h7,h8,h9,h10,h11,h12,h13,h14,h15,h16,h17,h18⟩
def zfm(p:Nat×List Int)(x:UInt8×UInt8):Nat×List Int:=if x.1=48 then(p.1,p.2.set p.1 (zcO (p.2.getD p.1 0) x.2))else(p.1+1,p.2)
def zbz(l:List UInt8)(i:Nat):Nat×List Int:=((formL.zip l).take i).foldl zfm (0,[0,0,0,0,0,0])
def atN(i:Nat):Nat:=((formL.take i).filter (fun c=>decide (c≠48))).length
theorem zg0{l:List UInt8}{i:Nat}{f c:UInt8}(hf:formL[i]? =some f)(hc:l[i]? =some c):zbz l (i+1)=zfm (zbz l i) (f,c):=by
 unfold zbz;have hz:(formL.zip l)[i]? =some (f,c):=by rw[yaC];exact⟨hf,hc⟩
 rw[yD,hz,ybc,List.foldl_append]
 rfl
theorem zjO{i:Nat}{f:UInt8}(hf:formL[i]? =some f):atN (i+1)=atN i+if f=48 then 0 else 1:=by
 unfold atN;rw[yD,hf,ybc,List.filter_append,List.length_append];by_cases h:f=48
 ·simp[h]
 ·simp[h]
theorem zjN:∀i:Fin 19,atN i.1<=5/\i.1-atN i.1<=13/\atN i.1<=i.1:=by decide
theorem zj1:∀i:Fin 19,∃f,formL[i.1]? =some f:=fun i=>⟨_,yf (show i.1<formL.length from i.2)⟩
structure HdI(l:List UInt8)(i:Nat):Prop where
 at':(zbz l i).1=atN i
 len:(zbz l i).2.length=6
 low:∀x∈(zbz l i).2,0<=x/\x<10^(i-atN i)
 ok:((formL.zip l).take i).all (fun p=>zeg p.1 p.2)=true
theorem HdI.start(l:List UInt8):HdI l 0:=⟨rfl,rfl,fun x hx=>by
 have:x∈[0,0,0,0,0,(0:Int)]:=hx;simp at this;subst this;exact⟨by decide,by decide⟩,rfl⟩
theorem HdI.step{l:List UInt8}{i:Nat}{f c:UInt8}(h:HdI l i)(hi:i<19)(hf:formL[i]? =some f)(hc:l[i]? =some c)(hp:zeg f c=true):HdI l (i+1):=by
 have hs:=zg0 hf hc;have ha:=zjO hf;obtain⟨a1,a2,a3⟩:=zjN ⟨i,hi⟩;dsimp only at a1 a2 a3
 have hok:((formL.zip l).take (i+1)).all (fun p=>zeg p.1 p.2)=true:=by
  have hz:(formL.zip l)[i]? =some (f,c):=by rw[yaC];exact⟨hf,hc⟩
  rw[yD,hz,ybc,List.all_append,h.ok];simp[hp]
 by_cases h48:f=48
 ·subst h48;rw[if_pos rfl]at ha;unfold zfm at hs;rw[if_pos rfl]at hs;have hd:zw c=true:=hp;unfold zw at hd;simp only[yO,decide_eq_true_eq]at hd;refine⟨by rw[hs,ha,Nat.add_zero];exact h.at',by rw[hs];simp[h.len],fun x hx=> ?_,hok⟩
  rw[hs]at hx;dsimp only at hx;have hpow:(10:Int)^(i+1-atN (i+1))=10^(i-atN i)*10:=by rw[ha,show i+1-(atN i+0)=(i-atN i)+1 by omega,Int.pow_succ]
  rw[hpow]
  rcases List.mem_or_eq_of_mem_set hx with hm|rfl
  ·have:=h.low x hm;omega
  ·have hgm:(zbz l i).2.getD (zbz l i).1 0∈(zbz l i).2:=by
    rw[yJ,yf (by rw[h.at',h.len];omega)]
    exact ya8 _
   have:=h.low _ hgm;unfold zcO;omega
 ·rw[if_neg h48]at ha;unfold zfm at hs;rw[if_neg h48]at hs;refine⟨by rw[hs,ha,<-h.at'],by rw[hs];exact h.len,fun x hx=> ?_,hok⟩
  rw[hs]at hx;have:=h.low x hx;rw[ha,show i+1-(atN i+1)=i-atN i by omega]
  exact this
theorem HdI.bound{l:List UInt8}{i:Nat}(h:HdI l i)(hi:i<19):0<=(zbz l i).2.getD (atN i) 0/\(zbz l i).2.getD (atN i) 0<10000000000000:=by
 obtain⟨a1,a2,a3⟩:=zjN ⟨i,hi⟩;dsimp only at a1 a2 a3
 have hgm:(zbz l i).2.getD (atN i) 0∈(zbz l i).2:=by
  rw[yJ,yf (by rw[h.len];omega)]
  exact ya8 _
 have:=h.low _ hgm
 have h13:(10:Int)^(i-atN i)<=10^13:=by
  have:∀k:Nat,k<=13->(10:Int)^k<=10^13:=by
   intro k hk;have h1:(10:Nat)^k<=10^13:=Nat.pow_le_pow_right (by decide) hk
   have h2:((10^k:Nat):Int)<=((10^13:Nat):Int):=by omega
   simpa using h2
  exact this _ a2
 have h14:(10:Int)^13=10000000000000:=by decide
 omega
theorem zme{l:List UInt8}(h:19<=l.length):(zbz l 19).2=[zo l 0 4,zo l 5 2,zo l 8 2,zo l 11 2,zo l 14 2,zo l 17 2]:=by
 obtain⟨c0,c1,c2,c3,c4,c5,c6,c7,c8,c9,c10,c11,c12,c13,c14,c15,c16,c17,c18,t,rfl⟩:=zkg h
 rfl
theorem HdI.fin{l:List UInt8}(h:HdI l 19)(hl:19<=l.length):zci l=true:=by
 unfold zci;rw[decide_eq_true hl,ya9];have h1:=h.ok;rw[List.take_of_length_le (by rw[List.length_zip];show min 19 _<=19;omega)]at h1
 exact h1
theorem hd_no{l:List UInt8}{i:Nat}{f c:UInt8}(hf:formL[i]? =some f)(hc:l[i]? =some c)(hp:zeg f c=false):zci l=false:=by
 unfold zci;rw[Bool.and_eq_false_iff]
 right
 have hz:(formL.zip l)[i]? =some (f,c):=by rw[yaC];exact⟨hf,hc⟩
 rw[List.all_eq_false];exact⟨(f,c),ym hz,by rw[hp];decide⟩
theorem zo5{l:List UInt8}(h:l.length<19):zci l=false:=by
 unfold zci;rw[decide_eq_false (by omega)]
 rfl
end
section
open Go Go.RowKit Go.OpenShut
theorem zkn{a b:Int}(h:a=b):Ending.returned (.int .i64 a)= .returned (.int .i64 b):=by rw[h]
theorem zpn(y:Int)(w:World)(h0:0<=y)(h1:y<=9999):Calls ye 254 #[.int .i64 y] w fun e w'=>e= .returned (.bool (zfO y))/\w=w':=by
 obtain⟨a,ha⟩:∃a,(y % 4==0)=a:=⟨_,rfl⟩;obtain⟨b,hb⟩:∃a,(y % 100==0)=a:=⟨_,rfl⟩;obtain⟨c,hc⟩:∃a,(y % 400==0)=a:=⟨_,rfl⟩;have hb2:(y % 100 !=0)= !b:=by unfold bne;rw[hb]
 have HR:Hid (zfO y=((a&& !b)||c)):=by
  unfold Hid zfO;rw[<-ha,<-hb,<-hc];have h:∀n:Int,(n==0)=decide (n=0):=fun n=>by by_cases h:n=0<;>simp[h]
  rw[h,h,h];simp
 rw[HR.out];cases a<;>cases b<;>cases c
 all_goals
  simp only[Bool.not_false,Bool.not_true]at hb2
  go_enter Tryz.func254,Tryz.ntmps254
  go_wp2_with fail
  go_ret;exact⟨rfl,rfl⟩
theorem znT(y m:Int)(w:World)(h0:0<=y)(h1:y<=9999)(m0:1<=m)(m1:m<=12):Calls ye 230 #[.int .i64 y,.int .i64 m] w fun e w'=>e= .returned (.int .i64 (zcb y m))/\w=w':=by
 have HL:Hid (∀W,Calls ye 254 #[.int .i64 y] W fun e w'=>e= .returned (.bool (zfO y))/\W=w'):=fun W=>zpn y W h0 h1
 have HM:Hid (zcb y m=if m=4\/m=6\/m=9\/m=11 then 30 else if m=2 then(if zfO y then 29 else 28)else 31):=rfl
 obtain⟨b,hb⟩:∃b,zfO y=b:=⟨_,rfl⟩;rw[hb]at HL HM;obtain⟨R,hR⟩:∃R,zcb y m=R:=⟨_,rfl⟩;rw[hR]at HM;rw[hR];clear hR hb
 rcases(show m=1\/m=2\/m=3\/m=4\/m=5\/m=6\/m=7\/m=8\/m=9\/m=10\/m=11\/m=12 by omega)with rfl|rfl|rfl|rfl|rfl|rfl|rfl|rfl|rfl|rfl|rfl|rfl
 all_goals
  cases b
  all_goals
   go_enter Tryz.func230,Tryz.ntmps230
   go_wp2_with (first|(go_at_call 254;refine(HL.out _).mono ?_;rintro e w1 ⟨rfl,rfl⟩)|fail)
   go_ret;exact⟨zkn (by rw[HM.out];decide),rfl⟩
theorem zhz(y:Int)(w:World)(h0:0<=y)(h1:y<=9999):Calls ye 231 #[.int .i64 y] w fun e w'=>e= .returned (.int .i64 (zbW y))/\w=w':=by
 by_cases h:y=0
 ·subst h
  go_enter Tryz.func231,Tryz.ntmps231
  go_wp2_with fail
  go_ret;exact⟨rfl,rfl⟩
 ·have hn:(y==0)=false:=by simpa using h
  have hy1:0<=y-1:=by omega
  have HA:Hid (zbW y=365*y+(y-1)/4-(y-1)/100+(y-1)/400+1):=by unfold Hid zbW;rw[if_neg h]
  obtain⟨R,hR⟩:∃R,zbW y=R:=⟨_,rfl⟩;rw[hR]at HA;rw[hR];clear hR h
  go_enter Tryz.func231,Tryz.ntmps231
  go_wp2_with fail
  go_ret;refine⟨zkn ?_,rfl⟩;rw[HA.out]
  try unfold wrap64
  try omega
def znm(o:Option Int):Value:=match o with|some n=> .tuple #[.int .i64 n,.bool true]|none=> .tuple #[.int .i64 0,.bool false]
theorem zoV(y m d:Int)(w:World)(h0:0<=y)(h1:y<=9999)(m0:0<=m)(m1:m<=99)(d0:0<=d)(d1:d<=99):Calls ye 203 #[.int .i64 y,.int .i64 m,.int .i64 d] w fun e w'=>e= .returned (znm (zef y m d))/\w=w':=by
 have q1:decide (y<0)=false:=decide_eq_false (by omega)
 have q2:decide ((9999:Int)<y)=false:=decide_eq_false (by omega)
 obtain⟨a,ha⟩:∃a,decide (m<1)=a:=⟨_,rfl⟩;obtain⟨b,hb⟩:∃a,decide ((12:Int)<m)=a:=⟨_,rfl⟩;obtain⟨c,hc⟩:∃a,decide (d<1)=a:=⟨_,rfl⟩;have HDF:Hid (zef y m d=if 0<=y/\y<=9999/\1<=m/\m<=12/\1<=d/\d<=zcb y m then some (zbW y-zbW 1970+zbR y (m.toNat-1)+d-1)else none):=rfl
 have HABC:Hid (decide (m<1)=a/\decide ((12:Int)<m)=b/\decide (d<1)=c):=⟨ha,hb,hc⟩;obtain⟨R,hR⟩:∃R,zef y m d=R:=⟨_,rfl⟩;rw[hR]at HDF;rw[hR];clear hR;cases habc:(a||(b||c))with
 | true =>
   have HN:Hid (R=none):=by
    unfold Hid;rw[HDF.out,if_neg];rintro⟨_,_,g1,g2,g3,_⟩;obtain⟨x1,x2,x3⟩:=HABC.out;rw[decide_eq_false (by omega)]at x1 x2 x3
    rw[<-x1,<-x2,<-x3]at habc;cases habc
   rw[HN.out];cases a<;>cases b<;>cases c<;>simp only[Bool.or_true,Bool.or_false,Bool.or_self,reduceCtorEq]at habc
   all_goals
    go_enter Tryz.func203,Tryz.ntmps203
    go_wp2_with fail
    refine bodyPost_ret (v:= .tuple #[.int .i64 0,.bool false]) (by simp[results,Tryz.results203,go_sem]) rfl ⟨rfl,rfl⟩
 | false =>
   obtain rfl:a=false:=by cases a<;>simp_all
   obtain rfl:b=false:=by cases b<;>simp_all
   obtain rfl:c=false:=by cases c<;>simp_all
   have m0':=of_decide_eq_false ha;have m1':=of_decide_eq_false hb;have d0':=of_decide_eq_false hc;clear habc;have HMO:Hid (∀(k:Int) W,1<=k->k<=12->Calls ye 230 #[.int .i64 y,.int .i64 k] W fun e w'=>e= .returned (.int .i64 (zcb y k))/\W=w'):=fun k W g1 g2=>znT y k W h0 h1 g1 g2
   have HAH:Hid (∀W,Calls ye 231 #[.int .i64 y] W fun e w'=>e= .returned (.int .i64 (zbW y))/\W=w'):=fun W=>zhz y W h0 h1
   have HA7:Hid (∀W,Calls ye 231 #[.int .i64 1970] W fun e w'=>e= .returned (.int .i64 (zbW 1970))/\W=w'):=fun W=>zhz 1970 W (by decide) (by decide)
   have HMB:=yc (zgr y);have HAB:=yc (zgh h0 (show y<=10000 by omega))
   have e7:zbW 1970=719528:=by decide
   rw[e7]at HA7 HDF;have HM:=yc (HMO.out m);obtain⟨M,hM⟩:∃M,zcb y m=M:=⟨_,rfl⟩;rw[hM]at HM HDF;obtain⟨e,he⟩:∃a,decide (M<d)=a:=⟨_,rfl⟩;have hmb:=HMB.out m;rw[hM]at hmb;cases e with
   | true =>
     have hed:=of_decide_eq_true he
     have HN:Hid (R=none):=by
      unfold Hid;rw[HDF.out,if_neg (by omega)]
     rw[HN.out]
     go_enter Tryz.func203,Tryz.ntmps203
     go_wp2_with (first|(go_at_call 230;refine(HM.out _ (by omega) (by omega)).mono ?_;rintro e w1 ⟨rfl,rfl⟩)|fail)
     refine bodyPost_ret (v:= .tuple #[.int .i64 0,.bool false]) (by simp[results,Tryz.results203,go_sem]) rfl ⟨rfl,rfl⟩
   | false =>
     have hed:=of_decide_eq_false he;obtain⟨A,hA⟩:∃A,zbW y=A:=⟨_,rfl⟩;rw[hA]at HAH HAB HDF
     have HN:Hid (R=some (A-719528+zbR y (m.toNat-1)+d-1)):=by
      unfold Hid;rw[HDF.out,if_pos (by omega)]
     have hab:=HAB.out
     go_enter Tryz.func203,Tryz.ntmps203
     go_upto_region 3 with(first|(go_at_call 230;refine(HM.out _ (by omega) (by omega)).mono ?_;rintro e w1 ⟨rfl,rfl⟩)|fail)
     go_wp2_with (first|(go_at_call 231;(with_reducible refine(HAH.out _).mono ?_);rintro e w1 ⟨rfl,rfl⟩)|(go_at_call 231;(with_reducible refine(HA7.out _).mono ?_);rintro e w1 ⟨rfl,rfl⟩)|fail)
     go_loop [8,9] (fun n k=>∃j:Nat,(j:Int)+1<=m/\k= .int .i64 ((j+1:Nat):Int)/\n= .int .i64 (A-719528+zbR y j)) (fun _ k=>m.toNat-(intOf k).toNat)
     case atStart=>exact⟨0,by omega,rfl,by simp[zbR]⟩
     case round=>
      obtain⟨j,hj,rfl,rfl⟩:=hrel;have hms:=zeq y j;have HSU:Hid (zbR y (j+1)=zbR y j+zcb y ((j+1:Nat):Int)):=rfl;obtain⟨S,hS⟩:∃S,zbR y j=S:=⟨_,rfl⟩;rw[hS]at hms HSU;rw[hS];have HSE:=yc hS;clear hS;have hj0:(0:Int)<=(j:Int):=yj _;by_cases hlt:(j:Int)+1<m
      ·have HMJ:=yc (HMO.out ((j+1:Nat):Int));have hmb2:=HMB.out ((j+1:Nat):Int);obtain⟨T,hT⟩:∃T,zcb y ((j+1:Nat):Int)=T:=⟨_,rfl⟩;rw[hT]at HMJ HSU hmb2;have hlt2:decide (((j+1:Nat):Int)<m)=true:=decide_eq_true (by omega)
       clear hT
       go_wp2_with (first|(go_at_call 230;refine(HMJ.out _ (by omega) (by omega)).mono ?_;rintro e w1 ⟨rfl,rfl⟩)|fail)
       go_round
       case rel=>exact⟨j+1,by omega,by go_num,by rw[HSU.out];exact congrArg (Value.int IntKind.i64) (by omega)⟩
       case measure=>simp[intOf];omega
      ·have hlt2:decide (((j+1:Nat):Int)<m)=false:=decide_eq_false (by omega)
       have HJ:Hid (m.toNat-1=j):=by unfold Hid;omega
       rw[HJ.out,HSE.out]at HN
       go_wp2_with fail
       rw[HN.out];refine bodyPost_ret (v:= .tuple #[.int .i64 (A-719528+S+d-1),.bool true]) (by simp[results,Tryz.results203,go_sem]) rfl ⟨rfl,rfl⟩
end
end Go.Proofs.YtemofofnkchmeaaGreatDoor
