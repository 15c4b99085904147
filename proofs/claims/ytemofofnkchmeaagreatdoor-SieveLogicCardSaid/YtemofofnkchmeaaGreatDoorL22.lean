import Derived.Test.YtemofofnkchmeaaGreatDoorL21
import Derived.Test.YtemofofnkchmeaaGreatDoorL01
import Derived.Test.YtemofofnkchmeaaGreatDoorL11
import Derived.Test.YtemofofnkchmeaaGreatDoorL06
import Derived.Deep.Cut
import Derived.Deep.CutRange
import Derived.Test.YtemofofnkchmeaaGreatDoorL00
import Derived.Test.YtemofofnkchmeaaGreatDoorL10
import Derived.Test.YtemofofnkchmeaaGreatDoorL12
import Derived.Sort.Walk0
import Derived.Test.YtemofofnkchmeaaGreatDoorL15
import Derived.Test.YtemofofnkchmeaaGreatDoorL07
set_option linter.unusedSimpArgs false
set_option linter.unusedVariables false
set_option maxRecDepth 200000
set_option maxHeartbeats 8000000
namespace Go.Proofs.YtemofofnkchmeaaGreatDoor
open _root_.Array renaming getElem?_eq_some_iff->yl
open _root_.Go.RowKit.Below renaming heap_alloc->yaM,refl->yh
open _root_.Go.Lib renaming hid->yc
open _root_.List renaming getElem?_eq_getElem->yf,getElem?_eq_some_iff->yi,getElem?_map->yG,mem_append->yT,mem_map->y8,mem_of_getElem?->ym,pairwise_iff_getElem->yaD,pairwise_map->yaH
open _root_.Nat renaming le_refl->yd,le_trans->yg,lt_of_lt_of_le->yL,lt_or_ge->ybA,sub_self->ybi,zero_le->yu
open _root_.Go.Proofs.Tryz renaming prog->ye
section
open Go.RowKit Go.Shelf
def zbL(e:En)(p:Pa):Pa:=if p.id=e.id then{p with was:=e.what !=1}else p
def ziG(e:En):Pa:=⟨e.id,e.what !=1,e.what !=3,e.seq⟩
def zeA(sq:Int)(acc:List Pa)(e:En):List Pa:=
 if e.seq<=sq then acc
 else if acc.any (fun p=>decide (p.id=e.id))then acc.map (zbL e)
 else acc++[ziG e]
def PaAt(W:World)(b:Nat)(p:Pa):Prop:=W.heap[b]? =some (.cells #[.string p.id,.bool p.was,.bool p.isb,.int .i64 p.last] 87 (0,0))
def EnAt(W:World)(b:Nat)(e:En):Prop:=W.heap[b]? =some (.cells #[.int .i64 e.seq,.string e.id,.int .i64 e.what] 144 (0,0))
theorem zdO{W:World}{i j:Nat}{o o':Obj}(h:W.heap[i]? =some o)(h':W.heap[j]? =some o')(hne:o≠o'):some i≠some j:=by
 intro e;simp only[Option.some.injEq]at e;subst e;rw[h]at h';exact hne (by simpa using h')
theorem PaAt.lt{W:World}{b:Nat}{p:Pa}(h:PaAt W b p):b<W.heap.size:=(yl.1 h).1
theorem PaAt.cell{W:World}{b:Nat}{p:Pa}(h:PaAt W b p)(j:Nat){u:Value}(hu:(zcB p)[j]? =some u):W.cell? ⟨b,j,none⟩=some u:=by
 unfold PaAt at h;rw[<-hu];simp[World.cell?,h,zcB]
theorem EnAt.cell{W:World}{b:Nat}{e:En}(h:EnAt W b e)(j:Nat){u:Value}(hu:(zbh e)[j]? =some u):W.cell? ⟨b,j,none⟩=some u:=by
 unfold EnAt at h;rw[<-hu];simp[World.cell?,h,zbh]
theorem PaAt.frozen{W:World}{b:Nat}{p:Pa}(h:PaAt W b p)(j:Nat):W.frozen? ⟨b,j,none⟩=false:=by
 unfold PaAt at h;simp[World.frozen?,h]
theorem PaAt.kept{W W':World}{row:Option Nat}{b:Nat}{p:Pa}(h:PaAt W b p)(hg:W.grownBy W' row)(hne:some b≠row):PaAt W' b p:=(hg.block b h.lt hne).trans h
theorem PaAt.set{W:World}{b:Nat}{p:Pa}(h:PaAt W b p)(x:Bool):PaAt (W.setCell ⟨b,1,none⟩ (.bool x)) b {p with was:=x}:=by
 obtain⟨hlt,hk⟩:=yl.1 h
 show(W.heap.modify b _)[b]? =_
 rw[Array.getElem?_eq_getElem (by rw[Array.size_modify];exact hlt),Array.getElem_modify_self,hk]
 rfl
theorem zdy(W:World)(b o:Nat)(v:Value):W.grownBy (W.setCell ⟨b,o,none⟩ v) (some b):=
 ⟨rfl,rfl,rfl,(KeepsWalks.setCell W _ v).size,fun k _ hk=>Below.heap_setCell _ _ _ k (fun e=>hk (by rw[e]))⟩
def zmo(mb k:Nat):Obj->Prop
 | .cells _ t _=>t≠87/\t≠139/\t≠145
 |_=>k≠mb
structure Trn(base mb:Nat)(W W':World):Prop where
 below:Below base W W'
 keep:∀k o,W.heap[k]? =some o->zmo mb k o->W'.heap[k]? =some o
theorem Trn.refl(base mb:Nat)(W:World):Trn base mb W W:=⟨yh _ _,fun _ _ h _=>h⟩
theorem Trn.trans{base mb:Nat}{A B C:World}(h:Trn base mb A B)(k:Trn base mb B C):Trn base mb A C:=⟨h.below.trans k.below,fun i o h1 h2=>k.keep i o (h.keep i o h1 h2) h2⟩
theorem Trn.alloc{base mb:Nat}{W:World}(hb:base<=W.heap.size)(o:Obj):Trn base mb W (W.alloc o):=
 ⟨(yh _ W).alloc hb o,fun k o' h1 _=>(yaM W o k (yl.1 h1).1).trans h1⟩
theorem Trn.grown{base mb:Nat}{W W':World}{row:Option Nat}(hb:base<=W.heap.size)(hg:W.grownBy W' row)(hr:∀r,row=some r->base<=r/\∀o,W.heap[r]? =some o->¬zmo mb r o):Trn base mb W W':=
 ⟨(yh _ W).grown hg hb (fun k e=>(hr k e).1),fun k o h1 h2=>(hg.block k (yl.1 h1).1 (fun e=>(hr k e.symm).2 o h1 h2)).trans h1⟩
theorem Trn.from{base mb B:Nat}{W W':World}(h:Trn base mb W W')(hm:mb<B):KeepsFrom B W W':=
 ⟨h.below.size,fun k o hB h1 h2=>h.keep k o h1 (by cases o<;>simp_all [Obj.isCells,zmo]<;>omega)⟩
theorem Trn.boxed{base mb:Nat}{W W':World}(h:Trn base mb W W'){B:Nat}{t:TypeId}{v:Value}(hb:Boxed W B t v)(ht:t≠87/\t≠139/\t≠145):Boxed W' B t v:=h.keep _ _ hb ht
theorem Trn.en{base mb:Nat}{W W':World}(h:Trn base mb W W'){B:Nat}{e:En}(hb:EnAt W B e):EnAt W' B e:=h.keep _ _ hb ⟨by decide,by decide,by decide⟩
structure SQ(base mb n:Nat)(Q:List (Nat×Pa))(f:List UInt8->Option Value)(v:Value)(t6:Nat)(R:List Nat)(W:World):Prop where
 map:MapF W ye 9 mb n f
 fq:∀q∈Q,f q.2.id.data.toList=some (.pointer (some ⟨q.1,0,none⟩))
 fn:∀s u,f s=some u->∃q∈Q,q.2.id.data.toList=s
 inj:∀q∈Q,∀q'∈Q,(q.1=q'.1↔q.2.id=q'.2.id)
 pas:∀q∈Q,base<=q.1/\PaAt W q.1 q.2
 box:Boxed W t6 139 v
 own:Own W base 145 zfK 1 v R
 len:Q.length<=n
theorem MapF.obj{w:World}{P:Program}{k:TypeId}{b n:Nat}{f:List UInt8->Option Value}(h:MapF w P k b n f):∃es c,w.heap[b]? =some (.map es c):=by
 obtain⟨E,⟨es,clock,h1,h2⟩,he⟩:=h;exact⟨_,_,h1⟩
theorem Own.blk{α:Type}{enc:α->List Value}{sz:Nat}{w:World}{base:Nat}{e:TypeId}{v:Value}{xs:List α}(h:Own w base e enc sz v xs):∀r,v.ownBlock=some r->base<=r/\∃cur,w.heap[r]? =some (.cells cur e (0,0)):=by
 intro r hr
 rcases h.2 with⟨rfl,_⟩|⟨g,cap,cur,rfl,hb,hgb,_⟩
 ·simp[Value.ownBlock]at hr
 ·obtain rfl:g=r:=by simpa[Value.ownBlock]using hr
  exact⟨hb,cur,hgb⟩
section
variable {base mb n t6:Nat} {Q:List (Nat×Pa)} {f:List UInt8->Option Value} {v:Value} {R:List Nat} {W:World}
theorem SQ.kept{W':World}{row:Option Nat}(h:SQ base mb n Q f v t6 R W)(hg:W.grownBy W' row)(hr:∀r,row=some r->r≠mb/\∃o:Obj,W.heap[r]? =some o/\o.isCells=false):SQ base mb n Q f v t6 R W':=by
 refine⟨h.map.kept hg (fun e=>(hr _ e.symm).1 rfl),h.fq,h.fn,h.inj,fun q hq=>⟨(h.pas q hq).1,(h.pas q hq).2.kept hg (fun e=> ?_)⟩,h.box.kept hg (fun e=> ?_),h.own.kept hg ?_,h.len⟩
 ·obtain⟨_,o,ho,hc⟩:=hr _ e.symm;rw[show W.heap[q.1]? =_ from(h.pas q hq).2]at ho;cases ho;cases hc
 ·obtain⟨_,o,ho,hc⟩:=hr _ e.symm;rw[show W.heap[t6]? =_ from h.box]at ho;cases ho;cases hc
 ·cases hv:v.ownBlock with
  |none=>exact .inl rfl
  | some r =>
    refine .inr fun e=> ?_
    obtain⟨_,cur,hc⟩:=h.own.blk r hv;obtain⟨_,o,ho,hoc⟩:=hr _ e.symm;rw[hc]at ho;cases ho;cases hoc
theorem SQ.known(h:SQ base mb n Q f v t6 R W)(hb:base<=W.heap.size){q:Nat×Pa}(hq:q∈Q)(e:En)(he:q.2.id=e.id):
 SQ base mb n (Q.map fun q=>(q.1,zbL e q.2)) f v t6 R (W.setCell ⟨q.1,1,none⟩ (.bool (e.what !=1)))/\Trn base mb W (W.setCell ⟨q.1,1,none⟩ (.bool (e.what !=1))):=by
 have hg:=zdy W q.1 1 (.bool (e.what !=1));have hid:∀p:Pa,(zbL e p).id=p.id:=fun p=>by unfold zbL;split<;>rfl
 have hQ:=(h.pas q hq).2;refine⟨⟨h.map.kept hg (fun e'=> ?_),?_,?_,?_,?_,h.box.kept hg (fun e'=> ?_),h.own.kept hg ?_,by simpa using h.len⟩,Trn.grown hb hg (fun r er=> ?_)⟩
 ·obtain⟨es,c,hm⟩:=h.map.obj;exact zdO hm hQ (by simp) e'
 ·intro q' hq';obtain⟨q1,h1,rfl⟩:=y8.1 hq'
  show f (zbL e q1.2).id.data.toList=_
  rw[hid];exact h.fq q1 h1
 ·intro s u hs;obtain⟨q1,h1,h2⟩:=h.fn s u hs;exact⟨_,y8.2 ⟨q1,h1,rfl⟩,by show(zbL e q1.2).id.data.toList=_;rw[hid];exact h2⟩
 ·intro q1 h1 q2 h2;obtain⟨q1,h1',rfl⟩:=y8.1 h1;obtain⟨q2,h2',rfl⟩:=y8.1 h2
  show q1.1=q2.1↔(zbL e q1.2).id=(zbL e q2.2).id
  rw[hid,hid];exact h.inj q1 h1' q2 h2'
 ·intro q1 h1;obtain⟨q1,h1',rfl⟩:=y8.1 h1;clear h1;have h1:=h1';refine⟨(h.pas q1 h1).1,?_⟩
  show PaAt _ q1.1 (zbL e q1.2)
  by_cases hi:q1.2.id=e.id
  ·have e1:q1.1=q.1:=(h.inj q1 h1 q hq).2 (hi.trans he.symm);unfold zbL;rw[if_pos hi,<-e1];exact(h.pas q1 h1).2.set _
  ·have e1:q1.1≠q.1:=fun e2=>hi (((h.inj q1 h1 q hq).1 e2).trans he)
   unfold zbL;rw[if_neg hi];exact(h.pas q1 h1).2.kept hg (fun e2=>e1 (by simpa using e2))
 ·exact zdO h.box hQ (by simp) e'
 ·cases hv:v.ownBlock with
  |none=>exact .inl rfl
  | some r =>
    refine .inr fun e'=> ?_
    obtain⟨_,cur,hc⟩:=h.own.blk r hv;exact zdO hc hQ (by simp) e'
 ·cases er;refine⟨(h.pas q hq).1,fun o ho hk=> ?_⟩
  rw[show W.heap[q.1]? =_ from hQ]at ho;cases ho
  exact hk.1 rfl
theorem SQ.fresh(h:SQ base mb n Q f v t6 R W)(hb:base<=W.heap.size)(hm:base<=mb)(p:Pa)(hf:f p.id.data.toList=none){W2:World}
 (hg:(W.alloc (.cells #[.string p.id,.bool p.was,.bool p.isb,.int .i64 p.last] 87)).grownBy W2 (some mb)) (hM:MapF W2 ye 9 mb (n+1) (fun u=>if u=p.id.data.toList then some (.pointer (some ⟨W.heap.size,0,none⟩))else f u)):
 SQ base mb (n+1) (Q++[(W.heap.size,p)]) (fun u=>if u=p.id.data.toList then some (.pointer (some ⟨W.heap.size,0,none⟩))else f u) v t6 R W2/\Trn base mb W W2:=by
 have hnew:PaAt (W.alloc (.cells #[.string p.id,.bool p.was,.bool p.isb,.int .i64 p.last] 87)) W.heap.size p:=World.alloc_heap_new W _;obtain⟨W1,hW1⟩:∃W1,W.alloc (.cells #[.string p.id,.bool p.was,.bool p.isb,.int .i64 p.last] 87)=W1:=⟨_,rfl⟩;have hga:W.grownBy W1 none:=by rw[<-hW1];exact World.grownBy_alloc W _ none
 have hta:Trn base mb W W1:=by rw[<-hW1];exact Trn.alloc hb _
 rw[hW1]at hg hnew;obtain⟨es,c,hmo⟩:=(h.map.kept hga (by simp)).obj
 have hno:∀q∈Q,q.2.id≠p.id:=fun q hq e=>by
  have:=h.fq q hq;rw[e,hf]at this;cases this
 have hlt:∀q∈Q,q.1<W.heap.size:=fun q hq=>(h.pas q hq).2.lt
 have hnm:∀b p',PaAt W1 b p'->some b≠some mb:=fun b p' hp=>zdO hp hmo (by simp)
 refine⟨⟨hM,?_,?_,?_,?_,(h.box.kept hga (by simp)).kept hg (fun e=> ?_),(h.own.kept hga ?_).kept hg ?_,by simp;exact h.len⟩,hta.trans (Trn.grown (yg hb hta.below.size) hg (fun r er=> ?_))⟩
 ·intro q hq
  rcases yT.1 hq with h1|h1
  ·show(if _ then _ else _)=_
   rw[if_neg (fun e=>hno q h1 ((zfE _ _).1 e))]
   exact h.fq q h1
  ·obtain rfl:q=(W.heap.size,p):=by simpa using h1
   simp
 ·intro s u hs
  split at hs
  ·rename_i e;exact⟨_,List.mem_append_right _ (List.mem_singleton.2 rfl),e.symm⟩
  ·obtain⟨q,h1,h2⟩:=h.fn s u hs;exact⟨q,List.mem_append_left _ h1,h2⟩
 ·intro q1 h1 q2 h2
  rcases yT.1 h1 with h1|h1<;>rcases yT.1 h2 with h2|h2
  ·exact h.inj q1 h1 q2 h2
  ·obtain rfl:q2=(W.heap.size,p):=by simpa using h2
   have:=hlt q1 h1;exact⟨fun e=>by dsimp only at e;omega,fun e=>absurd e (hno q1 h1)⟩
  ·obtain rfl:q1=(W.heap.size,p):=by simpa using h1
   have:=hlt q2 h2;exact⟨fun e=>by dsimp only at e;omega,fun e=>absurd e.symm (hno q2 h2)⟩
  ·obtain rfl:q1=(W.heap.size,p):=by simpa using h1
   obtain rfl:q2=(W.heap.size,p):=by simpa using h2
   simp
 ·intro q hq
  rcases yT.1 hq with h1|h1
  ·have hk:=(h.pas q h1).2.kept hga (by simp)
   exact⟨(h.pas q h1).1,hk.kept hg (hnm _ _ hk)⟩
  ·obtain rfl:q=(W.heap.size,p):=by simpa using h1
   exact⟨hb,hnew.kept hg (hnm _ _ hnew)⟩
 ·exact zdO (h.box.kept hga (by simp)) hmo (by simp) e
 ·cases v.ownBlock<;>simp
 ·cases hv:v.ownBlock with
  |none=>exact .inl rfl
  | some r =>
    refine .inr fun e'=> ?_
    obtain⟨_,cur,hc⟩:=(h.own.kept hga (by cases v.ownBlock<;>simp)).blk r hv
    exact zdO hc hmo (by simp) e'
 ·cases er;refine⟨hm,fun o ho hk=> ?_⟩
  rw[hmo]at ho;cases ho;exact hk rfl
theorem SQ.append(h:SQ base mb n Q f v t6 R W)(hb:base<=W.heap.size)(ht:base<=t6)(tmp:Obj){W4:World}{v':Value}{R':List Nat}(hg:(W.alloc tmp).grownBy W4 v.ownBlock)(ho:Own W4 base 145 zfK 1 v' R'):
 Boxed W4 t6 139 v/\SQ base mb n Q f v' t6 R' (W4.setCell ⟨t6,0,none⟩ v')/\Trn base mb W (W4.setCell ⟨t6,0,none⟩ v'):=by
 obtain⟨W1,hW1⟩:∃W1,W.alloc tmp=W1:=⟨_,rfl⟩;have hga:W.grownBy W1 none:=by rw[<-hW1];exact World.grownBy_alloc W _ none
 have hta:Trn base mb W W1:=by rw[<-hW1];exact Trn.alloc hb _
 rw[hW1]at hg;have hO:=h.own.kept hga (by cases v.ownBlock<;>simp)
 have hrow:∀b o,W1.heap[b]? =some o->(∀cur,o≠ .cells cur 145 (0,0))->some b≠v.ownBlock:=fun b o hbo hne e=>by
  obtain⟨_,cur,hc⟩:=hO.blk b e.symm;rw[hbo]at hc;cases hc;exact hne cur rfl
 have hbox1:Boxed W1 t6 139 v:=h.box.kept hga (by simp)
 have hbox4:Boxed W4 t6 139 v:=hbox1.kept hg (hrow _ _ hbox1 (by simp))
 have hg5:=zdy W4 t6 0 v'
 have hmp:MapF W4 ye 9 mb n f:=(h.map.kept hga (by simp)).kept hg (by
  obtain⟨es,c,hmo⟩:=(h.map.kept hga (by simp)).obj
  exact hrow _ _ hmo (by simp))
 have hp4:∀q∈Q,PaAt W4 q.1 q.2:=fun q hq=>by
  have hk:=(h.pas q hq).2.kept hga (by simp)
  exact hk.kept hg (hrow _ _ hk (by simp))
 have hs1:Trn base mb W1 W4:=Trn.grown (yg hb hta.below.size) hg (fun r er=>by
  obtain⟨h1,cur,hc⟩:=hO.blk r er;refine⟨h1,fun o ho hk=> ?_⟩
  rw[hc]at ho;cases ho;exact hk.2.2 rfl)
 refine⟨hbox4,⟨hmp.kept hg5 (fun e=> ?_),h.fq,h.fn,h.inj,fun q hq=>⟨(h.pas q hq).1,(hp4 q hq).kept hg5 (fun e=> ?_)⟩,hbox4.set v',ho.kept hg5 ?_,h.len⟩,(hta.trans hs1).trans (Trn.grown (yg hb (hta.trans hs1).below.size) hg5 (fun r er=> ?_))⟩
 ·obtain⟨es,c,hm⟩:=hmp.obj;exact zdO hm hbox4 (by simp) e
 ·exact zdO (hp4 q hq) hbox4 (by simp) e
 ·cases hv:v'.ownBlock with
  |none=>exact .inl rfl
  | some r =>
    refine .inr fun e'=> ?_
    obtain⟨_,cur,hc⟩:=ho.blk r hv;exact zdO hc hbox4 (by simp) e'
 ·cases er;refine⟨ht,fun o ho hk=> ?_⟩
  rw[show W4.heap[t6]? =_ from hbox4]at ho;cases ho
  exact hk.2.1 rfl
end
section
variable {F:Fence} {nF:Nat} {P:Program} (w:World) {ops:Array Oper} {rest:List Oper} {o:Oper} {a:Act} {Q:Exit->Act->World->Prop}
theorem ze5(hg:o.guard=none)(m x:Operand)(t:TypeId)(hop:o.op=Op.lookup t m x false)(k e:TypeId)(hk:P.underlying k=some .string)(ht:P.underlying t=some (.map k e)){z:Value}(hz:(zeroValue e).run P w= .ok z w)
 (b n:Nat) (f:List UInt8->Option Value) (hm:a.eval m= .map (some b)) (hown:MapF w P k b n f) (s:ByteArray) (hx:a.eval x= .string s) (hs:s.size<=maxLen) {v:Value} (hv:(f s.data.toList).getD z=v)
 (hK:wpListIn F nF P ops Q rest (a.put o.dst v) w):wpListIn F nF P ops Q (o::rest) a w:=by
 refine wpListIn_plain hg fun K' hK'=> ?_
 have hrun:=hown.look hk ht hz hs;rw[hv]at hrun;unfold Oper.wpIn;refine⟨by simp[Oper.about,hop],?_⟩
 rw[Oper.semAt_plain F _ _ (by rw[hop];intro c hc';cases hc')]
 simp[execOp,hop,hm,hx,hrun,Result.andThen];exact hK' _ _ hK
theorem zeR(hg:o.guard=none)(m x v:Operand)(t:TypeId)(hop:o.op=Op.mapUpdate t m x v)(k e:TypeId)(hk:P.underlying k=some .string)(ht:P.underlying t=some (.map k e))
 (b n:Nat) (f:List UInt8->Option Value) (hm:a.eval m= .map (some b)) (hown:MapF w P k b n f) (hn:n<maxLen) (s:ByteArray) (hx:a.eval x= .string s) (hs:s.size<=maxLen) (val:Value) (hv:a.eval v=val)
 (hK:∀w',MapF w' P k b (n+1) (fun u=>if u=s.data.toList then some val else f u)->w.grownBy w' (some b)->wpListIn F nF P ops Q rest (a.put o.dst undef) w'):wpListIn F nF P ops Q (o::rest) a w:=by
 refine wpListIn_plain hg fun K' hK'=> ?_
 obtain⟨w',hrun,h1,h2⟩:=hown.store hk ht hn hs val;unfold Oper.wpIn;refine⟨by simp[Oper.about,hop],?_⟩
 rw[Oper.semAt_plain F _ _ (by rw[hop];intro c hc';cases hc')]
 simp[execOp,hop,hm,hx,hv,hrun,Result.andThen];exact hK' _ _ (hK w' h1 h2)
end
end
section
open Go.Shelf Go.RowKit Go.Lib Go.Sort
namespace SP
variable {P:Program} {α:Type} [Inhabited α]
def SymPre(cf:α->α->Int)(lt:α->α->Bool)(d:Array α)(a m b:Nat):Prop:=
 SortedIn lt a m d/\SortedIn lt m b d/\∀i j,a<=i->i<m->m<=j->j<b->ltOf cf d[j]! d[i]! =lt d[j]! d[i]!
theorem rot_triv(d:Array α)(s m e t:Nat)(h:s=m\/m=e)(hs:s<=m)(he:m<=e):d[t]! =z6 d s m e t:=by
 unfold z6
 rcases h with rfl|rfl
 ·by_cases h1:s<=t/\t<s+(e-s)
  ·rw[if_pos h1,ybi,Nat.add_zero]
  ·rw[if_neg h1,if_neg (by omega)]
 ·rw[if_neg (by omega),ybi]
  by_cases h1:s+0<=t/\t<m
  ·rw[if_pos h1,Nat.sub_zero]
  ·rw[if_neg h1]
theorem sym_main(k:Nat)(L:Lays P k)(enc:α->List Value)(cf:α->α->Int)(lt:α->α->Bool)(Sw:SWO lt)(g:Nat)(cb:Array Value)(blk off cap a m b:Nat)(d0 d:Array α)(w0 w:World)
 (eg:∀args w,(callFunc g args).run P w= .ok (.enter g args) w) (hcmp:CmpLays P g cb enc k cf blk off d0.size w0)
 (R:RowK enc k w0 blk off d0) (hs:d0.size=d.size) (S:SWK enc k w0 blk off d w) (ham:a+1<m) (hmb:m+1<b) (hb:b<=d.size) (hsz:d.size<4611686018427387904)
 (hpre:SymPre cf lt d a m b)
 (ih:∀(a' m' b':Nat) (d':Array α) (w':World),b'-a'<b-a->d0.size=d'.size->SWK enc k w0 blk off d' w'->a'<m'->m'<b'->b'<=d'.size->SymPre cf lt d' a' m' b'->
  Calls P 181 #[.slice (some ⟨blk,off,none⟩) d'.size cap,.int .i64 a',.int .i64 m',.int .i64 b',.func (.func g) #[] cb] w' (SymPost enc k w0 blk off lt d' a' b')):
 Calls P 181 #[.slice (some ⟨blk,off,none⟩) d.size cap,.int .i64 a,.int .i64 m,.int .i64 b,.func (.func g) #[] cb] w (SymPost enc k w0 blk off lt d a b):=by
 have mixed:=L.mixed;have aE:=L.aE;have zE:=L.zE;have t0:=L.t0;have a0:=L.a0;have z0:=L.z0;have v0:=L.v0;have t3:=L.t3;have a3:=L.a3;have z3:=L.z3;have v3:=L.v3;have t4:=L.t4;have a4:=L.a4;have z4:=L.z4;have v4:=L.v4;have tu:=L.tu;have au:=L.au;have zu:=L.zu;have vu:=L.vu;have tS:=L.tS;have aS:=L.aS;have zS:=L.zS;have vS:=L.vS;have tC:=L.tC;have aC:=L.aC;have zC:=L.zC;have vC:=L.vC;have FG:=L.fSym;have eRot:∀args w,(callFunc 211 args).run P w= .ok (.enter 211 args) w:=enters_of L.fRot (by kernel_rfl) rfl
 have eSym:∀args w,(callFunc 181 args).run P w= .ok (.enter 181 args) w:=enters_of L.fSym (by kernel_rfl) rfl
 have S0:Aside (SWK enc k w0 blk off d w):=S;have HC:Aside _:=hcmp;have HIH:Aside _:=ih;have HSW:=yc Sw;have HP:=yc hpre;clear S hcmp Sw hpre ih;have hone:((m:Int)-(a:Int)==1)=false:=by rw[beq_eq_false_iff_ne];omega
 have hone2:((b:Int)-(m:Int)==1)=false:=by rw[beq_eq_false_iff_ne];omega
 obtain⟨mid,hmid⟩:∃mid,(a+b)/2=mid:=⟨_,rfl⟩;have hmid1:a<mid/\mid<b:=by omega
 have emid:((a:Int)+(b:Int))/2=(mid:Int):=by omega
 have emid2:2*mid<=a+b/\a+b<=2*mid+1:=by omega
 have HMID:=yc hmid;clear hmid
 go_enter FG,Tryz.ntmps181
 go_upto_if 140 with(fail)
 go_cut [20,21]from 138 to 146 (fun s20 s21 wr=>∃s0 r0:Nat,s20= .int .i64 s0/\s21= .int .i64 r0/\a<=s0/\s0<=r0/\r0<=m/\r0<=mid/\mid+m<=b+s0/\(s0=a\/s0+b=mid+m)/\(r0=m\/r0=mid)/\Aside (SWK enc k w0 blk off d wr))
 case first=>
  by_cases hmm:mid<m
  ·have hmz:(mid:Int)<(m:Int):=by omega
   have eS:((mid+m-b:Nat):Int)=(mid:Int)+(m:Int)-(b:Int):=by omega
   have ES:=yc eS;clear eS
   go_wp2_with fail
   go_meet
   exact⟨mid+m-b,mid,by rw[ES.out],rfl,by omega,by omega,by omega,by omega,by omega,.inr (by omega),.inr rfl,S0⟩
  ·have hmz:¬(mid:Int)<(m:Int):=by omega
   go_wp2_with fail
   go_meet
   exact⟨a,m,rfl,rfl,yd _,by omega,by omega,by omega,by omega,.inl rfl,.inl rfl,S0⟩
 case rest=>
 obtain⟨s0,r0,rfl,rfl,q1,q2,q3,q4,q5,q6,q7,S1⟩:=hcut;clear S0
 go_wp2_with fail
 go_loopg [20,21] (r0-s0) (fun kx s20 s21 wr=>∃(st r:Nat),s20= .int .i64 st/\s21= .int .i64 r/\s0<=st/\st<=r/\r<=r0/\r-st<=kx/\Aside (SWK enc k w0 blk off d wr)/\Hid (s0<st->lt d[mid+m-st]! d[st-1]! =false)/\Hid (r<r0->lt d[mid+m-r-1]! d[r]! =true))
 case atStart=>exact⟨s0,r0,rfl,rfl,yd _,q2,yd _,by omega,S1,fun h=>by omega,fun h=>by omega⟩
 case round=>
  clear S1;obtain⟨st,r,rfl,rfl,hi1,hij,hjb,hkx,S1,HA,HB⟩:=hrel;by_cases hlt:st<r
  ·have hltz:(st:Int)<(r:Int):=by omega
   obtain⟨c,hc⟩:∃c,(st+r)/2=c:=⟨_,rfl⟩;have ecc:((st:Int)+(r:Int))/2=(c:Int):=by omega
   have hh:st<=c/\c<r:=by omega
   clear hc;have bc:(c:Int)<(d.size:Int):=by omega
   have pc:(0:Int)<=(c:Int):=by omega
   obtain⟨pp,hpp⟩:∃pp,mid+m-1-c=pp:=⟨_,rfl⟩;have ew:(mid:Int)+(m:Int)-1-(c:Int)=(pp:Int):=by omega
   have rp:IntKind.i64.wrap (pp:Int)=(pp:Int):=by rw[IntKind.wrap_i64];omega
   have bp:(pp:Int)<(d.size:Int):=by omega
   have pz:(0:Int)<=(pp:Int):=by omega
   have hpp2:m<=pp/\pp<b:=by omega
   have HPP:=yc hpp;clear hpp;obtain⟨xc,hxc⟩:∃x,d[c]! =x:=⟨_,rfl⟩;obtain⟨xp,hxp⟩:∃x,d[pp]! =x:=⟨_,rfl⟩;have hcr:ltOf cf xp xc=lt xp xc:=by rw[<-hxc,<-hxp];exact HP.out.2.2 c _ (by omega) (by omega) (by omega) (by omega)
   have lc:=S1.out.ld R hs.symm P c (by omega)
   have lp:=S1.out.ld R hs.symm P pp (by omega)
   rw[hxc]at lc;rw[hxp]at lp;have hcg:=S1.out.cmp HC.out hs.symm xp xc;have GR:Aside (∀n os,SWK enc k w0 blk off d (grow (wr.drewN n) os)):=fun n os=>S1.out.grown n os
   have HXC:=yc hxc;have HXP:=yc hxp;have HCR:=yc hcr;clear hxc hxp hcr S1;by_cases hlv:cf xp xc<0
   ·have HB':Hid (c<r0->lt d[mid+m-c-1]! d[c]! =true):=fun _=>by
     rw[show mid+m-c-1=pp by have:=HPP.out;omega,HXC.out,HXP.out,<-HCR.out];exact decide_eq_true hlv
    go_wp2_with fail
    go_quiet_grown (first|(go_at_fn g;refine Calls.grown_of (hcg _ _)))
    go_wp2_with fail
    go_roundg (c-st)
    case measure=>omega
    case rel=>exact⟨st,c,rfl,rfl,by omega,by omega,by omega,by omega,GR.out nq osq,HA,HB'⟩
   ·have HA':Hid (s0<c+1->lt d[mid+m-(c+1)]! d[c+1-1]! =false):=fun _=>by
     rw[show mid+m-(c+1)=pp by have:=HPP.out;omega,Nat.add_sub_cancel,HXC.out,HXP.out,<-HCR.out];exact decide_eq_false hlv
    have hlv2:decide (cf xp xc<0)=false:=decide_eq_false hlv;have hlv3:0<=cf xp xc:=by omega
    go_wp2_with fail
    go_quiet_grown (first|(go_at_fn g;refine Calls.grown_of (hcg _ _)))
    go_wp2_with fail
    go_roundg (r-(c+1))
    case measure=>omega
    case rel=>exact⟨c+1,r,by first|rfl|go_num,rfl,by omega,by omega,by omega,by omega,GR.out nq osq,HA',HB⟩
  ·obtain rfl:st=r:=by omega
   have hltz:¬(st:Int)<(st:Int):=by omega
   obtain⟨e,he⟩:∃e,mid+m-st=e:=⟨_,rfl⟩;have eE:(mid:Int)+(m:Int)-(st:Int)=(e:Int):=by omega
   have he1:st+e=mid+m:=by omega
   have he2:m<=e/\e<=b:=by omega
   rw[he]at HA HB;clear he
   go_upto_region 39 with(fail)
   go_cut [185]from 178 to 184 (fun s wr'=>s= .bool (decide (st<m/\m<e))/\Aside (SWK enc k w0 blk off d wr'))
   case first=>
    by_cases hr1:st<m
    ·have hz1:(st:Int)<(m:Int):=by omega
     by_cases hr2:m<e
     ·have hz2:(m:Int)<(e:Int):=by omega
      go_wp2_with fail
      go_meet
      exact⟨by simp[hr1,hr2],S1⟩
     ·have hz2:¬(m:Int)<(e:Int):=by omega
      go_wp2_with fail
      go_meet
      exact⟨by simp[hr2],S1⟩
    ·have hz1:¬(st:Int)<(m:Int):=by omega
     go_wp2_with fail
     go_meet
     exact⟨by simp[hr1],S1⟩
   case rest=>
   clear S1;obtain⟨rfl,S1⟩:=hcut;obtain⟨bR,hbR⟩:∃bR,decide (st<m/\m<e)=bR:=⟨_,rfl⟩;rw[hbR];have HBR:=yc hbR;clear hbR
   go_upto_if 185 with(fail)
   go_cut [24]from 178 to 191 (fun s24 wr'=>s24= .int .i64 e/\Aside (∃d1:Array α,SWK enc k w0 blk off d1 wr'/\PermIn a b d d1/\∀t,d1[t]! =z6 d st m e t))
   case first=>
    cases bR with
    | true =>
      have hr:st<m/\m<e:=of_decide_eq_true HBR.out;have hr1:=hr.1;have hr2:=hr.2;clear hr
      go_wp2_with fail
      refine(rotate_any k L enc g cb blk off cap st m e d0 d _ _ R hs S1.out hr1 hr2 (by omega) hsz).mono ?_
      rintro ee w1 ⟨rfl,d1,S2,hp,hr⟩;have HH:Aside (∃d1:Array α,SWK enc k w0 blk off d1 w1/\PermIn a b d d1/\∀t,d1[t]! =z6 d st m e t):=⟨d1,S2,permIn_mono _ _ _ _ _ _ (by omega) (by omega) hb hp,hr⟩
      clear S2 hp hr
      go_wp2_with fail
      go_meet
      exact⟨rfl,HH⟩
    | false =>
      have hr:¬(st<m/\m<e):=of_decide_eq_false HBR.out;have HH:=fun w' (h:SWK enc k w0 blk off d w')=>(show Aside (∃d1:Array α,SWK enc k w0 blk off d1 w'/\PermIn a b d d1/\∀t,d1[t]! =z6 d st m e t)from⟨d,h,permIn_refl _ _ _,fun t=>rot_triv d st m e t (by omega) (by omega) (by omega)⟩)
      clear hr
      go_wp2_with fail
      go_meet
      exact⟨rfl,HH _ S1.out⟩
   case rest=>
   obtain⟨rfl,HD⟩:=hcut;clear S1;obtain⟨d1,S1,hp1,hr1⟩:=HD.out;have hd1:d1.size=d.size:=hp1.1;have HPT:=yc (zor HP.out.1 HP.out.2.1 (by omega:a<=st) (by omega) he2.1 he2.2 he1 hr1)
   have HCX:=yc (zoq HSW.out HP.out.1 HP.out.2.1 (by omega:a<=st) (by omega) he2.1 he2.2 he1 hr1 HA.out HB.out (by omega) (by omega) hi1 hjb)
   have HPR:Hid (SymPre cf lt d1 a st mid/\SymPre cf lt d1 mid e b):=by
    obtain⟨z1,z2,z3,z4⟩:=HPT.out;have hX:=HP.out.2.2;refine⟨⟨z1,z2,fun i j y1 y2 y3 y4=> ?_⟩,⟨z3,z4,fun i j y1 y2 y3 y4=> ?_⟩⟩
    ·rw[hr1,hr1,z6,z6,if_pos (by omega),if_neg (by omega),if_neg (by omega)]
     exact hX _ _ (by omega) (by omega) (by omega) (by omega)
    ·rw[hr1,hr1,z6,z6,if_neg (by omega),if_neg (by omega),if_neg (by omega),if_pos (by omega)]
     exact hX _ _ (by omega) (by omega) (by omega) (by omega)
   have HP1:=yc hp1;have S1':Aside (SWK enc k w0 blk off d1 wc):=S1;clear hp1 hr1 S1 HD HBR HA HB
   go_upto_region 41 with(fail)
   go_cut [199]from 192 to 198 (fun s wr'=>s= .bool (decide (a<st/\st<mid))/\Aside (SWK enc k w0 blk off d1 wr'))
   case first=>
    by_cases hr1:a<st
    ·have hz1:(a:Int)<(st:Int):=by omega
     by_cases hr2:st<mid
     ·have hz2:(st:Int)<(mid:Int):=by omega
      go_wp2_with fail
      go_meet
      exact⟨by simp[hr1,hr2],S1'⟩
     ·have hz2:¬(st:Int)<(mid:Int):=by omega
      go_wp2_with fail
      go_meet
      exact⟨by simp[hr2],S1'⟩
    ·have hz1:¬(a:Int)<(st:Int):=by omega
     go_wp2_with fail
     go_meet
     exact⟨by simp[hr1],S1'⟩
   case rest=>
   clear S1';obtain⟨rfl,S1⟩:=hcut;obtain⟨bR,hbR⟩:∃bR,decide (a<st/\st<mid)=bR:=⟨_,rfl⟩;rw[hbR];have HBR:=yc hbR;clear hbR
   go_upto_if 199 with(fail)
   go_cut [24]from 192 to 205 (fun s24 wr'=>s24= .int .i64 e/\Aside (∃d2:Array α,SWK enc k w0 blk off d2 wr'/\PermIn a mid d1 d2/\SortedIn lt a mid d2))
   case first=>
    cases bR with
    | true =>
      have hr:a<st/\st<mid:=of_decide_eq_true HBR.out;have hr1:=hr.1;have hr2:=hr.2;clear hr;have hcall:=HIH.out a st mid d1 _ (by omega) (by omega) S1.out hr1 hr2 (by omega) HPR.out.1
      rw[hd1]at hcall;have HCALL:=yc hcall;clear hcall
      go_wp2_with fail
      refine HCALL.out.mono ?_;rintro ee w1 ⟨rfl,d2,S2,hp,hr⟩;have HH:Aside (∃d2:Array α,SWK enc k w0 blk off d2 w1/\PermIn a mid d1 d2/\SortedIn lt a mid d2):=⟨d2,S2,hp,hr⟩;clear S2 hp hr
      go_wp2_with fail
      go_meet
      exact⟨rfl,HH⟩
    | false =>
      have hr:¬(a<st/\st<mid):=of_decide_eq_false HBR.out
      have hsrt:SortedIn lt a mid d1:=by
       rcases ybA a st with h|h
       ·have:st=mid:=by omega
        rw[<-this];exact HPT.out.1
       ·have:a=st:=by omega
        rw[this];exact HPT.out.2.1
      have HH:=fun w' (h:SWK enc k w0 blk off d1 w')=>(show Aside (∃d2:Array α,SWK enc k w0 blk off d2 w'/\PermIn a mid d1 d2/\SortedIn lt a mid d2)from⟨d1,h,permIn_refl _ _ _,hsrt⟩)
      clear hr hsrt
      go_wp2_with fail
      go_meet
      exact⟨rfl,HH _ S1.out⟩
   case rest=>
   obtain⟨rfl,HD⟩:=hcut;clear S1 HBR;obtain⟨d2,S2,hp2,hs2⟩:=HD.out;have hd2:d2.size=d.size:=hp2.1.trans hd1
   have HPR2:Hid (SymPre cf lt d2 mid e b):=by
    obtain⟨z3,z4,hX⟩:=HPR.out.2;refine⟨fun i j y1 y2 y3=> ?_,fun i j y1 y2 y3=> ?_,fun i j y1 y2 y3 y4=> ?_⟩
    ·rw[zcu hp2 (.inr y1),zcu hp2 (.inr (by omega))];exact z3 i j y1 y2 y3
    ·rw[zcu hp2 (.inr (by omega)),zcu hp2 (.inr (by omega))];exact z4 i j y1 y2 y3
    ·rw[zcu hp2 (.inr (by omega)),zcu hp2 (.inr (by omega))];exact hX i j y1 y2 y3 y4
   have HP2:=yc hp2;have HS2:=yc hs2;have S2':Aside (SWK enc k w0 blk off d2 wc):=S2;clear hp2 hs2 S2 HD
   have hfin:∀d3 w',SWK enc k w0 blk off d3 w'->PermIn mid b d2 d3->SortedIn lt mid b d3->∃d':Array α,SWK enc k w0 blk off d' w'/\PermIn a b d d'/\SortedIn lt a b d':=fun d3 w' hs3 hp3 ho3=>by
    obtain⟨f1,f2⟩:=zos (by omega) (by omega) (by omega) HCX.out HP2.out HS2.out hp3 ho3
    exact⟨d3,hs3,permIn_trans _ _ _ _ _ HP1.out f2,f1⟩
   have HFIN:=yc hfin;clear hfin
   go_upto_region 43 with(fail)
   go_cut [213]from 206 to 212 (fun s wr'=>s= .bool (decide (mid<e/\e<b))/\Aside (SWK enc k w0 blk off d2 wr'))
   case first=>
    by_cases hr1:mid<e
    ·have hz1:(mid:Int)<(e:Int):=by omega
     by_cases hr2:e<b
     ·have hz2:(e:Int)<(b:Int):=by omega
      go_wp2_with fail
      go_meet
      exact⟨by simp[hr1,hr2],S2'⟩
     ·have hz2:¬(e:Int)<(b:Int):=by omega
      go_wp2_with fail
      go_meet
      exact⟨by simp[hr2],S2'⟩
    ·have hz1:¬(mid:Int)<(e:Int):=by omega
     go_wp2_with fail
     go_meet
     exact⟨by simp[hr1],S2'⟩
   case rest=>
   clear S2';obtain⟨rfl,S2⟩:=hcut;by_cases hr:mid<e/\e<b
   ·rw[decide_eq_true hr];have hcall:=HIH.out mid e b d2 _ (by omega) (by omega) S2.out hr.1 hr.2 (by omega) HPR2.out
    rw[hd2]at hcall;have HCALL:=yc hcall;clear hcall hr
    go_wp2_with fail
    refine HCALL.out.mono ?_;rintro ee w1 ⟨rfl,d3,S3,hp,hs3⟩;have HH:=yc (HFIN.out d3 w1 S3 hp hs3);clear S3 hp hs3
    go_wp2_with fail
    go_end0
    exact⟨rfl,HH.out⟩
   ·rw[decide_eq_false hr]
    have hsrt:SortedIn lt mid b d2:=by
     rcases ybA mid e with h|h
     ·have:e=b:=by omega
      rw[<-this];exact HPR2.out.1
     ·have:e=mid:=by omega
      rw[<-this];exact HPR2.out.2.1
    have HSRT:=yc hsrt;clear hr hsrt
    go_wp2_with fail
    go_end0
    exact⟨rfl,HFIN.out d2 _ S2.out (permIn_refl _ _ _) HSRT.out⟩
theorem sym_any(k:Nat)(L:Lays P k)(enc:α->List Value)(cf:α->α->Int)(lt:α->α->Bool)(Sw:SWO lt)(g:Nat)(cb:Array Value)(blk off cap:Nat)(d0:Array α)(w0:World)
 (eg:∀args w,(callFunc g args).run P w= .ok (.enter g args) w) (hcmp:CmpLays P g cb enc k cf blk off d0.size w0) (R:RowK enc k w0 blk off d0) (hsz:d0.size<4611686018427387904) (n:Nat):
 ∀ (a m b : Nat) (d : Array α) (w : World), b - a <= n -> d0.size = d.size -> SWK enc k w0 blk off d w -> a < m -> m < b -> b <= d.size -> SymPre cf lt d a m b ->
   Calls P 181 #[.slice (some ⟨blk,off,none⟩) d.size cap,.int .i64 a,.int .i64 m,.int .i64 b,.func (.func g) #[] cb] w (SymPost enc k w0 blk off lt d a b):=by
 induction n with
 |zero=>intro a m b d w h;omega
 | succ n ih =>
   intro a m b d w hn hs S ham hmb hb hpre;by_cases h1:m=a+1
   ·exact sym_left k L enc cf lt Sw g cb blk off cap a m b d0 d w0 w eg hcmp R hs S h1 hmb hb (by omega) hpre.2.1 hpre.2.2
   ·by_cases h2:b=m+1
    ·exact sym_right k L enc cf lt Sw g cb blk off cap a m b d0 d w0 w eg hcmp R hs S (by omega) h2 hb (by omega) hpre.1 hpre.2.2
    ·exact sym_main k L enc cf lt Sw g cb blk off cap a m b d0 d w0 w eg hcmp R hs S (by omega) (by omega) hb (by omega) hpre
      (fun a' m' b' d' w' hlt hs' S' h3 h4 h5 hp'=>ih a' m' b' d' w' (by omega) hs' S' h3 h4 h5 hp')
end SP
namespace SP
variable {P:Program} {α:Type} [Inhabited α]
def CmpAny(P:Program)(g:Nat)(cb:Array Value)(enc:α->List Value)(cf:α->α->Int):Prop:=
 ∀(W:World) (x y:α),Calls P g (#[.agg (enc x).toArray,.agg (enc y).toArray]++cb) W fun e w'=>e= .returned (.int .i64 (cf x y))/\∃q os',w'=grow (W.drewN q) os'
theorem ins_z(k:Nat)(L:Lays P k)(enc:α->List Value)(cf:α->α->Int)(g:Nat)(cb:Array Value)(blk off cap a b:Nat)(d0 d:Array α)(w0 w:World)
 (eg:∀args w,(callFunc g args).run P w= .ok (.enter g args) w) (hcmp:CmpAny P g cb enc cf)
 (R:RowK enc k w0 blk off d0) (hs:d0.size=d.size) (S:SWK enc k w0 blk off d w) (hab:a<=b) (hb:b<=d.size) (hsz:d.size<4611686018427387904) (s:Nat) (az bz:Int) (h0:s=d.size) (h1:az=a) (h2:bz=b):
 Calls P 180 #[.slice (some ⟨blk,off,none⟩) s cap,.int .i64 az,.int .i64 bz,.func (.func g) #[] cb] w fun e w'=>e= .returned (.tuple #[])/\SWK enc k w0 blk off (insertionSort (ltOf cf) d a b) w':=by
 subst h0 h1 h2;have h:=AnyQ.insertionSortCmpFunc L.ins k L.aE L.zE enc R.hk R.h1 cf g cb blk off cap a b d w eg (fun _ _ _ _ x y=>hcmp _ x y) (S.holds R.hblk R.hH hs.symm) (S.lt R.hblk) hab hb hsz
 refine h.mono ?_;rintro e w' ⟨rfl,n,os,rfl⟩;refine⟨rfl,S.on R.hblk n _ os ?_⟩
 have:∀a b n i (dk:Array α),b-i<=n->(insOuter (ltOf cf) a b i dk).size=dk.size:=by
  intro a b n
  induction n with
  |zero=>intro i dk hn;rw[insOuter_stop _ _ _ _ _ (by omega)]
  | succ n ih =>
    intro i dk hn;by_cases hi:i<b
    ·rw[insOuter_go _ _ _ _ _ hi,ih _ _ (by omega)]
     have:∀(j:Nat) (dk:Array α),(insInner (ltOf cf) a j dk).size=dk.size:=by
      intro j
      induction j with
      |zero=>intro dk;rfl
      |succ j ihj=>intro dk;unfold insInner;split<;>simp[ihj,size_swp]
     exact this _ _
    ·rw[insOuter_stop _ _ _ _ _ hi]
 exact this a b _ _ d (yd _)
theorem sym_z(k:Nat)(L:Lays P k)(enc:α->List Value)(cf:α->α->Int)(lt:α->α->Bool)(Sw:SWO lt)(g:Nat)(cb:Array Value)(blk off cap a m b:Nat)(d0 d:Array α)(w0 w:World)
 (eg:∀args w,(callFunc g args).run P w= .ok (.enter g args) w) (hcmp:CmpAny P g cb enc cf)
 (R:RowK enc k w0 blk off d0) (hs:d0.size=d.size) (S:SWK enc k w0 blk off d w) (ham:a<m) (hmb:m<b) (hb:b<=d.size) (hsz:d.size<4611686018427387904) (hpre:SymPre cf lt d a m b) (s:Nat) (az mz bz:Int) (h0:s=d.size) (h1:az=a) (h2:mz=m) (h3:bz=b):
 Calls P 181 #[.slice (some ⟨blk,off,none⟩) s cap,.int .i64 az,.int .i64 mz,.int .i64 bz,.func (.func g) #[] cb] w (SymPost enc k w0 blk off lt d a b):=by
 subst h0 h1 h2 h3;exact sym_any k L enc cf lt Sw g cb blk off cap d0 w0 eg (fun _ _ _ _ x y=>hcmp _ x y) R (by omega) (b-a) a m b d w (yd _) hs S ham hmb hb hpre
def StabPost(enc:α->List Value)(k:Nat)(w0:World)(blk off:Nat)(lt:α->α->Bool)(d:Array α)(e:Ending)(w':World):Prop:=
 e= .returned (.tuple #[])/\∃d':Array α,SWK enc k w0 blk off d' w'/\PermIn 0 d.size d d'/\SortedIn lt 0 d.size d'
theorem stable_any(k:Nat)(L:Lays P k)(enc:α->List Value)(cf:α->α->Int)(lt:α->α->Bool)(Sw:SWO lt)(tg:α->Nat)(hct:∀x y,tg x<tg y->ltOf cf y x=lt y x)(g:Nat)(cb:Array Value)(blk off cap:Nat)(d0:Array α)(w0:World)
 (eg:∀args w,(callFunc g args).run P w= .ok (.enter g args) w) (hcmp:CmpAny P g cb enc cf)
 (R:RowK enc k w0 blk off d0) (htg:∀t,t<d0.size->tg d0[t]! =t) (hsz:d0.size<1152921504606846976):
 Calls P 135 #[.slice (some ⟨blk,off,none⟩) d0.size cap,.int .i64 d0.size,.func (.func g) #[] cb] w0 (StabPost enc k w0 blk off lt d0):=by
 have mixed:=L.mixed;have aE:=L.aE;have zE:=L.zE;have t0:=L.t0;have a0:=L.a0;have z0:=L.z0;have v0:=L.v0;have t3:=L.t3;have a3:=L.a3;have z3:=L.z3;have v3:=L.v3;have t4:=L.t4;have a4:=L.a4;have z4:=L.z4;have v4:=L.v4;have tu:=L.tu;have au:=L.au;have zu:=L.zu;have vu:=L.vu;have tS:=L.tS;have aS:=L.aS;have zS:=L.zS;have vS:=L.vS;have tC:=L.tC;have aC:=L.aC;have zC:=L.zC;have vC:=L.vC;have FG:=L.fStab;have eIns:∀args w,(callFunc 180 args).run P w= .ok (.enter 180 args) w:=L.ins.f20.enters rfl;have eSym:∀args w,(callFunc 181 args).run P w= .ok (.enter 181 args) w:=enters_of L.fSym (by kernel_rfl) rfl
 have S0:Aside (SWK enc k w0 blk off d0 w0):=SWK.start R.hH;have HC:Aside _:=hcmp;have HCT:=yc hct;have HTG:=yc htg;have HSW:=yc Sw;clear hcmp hct htg Sw
 go_enter FG,Tryz.ntmps135
 go_wp2_with fail
 go_loopg [7,8] d0.size (fun kx s7 s8 wr=>∃(q a:Nat) (d:Array α),s7= .int .i64 a/\s8= .int .i64 ((a:Int)+20)/\a<=d0.size/\d0.size-a<=kx/\d.size=d0.size/\Aside (SWK enc k w0 blk off d wr)/\Hid (zhy lt tg d0 d d0.size q a))
 case atStart=>exact⟨0,0,d0,rfl,by first|rfl|go_num,yu _,by omega,rfl,S0,zks lt tg d0 d0.size⟩
 case round=>
  clear S0;obtain⟨q,a,d,rfl,rfl,ha,hkx,hds,S1,H1⟩:=hrel;by_cases hlt:a+20<=d0.size
  ·have hltz:(a:Int)+20<=(d0.size:Int):=by omega
   have HN:=yc (zid HSW.out HCT.out HTG.out H1.out (a+20) (by omega) hlt (by omega) (by omega))
   obtain⟨hz,HST,_⟩:=HN.out;have HST':=yc (HST rfl);clear HST HN
   go_wp2_with fail
   refine(ins_z k L enc cf g cb blk off cap a (a+20) d0 d w0 _ eg HC.out R hds.symm S1.out (by omega) (by omega) (by omega) _ _ _ hds.symm rfl (by omega)).mono ?_
   rintro e w1 ⟨rfl,S2⟩;have S2':Aside (SWK enc k w0 blk off (insertionSort (ltOf cf) d a (a+20)) w1):=S2;clear S1 S2
   go_wp2_with fail
   go_roundg (d0.size-(a+20))
   case measure=>omega
   case rel=>exact⟨q+1,a+20,_,by first|rfl|go_num,by first|rfl|go_num,by omega,by omega,by rw[hz];exact hds,S2',HST'⟩
  ·have hltz:¬(a:Int)+20<=(d0.size:Int):=by omega
   have HN:=yc (zid HSW.out HCT.out HTG.out H1.out d0.size ha (yd _) (by omega) (by omega))
   obtain⟨hz,_,HST⟩:=HN.out;have HST':=yc (HST rfl);clear HST HN
   go_wp2_with fail
   refine(ins_z k L enc cf g cb blk off cap a d0.size d0 d w0 _ eg HC.out R hds.symm S1.out (by omega) (by omega) (by omega) _ _ _ hds.symm rfl rfl).mono ?_
   rintro e w1 ⟨rfl,S2⟩;have S2':Aside (SWK enc k w0 blk off (insertionSort (ltOf cf) d a d0.size) w1):=S2;have hz2:(insertionSort (ltOf cf) d a d0.size).size=d0.size:=hz.trans hds
   generalize insertionSort (ltOf cf) d a d0.size=e1 at HST' S2' hz2
   clear S1 S2 hz
   go_wp2_with fail
   go_loopg [6] d0.size (fun kx s6 wr=>∃(bs:Nat) (d:Array α),s6= .int .i64 bs/\20<=bs/\bs<=2*d0.size+20/\d0.size-bs<=kx/\d.size=d0.size/\Aside (SWK enc k w0 blk off d wr)/\Hid (BlkFrom lt tg bs d0.size 0 d/\PermIn 0 d0.size d0 d))
   case atStart=>exact⟨20,e1,rfl,yd _,by omega,by omega,hz2,S2',HST'⟩
   case round=>
    clear S2' HST' hz2;obtain⟨bs,d,rfl,hb1,hb2,hkx,hds,S1,H1⟩:=hrel;by_cases hlt:bs<d0.size
    ·have hltz:(bs:Int)<(d0.size:Int):=by omega
     go_wp2_with fail
     have HS2:=yc (zkt H1.out.1 H1.out.2);clear H1
     go_loopg [7,8] d0.size (fun kx s7 s8 wr=>∃(q a2:Nat) (d:Array α),s7= .int .i64 a2/\s8= .int .i64 ((a2:Int)+2*(bs:Int))/\a2<=d0.size/\d0.size-a2<=kx/\d.size=d0.size/\Aside (SWK enc k w0 blk off d wr)/\Hid (zfh lt tg d0 d d0.size bs q a2))
     case atStart=>exact⟨0,0,d,rfl,by first|rfl|(congr 1;omega),yu _,by omega,hds,S1,HS2⟩
     case round=>
      clear S1 HS2 hds;obtain⟨q,a2,d,rfl,rfl,ha2,hkx2,hds,S1,H1⟩:=hrel;by_cases hlt2:a2+2*bs<=d0.size
      ·have hltz2:(a2:Int)+2*(bs:Int)<=(d0.size:Int):=by omega
       have HP:=yc (zif HCT.out H1.out (a2+2*bs) (by omega) (by omega))
       go_wp2_with fail
       refine(sym_z k L enc cf lt HSW.out g cb blk off cap a2 (a2+bs) (a2+2*bs) d0 d w0 _ eg HC.out R hds.symm S1.out (by omega) (by omega) (by omega) (by omega) ⟨HP.out.1,HP.out.2.1,HP.out.2.2.1⟩ _ _ _ _ hds.symm rfl (by omega) (by omega)).mono ?_
       rintro e w1 ⟨rfl,d',S2,hp,hs⟩;have S2':Aside (SWK enc k w0 blk off d' w1):=S2;have hds':d'.size=d0.size:=hp.1.trans hds;have HST:=yc ((zg4 (by omega) H1.out (a2+2*bs) (by omega) (by omega) (by omega) HP.out.2.2.2.1 HP.out.2.2.2.2 hp hs).1 rfl)
       clear S1 S2 hp hs
       go_wp2_with fail
       go_roundg (d0.size-(a2+2*bs))
       case measure=>omega
       case rel=>exact⟨q+1,a2+2*bs,d',by first|rfl|(congr 1;omega),by first|rfl|(congr 1;omega),by omega,by omega,hds',S2',HST⟩
      ·have hltz2:¬(a2:Int)+2*(bs:Int)<=(d0.size:Int):=by omega
       by_cases hm:a2+bs<d0.size
       ·have hmz:(a2:Int)+(bs:Int)<(d0.size:Int):=by omega
        have HP:=yc (zif HCT.out H1.out d0.size (by omega) hm)
        go_wp2_with fail
        refine(sym_z k L enc cf lt HSW.out g cb blk off cap a2 (a2+bs) d0.size d0 d w0 _ eg HC.out R hds.symm S1.out (by omega) hm (by omega) (by omega) ⟨HP.out.1,HP.out.2.1,HP.out.2.2.1⟩ _ _ _ _ hds.symm rfl (by omega) rfl).mono ?_
        rintro e w1 ⟨rfl,d',S2,hp,hs⟩;have S2':Aside (SWK enc k w0 blk off d' w1):=S2;have hds':d'.size=d0.size:=hp.1.trans hds;have HST:=zg4 (by omega) H1.out d0.size (by omega) hm (by omega) HP.out.2.2.2.1 HP.out.2.2.2.2 hp hs
        have HEND:Hid (BlkFrom lt tg (2*bs) d0.size 0 d'/\PermIn 0 d0.size d0 d'):=⟨zie HST.2.1 (by have:=H1.out.1;omega),HST.2.2⟩
        clear S1 S2 hp hs HST
        go_wp2_with fail
        go_roundg (d0.size-2*bs)
        case measure=>omega
        case rel=>exact⟨2*bs,d',by first|rfl|(congr 1;omega),by omega,by omega,by omega,hds',S2',HEND⟩
       ·have hmz:¬(a2:Int)+(bs:Int)<(d0.size:Int):=by omega
        have HEND:Hid (BlkFrom lt tg (2*bs) d0.size 0 d/\PermIn 0 d0.size d0 d):=⟨zie (zlj H1.out (by omega)) (by have:=H1.out.1;omega),H1.out.2.2.2⟩
        go_wp2_with fail
        go_roundg (d0.size-2*bs)
        case measure=>omega
        case rel=>exact⟨2*bs,d,by first|rfl|(congr 1;omega),by omega,by omega,by omega,hds,S1,HEND⟩
    ·have hltz:¬(bs:Int)<(d0.size:Int):=by omega
     have HF:=yc (zlX H1.out.1 (by omega))
     go_wp2_with fail
     go_end0
     exact⟨rfl,d,S1.out,H1.out.2,HF.out⟩
end SP
namespace SP
variable {β:Type} [Inhabited β]
def SortPost(w:World)(base:Nat)(enc:β->List Value)(cf:β->β->Int)(v:Value)(xs:List β)(e:Ending)(w':World):Prop:=
 e= .returned (.tuple #[])/\∃ys,IsStable cf xs ys/\Own w' base 87 enc 4 v ys/\w.grownBy w' v.ownBlock
theorem ins_none(w:World)(g:Nat)(cb:Array Value):
 Calls ye 180 #[.slice none 0 0,.int .i64 0,.int .i64 0,.func (.func g) #[] cb] w fun e w'=>e= .returned (.tuple #[])/\w=w':=by
 go_enter Tryz.func180,Tryz.ntmps180
 go_wp2_with fail
 go_loop [8] (fun i=>i= .int .i64 1) (fun _=>0)
 case atStart=>rfl
 case round=>
  obtain rfl:=hrel
  go_wp2_with fail
  go_end0
  exact⟨rfl,rfl⟩
theorem stable_none(w:World)(g:Nat)(cb:Array Value):
 Calls ye 135 #[.slice none 0 0,.int .i64 0,.func (.func g) #[] cb] w fun e w'=>e= .returned (.tuple #[])/\w=w':=by
 go_enter Tryz.func135,Tryz.ntmps135
 go_wp2_with fail
 go_loop [7,8] (fun a b=>a= .int .i64 0/\b= .int .i64 20) (fun _ _=>0)
 case atStart=>exact⟨rfl,rfl⟩
 case round=>
  obtain⟨rfl,rfl⟩:=hrel
  go_wp2_with (go_at_call 180;refine(ins_none _ g cb).mono ?_;rintro e w' ⟨rfl,rfl⟩)
  go_loop [6] (fun b=>b= .int .i64 20) (fun _=>0)
  case atStart=>rfl
  case round=>
   obtain rfl:=hrel
   go_wp2_with fail
   go_end0
   exact⟨rfl,rfl⟩
theorem top_any(enc:β->List Value)(C:Codec enc 4)(cf:β->β->Int)(Cm:Cmp cf)(g:Nat)(cb:Array Value)(w:World)(base:Nat)(v:Value)(xs:List β)
 (eg:∀args w,(callFunc g args).run ye w= .ok (.enter g args) w) (hcmp:CmpAny ye g cb enc cf) (hv:Own w base 87 enc 4 v xs) (hsz:xs.length<1152921504606846976):
 Calls ye 84 #[v,.func (.func g) #[] cb] w (SortPost w base enc cf v xs):=by
 have HV:=yc hv
 rcases hv.2 with⟨rfl,hn⟩|⟨b,cap,cur,rfl,hb,hh,h1,h2,h3,h4⟩
 ·have hx:xs=[]:=List.eq_nil_of_length_eq_zero hn;subst hx;clear hv
  go_enter Tryz.func84,Tryz.ntmps84
  go_wp2_with (go_at_call 135;refine(stable_none _ g cb).mono ?_;rintro e w' ⟨rfl,rfl⟩)
  go_end0
  exact⟨rfl,[],IsStable.nil,HV.out,⟨rfl,rfl,rfl,yd _,fun _ _ _=>rfl⟩⟩
 ·have hcon:=stable_any (k:=4) lays (zhd enc) (fun x y=>cf x.1 y.1) (tlt cf) Cm.swo (fun p=>p.2) (fun x y hxy=>by
   unfold ltOf tlt;by_cases e1:cf y.1 x.1<0
   ·simp[e1]
   ·have:¬y.2<x.2:=by omega
    simp[e1,this]) g cb b 0 cap xs.zipIdx.toArray w eg (fun W x y=>hcmp W x.1 y.1)
   ⟨fun x=>C.len x.1,fun x=>C.one x.1,zgo C hh h4,(yl.1 hh).1⟩ (fun t ht=>by
    simp at ht;rw[getElem!_pos _ t (by simpa using ht)]
    simp) (by simpa using hsz)
  rw[show xs.zipIdx.toArray.size=xs.length by simp]at hcon
  have HCON:=yc hcon;clear hcon hcmp hv;have HH:=yc hh;have H3:=yc h3;have H2:=yc h2;clear hh h4 h3 h2
  go_enter Tryz.func84,Tryz.ntmps84
  go_wp2_with fail
  refine HCON.out.mono ?_;rintro e w1 ⟨rfl,d',S,hp,hs⟩;have hd:d'.size=xs.length:=by rw[hp.1];simp
  have HF:=yc (zhV C hd hb HH.out h1 H2.out H3.out S);have HI:=yc (IsStable.of_sorted Cm hp hs);clear S hp hs
  go_wp2_with fail
  go_end0
  exact⟨rfl,_,HI.out,HF.out.1,HF.out.2⟩
end SP
def cfP(x y:Pa):Int:=if x.last<y.last then-1 else if y.last<x.last then 1 else 0
theorem zl4:Cmp cfP:=by
 constructor<;>intros<;>simp only[cfP]at* <;>(repeat' split at*)<;>first|omega|grind
theorem zqD:SP.CmpAny ye 85 #[] zcB cfP:=by
 intro W x y;obtain⟨i,a,b,s⟩:=x;obtain⟨j,c,d,t⟩:=y;simp only[zcB,cfP]
 show Calls ye 85 #[.agg #[.string i,.bool a,.bool b,.int .i64 s],.agg #[.string j,.bool c,.bool d,.int .i64 t]] W _
 by_cases h1:s<t
 ·have e1:decide (s<t)=true:=by simpa using h1
  clear h1;rw[if_pos (by simpa using e1)]
  go_enter Tryz.func85,Tryz.ntmps85
  go_wp2_with fail
  go_ret;exact⟨rfl,0,_,by rw[alloc_eq_grow,alloc_eq_grow,grow_grow];rfl⟩
 ·have e1:decide (s<t)=false:=by simpa using h1
  clear h1;rw[if_neg (by simpa using e1)]
  by_cases h2:t<s
  ·have e2:decide (s>t)=true:=by simpa using h2
   clear h2;rw[if_pos (by simpa using e2)]
   go_enter Tryz.func85,Tryz.ntmps85
   go_wp2_with fail
   go_ret;exact⟨rfl,0,_,by rw[alloc_eq_grow,alloc_eq_grow,grow_grow];rfl⟩
  ·have e2:decide (s>t)=false:=by simpa using h2
   clear h2;rw[if_neg (by simpa using e2)]
   go_enter Tryz.func85,Tryz.ntmps85
   go_wp2_with fail
   go_ret;exact⟨rfl,0,_,by rw[alloc_eq_grow,alloc_eq_grow,grow_grow];rfl⟩
end
section
open Go.RowKit Go.OpenShut
inductive SortOf:JV->JV->Prop
 |mk {k n:Int} {s:ByteArray} {l l':List JV} {m mm m':List (ByteArray×JV)} (el:l'.length=l.length) (cl:∀(i:Nat) (t u:JV),l[i]? =some t->l'[i]? =some u->SortOf t u)
  (em:mm.length=m.length) (cn:∀(i:Nat) (p q:ByteArray×JV),m[i]? =some p->mm[i]? =some q->p.1=q.1) (cm:∀(i:Nat) (p q:ByteArray×JV),m[i]? =some p->mm[i]? =some q->SortOf p.2 q.2)
  (st:IsStable cfJ mm m'):SortOf (.mk k n s l m) (.mk k n s l' m')
theorem LoneV.parts{w:World}{S:Nat->Prop}{t:JV}{r:RV}{b0:Nat}(h:LoneV w S t r)(hb:∀k,S k->b0<=k/\k<w.heap.size)(h0:b0<=w.heap.size):
 ∃ds dms F,Parts (w.alloc (.cells #[.int .i64 r.k,.int .i64 r.n,.string r.s,.slice r.pl r.nl r.cl,.slice r.pm r.nm r.cm] 25)) b0 w.heap.size (fun _=>True) t.l t.m ds dms r F/\t.k=r.k/\t.n=r.n/\t.s=r.s:=by
 cases h with
 | @mk _ _ l m rs rms F hl hm sl sm dr el em cn cl cm ff dd=>
 have hal:∀k,k<w.heap.size->(w.alloc (.cells #[.int .i64 r.k,.int .i64 r.n,.string r.s,.slice r.pl r.nl r.cl,.slice r.pm r.nm r.cm] 25)).heap[k]? =w.heap[k]? :=fun k hk=>yaM w _ k hk
 have reb:∀{α:Type} {e:TypeId} {enc:α->List Value} {sz:Nat} {v:Value} {xs:List α},Own w 0 e enc sz v xs->(∀k,v.ownBlock=some k->S k)->Own w b0 e enc sz v xs:=by
  intro α e enc sz v xs ho hs;obtain⟨hx,ho⟩:=ho;refine⟨hx,?_⟩
  rcases ho with ho|⟨g,cap,cur,rfl,hg,r⟩
  ·exact .inl ho
  ·exact .inr ⟨g,cap,cur,rfl,(hb g (hs g rfl)).1,r⟩
 refine⟨rs,rms,F,⟨za rfl,(reb hl sl).alloc _,(reb hm sm).alloc _,fun k e=>by have:=(hb k (sl k e)).2;omega,fun k e=>by have:=(hb k (sm k e)).2;omega,dr,by simp;omega,el,em,cn,?_,?_,?_,dd⟩,rfl,rfl,rfl⟩
 ·intro i t q _ h1 h2;exact(cl i t q h1 h2).same fun k hk=>hal k (hb k (ff _ k hk).1).2
 ·intro i t q _ h1 h2;exact(cm i t q h1 h2).same fun k hk=>hal k (hb k (ff _ k hk).1).2
 ·intro a k hk;have:=hb k (ff a k hk).1;exact⟨⟨this.1,by simp;omega⟩,by omega,(ff a k hk).2⟩
theorem zkq{m:List (ByteArray×JV)}{dms ys:List RM}(hs:IsStable cfM dms ys)(em:m.length=dms.length)(cn:∀(i:Nat) (p:ByteArray×JV) (q:RM),m[i]? =some p->dms[i]? =some q->p.1=q.name):
 ∃(m':List (ByteArray×JV)) (σ:List Nat),IsStable cfJ m m'/\m'.length=ys.length/\σ.Nodup/\∀(j:Nat) (p:ByteArray×JV) (q:RM),m'[j]? =some p->ys[j]? =some q->∃i:Nat,σ[j]? =some i/\m[i]? =some p/\dms[i]? =some q:=by
 obtain⟨ts,hp,hw,rfl⟩:=hs
 have hmem:∀a∈ts,dms[a.2]? =some a.1:=fun a ha=>by
  have:=List.mem_zipIdx' (hp.mem_iff.1 ha);exact(yf this.1).trans (congrArg some this.2.symm)
 have hmm:∀a∈ts,∃p,m[a.2]? =some p/\p.1=a.1.name:=fun a ha=>by
  have h1:=hmem a ha;have h2:a.2<m.length:=by rw[em];exact(yi.1 h1).1
  exact⟨m[a.2],yf h2,cn _ _ _ (yf h2) h1⟩
 let f:RM×Nat->(ByteArray×JV)×Nat:=fun a=>((m[a.2]?).getD (ByteArray.empty,JV.zero),a.2)
 have hz:dms.zipIdx.map f=m.zipIdx:=by
  apply List.ext_getElem
  ·simp[em]
  ·intro i h1 h2;have h3:i<m.length:=by simpa using h2
   simp[f,h3]
 refine⟨(ts.map f).map (·.1),ts.map (·.2),⟨ts.map f,hz▸hp.map f,?_,rfl⟩,by simp,?_,?_⟩
 ·rw[yaH];refine hw.imp_of_mem fun{a b} ha hb h=> ?_
  obtain⟨p,h1,h2⟩:=hmm a ha;obtain⟨q,h3,h4⟩:=hmm b hb;have e:∀x y:ByteArray×JV,∀z v:RM,x.1=z.name->y.1=v.name->cfJ x y=cfM z v:=fun x y z v h h'=>by unfold cfJ cfM;rw[h,h']
  show tlt cfJ (f a) (f b)=true
  unfold tlt at h⊢;simp only[f,h1,h3,Option.getD_some];rw[e _ _ _ _ h2 h4,e _ _ _ _ h4 h2];exact h
 ·have h1:(ts.map (·.2)).Perm (dms.zipIdx.map (·.2)):=hp.map _
  rw[List.zipIdx_map_snd]at h1;exact h1.nodup_iff.2 (List.nodup_range' ..)
 ·intro j p q h1 h2;rw[List.map_map,yG]at h1;rw[yG]at h2;cases ht:ts[j]? with
  |none=>rw[ht]at h2;cases h2
  | some a =>
    rw[ht]at h1 h2;obtain⟨p',h3,h4⟩:=hmm a (ym ht);simp only[Option.map_some,Function.comp,f,h3,Option.getD_some,Option.some.injEq]at h1 h2;subst h1 h2;exact⟨a.2,by rw[yG,ht];rfl,h3,hmem a (ym ht)⟩
theorem Parts.sorted{W W2:World}{b0 g:Nat}{D:Nat⊕Nat->Prop}{l:List JV}{m:List (ByteArray×JV)}{ds:List RV}{dms ys:List RM}{r:RV}{F:Nat⊕Nat->Nat->Prop}(h:Parts W b0 g (fun _=>True) l m ds dms r F)(hs:IsStable cfM dms ys)
 (ho:Own W2 b0 35 zl 6 (.slice r.pm r.nm r.cm) ys) (hg:W.grownBy W2 (Value.slice r.pm r.nm r.cm).ownBlock):∃m' F',IsStable cfJ m m'/\Parts W2 b0 g (fun _=>True) l m' ds ys r F':=by
 obtain⟨m',σ,h1,h2,h3,h4⟩:=zkq hs h.em h.cn;have hsz:=hg.size;have hsame:∀k,k<W.heap.size->(Value.slice r.pm r.nm r.cm).ownBlock≠some k->W2.heap[k]? =W.heap[k]? :=fun k hk hk1=>hg.block k hk (fun e=>hk1 e.symm)
 have hF:∀a k,F a k->W2.heap[k]? =W.heap[k]? :=fun a k hk=>hsame k (h.ff a k hk).1.2 (h.ff a k hk).2.2.2
 refine⟨m',fun a k=>match a with| .inl i=>F (.inl i) k| .inr j=>∃i:Nat,σ[j]? =some i/\F (.inr i) k,h1,⟨(hsame g h.box.lt (fun e=>h.bM g e rfl)).trans h.box,h.ownL.same fun k e=>hsame k (h.ownL.lt k e).2 (h.dr k e),ho,h.bL,h.bM,h.dr,yg h.los hsz,h.el,h2,?_,?_,?_,?_,?_⟩⟩
 ·intro i p q hp hq;obtain⟨i',_,e1,e2⟩:=h4 i p q hp hq;exact h.cn i' p q e1 e2
 ·intro i t q hd ht hq;exact(h.cl i t q hd ht hq).same (hF _)
 ·intro i p q hd hp hq;obtain⟨i',e0,e1,e2⟩:=h4 i p q hp hq;exact((h.cm i' p q trivial e1 e2).same (hF _)).mono fun k hk=>⟨i',e0,hk⟩
 ·intro a k hk;cases a with
  |inl i=>exact⟨⟨(h.ff _ k hk).1.1,yL (h.ff _ k hk).1.2 hsz⟩,(h.ff _ k hk).2⟩
  | inr j =>
    obtain⟨i,_,hk⟩:=hk;exact⟨⟨(h.ff _ k hk).1.1,yL (h.ff _ k hk).1.2 hsz⟩,(h.ff _ k hk).2⟩
 ·intro a b k ha hb;cases a with
  | inl i =>
    cases b with
    |inl i'=>exact h.dd _ _ k ha hb
    | inr j =>
      obtain⟨i',_,hb⟩:=hb;cases h.dd _ _ k ha hb
  | inr j =>
    obtain⟨i1,e1,ha⟩:=ha;cases b with
    |inl i'=>cases h.dd _ _ k ha hb
    | inr j' =>
      obtain⟨i2,e2,hb⟩:=hb;cases h.dd _ _ k ha hb;obtain⟨l1,e1⟩:=yi.1 e1;obtain⟨l2,e2⟩:=yi.1 e2
      have hjj:j=j':=by
       rcases Nat.lt_trichotomy j j' with hlt|he|hlt
       ·exact absurd (e1.trans e2.symm) (yaD.1 h3 j j' l1 l2 hlt)
       ·exact he
       ·exact absurd (e2.trans e1.symm) (yaD.1 h3 j' j l2 l1 hlt)
      rw[hjj]
theorem zkd(a b:ByteArray):zA a b<0↔a.data.toList<b.data.toList:=by
 have h1:=zkc a b;rw[bytesLess_eq,ByteArray.toList_eq,ByteArray.toList_eq]at h1
 constructor
 ·intro h;rw[decide_eq_true h]at h1;exact of_decide_eq_true h1
 ·intro h;rw[decide_eq_true h]at h1;exact of_decide_eq_true h1.symm
theorem zpT(l:List ByteArray):(zb2 l).Pairwise (fun x y=>¬zA y x<0):=by
 unfold zb2;have h:=List.pairwise_mergeSort (le:=fun x y:List UInt8=>decide (x<=y)) (fun a b c h1 h2=>by simp at h1 h2⊢;exact List.le_trans h1 h2) (fun a b=>by simp;exact List.le_total a b) (l.map (·.data.toList))
 rw[yaH];refine h.imp fun{a b} hab=> ?_
 rw[zkd];have h2:a<=b:=of_decide_eq_true hab;exact fun h3=>absurd h3 (List.not_lt.2 h2)
def zgI(l:List ByteArray):Prop:=l.Pairwise (fun x y=>zA x y<0)
theorem zkp{l:List ByteArray}(h:l.Nodup):zgI (zb2 l):=by
 have h1:=zpT l;have h2:(zb2 l).Nodup:=(zh8 l).nodup_iff.2 h;refine List.Pairwise.imp ?_ (h1.and h2);intro a b hab;have h3:=zda a b;by_cases e:zA a b=0
 ·exact absurd (zir e) hab.2
 ·have:=hab.1;omega
theorem zjt{l m:List ByteArray}(h1:zgI l)(h2:zgI m)(h:l.Perm m):l=m:=
 zdj (r:=fun x y=>zA x y<0) (fun x y a b=>by have:=zda x y;omega) h h1 h2
end
section
open Go Go.RowKit Go.OpenShut
def askT(nm q:ByteArray):JV:= .mk 6 0 ⟨#[]⟩ [] [(nm,.mk 4 0 q [] [])]
theorem zeX(w:World)(B:Nat)(k:Int)(q:ByteArray):TreeOf w B (.mk k 0 q [] []) ⟨k,0,q,none,0,0,none,0,0⟩:=
 TreeOf.mk (r:=⟨k,0,q,none,0,0,none,0,0⟩) (rs:=[]) (rms:=[]) (Rd.nil _ _) rfl (fun i t q h=>by simp at h) (Rd.nil _ _) rfl (fun i p q h=>by simp at h) (fun i p q h=>by simp at h)
theorem znO{w:World}{B:Nat}{p:Option Addr}{n c:Nat}{ts:List JV}(h:TlOf w B (.slice p n c) ts):TreeOf w B (.mk 5 0 ⟨#[]⟩ ts []) ⟨5,0,⟨#[]⟩,p,n,c,none,0,0⟩:=by
 obtain⟨rs,h1,h2,h3⟩:=h;exact TreeOf.mk (r:=⟨5,0,⟨#[]⟩,p,n,c,none,0,0⟩) (rs:=rs) (rms:=[]) h1 h2 h3 (Rd.nil _ _) rfl (fun i p q h=>by simp at h) (fun i p q h=>by simp at h)
theorem zjM{w:World}{B g:Nat}{nm q:ByteArray}(h:w.heap[g]? =some (.cells #[.string nm,.int .i64 4,.int .i64 0,.string q,.slice none 0 0,.slice none 0 0] 35))(hg:g<B):TreeOf w B (askT nm q) ⟨6,0,⟨#[]⟩,none,0,0,some ⟨g,0,none⟩,1,1⟩:=
 TreeOf.mk (r:=⟨6,0,⟨#[]⟩,none,0,0,some ⟨g,0,none⟩,1,1⟩) (rs:=[]) (rms:=[⟨nm,⟨4,0,q,none,0,0,none,0,0⟩⟩]) (Rd.nil _ _) rfl (fun i t q h=>by simp at h)
  (Rd.one (x:=(⟨nm,⟨4,0,q,none,0,0,none,0,0⟩⟩:RM)) codecM h rfl hg) rfl
  (fun i p u h1 h2=>by
   cases i with
   |zero=>simp at h1 h2;subst h1 h2;rfl
   |succ i=>simp at h1)
  (fun i p u h1 h2=>by
   cases i with
   |zero=>simp at h1 h2;subst h1 h2;exact zeX w B 4 q
   |succ i=>simp at h1)
end
end Go.Proofs.YtemofofnkchmeaaGreatDoor
