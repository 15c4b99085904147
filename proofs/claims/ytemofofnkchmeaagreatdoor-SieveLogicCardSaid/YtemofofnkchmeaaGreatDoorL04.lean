import Derived.Test.YtemofofnkchmeaaGreatDoorL01
import Derived.Maps.AppendAt
import Derived.Deep.AppendLies
import Derived.RegionTactic
import Derived.OwnWalk
import Derived.Deep.Slices
import Derived.Deep.Fields
import Derived.Deep.Strs
import Derived.ChangeSame
import Derived.SizedLaws
import Derived.Test.YtemofofnkchmeaaGreatDoorProg
import Derived.WalkKit
import Derived.WalkSpells
import Derived.Lib.Hide
import Derived.ProofKit
import Derived.Below
import Derived.Deep.RegionHeld3
import Derived.Deep.DeepCutAuto
import Derived.Deep.CutRange
import Derived.BigQuiet
import Derived.Deep.QuietTactic
import Derived.Outline
import Derived.OpenShut
import Derived.Lib.AppendStr
import Derived.Lib.BufferRead
import Derived.Laws.IdiomStrings
import Derived.WalkLawsBesides
set_option linter.unusedSimpArgs false
set_option linter.unusedVariables false
set_option maxRecDepth 200000
set_option maxHeartbeats 8000000
namespace Go.Proofs.YtemofofnkchmeaaGreatDoor
open _root_.Array renaming getElem?_eq_some_iff->yl,getElem?_toList->yK,length_toList->yH
open _root_.Go.RowKit.Below renaming drew->ybv,refl->yh
open _root_.Go.Lib renaming hid->yc
open _root_.List renaming cons->ybu,drop_succ_cons->yaJ,drop_zero->yaY,eq_nil_of_length_eq_zero->yx,findIdx?_eq_some_iff_getElem->yW,flatMap_cons->yaB,getElem?_eq_getElem->yf,getElem?_eq_some_iff->yi,getElem?_map->yG,length_take->yz,mem_append->yT,mem_cons->yA,mem_of_getElem?->ym,not_mem_nil->y5,take_add_one->yD,take_of_length_le->yq,take_succ_cons->yI,take_zero->yM
open _root_.Nat renaming add_mul->yag,add_zero->yw,le_refl->yd,zero_add->yal,zero_le->yu
open _root_.Go.Proofs.Tryz renaming prog->ye
section
open Go Go.RowKit
def SlT(P:Program)(t e:TypeId)(sz bytes:Nat):Prop:=P.underlying t=some (.slice e)/\∃i z,P.info? e=some i/\i.zero=some z/\i.size=sz/\i.bytes=bytes/\z.cells.size=sz
theorem SlT.mk{P:Program}{t e:TypeId}{sz bytes:Nat}{z:Value}(ht:P.underlying t=some (.slice e))(hi:(P.info? e).map (fun i=>(i.zero,i.size,i.bytes))=some (some z,sz,bytes))(hz:z.cells.size=sz):SlT P t e sz bytes:=by
 obtain⟨i,h1,h2,h3,h4⟩:=info_parts hi;exact⟨ht,i,z,h1,h2,h3,h4,hz⟩
theorem za{w:World}{o:Obj}{g:Nat}(h:g=w.heap.size):(w.alloc o).heap[g]? =some o:=by subst h;exact heap_alloc_new w o
theorem zb{w:World}{o o':Obj}{g:Nat}(h:g<w.heap.size)(h':w.heap[g]? =some o'):(w.alloc o).heap[g]? =some o':=(Below.heap_alloc w o g h).trans h'
section
variable {P:Program} {α:Type} {enc:α->List Value} {sz bytes:Nat} {t e:TypeId}
theorem Rd.block{w:World}{B g:Nat}{te:TypeId}{xs:List α}{cs:Array Value}(C:Codec enc sz)(h:w.heap[g]? =some (.cells cs te (0,0)))(hc:cs.toList=cellsOf enc xs)(hg:g<B)(hm:xs.length<=maxLen):Rd w B enc sz (.slice (some ⟨g,0,none⟩) xs.length xs.length) xs:=by
 refine⟨_,_,rfl,yd _,hm,(fun h=>by cases h),fun a ha _=> ?_⟩
 cases ha;refine⟨g,0,rfl,hg,fun i x hx j u hu=> ?_⟩
 have hj:j<sz:=by rw[<-C.len x];exact(yi.1 hu).1
 have h1:=zdo C xs i x hx j hj;rw[cell_of_row w g _ cs te (0,0) h,yal,<-yK,hc,h1,hu]
theorem Rd.one{w:World}{B g:Nat}{te:TypeId}{x:α}{cs:Array Value}(C:Codec enc sz)(h:w.heap[g]? =some (.cells cs te (0,0)))(hc:cs.toList=enc x)(hg:g<B):Rd w B enc sz (.slice (some ⟨g,0,none⟩) 1 1) [x]:=
 Rd.block (xs:=[x]) C h (by rw[zbG];exact hc) hg (show 1<=maxLen by decide)
theorem Own.made{w:World}{base:Nat}(h:base<=w.heap.size):Own (w.alloc (.cells #[] e)) base e enc sz (.slice (some ⟨w.heap.size,0,none⟩) 0 0) ([]:List α):=
 World.ownsRow_made (base:=base) (e:=e) (size:=sz) w #[] 0 h (yu _) (by simp)
theorem Own.block{w:World}{base g:Nat}{xs:List α}{cs:Array Value}{n:Nat}(C:Codec enc sz)(h:w.heap[g]? =some (.cells cs e (0,0)))(hc:cs.toList=cellsOf enc xs)(hn:n=xs.length)(hg:base<=g)(hm:xs.length<=maxLen):Own w base e enc sz (.slice (some ⟨g,0,none⟩) n n) xs:=by
 subst hn;refine⟨zm C xs,.inr ⟨g,xs.length,cs,rfl,hg,h,yd _,hm,?_,?_⟩⟩
 ·rw[<-yH,hc,zm C]
 ·rw[hc,<-zm C,List.take_length]
theorem zjs(S:SlT P t e sz bytes)(C:Codec enc sz)(w:World)(ty:TypeId){base B:Nat}{v u:Value}{xs ys:List α}(hown:Own w base e enc sz v xs)(hr:Rd w B enc sz u ys)
 (h63:xs.length+ys.length<=maxLen) (hbytes:(xs.length+ys.length)*bytes<=140737488355328) (hbase:base<=w.heap.size):
 ∃v' w',(Builtin.append_ #[t,t] ty #[v,u]).run P w= .ok v' w'/\Own w' base e enc sz v' (xs++ys)/\w.grownBy w' v.ownBlock/\(v'.ownBlock=v.ownBlock\/v'.ownBlock=some w.heap.size):=by
 obtain⟨ht,i,z,hi,hz,hs1,hs2,hzs⟩:=S;obtain⟨p,c,rfl,hc1,hc2,hc3,hp⟩:=hr;have hO:w.ownsRow base e sz v xs.length (cellsOf enc xs):=hown
 rcases p with _|a
 ·have:ys=[]:=yx (by have:=hc3 rfl;omega)
  subst this;refine⟨v,w,?_,by rw[List.append_nil];exact hown,World.grownBy.refl w _,.inl rfl⟩
  rcases hO.2 with⟨rfl,hn⟩|⟨g,cap,cur,rfl,_,_,hnc,_⟩
  ·simp[Builtin.append_,run_underlying ht,sizeOf,typeInfo,hi,Builtin.lenOf,Builtin.firstCells]
  ·simp[Builtin.append_,run_underlying ht,sizeOf,typeInfo,hi,Builtin.lenOf,Builtin.firstCells,hnc,storeCells]
 ·have hnews:∀j u,(cellsOf enc ys)[j]? =some u->w.cell? (a.add j)=some u:=by
   intro j u hu;by_cases h0:0<ys.length
   ·obtain⟨b,o,rfl,hb,hrow⟩:=hp a rfl h0;exact hrow.news C j u hu
   ·have:ys=[]:=yx (by omega)
    subst this;simp[cellsOf]at hu
  obtain⟨v',w',hrun,h2,h3,_,h5⟩:=run_append_own_at (P:=P) w base t ty e i z sz bytes ht hi hz hs1 hs2 hzs C.pos v xs.length (cellsOf enc xs) hO a ys.length c (cellsOf enc ys) (zm C ys) hnews (zdp C ys) h63 hbytes hbase;refine⟨v',w',hrun,?_,h3,h5⟩;unfold Own;rw[zv,List.length_append];exact h2
theorem zgF{o:Oper}{a:Act}{K:Act->World->Prop}{Q:Exit->Act->World->Prop}(S:SlT P t e sz bytes)(C:Codec enc sz)(w:World)(s x:Operand)
 (ho:o.op= .call {callee:= .builtin .append,args:=#[s,x],argTypes:=#[t,t]}) {base B:Nat} {v u:Value} {xs ys:List α} (hs:a.eval s=v) (hx:a.eval x=u) (hown:Own w base e enc sz v xs) (hr:Rd w B enc sz u ys)
 (h63:xs.length+ys.length<=maxLen) (hbytes:(xs.length+ys.length)*bytes<=140737488355328) (hbase:base<=w.heap.size)
 (h:∀v' w',Own w' base e enc sz v' (xs++ys)->w.grownBy w' v.ownBlock->(v'.ownBlock=v.ownBlock\/v'.ownBlock=some w.heap.size)->K (a.put o.dst v') w'):o.wp P a w K Q:=by
 obtain⟨v',w',hrun,h2,h3,h4⟩:=zjs S C w o.type hown hr h63 hbytes hbase;unfold Oper.wp execOp;simp only[ho,resolve,invoke,builtin,Sem.run_bind,Sem.run_pure,Result.andThen_ok,List.map_toArray,List.map_cons,List.map_nil,hs,hx,hrun];exact h v' w' h2 h3 h4
theorem zk{ops:Array Oper}{rest:List Oper}{o:Oper}{a:Act}{Q:Exit->Act->World->Prop}(S:SlT P t e sz bytes)(C:Codec enc sz)(w:World)(hgd:o.guard=none)(s x:Operand)
 (ho:o.op= .call {callee:= .builtin .append,args:=#[s,x],argTypes:=#[t,t]}) {base B:Nat} {v u:Value} {xs ys:List α} (hs:a.eval s=v) (hx:a.eval x=u) (hown:Own w base e enc sz v xs) (hr:Rd w B enc sz u ys)
 (h63:xs.length+ys.length<=maxLen) (hbytes:(xs.length+ys.length)*bytes<=140737488355328) (hbase:base<=w.heap.size)
 (h:∀v' w',Own w' base e enc sz v' (xs++ys)->w.grownBy w' v.ownBlock->(v'.ownBlock=v.ownBlock\/v'.ownBlock=some w.heap.size)->wpList P ops Q rest (a.put o.dst v') w'):wpList P ops Q (o::rest) a w:=
 wpList_plain hgd fun _ hK=>zgF S C w s x ho hs hx hown hr h63 hbytes hbase fun v' w' h2 h3 h4=>hK _ _ (h v' w' h2 h3 h4)
theorem zea{ops:Array Oper}{o:Oper}{a:Act}{K:Act->World->Prop}{Q:Exit->Act->World->Prop}{E:Prop}(S:SlT P t e sz bytes)(C:Codec enc sz)(w:World)(hgd:o.guard=none)(s x:Operand)
 (ho:o.op= .call {callee:= .builtin .append,args:=#[s,x],argTypes:=#[t,t]}) {base B:Nat} {v u:Value} {xs ys:List α} (hs:a.eval s=v) (hx:a.eval x=u) (hown:Own w base e enc sz v xs) (hr:Rd w B enc sz u ys)
 (h63:xs.length+ys.length<=maxLen) (hbytes:(xs.length+ys.length)*bytes<=140737488355328) (hbase:base<=w.heap.size)
 (h:∀v' w',Own w' base e enc sz v' (xs++ys)->w.grownBy w' v.ownBlock->(v'.ownBlock=v.ownBlock\/v'.ownBlock=some w.heap.size)->K (a.put o.dst v') w'):
 if Region.wanted o (yielded ops a.tmps)=true then Oper.wp P o a w K Q else E:=by
 have hw:Region.wanted o (yielded ops a.tmps)=true:=by simp[Region.wanted,hgd]
 rw[if_pos hw];exact zgF S C w s x ho hs hx hown hr h63 hbytes hbase h
theorem Below.appended{base:Nat}{w w' w0:World}{v:Value}{xs:List α}(hb:Below base w0 w)(hg:w.grownBy w' v.ownBlock)(hown:Own w base e enc sz v xs)(hbase:base<=w.heap.size):Below base w0 w':=
 hb.grown hg hbase (fun k e=>(hown.lt k e).1)
end
section
variable {P:Program} {α:Type} {enc:α->List Value} {sz bytes:Nat} {t e:TypeId}
theorem Own.at(C:Codec enc sz){w:World}{base:Nat}{p:Option Addr}{n cap:Nat}{xs:List α}(h:Own w base e enc sz (.slice p n cap) xs){k:Nat}{x:α}(hx:xs[k]? =some x):
 ∃g,p=some ⟨g,0,none⟩/\n=xs.length/\base<=g/\g<w.heap.size/\(∀j u,(enc x)[j]? =some u->w.cell? ⟨g,k*sz+j,none⟩=some u)/\∀j,w.frozen? ⟨g,j,none⟩=false:=by
 have hlt:=h.lt;have hk:=(yi.1 hx).1;have h':=h;obtain⟨hl,h0⟩:=h
 rcases h0 with⟨hv,hn⟩|⟨g,cap',cur,hv,hg,hh,hnc,hcm,hcs,ht⟩
 ·omega
 ·simp only[Value.slice.injEq]at hv;obtain⟨rfl,rfl,rfl⟩:=hv;refine⟨g,rfl,rfl,hg,(hlt g rfl).2,fun j u hu=> ?_,fun j=>World.ownsRow.frozenAt h' j⟩
  have hj:j<sz:=by rw[<-C.len x];exact(yi.1 hu).1
  have h1:=zdo C xs k x hx j hj;rw[hu]at h1
  have hb:k*sz+j<xs.length*sz:=by
   have:=(yi.1 h1).1;rw[zm C]at this;exact this
  rw[World.ownsRow.cellAt h' _ hb,h1]
theorem zgW(C:Codec enc sz):∀(xs:List α) (k j:Nat) (x y:α) (u:Value),xs[k]? =some x->j<sz->(enc x).set j u=enc y->(cellsOf enc xs).set (k*sz+j) u=cellsOf enc (xs.set k y)
 |[],k,j,x,y,u,h,_,_=>by simp at h
 | a :: xs, 0, j, x, y, u, h, hj, hy => by
   simp only[List.getElem?_cons_zero,Option.some.injEq]at h;subst h;simp only[cellsOf,yaB,Nat.zero_mul,yal,List.set_cons_zero];rw[List.set_append_left _ _ (by rw[C.len];exact hj),hy]
 | a :: xs, k + 1, j, x, y, u, h, hj, hy => by
   have ih:=zgW C xs k j x y u (by simpa using h) hj hy
   simp only[cellsOf,yaB,List.set_cons_succ]at ih⊢;rw[List.set_append_right _ _ (by rw[C.len,yag];omega),C.len,<-ih]
   congr 2
   rw[yag];omega
theorem Own.storedAt(C:Codec enc sz){w:World}{base:Nat}{g n cap:Nat}{xs:List α}(h:Own w base e enc sz (.slice (some ⟨g,0,none⟩) n cap) xs){k j:Nat}{x y:α}{u:Value}(hx:xs[k]? =some x)(hj:j<sz)(hy:(enc x).set j u=enc y):
 Own (w.setCell ⟨g,k*sz+j,none⟩ u) base e enc sz (.slice (some ⟨g,0,none⟩) n cap) (xs.set k y)/\w.grownBy (w.setCell ⟨g,k*sz+j,none⟩ u) (some g):=by
 have hn:n=xs.length:=by
  obtain⟨_,_,hn,_⟩:=Own.at C h hx;exact hn
 subst hn;have h1:=World.ownsRow.stored h (k*sz+j) u;rw[zgW C xs k j x y u hx hj hy]at h1;unfold Own;rw[List.length_set];exact h1
theorem Rd.take{w:World}{B:Nat}{a:Option Addr}{n cap:Nat}{xs:List α}(h:Rd w B enc sz (.slice a n cap) xs)(m:Nat)(hm:m<=n):Rd w B enc sz (.slice a m cap) (xs.take m):=by
 obtain⟨p,c,hv,h1,h2,h3,h4⟩:=h;simp only[Value.slice.injEq]at hv;obtain⟨rfl,rfl,rfl⟩:=hv;refine⟨a,cap,by rw[yz,Nat.min_eq_left hm],by rw[yz];omega,h2,h3,fun ad ha h0=> ?_⟩
 rw[yz]at h0;obtain⟨b,o,e1,hb,hr⟩:=h4 ad ha (by omega)
 exact⟨b,o,e1,hb,hr.take m⟩
end
end
section
open Go Go.RowKit Go.ChangeShapes Go.WideShapes Go.Deep
theorem zbD{w:World}{a:Addr}{v:Value}(h:w.cell? a=some v):a.spot=none/\a.block<w.heap.size:=by
 unfold World.cell? at h
 split at h
 ·rename_i c _ _ hb;refine⟨?_,(yl.1 hb).1⟩
  split at h
  ·cases h
  ·rename_i hs;simpa using hs
 ·cases h
theorem zfp{α:Type}{C:Nat->α->Prop}:∀n:Nat,(∀i,i<n->∃e:α,C i e)->∃l:List α,l.length=n/\∀i e,l[i]? =some e->C i e
 |0,_=>⟨[],rfl,fun i e h=>by simp at h⟩
 | n + 1, h => by
   obtain⟨l,h1,h2⟩:=zfp n (fun i hi=>h i (by omega))
   obtain⟨e,he⟩:=h n (by omega)
   refine⟨l++[e],by simp[h1],fun i x hx=> ?_⟩
   by_cases hi:i<n
   ·rw[List.getElem?_append_left (by omega)]at hx
    exact h2 i x hx
   ·have:i=n:=by
     have:=(yi.1 hx).1;simp at this;omega
    subst this;rw[<-h1,List.getElem?_append_right (yd _)]at hx;simp at hx;subst hx;exact he
section
variable {H:Type} {E:TypeId×Value->H} {P:Program} {w:World} {base:Nat} {spare:Nat->Bool} {held:Bool} {α:Type} {enc:α->List Value} {sz:Nat}
theorem zeY{t e:TypeId}(ht:P.underlying t=some (.slice e))(hC:P.cellsOf e=sz)(C:Codec enc sz){Q:α->DataW H->Prop}{fuel:Nat}{cs:List Value}{x:DataW H×List MemPlace}
 (h:DataW.trod E P w base spare held fuel t cs=some x)
 (helem:∀n,n<fuel->∀cs y,DataW.trod E P w base spare held n e cs=some y->∃a:α,cs=enc a/\Q a y.1):
 ∃ p n cap, ∃ xs : List α, cs = [.slice p n cap] /\ Rd w w.heap.size enc sz (.slice p n cap) xs /\
   ((xs=[]/\x.1= .nil)\/∃es sp,x.1= .slice es sp/\es.length=xs.length/\∀(i:Nat) (a:α),xs[i]? =some a->∃d,es[i]? =some d/\Q a d):=by
 rcases DataW.trod_slice ht h with⟨rfl,rfl⟩|⟨a,len,cap,elems,rest,n,rfl,rfl,rfl,hb,hl,hm,hlen,hel,_,_⟩
 ·exact⟨none,0,0,[],rfl,Rd.nil _ _,.inl ⟨rfl,rfl⟩⟩
 ·have h1:∀i,i<len->∃x:α,w.cells? base (a.add (i*sz)) sz=some (enc x)/\∃d,elems[i]? =some d/\Q x d.1:=by
   intro i hi;have h2:=hel i hi;rw[hC]at h2;obtain⟨y,hy⟩:∃y,elems[i]? =some y:=⟨_,yf (by omega)⟩
   rw[hy]at h2;cases hc:w.cells? base (a.add (i*sz)) sz with
   |none=>rw[hc]at h2;cases h2
   | some cs' =>
     rw[hc]at h2;obtain⟨x,rfl,hq⟩:=helem n (Nat.lt_succ_self _) cs' y h2;exact⟨x,rfl,y,hy,hq⟩
  obtain⟨xs,hxl,hxs⟩:=zfp len h1;have hpos:=C.pos;refine⟨some a,len,cap,xs,rfl,⟨some a,cap,by rw[hxl],by omega,hm,by simp,fun a' ha h0=> ?_⟩,.inr ⟨elems.map (·.1),rest.map (·.1),rfl,by simp[hxl,hlen],fun i x hx=> ?_⟩⟩
  ·cases ha;have hcell:∀i x,xs[i]? =some x->∀j,j<sz->w.cell? ((a.add (i*sz)).add j)=(enc x)[j]? :=fun i x hx=>(World.cells?_some (hxs i x hx).1).2.2
   obtain⟨x0,hx0⟩:∃x0,xs[0]? =some x0:=⟨_,yf h0⟩;have h00:=hcell 0 x0 hx0 0 hpos;rw[yf (by rw[C.len];exact hpos)]at h00
   obtain⟨hs,hbl⟩:=zbD h00;obtain⟨b,o,sp⟩:=a;have e0:((⟨b,o,sp⟩:Addr).add (0*sz)).add 0=⟨b,o,sp⟩:=by simp[Addr.add]
   rw[e0]at hs hbl;dsimp only at hs hbl;subst hs;refine⟨b,o,rfl,hbl,fun i x hx j u hu=> ?_⟩
   have hj:j<sz:=by rw[<-C.len x];exact(yi.1 hu).1
   have:=hcell i x hx j hj;rw[zbl,zbl,hu]at this;exact this
  ·obtain⟨_,d,hd,hq⟩:=hxs i x hx;exact⟨d.1,by rw[yG,hd];rfl,hq⟩
theorem zoy{t:TypeId}{f0 f1:Field}{fuel:Nat}{cs:List Value}{x:DataW H×List MemPlace}(ht:P.underlying t=some (.struct #[f0,f1]))(h:DataW.trod E P w base spare held fuel t cs=some x):
 ∃y0 y1 n,fuel=n+1/\x.1= .agg [y0.1,y1.1]/\cs.length=P.cellsOf t/\DataW.trod E P w base spare held n f0.type ((cs.drop f0.offset).take (P.cellsOf f0.type))=some y0/\DataW.trod E P w base spare held n f1.type ((cs.drop f1.offset).take (P.cellsOf f1.type))=some y1:=by
 obtain⟨xs,n,hfu,rfl,hl,hlen,hf⟩:=DataW.trod_struct ht h
 match xs,hlen with
 |[y0,y1],_=>exact⟨y0,y1,n,hfu,by simp,hl,by simpa using hf 0 f0 rfl,by simpa using hf 1 f1 rfl⟩
theorem zoz{t:TypeId}{f0 f1 f2 f3 f4:Field}{fuel:Nat}{cs:List Value}{x:DataW H×List MemPlace}(ht:P.underlying t=some (.struct #[f0,f1,f2,f3,f4]))(h:DataW.trod E P w base spare held fuel t cs=some x):
 ∃y0 y1 y2 y3 y4 n,fuel=n+1/\x.1= .agg [y0.1,y1.1,y2.1,y3.1,y4.1]/\cs.length=P.cellsOf t/\DataW.trod E P w base spare held n f0.type ((cs.drop f0.offset).take (P.cellsOf f0.type))=some y0/\DataW.trod E P w base spare held n f1.type ((cs.drop f1.offset).take (P.cellsOf f1.type))=some y1/\DataW.trod E P w base spare held n f2.type ((cs.drop f2.offset).take (P.cellsOf f2.type))=some y2/\DataW.trod E P w base spare held n f3.type ((cs.drop f3.offset).take (P.cellsOf f3.type))=some y3/\DataW.trod E P w base spare held n f4.type ((cs.drop f4.offset).take (P.cellsOf f4.type))=some y4:=by
 obtain⟨xs,n,hfu,rfl,hl,hlen,hf⟩:=DataW.trod_struct ht h
 match xs,hlen with
 |[y0,y1,y2,y3,y4],_=>exact⟨y0,y1,y2,y3,y4,n,hfu,by simp,hl,by simpa using hf 0 f0 rfl,by simpa using hf 1 f1 rfl,by simpa using hf 2 f2 rfl,by simpa using hf 3 f3 rfl,by simpa using hf 4 f4 rfl⟩
theorem zbV{t e:TypeId}(ht:P.underlying t=some (.slice e)){es sp:List (DataW H)}{R:Nat}(h:∀n∈(DataW.slice es sp).weights P t,n<=R):es.length*P.bytesOf e<=R/\∀d∈es,∀n∈d.weights P e,n<=R:=by
 simp only[DataW.weights,ht,yA,yT]at h;refine⟨?_,fun d hd n hn=>h n (.inr (.inl ?_))⟩
 ·have:=h _ (.inl rfl);rw[yag]at this;omega
 ·clear h
  induction es with
  |nil=>cases hd
  | cons d' es ih =>
    rw[DataW.weightsAll,yT]
    rcases yA.1 hd with rfl|hd
    ·exact .inl hn
    ·exact .inr (ih hd)
theorem zbf{t:TypeId}{fs:Array Field}(ht:P.underlying t=some (.struct fs)){ds:List (DataW H)}{R:Nat}(h:∀n∈(DataW.agg ds).weights P t,n<=R){i:Nat}{f:Field}{d:DataW H}(hf:fs[i]? =some f)(hd:ds[i]? =some d):
 ∀n∈d.weights P f.type,n<=R:=by
 intro n hn;refine h n ?_;simp only[DataW.weights,ht];exact DataW.weights_mem_each (j:=i) (t:=f.type) (d:=d) (by simp[yG,hf]) hd n hn
end
inductive JV where
 |mk (k n:Int) (s:ByteArray) (l:List JV) (m:List (ByteArray×JV))
namespace JV
def k:JV->Int| .mk k _ _ _ _=>k
def n:JV->Int| .mk _ n _ _ _=>n
def s:JV->ByteArray| .mk _ _ s _ _=>s
def l:JV->List JV| .mk _ _ _ l _=>l
def m:JV->List (ByteArray×JV)| .mk _ _ _ _ m=>m
theorem lt_l{k n:Int}{s:ByteArray}{l:List JV}{m:List (ByteArray×JV)}{i:Nat}{x:JV}(h:l[i]? =some x):SizeOf.sizeOf x<SizeOf.sizeOf (JV.mk k n s l m):=by
 have:=List.sizeOf_lt_of_mem (ym h);simp only[JV.mk.sizeOf_spec];omega
theorem lt_m{k n:Int}{s:ByteArray}{l:List JV}{m:List (ByteArray×JV)}{i:Nat}{p:ByteArray×JV}(h:m[i]? =some p):SizeOf.sizeOf p.2<SizeOf.sizeOf (JV.mk k n s l m):=by
 have:=List.sizeOf_lt_of_mem (ym h);obtain⟨a,b⟩:=p;simp only[JV.mk.sizeOf_spec,Prod.mk.sizeOf_spec]at this⊢;omega
inductive Ok:JV->Prop
 |mk {k n:Int} {s:ByteArray} {l:List JV} {m:List (ByteArray×JV)} (hk:(Lit.int .i64 k).wf=true) (hn:(Lit.int .i64 n).wf=true) (hs:s.size<=140737488351232) (hl:l.length<=1759218604390) (hm:m.length<=1466015503658)
  (cl:∀(i:Nat) (x:JV),l[i]? =some x->Ok x) (cs:∀(i:Nat) (p:ByteArray×JV),m[i]? =some p->p.1.size<=140737488351232) (cm:∀(i:Nat) (p:ByteArray×JV),m[i]? =some p->Ok p.2):Ok (.mk k n s l m)
end JV
structure RV where
 k:Int
 n:Int
 s:ByteArray
 pl:Option Addr
 nl:Nat
 cl:Nat
 pm:Option Addr
 nm:Nat
 cm:Nat
abbrev RV.val(r:RV):Value:= .agg #[.int .i64 r.k,.int .i64 r.n,.string r.s,.slice r.pl r.nl r.cl,.slice r.pm r.nm r.cm]
def zbc(r:RV):List Value:=[.int .i64 r.k,.int .i64 r.n,.string r.s,.slice r.pl r.nl r.cl,.slice r.pm r.nm r.cm]
structure RM where
 name:ByteArray
 v:RV
abbrev RM.val(r:RM):Value:= .agg #[.string r.name,.int .i64 r.v.k,.int .i64 r.v.n,.string r.v.s,.slice r.v.pl r.v.nl r.v.cl,.slice r.v.pm r.v.nm r.v.cm]
def zl(r:RM):List Value:= .string r.name::zbc r.v
theorem zb8:Codec zbc 5:=⟨fun _=>rfl,fun x u hu=>by
 simp only[zbc,yA,y5,or_false]at hu
 rcases hu with rfl|rfl|rfl|rfl|rfl<;>rfl,by decide⟩
theorem codecM:Codec zl 6:=⟨fun _=>rfl,fun x u hu=>by
 simp only[zl,zbc,yA,y5,or_false]at hu
 rcases hu with rfl|rfl|rfl|rfl|rfl|rfl<;>rfl,by decide⟩
inductive TreeOf(w:World)(B:Nat):JV->RV->Prop
 |mk {r:RV} {l:List JV} {m:List (ByteArray×JV)} {rs:List RV} {rms:List RM} (hl:Rd w B zbc 5 (.slice r.pl r.nl r.cl) rs) (el:l.length=rs.length) (cl:∀(i:Nat) (t:JV) (q:RV),l[i]? =some t->rs[i]? =some q->TreeOf w B t q)
  (hm:Rd w B zl 6 (.slice r.pm r.nm r.cm) rms) (em:m.length=rms.length) (cn:∀(i:Nat) (p:ByteArray×JV) (q:RM),m[i]? =some p->rms[i]? =some q->p.1=q.name)
  (cm:∀(i:Nat) (p:ByteArray×JV) (q:RM),m[i]? =some p->rms[i]? =some q->TreeOf w B p.2 q.v):TreeOf w B (.mk r.k r.n r.s l m) r
theorem TreeOf.under{w w':World}{B B':Nat}{t:JV}{r:RV}(h:TreeOf w B t r)(hb:Below B w w')(hB:B<=B'):TreeOf w' B' t r:=by
 induction h with
 |mk hl el cl hm em cn cm ih1 ih2=>exact .mk (hl.below hb hB) el ih1 (hm.below hb hB) em cn ih2
theorem TreeOf.mono{w:World}{B B':Nat}{t:JV}{r:RV}(h:TreeOf w B t r)(hB:B<=B'):TreeOf w B' t r:=h.under (yh _ _) hB
theorem TreeOf.drewN{w:World}{B:Nat}{t:JV}{r:RV}(h:TreeOf w B t r)(n:Nat):TreeOf (w.drewN n) B t r:=h.under (bdn (yh _ _) n) (yd _)
theorem slV:SlT ye 22 25 5 80:=SlT.mk (z:= .agg #[.int .i64 0,.int .i64 0,.string ByteArray.empty,.slice none 0 0,.slice none 0 0]) Tryz.underlying22 (by kernel_rfl) rfl
theorem zhF:ye.cellsOf 25=5:=by kernel_rfl
theorem zne:ye.cellsOf 35=6:=by kernel_rfl
theorem zrA:ye.bytesOf 25=80:=by kernel_rfl
theorem zry:ye.bytesOf 35=96:=by kernel_rfl
#print axioms slV
section
variable {H:Type} {enc:TypeId×Value->H} {W:World} {base b0:Nat} {spare:Nat->Bool} {held:Bool}
theorem cel1:ye.cellsOf 2=1:=by kernel_rfl
theorem cel2:ye.cellsOf 3=1:=by kernel_rfl
theorem cel3:ye.cellsOf 9=1:=by kernel_rfl
theorem cel4:ye.cellsOf 22=1:=by kernel_rfl
theorem cel5:ye.cellsOf 23=1:=by kernel_rfl
theorem zeb{t:TypeId}{s:ByteArray}{R:Nat}(h:∀n∈(DataW.lit (H:=H) (.string s.data.toList)).weights ye t,n<=R):s.size<=R:=by
 have:=h s.data.toList.length (by simp[DataW.weights])
 simpa using this
theorem zki:∀(fuel:Nat) (cs:List Value) (x:DataW H×List MemPlace),DataW.trod enc ye W base spare held fuel 25 cs=some x->
 ∃r t,cs=zbc r/\TreeOf W W.heap.size t r/\((∀n∈x.1.weights ye 25,n<=140737488351232)->t.Ok):=by
 intro fuel
 induction fuel using Nat.strongRecOn with
 | ind fuel ih =>
   intro cs x h;obtain⟨y0,y1,y2,y3,y4,n,rfl,hx1,hlen,t0,t1,t2,t3,t4⟩:=zoz Tryz.underlying25 h;rw[zhF]at hlen
   obtain⟨c0,c1,c2,c3,c4,rfl⟩:∃c0 c1 c2 c3 c4,cs=[c0,c1,c2,c3,c4]:=by
    match cs,hlen with
    |[a,b,c,d,e],_=>exact⟨a,b,c,d,e,rfl⟩
   rw[hx1];dsimp only at t0 t1 t2 t3 t4;rw[cel2]at t0;rw[cel1]at t1;rw[cel3]at t2;rw[cel4]at t3;rw[cel5]at t4;simp only[yaY,yaJ,yI,yM]at t0 t1 t2 t3 t4;obtain⟨k,e0,f0,w0⟩:=DataW.trod_int Tryz.underlying3 t0;obtain⟨n',e1,f1,w1⟩:=DataW.trod_int Tryz.underlying2 t1;obtain⟨s,e2,f2,w2⟩:=DataW.trod_string Tryz.underlying9 t2;simp only[ybu.injEq,and_true]at e0 e1 e2;subst e0 e1 e2 f0 f1 f2
   obtain⟨pl,nl,cl,rs,e3,hr3,hd3⟩:=zeY (Q:=fun(r:RV) (d:DataW H)=>∃t,TreeOf W W.heap.size t r/\((∀n∈d.weights ye 25,n<=140737488351232)->t.Ok)) Tryz.underlying22 zhF zb8 t3
    (fun m hm cs y hy=>by
     obtain⟨r,t,h1,h2⟩:=ih m (by omega) cs y hy
     exact⟨r,h1,t,h2⟩)
   obtain⟨pm,nm,cm,rms,e4,hr4,hd4⟩:=zeY (Q:=fun(r:RM) (d:DataW H)=>∃t,TreeOf W W.heap.size t r.v/\((∀n∈d.weights ye 35,n<=140737488351232)->r.name.size<=140737488351232/\t.Ok)) Tryz.underlying23 zne codecM t4
    (fun m hm cs y hy=>by
     obtain⟨z0,z1,j,rfl,hy1,hlen,u0,u1⟩:=zoy Tryz.underlying35 hy;rw[zne]at hlen
     obtain⟨a0,a1,a2,a3,a4,a5,rfl⟩:∃a0 a1 a2 a3 a4 a5,cs=[a0,a1,a2,a3,a4,a5]:=by
      match cs,hlen with
      |[a,b,c,d,e,f],_=>exact⟨a,b,c,d,e,f,rfl⟩
     rw[hy1];dsimp only at u0 u1;rw[cel3]at u0;rw[zhF]at u1;simp only[yaY,yaJ,yI,yM]at u0 u1;obtain⟨nm,g0,g1,g2⟩:=DataW.trod_string Tryz.underlying9 u0;simp only[ybu.injEq,and_true]at g0;subst g0 g1;obtain⟨r,t,h1,h2,h3⟩:=ih j (by omega) _ _ u1
     refine⟨⟨nm,r⟩,by rw[h1];rfl,t,h2,fun hw=>⟨zeb (zbf Tryz.underlying35 hw (i:=0) rfl rfl),h3 (zbf Tryz.underlying35 hw (i:=1) rfl rfl)⟩⟩)
   simp only[ybu.injEq,and_true]at e3 e4;subst e3 e4
   have nl_eq:nl=rs.length:=by
    obtain⟨_,_,e,_⟩:=hr3;simp only[Value.slice.injEq]at e;exact e.2.1
   have nm_eq:nm=rms.length:=by
    obtain⟨_,_,e,_⟩:=hr4;simp only[Value.slice.injEq]at e;exact e.2.1
   have hL:∀i,i<rs.length->∃t:JV,∀q,rs[i]? =some q->TreeOf W W.heap.size t q/\((∀n∈y3.1.weights ye 22,n<=140737488351232)->t.Ok):=by
    intro i hi;obtain⟨q,hq⟩:∃q,rs[i]? =some q:=⟨_,yf hi⟩
    rcases hd3 with⟨rfl,_⟩|⟨es,sp,h1,h2,h3⟩
    ·simp at hi
    ·obtain⟨d,hd,t,ht1,ht2⟩:=h3 i q hq;refine⟨t,fun q' hq'=> ?_⟩
     rw[hq]at hq';cases hq';refine⟨ht1,fun hw=>ht2 ?_⟩
     rw[h1]at hw;exact(zbV Tryz.underlying22 hw).2 d (ym hd)
   have hM:∀i,i<rms.length->∃p:ByteArray×JV,∀q,rms[i]? =some q->p.1=q.name/\TreeOf W W.heap.size p.2 q.v/\((∀n∈y4.1.weights ye 23,n<=140737488351232)->p.1.size<=140737488351232/\p.2.Ok):=by
    intro i hi;obtain⟨q,hq⟩:∃q,rms[i]? =some q:=⟨_,yf hi⟩
    rcases hd4 with⟨rfl,_⟩|⟨es,sp,h1,h2,h3⟩
    ·simp at hi
    ·obtain⟨d,hd,t,ht1,ht2⟩:=h3 i q hq;refine⟨(q.name,t),fun q' hq'=> ?_⟩
     rw[hq]at hq';cases hq';refine⟨rfl,ht1,fun hw=>ht2 ?_⟩
     rw[h1]at hw;exact(zbV Tryz.underlying23 hw).2 d (ym hd)
   obtain⟨ts,hts,hts2⟩:=zfp rs.length hL;obtain⟨ps,hps,hps2⟩:=zfp rms.length hM;refine⟨⟨k,n',s,pl,nl,cl,pm,nm,cm⟩,.mk k n' s ts ps,rfl,?_,fun hw=> ?_⟩
   ·exact TreeOf.mk (r:=⟨k,n',s,pl,nl,cl,pm,nm,cm⟩) hr3 hts (fun i t q h1 h2=>(hts2 i t h1 q h2).1) hr4 hps (fun i p q h1 h2=>(hps2 i p h1 q h2).1) (fun i p q h1 h2=>(hps2 i p h1 q h2).2.1)
   ·have v2:=zeb (zbf Tryz.underlying25 hw (i:=2) rfl rfl);have v3:∀n∈y3.1.weights ye 22,n<=140737488351232:=zbf Tryz.underlying25 hw (i:=3) rfl rfl;have v4:∀n∈y4.1.weights ye 23,n<=140737488351232:=zbf Tryz.underlying25 hw (i:=4) rfl rfl;refine .mk w0 w1 v2 ?_ ?_ (fun i x hx=> ?_) (fun i p hp=> ?_) (fun i p hp=> ?_)
    ·rcases hd3 with⟨rfl,_⟩|⟨es,sp,h1,h2,_⟩
     ·rw[hts];simp
     ·rw[h1]at v3;have:=(zbV Tryz.underlying22 v3).1;rw[zrA]at this;omega
    ·rcases hd4 with⟨rfl,_⟩|⟨es,sp,h1,h2,_⟩
     ·rw[hps];simp
     ·rw[h1]at v4;have:=(zbV Tryz.underlying23 v4).1;rw[zry]at this;omega
    ·obtain⟨q,hq⟩:∃q,rs[i]? =some q:=⟨_,yf (by have:=(yi.1 hx).1;omega)⟩
     exact(hts2 i x hx q hq).2 v3
    ·obtain⟨q,hq⟩:∃q,rms[i]? =some q:=⟨_,yf (by have:=(yi.1 hp).1;omega)⟩
     exact((hps2 i p hp q hq).2.2 v4).1
    ·obtain⟨q,hq⟩:∃q,rms[i]? =some q:=⟨_,yf (by have:=(yi.1 hp).1;omega)⟩
     exact((hps2 i p hp q hq).2.2 v4).2
theorem zfS{v:Value}{d:DataW H}{p:List MemPlace}(hval:Value.okWide ye W .any b0 25 v)(h:DataW.Trod enc ye W base spare held 25 v d p):
 ∃r t,v=RV.val r/\TreeOf W W.heap.size t r/\((∀n∈d.weights ye 25,n<=140737488351232)->t.Ok):=by
 obtain⟨cs,rfl,hsz⟩:=okWide_struct Tryz.underlying25 hval;obtain⟨fuel,hf⟩:=h;obtain⟨r,t,h1,h2,h3⟩:=zki fuel _ _ hf;refine⟨r,t,?_,h2,h3⟩
 have:cs=(zbc r).toArray:=by
  apply Array.ext';simpa[Value.cells]using h1
 rw[this]
 rfl
end
#print axioms zfS
end
section
open Go.RowKit Go.OpenShut
def Said(w:World)(p:Prop)(e:Ending)(w':World):Prop:=∃b:Bool,e= .returned (.bool b)/\(b=true↔p)/\Below w.heap.size w w'
theorem zM(w:World)(o o':Obj):Below w.heap.size w ((w.alloc o).alloc o'):=((yh _ _).alloc (yd _) _).alloc (by simp) _
theorem zdk(a b:ByteArray):(a.toList==b.toList)=decide (a=b):=by
 rw[ByteArray.toList_eq,ByteArray.toList_eq];obtain⟨⟨x⟩⟩:=a;obtain⟨⟨y⟩⟩:=b;by_cases h:x=y
 ·simp[h]
 ·simp[h]
theorem Said.yes{w:World}{p:Prop}{e:Ending}{w':World}(h:Said w p e w')(hp:p):e= .returned (.bool true)/\Below w.heap.size w w':=by
 obtain⟨b,rfl,hb,h⟩:=h;rw[hb.2 hp];exact⟨rfl,h⟩
theorem Said.no{w:World}{p:Prop}{e:Ending}{w':World}(h:Said w p e w')(hp:¬p):e= .returned (.bool false)/\Below w.heap.size w w':=by
 obtain⟨b,rfl,hb,h⟩:=h;cases b with
 |true=>exact absurd (hb.1 rfl) hp
 |false=>exact⟨rfl,h⟩
def VAt(W:World)(g:Nat)(r:RV):Prop:=W.heap[g]? =some (.cells #[.int .i64 r.k,.int .i64 r.n,.string r.s,.slice r.pl r.nl r.cl,.slice r.pm r.nm r.cm] 25 (0,0))
theorem VAt.cell{W:World}{g:Nat}{r:RV}(h:VAt W g r)(j:Nat){u:Value}(hu:(zbc r)[j]? =some u):W.cell? ⟨g,j,none⟩=some u:=by
 unfold VAt at h;rw[cell_of_row W g j _ _ _ h,<-yK];exact hu
theorem VAt.cells5{W:World}{g:Nat}{r:RV}(h:VAt W g r):W.cell? ⟨g,0,none⟩=some (.int .i64 r.k)/\W.cell? ⟨g,1,none⟩=some (.int .i64 r.n)/\W.cell? ⟨g,2,none⟩=some (.string r.s)/\W.cell? ⟨g,3,none⟩=some (.slice r.pl r.nl r.cl)/\W.cell? ⟨g,4,none⟩=some (.slice r.pm r.nm r.cm):=⟨h.cell 0 rfl,h.cell 1 rfl,h.cell 2 rfl,h.cell 3 rfl,h.cell 4 rfl⟩
theorem VAt.under{W W':World}{g B:Nat}{r:RV}(h:VAt W g r)(hb:Below B W W')(hg:g<B):VAt W' g r:=(hb.block g hg).trans h
theorem VAt.lt{W:World}{g:Nat}{r:RV}(h:VAt W g r):g<W.heap.size:=(yl.1 h).1
theorem zi{α:Type}{enc:α->List Value}{sz B n c:Nat}{p:Option Addr}{w:World}{xs:List α}(h:Rd w B enc sz (.slice p n c) xs):n=xs.length:=by
 obtain⟨_,_,e,_⟩:=h;simp only[Value.slice.injEq]at e;exact e.2.1
theorem zq{α:Type}{enc:α->List Value}{sz n cap k B:Nat}{w:World}{p:Option Addr}{xs:List α}(h:Rd w B enc sz (.slice p n cap) xs){x:α}(hx:xs[k]? =some x):
 ∃b o,p=some ⟨b,o,none⟩/\b<B/\∀j u,(enc x)[j]? =some u->w.cell? ⟨b,o+k*sz+j,none⟩=some u:=by
 obtain⟨p',cap',he,h1,h2,h3,h4⟩:=h;simp only[Value.slice.injEq]at he;obtain⟨rfl,rfl,rfl⟩:=he;have hk:=(yi.1 hx).1;cases p with
 |none=>have:=h3 rfl;omega
 | some a =>
   obtain⟨b,o,rfl,hb,hr⟩:=h4 a rfl (by omega)
   exact⟨b,o,rfl,hb,hr k x hx⟩
theorem zlT{α:Type}{l m:List α}{k:Nat}{x:α}(hx:l[k]? =some x)(hy:m[k]? =some x)(h:l.take k=m.take k):l.take (k+1)=m.take (k+1):=by
 rw[yD,yD,hx,hy,h]
theorem zhn{α:Type}{l m:List α}{k:Nat}{x y:α}(hx:l[k]? =some x)(hy:m[k]? =some y)(h:x≠y):l≠m:=by
 rintro rfl;rw[hx]at hy;exact h (by simpa using hy)
theorem zpN(r q:RV)(w:World)(p:Prop)(hp:p->r.k=q.k/\r.n=q.n/\r.s=q.s/\r.nl=q.nl/\r.nm=q.nm)(hno:¬(r.k=q.k/\r.n=q.n/\r.s=q.s/\r.nl=q.nl/\r.nm=q.nm)):
 Calls ye 56 #[r.val,q.val] w (Said w p):=by
 obtain⟨k1,n1,s1,pl1,nl1,cl1,pm1,nm1,cm1⟩:=r;obtain⟨k2,n2,s2,pl2,nl2,cl2,pm2,nm2,cm2⟩:=q;dsimp only[RV.val]at*;have hfin:∀W',Below w.heap.size w W'->Said w p (.returned (.bool false)) W':=fun W' hb=>⟨false,rfl,by simp;exact fun h=>hno (hp h),hb⟩
 have HF:=yc hfin;have hB:=zM w;clear hfin hp;by_cases a1:k1=k2
 ·subst a1;by_cases a2:n1=n2
  ·subst a2;by_cases a3:s1=s2
   ·subst a3;by_cases a4:nl1=nl2
    ·subst a4
     have a5:((nm1:Int) !=(nm2:Int))=true:=by
      rw[bne_iff_ne];intro h;exact hno ⟨rfl,rfl,rfl,rfl,by omega⟩
     clear hno
     go_enter Tryz.func56,Tryz.ntmps56
     go_wp2_with fail
     go_ret;exact HF.out _ (hB _ _)
    ·have a5:((nl1:Int) !=(nl2:Int))=true:=by rw[bne_iff_ne];omega
     clear hno a4
     go_enter Tryz.func56,Tryz.ntmps56
     go_wp2_with fail
     go_ret;exact HF.out _ (hB _ _)
   ·have a5:(s1.toList==s2.toList)=false:=by rw[zdk];simpa using a3
    clear hno a3
    go_enter Tryz.func56,Tryz.ntmps56
    go_wp2_with fail
    go_ret;exact HF.out _ (hB _ _)
  ·have a5:(n1 !=n2)=true:=by simpa using a2
   clear hno a2
   go_enter Tryz.func56,Tryz.ntmps56
   go_wp2_with fail
   go_ret;exact HF.out _ (hB _ _)
 ·have a5:(k1 !=k2)=true:=by simpa using a1
  clear hno a1
  go_enter Tryz.func56,Tryz.ntmps56
  go_wp2_with fail
  go_ret;exact HF.out _ (hB _ _)
theorem zob(N:Nat):∀(t u:JV) (r q:RV) (w:World),SizeOf.sizeOf t<=N->TreeOf w w.heap.size t r->TreeOf w w.heap.size u q->t.Ok->u.Ok->
 Calls ye 56 #[r.val,q.val] w (Said w (t=u)):=by
 induction N with
 |zero=>intro t u r q w hN;cases t;simp at hN
 | succ N ih =>
   intro t u r q w hN ht hu ot ou;cases ht with
   | @mk _ l1 m1 rs1 rms1 hl1 el1 hcl1 hm1 em1 hcn1 hcm1=>
   cases hu with
   | @mk _ l2 m2 rs2 rms2 hl2 el2 hcl2 hm2 em2 hcn2 hcm2=>
   have eL1:=zi hl1;have eL2:=zi hl2;have eM1:=zi hm1;have eM2:=zi hm2;by_cases hall:r.k=q.k/\r.n=q.n/\r.s=q.s/\r.nl=q.nl/\r.nm=q.nm
   ·obtain⟨k1,n1,s1,pl1,nl1,cl1,pm1,nm1,cm1⟩:=r;obtain⟨k2,n2,s2,pl2,nl2,cl2,pm2,nm2,cm2⟩:=q;dsimp only[RV.val]at*;obtain⟨rfl,rfl,rfl,rfl,rfl⟩:=hall;cases ot with
    |mk _ _ _ bl1 bm1 okl1 oks1 okm1=>
    cases ou with
    |mk _ _ _ bl2 bm2 okl2 oks2 okm2=>
    have HT:Hid (∀(k:Nat) tx ty x y,l1[k]? =some tx->l2[k]? =some ty->rs1[k]? =some x->rs2[k]? =some y->∀W,Below w.heap.size w W->Calls ye 56 #[x.val,y.val] W (Said W (tx=ty))):=
     fun k tx ty x y h1 h2 h3 h4 W hb=>ih tx ty x y W (by have:=JV.lt_l (k:=k1) (n:=n1) (s:=s1) (m:=m1) h1;omega) ((hcl1 k tx x h1 h3).under hb hb.size) ((hcl2 k ty y h2 h4).under hb hb.size) (okl1 k tx h1) (okl2 k ty h2)
    have HS:Hid (∀(k:Nat) tx ty x y,m1[k]? =some tx->m2[k]? =some ty->rms1[k]? =some x->rms2[k]? =some y->∀W,Below w.heap.size w W->Calls ye 56 #[x.v.val,y.v.val] W (Said W (tx.2=ty.2))):=
     fun k tx ty x y h1 h2 h3 h4 W hb=>ih tx.2 ty.2 x.v y.v W (by have:=JV.lt_m (k:=k1) (n:=n1) (s:=s1) (l:=l1) h1;omega) ((hcm1 k tx x h1 h3).under hb hb.size) ((hcm2 k ty y h2 h4).under hb hb.size) (okm1 k tx h1) (okm2 k ty h2)
    have HN1:=yc hcn1;have HN2:=yc hcn2;have HL1:=yc hl1;have HL2:=yc hl2;have HM1:=yc hm1;have HM2:=yc hm2;have hnl:nl1<=1759218604390:=by omega
    have hnm:nm1<=1466015503658:=by omega
    have E1:Hid (l1.length=nl1/\l2.length=nl1/\rs1.length=nl1/\rs2.length=nl1):=⟨by omega,by omega,by omega,by omega⟩
    have E2:Hid (m1.length=nm1/\m2.length=nm1/\rms1.length=nm1/\rms2.length=nm1):=⟨by omega,by omega,by omega,by omega⟩
    clear ih hcl1 hcl2 hcm1 hcm2 hcn1 hcn2 hl1 hl2 hm1 hm2 okl1 okl2 okm1 okm2 oks1 oks2 el1 el2 em1 em2 eL1 eL2 eM1 eM2 bl1 bl2 bm1 bm2 hN
    go_enter Tryz.func56,Tryz.ntmps56
    go_upto_region 1 with fail
    have hA0:VAt ((w.alloc (.cells #[.int .i64 k1,.int .i64 n1,.string s1,.slice pl1 nl1 cl1,.slice pm1 nm1 cm1] 25)).alloc (.cells #[.int .i64 k1,.int .i64 n1,.string s1,.slice pl2 nl1 cl2,.slice pm2 nm1 cm2] 25)) w.heap.size ⟨k1,n1,s1,pl1,nl1,cl1,pm1,nm1,cm1⟩:=zb (by simp) (za rfl)
    have hA1:VAt ((w.alloc (.cells #[.int .i64 k1,.int .i64 n1,.string s1,.slice pl1 nl1 cl1,.slice pm1 nm1 cm1] 25)).alloc (.cells #[.int .i64 k1,.int .i64 n1,.string s1,.slice pl2 nl1 cl2,.slice pm2 nm1 cm2] 25)) (w.heap.size+1) ⟨k1,n1,s1,pl2,nl1,cl2,pm2,nm1,cm2⟩:=za (by simp)
    have hB0:=zM w (.cells #[.int .i64 k1,.int .i64 n1,.string s1,.slice pl1 nl1 cl1,.slice pm1 nm1 cm1] 25) (.cells #[.int .i64 k1,.int .i64 n1,.string s1,.slice pl2 nl1 cl2,.slice pm2 nm1 cm2] 25);obtain⟨W0,hW0⟩:∃W0,((w.alloc (.cells #[.int .i64 k1,.int .i64 n1,.string s1,.slice pl1 nl1 cl1,.slice pm1 nm1 cm1] 25)).alloc (.cells #[.int .i64 k1,.int .i64 n1,.string s1,.slice pl2 nl1 cl2,.slice pm2 nm1 cm2] 25))=W0:=⟨_,rfl⟩;rw[hW0]at hA0 hA1 hB0⊢;clear hW0;have HA0:=yc hA0;have HA1:=yc hA1;obtain⟨p0,p1,p2,p3,p4⟩:=hA0.cells5;obtain⟨q0,q1,q2,q3,q4⟩:=hA1.cells5;have hz:=hA1.lt;clear hA0 hA1
    go_wp2_with fail
    go_loopw [5] (fun i wr=>∃k:Nat,k<=nl1/\i= .int .i64 k/\Hid (l1.take k=l2.take k)/\Below W0.heap.size W0 wr) (fun i _=>nl1-(intOf i).toNat)
    case atStart=>exact⟨0,yu _,rfl,rfl,yh _ _⟩
    case round=>
     obtain⟨k,hk,rfl,hsm,hbr⟩:=hrel;have hbw:Below w.heap.size w wr:=hB0.trans (hbr.mono (by omega))
     have p3:=zc hbr (by omega) p3
     have q3:=zc hbr (by omega) q3
     by_cases hlt:k<nl1
     ·obtain⟨tx,htx⟩:∃x,l1[k]? =some x:=⟨_,yf (by have:=E1.out;omega)⟩
      obtain⟨ty,hty⟩:∃x,l2[k]? =some x:=⟨_,yf (by have:=E1.out;omega)⟩
      obtain⟨x,hx⟩:∃x,rs1[k]? =some x:=⟨_,yf (by have:=E1.out;omega)⟩
      obtain⟨y,hy⟩:∃x,rs2[k]? =some x:=⟨_,yf (by have:=E1.out;omega)⟩
      obtain⟨b1,o1,rfl,hb1,hc1⟩:=zq (HL1.out.below hbw (yd _)) hx;obtain⟨b2,o2,rfl,hb2,hc2⟩:=zq (HL2.out.below hbw (yd _)) hy;have f0:=hc1 0 _ rfl;have f1:=hc1 1 _ rfl;have f2:=hc1 2 _ rfl;have f3:=hc1 3 _ rfl;have f4:=hc1 4 _ rfl;have g0:=hc2 0 _ rfl;have g1:=hc2 1 _ rfl;have g2:=hc2 2 _ rfl;have g3:=hc2 3 _ rfl;have g4:=hc2 4 _ rfl;rw[yw]at f0 g0;have HC:=yc (HT.out k tx ty x y htx hty hx hy);have hk0:(0:Int)<=(k:Int):=Int.natCast_nonneg _;have hk1:(k:Int)<(nl1:Int):=by omega
      have HTX:=yc htx;have HTY:=yc hty;clear hc1 hc2 htx hty hx hy;have hzr:W0.heap.size<=wr.heap.size:=hbr.size;have HBR:=yc hbr;by_cases hxy:tx=ty
      ·have HXY:=yc hxy;have HNX:=yc (zlT HTX.out (hxy▸HTY.out) hsm.out);clear hxy hbr
       go_wp2_with fail
       go_region_held3 (fun w'=>w'.cell? ⟨w.heap.size,3,none⟩=some (.slice (some ⟨b1,o1,none⟩) nl1 cl1)/\w'.cell? ⟨w.heap.size+1,3,none⟩=some (.slice (some ⟨b2,o2,none⟩) nl1 cl2)/\
        w'.cell? ⟨b1,o1+k*5,none⟩=some (.int .i64 x.k)/\w'.cell? ⟨b1,o1+k*5+1,none⟩=some (.int .i64 x.n)/\w'.cell? ⟨b1,o1+k*5+2,none⟩=some (.string x.s)/\w'.cell? ⟨b1,o1+k*5+3,none⟩=some (.slice x.pl x.nl x.cl)/\w'.cell? ⟨b1,o1+k*5+4,none⟩=some (.slice x.pm x.nm x.cm)/\
        w'.cell? ⟨b2,o2+k*5,none⟩=some (.int .i64 y.k)/\w'.cell? ⟨b2,o2+k*5+1,none⟩=some (.int .i64 y.n)/\w'.cell? ⟨b2,o2+k*5+2,none⟩=some (.string y.s)/\w'.cell? ⟨b2,o2+k*5+3,none⟩=some (.slice y.pl y.nl y.cl)/\w'.cell? ⟨b2,o2+k*5+4,none⟩=some (.slice y.pm y.nm y.cm))
        (first|go_keep|(go_split_ands;refine⟨?_,?_,?_,?_,?_,?_,?_,?_,?_,?_,?_,?_⟩<;>(rw[hb1'.cell (by simp;omega)];assumption)))
        ((go_at_call 56;refine(HC.out _ ?_).mono ?_;(repeat (first|exact hbw|apply ybv));intro e w1 hs1;obtain⟨rfl,hb1'⟩:=hs1.yes HXY.out))
       go_wp2_with fail
       go_roundw
       case rel=>exact⟨k+1,by omega,by go_num,HNX,HBR.out.drew.trans (hb1'.mono (by simp;omega))⟩
       case measure=>simp[intOf];omega
      ·have HXY:=yc hxy;have HNX:=yc (zhn HTX.out HTY.out hxy);clear hxy hbr
       go_wp2_with fail
       go_region_held3 (fun w'=>w'.cell? ⟨w.heap.size,3,none⟩=some (.slice (some ⟨b1,o1,none⟩) nl1 cl1)/\w'.cell? ⟨w.heap.size+1,3,none⟩=some (.slice (some ⟨b2,o2,none⟩) nl1 cl2)/\
        w'.cell? ⟨b1,o1+k*5,none⟩=some (.int .i64 x.k)/\w'.cell? ⟨b1,o1+k*5+1,none⟩=some (.int .i64 x.n)/\w'.cell? ⟨b1,o1+k*5+2,none⟩=some (.string x.s)/\w'.cell? ⟨b1,o1+k*5+3,none⟩=some (.slice x.pl x.nl x.cl)/\w'.cell? ⟨b1,o1+k*5+4,none⟩=some (.slice x.pm x.nm x.cm)/\
        w'.cell? ⟨b2,o2+k*5,none⟩=some (.int .i64 y.k)/\w'.cell? ⟨b2,o2+k*5+1,none⟩=some (.int .i64 y.n)/\w'.cell? ⟨b2,o2+k*5+2,none⟩=some (.string y.s)/\w'.cell? ⟨b2,o2+k*5+3,none⟩=some (.slice y.pl y.nl y.cl)/\w'.cell? ⟨b2,o2+k*5+4,none⟩=some (.slice y.pm y.nm y.cm))
        (first|go_keep|(go_split_ands;refine⟨?_,?_,?_,?_,?_,?_,?_,?_,?_,?_,?_,?_⟩<;>(rw[hb1'.cell (by simp;omega)];assumption)))
        ((go_at_call 56;refine(HC.out _ ?_).mono ?_;(repeat (first|exact hbw|apply ybv));intro e w1 hs1;obtain⟨rfl,hb1'⟩:=hs1.no HXY.out))
       go_wp2_with fail
       go_ret;exact⟨false,rfl,by simp;exact fun h=>absurd h HNX.out,hbw.drew.trans (hb1'.mono hbw.size)⟩
     ·obtain rfl:k=nl1:=by omega
      have hll:l1=l2:=by
       have h:=hsm.out;have h1:=E1.out;rw[yq (by omega),yq (by omega)]at h
       exact h
      subst hll;have hz1:W0.heap.size<=wr.heap.size:=hbr.size;have HB1:=yc hbr;have p4:=zc hbr (by omega) p4
      have q4:=zc hbr (by omega) q4
      clear HT HL1 HL2 E1 hsm hbr;obtain⟨wo,rfl⟩:∃wo:World,wo=wr:=⟨_,rfl⟩
      go_wp2_with fail
      clear p3 q3
      go_loopw [6] (fun i wq=>∃k:Nat,k<=nm1/\i= .int .i64 k/\Hid (m1.take k=m2.take k)/\Below wo.heap.size wo wq) (fun i _=>nm1-(intOf i).toNat)
      case atStart=>exact⟨0,yu _,rfl,rfl,yh _ _⟩
      case round=>
       obtain⟨wq,rfl⟩:∃wq:World,wq=wr:=⟨_,rfl⟩;obtain⟨k,hk,rfl,hsm,hbr⟩:=hrel;have hbw2:Below w.heap.size w wq:=hbw.trans (hbr.mono (by omega))
       have p4:=zc hbr (by omega) p4
       have q4:=zc hbr (by omega) q4
       by_cases hlt:k<nm1
       ·obtain⟨tx,htx⟩:∃x,m1[k]? =some x:=⟨_,yf (by have:=E2.out;omega)⟩
        obtain⟨ty,hty⟩:∃x,m2[k]? =some x:=⟨_,yf (by have:=E2.out;omega)⟩
        obtain⟨x,hx⟩:∃x,rms1[k]? =some x:=⟨_,yf (by have:=E2.out;omega)⟩
        obtain⟨y,hy⟩:∃x,rms2[k]? =some x:=⟨_,yf (by have:=E2.out;omega)⟩
        obtain⟨b1,o1,rfl,hb1,hc1⟩:=zq (HM1.out.below hbw2 (yd _)) hx;obtain⟨b2,o2,rfl,hb2,hc2⟩:=zq (HM2.out.below hbw2 (yd _)) hy;have f0:=hc1 0 _ rfl;have f1:=hc1 1 _ rfl;have f2:=hc1 2 _ rfl;have f3:=hc1 3 _ rfl;have f4:=hc1 4 _ rfl;have f5:=hc1 5 _ rfl;have g0:=hc2 0 _ rfl;have g1:=hc2 1 _ rfl;have g2:=hc2 2 _ rfl;have g3:=hc2 3 _ rfl;have g4:=hc2 4 _ rfl;have g5:=hc2 5 _ rfl;rw[yw]at f0 g0;have HC:=yc (HS.out k tx ty x y htx hty hx hy);have hk0:(0:Int)<=(k:Int):=Int.natCast_nonneg _;have hk1:(k:Int)<(nm1:Int):=by omega
        have HTX:=yc htx;have HTY:=yc hty;have en1:=HN1.out k tx x htx hx;have en2:=HN2.out k ty y hty hy;clear hc1 hc2 htx hty hx hy;have hzr:W0.heap.size<=wq.heap.size:=by have:=hbr.size;omega
        have hzq:wo.heap.size<=wq.heap.size:=hbr.size;have HBR:=yc hbr;by_cases hnm:x.name=y.name
        ·have hq:(x.name.toList==y.name.toList)=true:=by rw[zdk];simpa using hnm
         have hqn:(x.name.toList !=y.name.toList)=false:=by rw[bne,hq];rfl
         by_cases hxy:tx.2=ty.2
         ·have HXY:=yc hxy;have hxe:tx=ty:=Prod.ext (by rw[en1,en2];exact hnm) hxy
          have HNX:=yc (zlT HTX.out (hxe▸HTY.out) hsm.out);clear hxy hxe en1 en2 hbr hnm
          go_wp2_with fail
          go_region_held3 (fun w'=>w'.cell? ⟨w.heap.size,4,none⟩=some (.slice (some ⟨b1,o1,none⟩) nm1 cm1)/\w'.cell? ⟨w.heap.size+1,4,none⟩=some (.slice (some ⟨b2,o2,none⟩) nm1 cm2)/\
         w'.cell? ⟨b1,o1+k*6,none⟩=some (.string x.name)/\w'.cell? ⟨b1,o1+k*6+1,none⟩=some (.int .i64 x.v.k)/\w'.cell? ⟨b1,o1+k*6+2,none⟩=some (.int .i64 x.v.n)/\w'.cell? ⟨b1,o1+k*6+3,none⟩=some (.string x.v.s)/\w'.cell? ⟨b1,o1+k*6+4,none⟩=some (.slice x.v.pl x.v.nl x.v.cl)/\w'.cell? ⟨b1,o1+k*6+5,none⟩=some (.slice x.v.pm x.v.nm x.v.cm)/\
         w'.cell? ⟨b2,o2+k*6,none⟩=some (.string y.name)/\w'.cell? ⟨b2,o2+k*6+1,none⟩=some (.int .i64 y.v.k)/\w'.cell? ⟨b2,o2+k*6+2,none⟩=some (.int .i64 y.v.n)/\w'.cell? ⟨b2,o2+k*6+3,none⟩=some (.string y.v.s)/\w'.cell? ⟨b2,o2+k*6+4,none⟩=some (.slice y.v.pl y.v.nl y.v.cl)/\w'.cell? ⟨b2,o2+k*6+5,none⟩=some (.slice y.v.pm y.v.nm y.v.cm))
          (first|go_keep|(go_split_ands;refine⟨?_,?_,?_,?_,?_,?_,?_,?_,?_,?_,?_,?_,?_,?_⟩<;>(rw[hb1'.cell (by simp;omega)];assumption)))
          ((go_at_call 56;refine(HC.out _ ?_).mono ?_;(repeat (first|exact hbw2|apply ybv));intro e w1 hs1;obtain⟨rfl,hb1'⟩:=hs1.yes HXY.out))
          go_wp2_with fail
          go_roundw
          case rel=>exact⟨k+1,by omega,by go_num,HNX,HBR.out.drew.trans (hb1'.mono (by simp;omega))⟩
          case measure=>simp[intOf];omega
         ·have HXY:=yc hxy;have HNX:=yc (zhn HTX.out HTY.out (fun e=>hxy (by rw[e])))
          clear hxy en1 en2 hbr hnm
          go_wp2_with fail
          go_region_held3 (fun w'=>w'.cell? ⟨w.heap.size,4,none⟩=some (.slice (some ⟨b1,o1,none⟩) nm1 cm1)/\w'.cell? ⟨w.heap.size+1,4,none⟩=some (.slice (some ⟨b2,o2,none⟩) nm1 cm2)/\
         w'.cell? ⟨b1,o1+k*6,none⟩=some (.string x.name)/\w'.cell? ⟨b1,o1+k*6+1,none⟩=some (.int .i64 x.v.k)/\w'.cell? ⟨b1,o1+k*6+2,none⟩=some (.int .i64 x.v.n)/\w'.cell? ⟨b1,o1+k*6+3,none⟩=some (.string x.v.s)/\w'.cell? ⟨b1,o1+k*6+4,none⟩=some (.slice x.v.pl x.v.nl x.v.cl)/\w'.cell? ⟨b1,o1+k*6+5,none⟩=some (.slice x.v.pm x.v.nm x.v.cm)/\
         w'.cell? ⟨b2,o2+k*6,none⟩=some (.string y.name)/\w'.cell? ⟨b2,o2+k*6+1,none⟩=some (.int .i64 y.v.k)/\w'.cell? ⟨b2,o2+k*6+2,none⟩=some (.int .i64 y.v.n)/\w'.cell? ⟨b2,o2+k*6+3,none⟩=some (.string y.v.s)/\w'.cell? ⟨b2,o2+k*6+4,none⟩=some (.slice y.v.pl y.v.nl y.v.cl)/\w'.cell? ⟨b2,o2+k*6+5,none⟩=some (.slice y.v.pm y.v.nm y.v.cm))
          (first|go_keep|(go_split_ands;refine⟨?_,?_,?_,?_,?_,?_,?_,?_,?_,?_,?_,?_,?_,?_⟩<;>(rw[hb1'.cell (by simp;omega)];assumption)))
          ((go_at_call 56;refine(HC.out _ ?_).mono ?_;(repeat (first|exact hbw2|apply ybv));intro e w1 hs1;obtain⟨rfl,hb1'⟩:=hs1.no HXY.out))
          go_wp2_with fail
          go_ret;exact⟨false,rfl,by simp;exact fun h=>absurd h HNX.out,hbw2.drew.trans (hb1'.mono hbw2.size)⟩
        ·have hq:(x.name.toList==y.name.toList)=false:=by rw[zdk];simpa using hnm
         have hqn:(x.name.toList !=y.name.toList)=true:=by rw[bne,hq];rfl
         have HNX:=yc (zhn HTX.out HTY.out (fun e=>hnm (by rw[<-en1,<-en2,e])))
         clear hnm en1 en2 hbr
         go_wp2_with fail
         go_quiet (fail)
         go_wp2_with fail
         go_ret;exact⟨false,rfl,by simp;exact fun h=>absurd h HNX.out,bdn hbw2 _⟩
       ·obtain rfl:k=nm1:=by omega
        have hmm:m1=m2:=by
         have h:=hsm.out;have h1:=E2.out;rw[yq (by omega),yq (by omega)]at h
         exact h
        have HMM:=yc hmm;clear hmm
        go_wp2_with fail
        go_ret;exact⟨true,rfl,by rw[HMM.out];simp,hbw2⟩
   ·refine zpN r q w _ (fun h=> ?_) hall
    simp only[JV.mk.injEq]at h;obtain⟨h1,h2,h3,h4,h5⟩:=h;subst h4 h5;exact⟨h1,h2,h3,by omega,by omega⟩
def JV.mem:JV->List (ByteArray×JV)| .mk k _ _ _ m=>if k=6 then m else[]
def JV.place(t:JV)(name:ByteArray):Option Nat:=t.mem.findIdx? (fun p=>decide (p.1=name))
def JV.get(t:JV)(name:ByteArray):Option JV:=(t.place name).bind fun i=>t.mem[i]?.map (·.2)
def JV.zero:JV:= .mk 0 0 ⟨#[]⟩ [] []
def RV.zero:RV:=⟨0,0,⟨#[]⟩,none,0,0,none,0,0⟩
theorem TreeOf.zero(w:World)(B:Nat):TreeOf w B JV.zero RV.zero:=
 TreeOf.mk (r:=RV.zero) (rs:=[]) (rms:=[]) (Rd.nil _ _) rfl (fun i t q h=>by simp at h) (Rd.nil _ _) rfl (fun i p q h=>by simp at h) (fun i p q h=>by simp at h)
def zbt(o:Option Nat):Int:=match o with
 |some i=>i
 |none=> -1
theorem zfk{α:Type}{p:α->Bool}{l:List α}{k:Nat}{x:α}(hx:l[k]? =some x)(hp:p x=true)(hno:∀(j:Nat) (y:α),j<k->l[j]? =some y->p y=false):l.findIdx? p=some k:=by
 rw[yW];obtain⟨h,e⟩:=yi.1 hx;refine⟨h,by rw[e];exact hp,fun j hj=> ?_⟩
 have:=hno j _ hj (yf (by omega))
 simpa using this
theorem zeL{α:Type}{p:α->Bool}{l:List α}(hno:∀(j:Nat) (y:α),l[j]? =some y->p y=false):l.findIdx? p=none:=by
 rw[List.findIdx?_eq_none_iff];intro x hx;obtain⟨i,hi⟩:=List.getElem?_of_mem hx;exact hno i x hi
theorem zcD{k:IntKind}{a b:Int}(h:a=b):Ending.returned (.int k a)= .returned (.int k b):=by rw[h]
theorem zn4(t:JV)(r:RV)(name:ByteArray)(w:World)(ht:TreeOf w w.heap.size t r)(ot:t.Ok):
 Calls ye 110 #[r.val,.string name] w fun e w'=>e= .returned (.int .i64 (zbt (t.place name)))/\Below w.heap.size w w':=by
 cases ht with
 | @mk _ l m rs rms hl el hcl hm em hcn hcm=>
 obtain⟨k,n,s,pl,nl,cl,pm,nm,cm⟩:=r;cases ot with
 |mk _ _ _ bl bm okl oks okm=>
 dsimp only[RV.val]at*;have eM:=zi hm;have hA0:VAt (w.alloc (.cells #[.int .i64 k,.int .i64 n,.string s,.slice pl nl cl,.slice pm nm cm] 25)) w.heap.size ⟨k,n,s,pl,nl,cl,pm,nm,cm⟩:=za rfl;have hB0:Below w.heap.size w (w.alloc (.cells #[.int .i64 k,.int .i64 n,.string s,.slice pl nl cl,.slice pm nm cm] 25)):=(yh _ _).alloc (yd _) _;have HN:=yc hcn;have HM:=yc hm;have E2:Hid (m.length=nm/\rms.length=nm):=⟨by omega,by omega⟩
 have hnm:nm<=1466015503658:=by omega
 clear hcl hcn hcm hl hm okl oks okm el em bl bm eM;by_cases hk:k=6
 ·subst hk;have hpl:(JV.mk 6 n s l m).place name=m.findIdx? (fun p=>decide (p.1=name)):=by simp[JV.place,JV.mem]
  rw[hpl];clear hpl
  go_enter Tryz.func110,Tryz.ntmps110
  go_wp2_with fail
  go_loopw [13] (fun i wr=>∃k:Nat,k<=nm/\i= .int .i64 k/\Hid (∀j y,j<k->m[j]? =some y->decide (y.1=name)=false)/\Below w.heap.size w wr) (fun i _=>nm-(intOf i).toNat)
  case atStart=>exact⟨0,yu _,rfl,fun j y h=>by omega,hB0⟩
  case round=>
   obtain⟨k,hk,rfl,hno,hbr⟩:=hrel;have HNO:=yc hno.out;clear hno;by_cases hlt:k<nm
   ·obtain⟨tx,htx⟩:∃x,m[k]? =some x:=⟨_,yf (by have:=E2.out;omega)⟩
    obtain⟨x,hx⟩:∃x,rms[k]? =some x:=⟨_,yf (by have:=E2.out;omega)⟩
    obtain⟨b1,o1,rfl,hb1,hc1⟩:=zq (HM.out.below hbr (yd _)) hx;have f0:=hc1 0 _ rfl;have f1:=hc1 1 _ rfl;have f2:=hc1 2 _ rfl;have f3:=hc1 3 _ rfl;have f4:=hc1 4 _ rfl;have f5:=hc1 5 _ rfl;rw[yw]at f0;have en:=HN.out k tx x htx hx;have HTX:=yc htx;have hz:=hbr.size;have HBR:=yc hbr;clear hc1 htx hx hbr;by_cases hnx:x.name=name
    ·have hq:(x.name.toList==name.toList)=true:=by rw[zdk];simpa using hnx
     have HF:=yc (zfk (p:=fun p:ByteArray×JV=>decide (p.1=name)) HTX.out (by rw[en];simpa using hnx) HNO.out)
     clear hnx en
     go_wp2_with fail
     go_ret;exact⟨zcD (by rw[HF.out];rfl),HBR.out.alloc hz _⟩
    ·have hq:(x.name.toList==name.toList)=false:=by rw[zdk];simpa using hnx
     have HNX:Hid (∀j y,j<k+1->m[j]? =some y->decide (y.1=name)=false):=by
      intro j y hj hy;by_cases e:j=k
      ·subst e;have h:=HTX.out;rw[hy]at h;cases h;rw[en];simpa using hnx
      ·exact HNO.out j y (by omega) hy
     clear hnx en
     go_wp2_with fail
     go_roundw
     case rel=>exact⟨k+1,by omega,by go_num,HNX,HBR.out.alloc hz _⟩
     case measure=>simp[intOf];omega
   ·obtain rfl:k=nm:=by omega
    have HF:=yc (zeL (p:=fun p:ByteArray×JV=>decide (p.1=name)) (l:=m) (fun j y hy=>HNO.out j y (by have:=(yi.1 hy).1;have:=E2.out;omega) hy))
    go_wp2_with fail
    go_ret;exact⟨zcD (by rw[HF.out];rfl),hbr⟩
 ·have hpl:zbt ((JV.mk k n s l m).place name)= -1:=by simp[JV.place,JV.mem,hk,zbt]
  have HP:=yc hpl;have hq:(k !=6)=true:=by simpa using hk
  clear hpl hk
  go_enter Tryz.func110,Tryz.ntmps110
  go_wp2_with fail
  go_ret;exact⟨zcD HP.out.symm,hB0⟩
theorem getM{m:List (ByteArray×JV)}{name:ByteArray}{i:Nat}(h:m.findIdx? (fun p=>decide (p.1=name))=some i):∃p,m[i]? =some p/\p.1=name:=by
 rw[yW]at h;obtain⟨h1,h2,_⟩:=h;exact⟨m[i],yf h1,by simpa using h2⟩
theorem zi3{t:JV}{name:ByteArray}{i:Nat}(h:t.place name=some i):∃p,t.m[i]? =some p/\t.k=6/\t.get name=some p.2:=by
 obtain⟨k,n,s,l,m⟩:=t;have hp:=h;by_cases hk:k=6
 ·subst hk;have e:(JV.mk 6 n s l m).mem=m:=rfl;unfold JV.place at h;rw[e]at h;obtain⟨p,h1,h2⟩:=getM h;refine⟨p,h1,rfl,?_⟩;unfold JV.get;rw[hp,e];simp[h1]
 ·have e:(JV.mk k n s l m).mem=[]:=by simp[JV.mem,hk]
  unfold JV.place at h;rw[e]at h;simp at h
theorem VAt.stored{W:World}{g:Nat}{r:RV}(h:VAt W g r)(q:RV):
 VAt (((((W.setCell ⟨g,0,none⟩ (.int .i64 q.k)).setCell ⟨g,1,none⟩ (.int .i64 q.n)).setCell ⟨g,2,none⟩ (.string q.s)).setCell ⟨g,3,none⟩ (.slice q.pl q.nl q.cl)).setCell ⟨g,4,none⟩ (.slice q.pm q.nm q.cm)) g q:=by
 unfold VAt at h⊢;simp[World.setCell,Array.getElem?_modify,h]
theorem VAt.frozen{W:World}{g:Nat}{r:RV}(h:VAt W g r)(j:Nat):W.frozen? ⟨g,j,none⟩=false:=by
 unfold VAt at h;simp[World.frozen?,h]
theorem Below.stored{B g:Nat}{w W:World}(h:Below B w W)(hg:B<=g)(q:RV):
 Below B w (((((W.setCell ⟨g,0,none⟩ (.int .i64 q.k)).setCell ⟨g,1,none⟩ (.int .i64 q.n)).setCell ⟨g,2,none⟩ (.string q.s)).setCell ⟨g,3,none⟩ (.slice q.pl q.nl q.cl)).setCell ⟨g,4,none⟩ (.slice q.pm q.nm q.cm)):=
 ((((h.setCell (p:=⟨g,0,none⟩) hg _).setCell (p:=⟨g,1,none⟩) hg _).setCell (p:=⟨g,2,none⟩) hg _).setCell (p:=⟨g,3,none⟩) hg _).setCell (p:=⟨g,4,none⟩) hg _
end
section
open Go Go.RowKit
def zy(l:List UInt8):ByteArray:=⟨l.toArray⟩
theorem zbK(l:List UInt8):(zy l).size=l.length:=by simp[zy,ByteArray.size]
theorem zdA(s:ByteArray):s.data.toList.length=s.size:=yH
structure Tok where
 kind:Int
 n:Int
 s:ByteArray
 pos:Nat
def zhK(t:Tok):List Value:=[.int .i64 t.kind,.int .i64 t.n,.string t.s,.int .i64 t.pos]
end
section
open Go.RowKit Go.OpenShut
def zhx(w:World)(e:Ending)(w':World):Prop:=∃b:Bool,e= .returned (.bool b)/\Below w.heap.size w w'
end
end Go.Proofs.YtemofofnkchmeaaGreatDoor
