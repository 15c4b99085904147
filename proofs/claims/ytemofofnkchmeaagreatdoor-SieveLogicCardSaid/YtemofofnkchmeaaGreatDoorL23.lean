import Derived.Test.YtemofofnkchmeaaGreatDoorL22
import Derived.Maps.OwnIn
import Derived.RangeFuncBox
import Derived.Stop.RegionWithIn
import Derived.Test.YtemofofnkchmeaaGreatDoorL12
import Derived.Test.YtemofofnkchmeaaGreatDoorL11
import Derived.BigQuiet
import Derived.Test.YtemofofnkchmeaaGreatDoorL20
import Derived.Test.YtemofofnkchmeaaGreatDoorL18
import Derived.Test.YtemofofnkchmeaaGreatDoorL21
set_option linter.unusedSimpArgs false
set_option linter.unusedVariables false
set_option maxRecDepth 200000
set_option maxHeartbeats 8000000
namespace Go.Proofs.YtemofofnkchmeaaGreatDoor
open _root_.Array renaming getElem?_eq_some_iff->yl
open _root_.Go.RowKit.Below renaming refl->yh
open _root_.Go.Lib renaming hid->yc
open _root_.List renaming any_eq_true->ybt,eq_nil_of_length_eq_zero->yx,getElem?_eq_getElem->yf,getElem?_eq_some_iff->yi,getElem?_map->yG,length->ybq,length_append->yp,length_map->yy,map_append->yao,map_cons->yaF,map_map->yak,map_reverse->yaN,map_singleton->yaQ,mem_cons->yA,mem_cons_of_mem->yap,mem_map->y8,mem_of_getElem?->ym,reverse_reverse->yaz
open _root_.Nat renaming add_zero->yw,le_refl->yd,le_trans->yg,zero_le->yu
open _root_.Go.Proofs.Tryz renaming prog->ye
section
open Go.RowKit Go.Shelf
attribute [local go_sem] Oper.semAt_some
def zcW(sq:Int)(es:List En):List Pa:=es.foldl (zeA sq) []
theorem zgB(sq:Int)(es:List En)(e:En):zcW sq (es++[e])=zeA sq (zcW sq es) e:=by simp[zcW]
def SinI(w:World)(sq:Int)(v0:Value)(pre:List (Nat×OkE))(W:World):Prop:=
 (∃Q f v,SQ w.heap.size (w.heap.size+1) pre.length Q f v (w.heap.size+1+1+1) (Q.map (·.1)) W/\Q.map (·.2)=zcW sq (pre.map (·.2.1)))/\
 Boxed W w.heap.size 2 (.int .i64 sq)/\Boxed W (w.heap.size+1+1) 138 (.map (some (w.heap.size+1)))/\Boxed W (w.heap.size+1+1+1+1) 38 v0/\Below w.heap.size w W
theorem SinI.own(w:World)(sq:Int)(v0:Value)(B:Nat)(hB:w.heap.size+1<B):OwnFrom B (SinI w sq v0):=by
 rintro pre X Y row ⟨⟨Q,f,v,h1,h2⟩,b3,b5,bS,hb⟩ hg hr;refine⟨⟨Q,f,v,h1.kept hg (fun r e=>⟨by have:=(hr r e).1;omega,(hr r e).2⟩),h2⟩,boxed_own _ _ (fun(_:Unit)=>_) () X Y row b3 hg (fun r e=>(hr r e).2),boxed_own _ _ (fun(_:Unit)=>_) () X Y row b5 hg (fun r e=>(hr r e).2),boxed_own _ _ (fun(_:Unit)=>_) () X Y row bS hg (fun r e=>(hr r e).2),?_⟩
 exact hb.grown hg hb.size (fun k e=>by have:=(hr k e).1;omega)
theorem SinI.next{w:World}{sq:Int}{v0:Value}{pre:List (Nat×OkE)}{x:Nat×OkE}{W W':World}(h:SinI w sq v0 pre W)(ht:Trn w.heap.size (w.heap.size+1) W W')
 (hs:∃Q f v,SQ w.heap.size (w.heap.size+1) (pre.length+1) Q f v (w.heap.size+1+1+1) (Q.map (·.1)) W'/\Q.map (·.2)=zeA sq (zcW sq (pre.map (·.2.1))) x.2.1) (B:Nat) (hB:w.heap.size+1<B):
 KeepsFrom B W W'/\Kq w.heap.size (w.heap.size+1+1+1+1) W W'/\SinI w sq v0 (pre++[x]) W':=by
 obtain⟨_,b3,b5,bS,hb⟩:=h;obtain⟨Q,f,v,h1,h2⟩:=hs;have hbS:=ht.boxed bS (by decide)
 refine⟨ht.from hB,⟨ht.below,hbS.trans bS.symm⟩,⟨Q,f,v,by simpa using h1,by rw[yao,yaQ,zgB];exact h2⟩,ht.boxed b3 (by decide),ht.boxed b5 (by decide),hbS,hb.trans ht.below⟩
theorem SQ.mono{base mb n:Nat}{Q:List (Nat×Pa)}{f:List UInt8->Option Value}{v:Value}{t6:Nat}{R:List Nat}{W:World}(h:SQ base mb n Q f v t6 R W):SQ base mb (n+1) Q f v t6 R W:=
 ⟨h.map.mono (by omega),h.fq,h.fn,h.inj,h.pas,h.box,h.own,by have:=h.len;omega⟩
theorem zll(sq:Int)(acc:List Pa)(e:En)(h1:sq<e.seq)(h2:∃p∈acc,p.id=e.id):zeA sq acc e=acc.map (zbL e):=by
 unfold zeA;rw[if_neg (by omega),if_pos (by simpa using h2)]
theorem zoj(sq:Int)(acc:List Pa)(e:En)(h1:sq<e.seq)(h2:∀p∈acc,p.id≠e.id):zeA sq acc e=acc++[ziG e]:=by
 unfold zeA;rw[if_neg (by omega),if_neg (by simpa using h2)]
theorem zrm(acc:List Pa)(e:En)(h2:∀p∈acc,p.id≠e.id):acc.map (zbL e)=acc:=by
 conv=>rhs;rw[<-List.map_id acc]
 refine List.map_congr_left fun p hp=> ?_
 unfold zbL;rw[if_neg (h2 p hp)]
 rfl
theorem ziW(Q:List (Nat×Pa))(e:En):(Q.map fun q=>(q.1,zbL e q.2)).map (·.1)=Q.map (·.1):=by simp[Function.comp_def]
theorem ziX(Q:List (Nat×Pa))(e:En):(Q.map fun q=>(q.1,zbL e q.2)).map (·.2)=(Q.map (·.2)).map (zbL e):=by simp[Function.comp_def]
theorem infoQ:(ye.info? 145).map (fun i=>(i.zero,i.size,i.bytes))=some (some (.pointer none),1,8):=by kernel_rfl
theorem zhE{α β:Type}(xs:List α)(g:α->β):(zQ xs xs.length).map (fun x=>g x.2)=xs.reverse.map g:=by
 rw[<-zlW,yak]
 rfl
def zfT(W:World)(b:Nat):Option Pa:=match W.heap[b]? with
 |some (.cells ⟨[.string i,.bool a,.bool c,.int .i64 l]⟩ _ _)=>some ⟨i,a,c,l⟩
 |_=>none
theorem PaAt.opt{W:World}{b:Nat}{p:Pa}(h:PaAt W b p):zfT W b=some p:=by
 unfold zfT;rw[show W.heap[b]? =_ from h]
def SinJ(W:World)(v:Value){p:Nat->Prop}(pre:List (Nat×{b:Nat//p b}))(W':World):Prop:=
 (∃o ps,Boxed W' W.heap.size 84 o/\Own W' W.heap.size 87 zcB 4 o ps/\ps.map some=pre.map (fun x=>zfT W x.2.1))/\
 Boxed W' (W.heap.size+1) 139 v/\Below W.heap.size W W'
theorem SinJ.own(W:World)(v:Value){p:Nat->Prop}(B:Nat)(hB:W.heap.size<=B):OwnFrom B (SinJ W v (p:=p)):=by
 rintro pre X Y row ⟨⟨o,ps,h1,h2,h3⟩,bS,hb⟩ hg hr;refine⟨⟨o,ps,boxed_own _ _ (fun(_:Unit)=>_) () X Y row h1 hg (fun r e=>(hr r e).2),h2.kept hg ?_,h3⟩,boxed_own _ _ (fun(_:Unit)=>_) () X Y row bS hg (fun r e=>(hr r e).2),?_⟩
 ·cases ho:o.ownBlock with
  |none=>exact .inl rfl
  | some r =>
    refine .inr fun e=> ?_
    obtain⟨_,cur,hc⟩:=h2.blk r ho;obtain⟨_,o,ho,hoc⟩:=hr _ e.symm;rw[hc]at ho;cases ho;cases hoc
 ·exact hb.grown hg hb.size (fun k e=>by have:=(hr k e).1;omega)
theorem Rd.of_map{p:Nat->Prop}{w:World}{B:Nat}{v:Value}{xs:List {b:Nat//p b}}(h:Rd w B zfK 1 v (xs.map (·.1))):Rd w B zjG 1 v xs:=by
 obtain⟨p,cap,h1,h2,h3,h4,h5⟩:=h;rw[yy]at h1 h2;refine⟨p,cap,h1,h2,h3,h4,fun a ha h0=> ?_⟩
 obtain⟨b,o,e1,e2,e3⟩:=h5 a ha (by rw[yy];exact h0)
 refine⟨b,o,e1,e2,fun i x hx j u hu=> ?_⟩
 exact e3 i x.1 (by rw[yG,hx];rfl) j u hu
theorem zrQ:(ye.info? 87).map (fun i=>(i.zero,i.size,i.bytes))=some (some (.agg #[.string ByteArray.empty,.bool false,.bool false,.int .i64 0]),4,32):=by kernel_rfl
theorem zgq{α:Type}:∀{xs ys:List α},xs.map some=ys.map some->xs=ys
 |[],[],_=>rfl
 |[],_::_,h=>by simp at h
 |_::_,[],h=>by simp at h
 | x :: xs, y :: ys, h => by
   simp only[yaF,List.cons.injEq,Option.some.injEq]at h;rw[h.1,zgq h.2]
instance:Inhabited Pa:=⟨⟨ByteArray.empty,false,false,0⟩⟩
def zm3(w:World)(sq:Int)(xs:List OkE)(e:Ending)(w':World):Prop:=
 ∃v ys,e= .returned v/\IsStable cfP (zcW sq (xs.reverse.map (·.1))).reverse ys/\Own w' w.heap.size 87 zcB 4 v ys/\Below w.heap.size w w'
theorem zcV{F:Fence}{n:Nat}{P:Program}{ops:Array Oper}{o:Oper}{a:Act}{K:Act->World->Prop}{Q:Exit->Act->World->Prop}{E:Prop}{w w':World}{v':Value}(hgd:o.guard=none)(s x:Operand)(t:TypeId)
 (hop:o.op= .call {callee:= .builtin .append,args:=#[s,x],argTypes:=#[t,t]}) (v u:Value) (hs:a.eval s=v) (hx:a.eval x=u) (hrun:(Builtin.append_ #[t,t] o.type #[v,u]).run P w= .ok v' w') (h:K (a.put o.dst v') w'):
 if Region.wanted o (yielded ops a.tmps)=true then Oper.wpIn F n P o a w K Q else E:=by
 have hw:Region.wanted o (yielded ops a.tmps)=true:=by simp[Region.wanted,hgd]
 rw[if_pos hw];unfold Oper.wpIn;refine⟨by simp[Oper.about,hop,resolve,Target.leads,Sem.run_pure],?_⟩
 rw[Oper.semAt_plain F _ _ (by rw[hop];intro c hc';cases hc')]
 simp[execOp,hop,resolve,invoke,builtin,hs,hx,hrun,Result.andThen];exact h
theorem zmL(w:World)(v0:Value)(xs:List OkE)(hv0:Rd w w.heap.size zl9 3 v0 xs)(hlen:xs.length<=4398046511104)(sq:Int):
 Calls ye 41 #[v0,.int .i64 sq] w (zm3 w sq xs):=by
 refine(callsIn_wide (n:=6)).1 ?_;obtain⟨F,hFw,hF,hro⟩:∃F:Fence,F=Fence.wide/\(∀g,F.fn g)/\F.round=none:=⟨_,rfl,fun _=>trivial,rfl⟩
 obtain⟨n,hn,hn6⟩:∃n:Nat,6<=n/\6=n:=⟨6,by omega,rfl⟩
 rw[<-hFw];rw[hn6];have HF:=yc hFw;clear hFw hn6;have h1:1<=n:=by omega
 obtain⟨i0,hi,hz0,hz1,hz2⟩:=info_parts infoQ;have hmm:= @run_makeMap ye;refine callsIn_of_wp_marks Tryz.func41 rfl (hF _) ?_ hro;simp only[Tryz.ntmps41,List.size_toArray,List.length_cons,List.length_nil,Nat.reduceAdd,Nat.reduceSub,Array.replicate_succ,Array.replicate_zero,List.push_toArray,List.append_toArray,List.nil_append,List.cons_append];have hsl:∃a len cap,v0= .slice a len cap:=by obtain⟨p,cap,rfl,_⟩:=hv0;exact⟨_,_,_,rfl⟩
 have HV:=yc hv0;have HS:=yc hsl;clear hv0 hsl
 gi_wp2_with (gi_at_call 82;refine(zoI F (n-1) (hF _) hro _ _ HS.out).mono ?_;rintro e w' ⟨rfl,rfl⟩)
 obtain⟨W0,hW0⟩:∃W0,((((w.alloc (.cells #[.int .i64 sq] 2)).alloc (.map #[] 0)).alloc (.cells #[.map (some (w.heap.size+1))] 138)).alloc (.cells #[.slice none 0 0] 139)).alloc (.cells #[v0] 38)=W0:=⟨_,rfl⟩
 have hI0:SinI w sq v0 [] W0/\W0.heap.size=w.heap.size+5:=by
  rw[<-hW0];have b3:=(((((Boxed.new w 2 (.int .i64 sq)).alloc (.map #[] 0)).alloc (.cells #[.map (some (w.heap.size+1))] 138)).alloc (.cells #[.slice none 0 0] 139)).alloc (.cells #[v0] 38));have bm:=(((MapF.made (w.alloc (.cells #[.int .i64 sq] 2)) ye 9).alloc (.cells #[.map (some (w.heap.size+1))] 138)).alloc (.cells #[.slice none 0 0] 139)).alloc (.cells #[v0] 38);have b5:=((Boxed.new ((w.alloc (.cells #[.int .i64 sq] 2)).alloc (.map #[] 0)) 138 (.map (some (w.heap.size+1)))).alloc (.cells #[.slice none 0 0] 139)).alloc (.cells #[v0] 38);have b6:=(Boxed.new (((w.alloc (.cells #[.int .i64 sq] 2)).alloc (.map #[] 0)).alloc (.cells #[.map (some (w.heap.size+1))] 138)) 139 (.slice none 0 0)).alloc (.cells #[v0] 38);have bS:=Boxed.new ((((w.alloc (.cells #[.int .i64 sq] 2)).alloc (.map #[] 0)).alloc (.cells #[.map (some (w.heap.size+1))] 138)).alloc (.cells #[.slice none 0 0] 139)) 38 v0;simp only[World.size_alloc]at b3 bm b5 b6 bS;refine⟨⟨⟨[],_,_,⟨bm,by simp,by simp,by simp,by simp,b6,Own.nil _ _ _,by simp⟩,rfl⟩,b3,b5,bS,?_⟩,by simp⟩
  exact(((((yh _ w).alloc (yd _) _).alloc (by simp) _).alloc (by simp;omega) _).alloc (by simp;omega) _).alloc (by simp;omega) _
 rw[hW0];clear hW0;obtain⟨hI,hs0⟩:=hI0;have bS0:=hI.2.2.2.1
 refine wpIn_rangeFunc_ownH hro h1 (gf:=133) (lb:=#[.pointer (some ⟨w.heap.size+1+1+1+1,0,none⟩)]) rfl (hF _) (enters_of Tryz.func133 (by kernel_rfl) rfl)
  (zkB F (n-1) (hF _) hro (by omega) (w.heap.size+1+1+1+1) w.heap.size v0 xs hlen W0 (by omega) (by omega) bS0.cell (HV.out.below hI.2.2.2.2 (yd _))) Kq.trans (Kq.book (by omega) (by omega)) (yh _ _) (fun _=>rfl)
  (SinI w sq v0)
  (fun _ _ _=>False)
  (SinI.own w sq v0 _ (by omega))
  (fun _ _ _ _ _ hs _ _=>hs)
  hI
  (fun x a' W=>∃Bx,EnAt W Bx x.2.1/\a'={tmps:=#[v0,.int .i64 sq,undef,.pointer (some ⟨w.heap.size,0,none⟩),.slice none 0 0,.pointer (some ⟨w.heap.size+1+1,0,none⟩),.pointer (some ⟨w.heap.size+1+1+1,0,none⟩),undef,.pointer (some ⟨Bx,0,none⟩),undef,undef,undef,undef,.map (some (w.heap.size+1)),v0,.func (.func 133) #[] #[.pointer (some ⟨w.heap.size+1+1+1+1,0,none⟩)],.int .i64 (x.1:Nat),.agg #[.int .i64 x.2.1.seq,.string x.2.1.id,.int .i64 x.2.1.what],undef,undef,undef,undef,undef,undef,undef,undef,undef,undef,undef,undef,undef,undef,undef,undef,undef,undef,undef,undef,undef,undef,undef,undef,undef,undef,undef,undef,undef,undef,undef,undef,undef,undef,undef,undef,undef,undef,undef,undef,undef,undef,undef,undef,undef,undef],defers:=[]})
  (fun x a' _ X Y row hs hg hr=>by
   obtain⟨Bx,h1,h2⟩:=hs;refine⟨Bx,(hg.block Bx (yl.1 h1).1 (fun e=> ?_)).trans h1,h2⟩
   obtain⟨_,o,ho,hc⟩:=hr Bx e.symm;rw[show X.heap[Bx]? =_ from h1]at ho;cases ho;cases hc)
  ?assign ?body ?done ?stop
 case assign=>
  rintro l pre x W K hi hK;obtain⟨k,⟨⟨s,i,t⟩,hx⟩⟩:=x
  gi_wp2
  have hsz:=hi.2.2.2.2.size;exact hK _ _ ((KeepsOthers.alloc _ _).from _) ⟨(yh _ W).alloc hsz _,Below.heap_alloc _ _ _ hi.2.2.2.1.lt⟩ (OwnFrom.alloc (SinI.own w sq v0 _ (Nat.lt_succ_self _)) _ hi) ⟨W.heap.size,World.alloc_heap_new W _,rfl⟩
 case body=>
  rintro l pre x a' W hl-hi ⟨Bx,eX,rfl⟩ hlt;obtain⟨⟨Q,f,v,HQ,hacc⟩,b3,b5,bS,hB⟩:=id hi;have HI:=yc hi;have HB:=yc hB;have hsz:=hB.size;obtain⟨k,⟨⟨s,i,t⟩,hx⟩⟩:=x;have c0:=eX.cell 0 rfl;have c1:=eX.cell 1 rfl;have c2:=eX.cell 2 rfl;have c3:=b3.cell;have c5:=b5.cell;dsimp only at c0 c1 c2;clear hi hB bS bS0 hI;by_cases hle:s<=sq
  ·have e1:decide (s<=sq)=true:=by simpa using hle
   have HL:=yc hle;clear hle
   gi_wp2
   exact HI.out.next (Trn.refl _ _ _) ⟨Q,f,v,HQ.mono,by rw[hacc];unfold zeA;rw[if_pos HL.out]⟩ _ (by omega)
  ·have e1:decide (s<=sq)=false:=by simpa using hle
   have HL:=yc hle;clear hle;cases hf:f i.data.toList with
   | none =>
     have hn0:pre.length<maxLen:=by unfold maxLen;omega
     have HY:Hid ((Q.length+1)*8<=140737488355328):=by have:=HQ.len;unfold Hid;omega
     have HM:Hid (Q.length+1<=maxLen):=by have:=HQ.len;unfold Hid maxLen;omega
     have hnone:∀p∈zcW sq (pre.map (·.2.1)),p.id≠i:=by
      rw[<-hacc];intro p hp e;obtain⟨q,hq,rfl⟩:=y8.1 hp;have:=HQ.fq q hq;rw[e,hf]at this;cases this
     have HN:=yc hnone;have l5:=b5.lt;have lX:Bx<W.heap.size:=(yl.1 eX).1;clear hnone
     gi_wp2_with (first
      |(gi_at_lookup;refine ze5 _ rfl _ _ _ rfl 9 145 Tryz.underlying9 Tryz.underlying138 (Tryz.zeroValue145 _) _ _ f rfl HQ.map i rfl hx.2.1 (v:= .pointer none) (by rw[hf];rfl) ?_)
      | (gi_at_mapUpdate; refine zeR _ rfl _ _ _ _ rfl 9 145 Tryz.underlying9 Tryz.underlying138 _ _ f rfl (HQ.map.alloc _) hn0 i rfl hx.2.1 (.pointer (some ⟨W.heap.size, 0, none⟩)) rfl ?_
         intro w2 hM2 hg2;obtain⟨HQ2,T2⟩:=HQ.fresh hsz (Nat.le_succ _) ⟨i,false,t !=3,s⟩ hf hg2 hM2;have eX2:=T2.en eX;have a1:=eX2.cell 1 rfl;have a2:=eX2.cell 2 rfl;dsimp only at a1 a2;have b62:=HQ2.box.cell;have hsz2:w.heap.size<=w2.heap.size:=yg hsz T2.below.size
         go_frame)
      | (gi_at_builtin; refine wpListIn_append_own _ rfl _ _ 139 rfl w.heap.size 145 i0 (.pointer none) 1 8 Tryz.underlying139 hi hz0 hz1 hz2 rfl (by decide) _ _ _ rfl (HQ2.own.alloc _) ⟨w2.heap.size, 0, none⟩ 1 1 [.pointer (some ⟨W.heap.size, 0, none⟩)] rfl rfl (cell_one_new _ _ _) (by simp [Value.oneCell']) (by simpa using HM.out) (by simpa using HY.out) (by simp; omega) ?_
         intro v' w3 hown' hg3 hnil3
         have hO':Own w3 w.heap.size 145 zfK 1 v' (Q.map (·.1)++[W.heap.size]):=by
          unfold Own;rw[zv,zbG,yp];exact hown'
         obtain⟨g',cap',rfl⟩:∃g' cap',v'= .slice (some ⟨g',0,none⟩) (Q.length+1) cap':=by
          have:=ownsRow_succ hown'
          rwa[yy]at this
         obtain⟨H4,HQ5,T5⟩:=HQ2.append hsz2 (by omega) _ hg3 hO'
         have b64:=H4.cell;have b64':=H4.frozen;have eX5:=T5.en eX2;have a5:=eX5.cell 2 rfl;dsimp only at a5;have p5:=(HQ5.pas (W.heap.size,⟨i,false,t !=3,s⟩) (by simp)).2
         have p50:=p5.cell 1 rfl;have p51:=p5.frozen 1;have p52:=p5.frozen 0;dsimp only at p50 p51 p52;clear hown' hg3 hnil3
         go_frame))
     have hk:=HQ5.known (yg hsz2 T5.below.size) (q:=(W.heap.size,⟨i,false,t !=3,s⟩)) (by simp) ⟨s,i,t⟩ rfl
     have hk1:=hk.1;rw[show Q.map (·.1)++[W.heap.size]=((Q++[(W.heap.size,(⟨i,false,t !=3,s⟩:Pa))]).map fun q=>(q.1,zbL ⟨s,i,t⟩ q.2)).map (·.1) by rw[ziW];simp]at hk1
     refine HI.out.next ((T2.trans T5).trans hk.2) ⟨_,_,_,hk1,?_⟩ _ (by omega)
     rw[ziX,yao,yaQ,hacc,zoj sq _ ⟨s,i,t⟩ HL.out HN.out,yao,zrm _ ⟨s,i,t⟩ HN.out];simp[zbL,ziG]
   | some u =>
     obtain⟨q,hq,hqi⟩:=HQ.fn _ _ hf;have hu:=HQ.fq q hq;rw[hqi,hf]at hu;obtain rfl:u= .pointer (some ⟨q.1,0,none⟩):=by simpa using hu
     have hqe:q.2.id=i:=(zfE _ _).1 hqi;have hp:=(HQ.pas q hq).2;have f1:=hp.frozen 1;have f0:=hp.frozen 0;have d0:=hp.cell 0 rfl;have d1:=hp.cell 1 rfl;have d2:=hp.cell 2 rfl;have d3:=hp.cell 3 rfl;have hs2:Hid (q.2.id=i):=hqe;clear hqi hu hqe
     gi_wp2_with (gi_at_lookup;refine ze5 _ rfl _ _ _ rfl 9 145 Tryz.underlying9 Tryz.underlying138 (Tryz.zeroValue145 _) _ _ f rfl HQ.map i rfl hx.2.1 (v:= .pointer (some ⟨q.1,0,none⟩)) (by rw[hf];rfl) ?_)
     have hk:=HQ.known hsz hq ⟨s,i,t⟩ hs2.out;exact HI.out.next hk.2 ⟨_,f,v,by rw[ziW];exact hk.1.mono,by rw[ziX,hacc];exact(zll sq _ ⟨s,i,t⟩ HL.out (by rw[<-hacc];exact⟨q.2,y8.2 ⟨q,hq,rfl⟩,hs2.out⟩)).symm⟩ _ (by omega)
 case done=>
  rintro D ys W hD rfl hi hK;obtain⟨⟨Q,f,v,HQ,hacc⟩,b3,b5,bS,hB⟩:=hi;rw[zhE _ (fun x:OkE=>x.1)]at hacc
  have c6:=HQ.box.cell;have l6:=HQ.box.lt;have hvs:∃a len cap,v= .slice a len cap:=by obtain⟨a,cap,h,_⟩:=HQ.own.len;exact⟨_,_,_,h⟩
  have hQl:=HQ.len;rw[zcS _ _ (yd _)]at hQl;have hp0:∀q∈Q,PaAt W q.1 q.2:=fun q hq=>(HQ.pas q hq).2
  have hR:=HQ.own.rd zqE;have hBs:=hB.size;have HP:=yc hp0;have HR:=yc hR;have HK:=yc hK;have HA:=yc hacc;have HB:=yc hB;have HV5:=yc hvs;clear hp0 hR HQ bS0 hI hK hacc hB b3 b5 bS hvs
  gi_wp2_with (gi_at_call 83;refine(zoJ F (n-1) (hF _) hro _ _ HV5.out).mono ?_;rintro e w' ⟨rfl,rfl⟩)
  obtain⟨W2,hW2⟩:∃W2,(W.alloc (.cells #[.slice none 0 0] 84)).alloc (.cells #[v] 139)=W2:=⟨_,rfl⟩
  have hI2:SinJ W v (p:=fun b=>∃p,PaAt W b p) [] W2/\W2.heap.size=W.heap.size+2:=by
   rw[<-hW2];have b1:=(Boxed.new W 84 (.slice none 0 0)).alloc (.cells #[v] 139);have b2:=Boxed.new (W.alloc (.cells #[.slice none 0 0] 84)) 139 v;simp only[World.size_alloc]at b1 b2;exact⟨⟨⟨_,[],b1,Own.nil _ _ _,rfl⟩,b2,((yh _ W).alloc (yd _) _).alloc (by simp) _⟩,by simp⟩
  rw[hW2];clear hW2;obtain⟨hJ,hs2⟩:=hI2;obtain⟨xs2,hxs2⟩:∃xs2:List {b:Nat//∃p,PaAt W b p},xs2.map (·.1)=Q.map (·.1):=⟨Q.attach.map (fun q=>⟨q.1.1,q.1.2,HP.out q.1 q.2⟩),by rw[yak];exact List.attach_map_val (l:=Q) (f:=fun q=>q.1)⟩
  have hx2l:xs2.length=Q.length:=by simpa using congrArg ybq hxs2
  have hR2:Rd W2 W.heap.size zjG 1 v xs2:=by
   have:=HR.out.below hJ.2.2 (yd _);rw[<-hxs2]at this;exact this.of_map
  refine wpIn_rangeFunc_ownH hro h1 (gf:=134) (lb:=#[.pointer (some ⟨W.heap.size+1,0,none⟩)]) rfl (hF _) (enters_of Tryz.func134 (by kernel_rfl) rfl)
   (zkC F (n-1) (hF _) hro (by omega) (W.heap.size+1) W.heap.size v xs2 (by omega) W2 (by omega) (by omega) hJ.2.1.cell hR2) Kq.trans (Kq.book (by omega) (by omega)) (yh _ _) (fun _=>rfl)
   (SinJ W v)
   (fun _ _ _=>False)
   (SinJ.own W v _ (by omega))
   (fun _ _ _ _ _ hs _ _=>hs)
   hJ
   (fun x a' _=>a'={tmps:=#[v0,.int .i64 sq,undef,.pointer (some ⟨w.heap.size,0,none⟩),.slice none 0 0,.pointer (some ⟨w.heap.size+1+1,0,none⟩),.pointer (some ⟨w.heap.size+1+1+1,0,none⟩),undef,undef,undef,.pointer (some ⟨W.heap.size,0,none⟩),undef,.pointer (some ⟨x.2.1,0,none⟩),.map (some (w.heap.size+1)),v0,.func (.func 133) #[] #[.pointer (some ⟨w.heap.size+1+1+1+1,0,none⟩)],undef,undef,undef,undef,undef,undef,undef,undef,undef,undef,undef,undef,undef,undef,undef,undef,undef,undef,undef,undef,undef,undef,undef,undef,undef,undef,undef,undef,undef,undef,undef,undef,undef,undef,undef,v,.func (.func 134) #[] #[.pointer (some ⟨W.heap.size+1,0,none⟩)],.int .i64 (x.1:Nat),.pointer (some ⟨x.2.1,0,none⟩),undef,undef,undef,undef,undef,undef,undef,undef,undef],defers:=[]})
   (fun _ _ _ _ _ _ hs _ _=>hs)
   ?assign2 ?body2 ?done2 ?stop2
  case assign2=>
   rintro l pre x W' K hi hK
   gi_wp2
   exact hK _ _ (KeepsFrom.refl _ _) (Kq.refl _ _ _) hi rfl
  case body2=>
   rintro l pre x a' W' hl-hi rfl hlt;obtain⟨⟨o,ps,bo,HO,hps⟩,b2,hb⟩:=id hi;obtain⟨k,⟨b,hbp⟩⟩:=x;obtain⟨pa,hpa⟩:=id hbp;have hp:PaAt W' b pa:=(hb.block b hpa.lt).trans hpa;have hopt:=hpa.opt;obtain⟨i,y,z,t⟩:=pa;have d0:=hp.cell 0 rfl;have d1:=hp.cell 1 rfl;have d2:=hp.cell 2 rfl;have d3:=hp.cell 3 rfl;dsimp only at d0 d1 d2 d3;have co:=bo.cell;have lo:=bo.lt
   have hplen:ps.length<4398046511104:=by
    have:=congrArg ybq hps;simp only[yy]at this;omega
   have hsz:=hb.size;obtain⟨j0,hj,hjz0,hjz1,hjz2⟩:=info_parts zrQ
   obtain⟨v',w3,hrun,hown',hg3,hnil3⟩:=run_append_own (P:=ye) (W'.alloc (.cells #[.string i,.bool y,.bool z,.int .i64 t] 87)).drew W.heap.size 84 84 87 j0 _ 4 32 Tryz.underlying84 hj hjz0 hjz1 hjz2 rfl (by decide) o ps.length (cellsOf zcB ps) (HO.alloc _)
    ⟨W'.heap.size,0,none⟩ 1 1 (zcB ⟨i,y,z,t⟩) rfl (World.news_of_block (cs:=#[.string i,.bool y,.bool z,.int .i64 t]) (t:=87) (fr:=(0,0)) (World.alloc_heap_new W' _)) (codecP.one _) (by unfold maxLen;omega) (by omega) (by simp;omega)
   have hO':Own w3 W.heap.size 87 zcB 4 v' (ps++[⟨i,y,z,t⟩]):=by
    unfold Own;rw[zv,zbG,yp];exact hown'
   obtain⟨g',cap',rfl⟩:=ownsRow_succ hown';have bod:Boxed (W'.alloc (.cells #[.string i,.bool y,.bool z,.int .i64 t] 87)).drew W.heap.size 84 o:=bo.alloc _;have bsd:Boxed (W'.alloc (.cells #[.string i,.bool y,.bool z,.int .i64 t] 87)).drew (W.heap.size+1) 139 v:=b2.alloc _;have bo3:Boxed w3 W.heap.size 84 o:=bod.kept hg3 (bo.not_row (by decide) HO)
   have bs3:Boxed w3 (W.heap.size+1) 139 v:=bsd.kept hg3 (b2.not_row (by decide) HO)
   have co3:=bo3.cell;have fo3:=bo3.frozen
   have hfin:∀a2:Act,ownPostG W2.heap.size (Kq W.heap.size (W.heap.size+1)) (SinJ W v (p:=fun b=>∃p,PaAt W b p)) (fun _ _ _=>False) (pre++[(k,⟨b,hbp⟩)]) W' Exit.normal a2 (w3.setCell ⟨W.heap.size,0,none⟩ (.slice (some ⟨g',0,none⟩) (ps.length+1) cap')):=by
    intro a2;obtain⟨q1,q2,q3,q4,q5⟩:=Boxed.appended (W:=W'.drew) (tmp:= .cells #[.string i,.bool y,.bool z,.int .i64 t] 87) bo (by decide) HO hsz (yd _) hown' hg3
    have q6:=bs3.other (B':=W.heap.size) (by omega) (.slice (some ⟨g',0,none⟩) (ps.length+1) cap')
    exact⟨KeepsOthers.from (show KeepsOthers W' _ from⟨q4.size,q4.same⟩) _,⟨show Below W.heap.size W' _ from⟨q5.os,q5.tape,q5.output,q5.size,q5.block⟩,q6.trans b2.symm⟩,⟨_,ps++[⟨i,y,z,t⟩],q2,by unfold Own;rw[zv,zbG,yp];exact q3,by simp[hps,hopt]⟩,q6,hb.trans (show Below W.heap.size W' _ from⟨q5.os,q5.tape,q5.output,q5.size,q5.block⟩)⟩
   clear hb hO' bod bsd bs3 hg3 hnil3 hpa HO hps
   gi_wp2
   refine wpIn_region_any (by kernel_rfl) ?_
   change wpAnyIn _ _ _ _ _ _ _ _ _ (World.drew _);refine wpAnyIn_ready (rs:=[0,1]) (by kernel_rfl) (by simp) (AllReadyIn.cons rfl (fun K hK=> ?_) (AllReadyIn.cons rfl (fun K hK=> ?_) AllReadyIn.nil))
   ·go_simp;refine hK _ _ ?_;clear hK K;refine wpAnyIn_ready (rs:=[1]) (by kernel_rfl) (by simp) (AllReadyIn.cons rfl (fun K hK=> ?_) AllReadyIn.nil)
    go_simp;refine hK _ _ ?_;clear hK K;refine wpAnyIn_ready (rs:=[2]) (by kernel_rfl) (by simp) (AllReadyIn.cons rfl (fun K hK=> ?_) AllReadyIn.nil)
    go_simp;refine hK _ _ ?_;clear hK K;refine wpAnyIn_ready (rs:=[3]) (by kernel_rfl) (by simp) (AllReadyIn.cons rfl (fun K hK=> ?_) AllReadyIn.nil)
    go_simp;refine hK _ _ ?_;clear hK K;refine wpAnyIn_ready (rs:=[4]) (by kernel_rfl) (by simp) (AllReadyIn.cons rfl (fun K hK=> ?_) AllReadyIn.nil)
    go_simp;refine hK _ _ ?_;clear hK K;refine wpAnyIn_ready (rs:=[5]) (by kernel_rfl) (by simp) (AllReadyIn.cons rfl (fun K hK=> ?_) AllReadyIn.nil)
    refine zcV rfl _ _ _ rfl _ _ rfl rfl hrun ?_;refine hK _ _ ?_;clear hK K;refine wpAnyIn_ready (rs:=[6]) (by kernel_rfl) (by simp) (AllReadyIn.cons rfl (fun K hK=> ?_) AllReadyIn.nil)
    go_simp;refine hK _ _ ?_;clear hK K;refine wpAnyIn_done (by kernel_rfl) ?_ _
    gi_wp2;exact hfin _
   ·go_simp;refine hK _ _ ?_;clear hK K;refine wpAnyIn_ready (rs:=[0,2]) (by kernel_rfl) (by simp) (AllReadyIn.cons rfl (fun K hK=> ?_) (AllReadyIn.cons rfl (fun K hK=> ?_) AllReadyIn.nil))
    ·go_simp;refine hK _ _ ?_;clear hK K;refine wpAnyIn_ready (rs:=[2]) (by kernel_rfl) (by simp) (AllReadyIn.cons rfl (fun K hK=> ?_) AllReadyIn.nil)
     go_simp;refine hK _ _ ?_;clear hK K;refine wpAnyIn_ready (rs:=[3]) (by kernel_rfl) (by simp) (AllReadyIn.cons rfl (fun K hK=> ?_) AllReadyIn.nil)
     go_simp;refine hK _ _ ?_;clear hK K;refine wpAnyIn_ready (rs:=[4]) (by kernel_rfl) (by simp) (AllReadyIn.cons rfl (fun K hK=> ?_) AllReadyIn.nil)
     go_simp;refine hK _ _ ?_;clear hK K;refine wpAnyIn_ready (rs:=[5]) (by kernel_rfl) (by simp) (AllReadyIn.cons rfl (fun K hK=> ?_) AllReadyIn.nil)
     refine zcV rfl _ _ _ rfl _ _ rfl rfl hrun ?_;refine hK _ _ ?_;clear hK K;refine wpAnyIn_ready (rs:=[6]) (by kernel_rfl) (by simp) (AllReadyIn.cons rfl (fun K hK=> ?_) AllReadyIn.nil)
     go_simp;refine hK _ _ ?_;clear hK K;refine wpAnyIn_done (by kernel_rfl) ?_ _
     gi_wp2;exact hfin _
    ·go_simp;refine hK _ _ ?_;clear hK K;refine wpAnyIn_ready (rs:=[0,3]) (by kernel_rfl) (by simp) (AllReadyIn.cons rfl (fun K hK=> ?_) (AllReadyIn.cons rfl (fun K hK=> ?_) AllReadyIn.nil))
     ·go_simp;refine hK _ _ ?_;clear hK K;refine wpAnyIn_ready (rs:=[3]) (by kernel_rfl) (by simp) (AllReadyIn.cons rfl (fun K hK=> ?_) AllReadyIn.nil)
      go_simp;refine hK _ _ ?_;clear hK K;refine wpAnyIn_ready (rs:=[4]) (by kernel_rfl) (by simp) (AllReadyIn.cons rfl (fun K hK=> ?_) AllReadyIn.nil)
      go_simp;refine hK _ _ ?_;clear hK K;refine wpAnyIn_ready (rs:=[5]) (by kernel_rfl) (by simp) (AllReadyIn.cons rfl (fun K hK=> ?_) AllReadyIn.nil)
      refine zcV rfl _ _ _ rfl _ _ rfl rfl hrun ?_;refine hK _ _ ?_;clear hK K;refine wpAnyIn_ready (rs:=[6]) (by kernel_rfl) (by simp) (AllReadyIn.cons rfl (fun K hK=> ?_) AllReadyIn.nil)
      go_simp;refine hK _ _ ?_;clear hK K;refine wpAnyIn_done (by kernel_rfl) ?_ _
      gi_wp2;exact hfin _
     ·go_simp;refine hK _ _ ?_;clear hK K;refine wpAnyIn_ready (rs:=[0,4]) (by kernel_rfl) (by simp) (AllReadyIn.cons rfl (fun K hK=> ?_) (AllReadyIn.cons rfl (fun K hK=> ?_) AllReadyIn.nil))
      ·go_simp;refine hK _ _ ?_;clear hK K;refine wpAnyIn_ready (rs:=[4]) (by kernel_rfl) (by simp) (AllReadyIn.cons rfl (fun K hK=> ?_) AllReadyIn.nil)
       go_simp;refine hK _ _ ?_;clear hK K;refine wpAnyIn_ready (rs:=[5]) (by kernel_rfl) (by simp) (AllReadyIn.cons rfl (fun K hK=> ?_) AllReadyIn.nil)
       refine zcV rfl _ _ _ rfl _ _ rfl rfl hrun ?_;refine hK _ _ ?_;clear hK K;refine wpAnyIn_ready (rs:=[6]) (by kernel_rfl) (by simp) (AllReadyIn.cons rfl (fun K hK=> ?_) AllReadyIn.nil)
       go_simp;refine hK _ _ ?_;clear hK K;refine wpAnyIn_done (by kernel_rfl) ?_ _
       gi_wp2;exact hfin _
      ·go_simp;refine hK _ _ ?_;clear hK K;refine wpAnyIn_ready (rs:=[0]) (by kernel_rfl) (by simp) (AllReadyIn.cons rfl (fun K hK=> ?_) AllReadyIn.nil)
       go_simp;refine hK _ _ ?_;clear hK K;refine wpAnyIn_ready (rs:=[5]) (by kernel_rfl) (by simp) (AllReadyIn.cons rfl (fun K hK=> ?_) AllReadyIn.nil)
       refine zcV rfl _ _ _ rfl _ _ rfl rfl hrun ?_;refine hK _ _ ?_;clear hK K;refine wpAnyIn_ready (rs:=[6]) (by kernel_rfl) (by simp) (AllReadyIn.cons rfl (fun K hK=> ?_) AllReadyIn.nil)
       go_simp;refine hK _ _ ?_;clear hK K;refine wpAnyIn_done (by kernel_rfl) ?_ _
       gi_wp2;exact hfin _
  case done2=>
   rintro D2 ys W3 hD2 rfl hj hK2;obtain⟨⟨o,ps,bo,HO,hps⟩,b2,hb⟩:=hj;rw[zhE xs2 (fun x=>zfT W x.1)]at hps
   have hps':ps=(zcW sq (xs.reverse.map (·.1))).reverse:=by
    rw[<-HA.out];have e1:xs2.reverse.map (fun x=>zfT W x.1)=(Q.map (·.1)).reverse.map (zfT W):=by rw[<-hxs2,<-yaN,yak];rfl
    have e2:(Q.map (·.1)).reverse.map (zfT W)=(Q.map (·.2)).reverse.map some:=by
     rw[<-yaN,<-yaN,yak,yak];refine List.map_congr_left fun q hq=> ?_
     exact(HP.out q (by simpa using hq)).opt
    rw[e1,e2]at hps;exact zgq hps
   have co:=bo.cell
   have hplen:ps.length<1152921504606846976:=by
    have:=congrArg ybq hps;simp only[yy,List.length_reverse]at this;omega
   have hcon:CallsIn F (n-1) ye 84 #[o,.func (.func 85) #[] #[]] W3 (SP.SortPost W3 W.heap.size zcB cfP o ps):=by
    rw[HF.out];exact callsIn_wide.2 (SP.top_any zcB codecP cfP zl4 85 #[] W3 W.heap.size o ps (enters_of Tryz.func85 (by kernel_rfl) rfl) zqD HO hplen)
   have HC:=yc hcon;clear hcon
   gi_wp2_with (gi_at_call 84;refine HC.out.mono ?_;rintro e w4 ⟨rfl,zs,hst,hown4,hg4⟩;have bo4:=(bo.kept hg4 (bo.not_row (by decide) HO)).cell;go_frame)
   have kD2:w4.heap[D2]? =some (.deferred (some [])):=by
    refine(hg4.block D2 (yl.1 hK2).1 (fun e=> ?_)).trans hK2
    obtain⟨_,cur,hc⟩:=HO.blk D2 e.symm;rw[hK2]at hc;cases hc
   have kD3:W3.heap[D]? =some (.deferred (some [])):=(hb.block D (yl.1 HK.out).1).trans HK.out
   have kD:w4.heap[D]? =some (.deferred (some [])):=by
    refine(hg4.block D (yl.1 kD3).1 (fun e=> ?_)).trans kD3
    obtain⟨_,cur,hc⟩:=HO.blk D e.symm;rw[kD3]at hc;cases hc
   have hDD:D2≠D:=by have:=(yl.1 HK.out).1;omega
   have kDp:∀ob,(w4.putObj D2 ob).heap[D]? =some (.deferred (some [])):=fun ob=>(World.putObj_heap_other hDD.symm).trans kD
   have hB4:Below w.heap.size w w4:=(HB.out.trans (hb.mono hBs)).grown hg4 (yg hBs hb.size) (fun r e=>yg hBs (HO.blk r e).1)
   have hown5:Own w4 w.heap.size 87 zcB 4 o zs:=hown4.mono hBs;refine⟨by simp,.inl ⟨_,_,rfl,run_takeDeferred kD2,?_⟩⟩
   refine⟨by simp,.inl ⟨_,_,rfl,run_takeDeferred (kDp _),?_⟩⟩
   refine⟨_,results_tmp rfl _ _ _,o,zs,rfl,by rw[<-hps'];exact hst,?_,?_⟩
   ·exact ownsRow_putObj (ownsRow_putObj hown5 _ kD2 rfl) _ (kDp _) rfl
   ·exact(hB4.trans (belowK_b (w:=w) (yd _) w4 D2 _ _ (by omega) kD2 rfl rfl)).trans (belowK_b (w:=w) (yd _) _ D _ _ (by omega) (kDp _) rfl rfl)
  case stop2=>
   rintro D c pre W _ _ h _;exact h.elim
 case stop=>
  rintro D c pre W _ _ h _;exact h.elim
end
section
open Go.RowKit
def ziy(sq:Int)(x y:En):Bool:=decide (y.id=x.id)&&decide (sq<y.seq)
def zU(sq:Int):List En->List Pa
 |[]=>[]
 |e::r=>if e.seq<=sq then zU sq r else if(zU sq r).any (fun p=>decide (p.id=e.id))then(zU sq r).map (zbL e)else ziG e::zU sq r
theorem zeh(sq:Int)(e:En)(r:List En):zU sq (e::r)=if e.seq<=sq then zU sq r else if(zU sq r).any (fun p=>decide (p.id=e.id))then(zU sq r).map (zbL e)else ziG e::zU sq r:=rfl
theorem zg5(sq:Int):∀l:List En,(zcW sq l.reverse).reverse=zU sq l
 |[]=>rfl
 | e :: r => by
   have ih:=zg5 sq r;rw[List.reverse_cons,zgB];have hr:zcW sq r.reverse=(zU sq r).reverse:=by rw[<-ih,yaz]
   rw[hr,zeh];unfold zeA;by_cases h1:e.seq<=sq
   ·rw[if_pos h1,if_pos h1,yaz]
   ·rw[if_neg h1,if_neg h1,List.any_reverse]
    split
    ·rw[yaN,yaz]
    ·rw[List.reverse_append,yaz];rfl
theorem zoB(e:En)(p:Pa):(zbL e p).id=p.id:=by unfold zbL;split<;>rfl
theorem zi8(sq:Int)(i:ByteArray):∀l:List En,(∃p∈zU sq l,p.id=i)↔∃y∈l,y.id=i/\sq<y.seq
 |[]=>by simp[zU]
 | e :: r => by
   have ih:=zi8 sq i r;rw[zeh];by_cases h1:e.seq<=sq
   ·rw[if_pos h1,ih]
    constructor
    ·rintro⟨y,hy,h⟩;exact⟨y,yap _ hy,h⟩
    ·rintro⟨y,hy,h,h'⟩
     rcases yA.1 hy with rfl|hy
     ·omega
     ·exact⟨y,hy,h,h'⟩
   ·rw[if_neg h1]
    split
    ·rename_i hk
     have e1:(∃p∈(zU sq r).map (zbL e),p.id=i)↔∃p∈zU sq r,p.id=i:=by
      constructor
      ·rintro⟨p,hp,h⟩;obtain⟨q,hq,rfl⟩:=y8.1 hp;exact⟨q,hq,by rw[<-h,zoB]⟩
      ·rintro⟨p,hp,h⟩;exact⟨_,y8.2 ⟨p,hp,rfl⟩,by rw[zoB];exact h⟩
     rw[e1,ih]
     constructor
     ·rintro⟨y,hy,h⟩;exact⟨y,yap _ hy,h⟩
     ·rintro⟨y,hy,h,h'⟩
      rcases yA.1 hy with rfl|hy
      ·rw[<-ih];simp only[ybt,decide_eq_true_eq]at hk;obtain⟨p,hp,e2⟩:=hk;exact⟨p,hp,by rw[e2];exact h⟩
      ·exact⟨y,hy,h,h'⟩
    ·constructor
     ·rintro⟨p,hp,h⟩
      rcases yA.1 hp with rfl|hp
      ·exact⟨e,by simp,h,by omega⟩
      ·obtain⟨y,hy,h2⟩:=ih.1 ⟨p,hp,h⟩;exact⟨y,yap _ hy,h2⟩
     ·rintro⟨y,hy,h,h'⟩
      rcases yA.1 hy with rfl|hy
      ·exact⟨ziG y,by simp,h⟩
      ·obtain⟨p,hp,h2⟩:=ih.2 ⟨y,hy,h,h'⟩;exact⟨p,yap _ hp,h2⟩
end
section
open Go.RowKit Go.OpenShut
theorem Rd.of_image{α β:Type}{enc:β->List Value}{g:α->β}{sz:Nat}{w:World}{B:Nat}{v:Value}{xs:List α}(h:Rd w B enc sz v (xs.map g)):Rd w B (fun x=>enc (g x)) sz v xs:=by
 obtain⟨p,cap,h1,h2,h3,h4,h5⟩:=h;rw[yy]at h1 h2;refine⟨p,cap,h1,h2,h3,h4,fun a ha h0=> ?_⟩
 obtain⟨b,o,e1,e2,e3⟩:=h5 a ha (by rw[yy];exact h0)
 exact⟨b,o,e1,e2,fun i x hx j u hu=>e3 i (g x) (by rw[yG,hx];rfl) j u hu⟩
theorem zi9(w:World)(v:Value)(l:List En)(sq:Int)(hv:RdE w w.heap.size v l)(hlen:l.length<=4398046511104):
 Calls ye 41 #[v,.int .i64 sq] w fun e w'=>∃ys,IsStable cfP (zU sq l) ys/\zD w 87 zcB 4 ys e w':=by
 obtain⟨hok,hr⟩:=rdE_iff.1 hv;obtain⟨xs,hxs⟩:∃xs:List OkE,xs.map (·.1)=l:=⟨l.attach.map fun e=>⟨e.1,hok e.1 e.2⟩,by rw[yak];exact List.attach_map_subtype_val l⟩
 have hr':Rd w w.heap.size zl9 3 v xs:=by rw[<-hxs]at hr;exact Rd.of_image (enc:=zbh) hr
 have hl:xs.length=l.length:=by rw[<-hxs];simp
 refine(zmL w v xs hr' (by omega) sq).mono ?_
 rintro e w' ⟨u,ys,rfl,h1,h2,h3⟩;refine⟨ys,?_,u,rfl,h2,h3⟩;rw[yaN,hxs,zg5]at h1;exact h1
def zcA(b:BoxD):Prop:=Rising b.objs/\0<=b.keep/\b.keep<=1000/\(b.trail.length:Int)<=b.keep/\zdd b.trail b.floor b.seq=true/\∀p∈zU b.floor b.trail,zbj b.objs p.id=p.isb
def zqd(os:List (ByteArray×JV))(ys:List Pa)(j:Nat):Prop:=∀(i:Nat) p,i<j->ys[i]? =some p->zbj os p.id=p.isb
theorem zmB(b:BoxD)(r:RB)(w:World)(hb:BoxOf w w.heap.size b r)(ob:b.Ok):
 Calls ye 38 #[r.val] w (Said w (zcA b)):=by
 have ho:=hb.objs;have htr:=hb.trail;have hkp:=hb.keep;have hsq:=hb.seq;have hfl:=hb.floor;have hb0:=hb;obtain⟨po,no,co,pt,nt,ct,sq,fl,kp⟩:=r;dsimp only[RB.val]at*;obtain⟨rms,hrd,hms⟩:=ho;have hn:=zi hrd;have hlm:=hms.len;have hnt:=htr.nlen;have hzo:=ob.objs;have hzt:=ob.trail;have hA0:BoxAt (w.alloc (.cells #[.slice po no co,.slice pt nt ct,.int .i64 sq,.int .i64 fl,.int .i64 kp] 40)) w.heap.size ⟨po,no,co,pt,nt,ct,sq,fl,kp⟩:=za rfl;have hB0:Below w.heap.size w (w.alloc (.cells #[.slice po no co,.slice pt nt ct,.int .i64 sq,.int .i64 fl,.int .i64 kp] 40)):=(yh _ _).alloc (yd _) _;have HRD:=yc hrd;have HMS:=yc hms;have HTR:=yc htr;have HBX:=yc hb0;have HOB:=yc ob;have HN:Hid (b.objs.length=no/\rms.length=no/\b.trail.length=nt):=⟨by omega,by omega,hnt⟩
 have HEQ:Hid (b.keep=kp/\b.seq=sq/\b.floor=fl):=⟨hkp,hsq,hfl⟩;have hno:no<=1466015503658:=by omega
 have hnt2:nt<=4398046510976:=by omega
 clear hb hrd hms htr hn hlm hnt hzo hzt hkp hsq hfl hb0 ob
 go_enter Tryz.func38,Tryz.ntmps38
 go_upto_region 1 with fail
 obtain⟨W0,hW0⟩:∃W0,(w.alloc (.cells #[.slice po no co,.slice pt nt ct,.int .i64 sq,.int .i64 fl,.int .i64 kp] 40))=W0:=⟨_,rfl⟩;rw[hW0]at hA0 hB0⊢;clear hW0;have HA:=yc hA0;have HB:=yc hB0;have hz:=hA0.lt;have c0:=hA0.cell 0 rfl;dsimp only at c0;clear hA0 hB0
 go_wp2_with fail
 go_loopw [3] (fun i wr=>∃j:Nat,i= .int .i64 ((j:Int)+1)/\(j+1<=no\/j=0)/\RisingTo b.objs (j+1)/\Below W0.heap.size W0 wr) (fun i _=>no+1-(intOf i).toNat)
 case atStart=>exact⟨0,rfl,.inr rfl,fun i p q h=>by omega,yh _ _⟩
 case round=>
  obtain⟨j,rfl,hj,hri,hbr⟩:=hrel;have c0:=zc hbr hz c0;by_cases hlt:j+1<no
  ·obtain⟨x,hx⟩:∃x,rms[j]? =some x:=⟨_,yf (by have:=HN.out;omega)⟩
   obtain⟨y,hy⟩:∃x,rms[j+1]? =some x:=⟨_,yf (by have:=HN.out;omega)⟩
   obtain⟨p,hp⟩:∃x,b.objs[j]? =some x:=⟨_,yf (by have:=HN.out;omega)⟩
   obtain⟨q,hq⟩:∃x,b.objs[j+1]? =some x:=⟨_,yf (by have:=HN.out;omega)⟩
   have hpn:=HMS.out.name _ p x hp hx;have hqn:=HMS.out.name _ q y hq hy;have hbw:Below w.heap.size w wr:=HB.out.trans (hbr.mono HB.out.size);obtain⟨b1,o1,hpo,hb1,hc1⟩:=zq (HRD.out.below hbw (yd _)) hx;obtain⟨b2,o2,hpo2,hb2,hc2⟩:=zq (HRD.out.below hbw (yd _)) hy;rw[hpo]at hpo2;simp only[Option.some.injEq,Addr.mk.injEq,and_true]at hpo2;obtain⟨rfl,rfl⟩:=hpo2;subst hpo;have f0:=hc1 0 _ rfl;have g0:=hc2 0 _ rfl;rw[yw]at f0 g0;have hless:=zkc x.name y.name;rw[<-hpn,<-hqn]at hless;have hj0:(0:Int)<=(j:Int):=Int.natCast_nonneg _;have hj1:(j:Int)<(no:Int):=by omega
   have hj2:(0:Int)<=(j:Int)+1:=by omega
   have hj3:(j:Int)+1<(no:Int):=by omega
   have htn:((j:Int)+1).toNat=j+1:=by omega
   have hw1:IntKind.i64.wrap ((j:Int)+1)=(j:Int)+1:=by rw[IntKind.wrap_i64];omega
   have hw2:(j:Int)+1-1=(j:Int):=by omega
   have hw3:IntKind.i64.wrap ((j:Int)+1-1)=(j:Int):=by rw[IntKind.wrap_i64];omega
   have hd:decide ((j:Int)+1<(no:Int))=true:=by simpa using hj3
   have HBR:=yc hbr;rw[hpn,hqn]at hless;by_cases hc:zA p.1 q.1<0
   ·have HRI:RisingTo b.objs (j+1+1):=by
     intro i p' q' hi hp' hq';by_cases e:i=j
     ·subst e;rw[hp]at hp';rw[hq]at hq';cases hp';cases hq';exact hc
     ·exact hri i p' q' (by omega) hp' hq'
    have hl:Op.bytesLess x.name.toList y.name.toList=true:=by rw[hless,<-hpn,<-hqn];simpa using hc
    clear hx hy hp hq hpn hqn hc1 hc2 hless hc hri hbr hbw hb2
    go_wp2_with fail
    go_quiet (fail)
    go_wp2_with fail
    go_roundw
    case rel=>exact⟨j+1,by go_num,.inl (by omega),HRI,bdn HBR.out _⟩
    case measure=>simp[intOf];omega
   ·have hl:Op.bytesLess x.name.toList y.name.toList=false:=by rw[hless,<-hpn,<-hqn];simpa using hc
    have HNO:Hid (¬zcA b):=fun h=>Rising.no hp hq hc h.1
    clear hx hy hp hq hpn hqn hc1 hc2 hless hc hri hbw hb2
    go_wp2_with fail
    go_quiet (fail)
    go_wp2_with fail
    go_ret;exact⟨false,rfl,⟨fun h=>(by cases h),fun h=>absurd h HNO.out⟩,bdn (HB.out.trans (HBR.out.mono HB.out.size)) _⟩
  ·have hrs:Rising b.objs:=by
    apply RisingTo.all;intro i p q hi h1 h2;exact hri i p q (by have:=HN.out;omega) h1 h2
   have hd:decide ((j:Int)+1<(no:Int))=false:=by simp;omega
   have hd2:¬((j:Int)+1<(no:Int)):=by omega
   have hj2:(0:Int)<=(j:Int)+1:=by omega
   have hA1:=HA.out.under hbr hz;have hbw:Below w.heap.size w wr:=HB.out.trans (hbr.mono HB.out.size);have HRS:=yc hrs;have HA1:=yc hA1;have HBW:=yc hbw;clear hri hbr hA1 hbw hrs c0;obtain⟨c0,c1,c2,c3,c4⟩:=HA1.out.cells5;dsimp only at c0 c1 c2 c3 c4;obtain⟨e1,e2,e3⟩:=HEQ.out;by_cases h1:kp<0
   ·have d1:decide (kp<0)=true:=by simpa using h1
    have HNO:Hid (¬zcA b):=fun h=>by have:=h.2.1;omega
    clear e1 e2 e3 h1
    go_wp2_with fail
    go_ret;exact⟨false,rfl,⟨fun h=>(by cases h),fun h=>absurd h HNO.out⟩,HBW.out⟩
   have d1:decide (kp<0)=false:=by simpa using h1
   by_cases h2:1000<kp
   ·have d2:decide (1000<kp)=true:=by simpa using h2
    have HNO:Hid (¬zcA b):=fun h=>by have:=h.2.2.1;omega
    clear e1 e2 e3 h1 h2
    go_wp2_with fail
    go_ret;exact⟨false,rfl,⟨fun h=>(by cases h),fun h=>absurd h HNO.out⟩,HBW.out⟩
   have d2:decide (1000<kp)=false:=by simpa using h2
   by_cases h3:kp<(nt:Int)
   ·have d3:decide (kp<(nt:Int))=true:=by simpa using h3
    have HNO:Hid (¬zcA b):=fun h=>by have:=h.2.2.2.1;have:=HN.out;omega
    clear e1 e2 e3 h1 h2 h3
    go_wp2_with fail
    go_ret;exact⟨false,rfl,⟨fun h=>(by cases h),fun h=>absurd h HNO.out⟩,HBW.out⟩
   have d3:decide (kp<(nt:Int))=false:=by simpa using h3
   have HK:Hid (0<=b.keep/\b.keep<=1000/\(b.trail.length:Int)<=b.keep):=by have:=HN.out;unfold Hid;omega
   have hR:=zn9 wr (.slice pt nt ct) b.trail fl sq (HTR.out.under HBW.out HBW.out.size) (by rw[<-e3];exact HOB.out.floor) (by rw[<-e2];exact HOB.out.seq)
   rw[<-e3,<-e2]at hR;cases hrt:zdd b.trail b.floor b.seq with
   | false =>
     rw[hrt]at hR;rw[e3,e2]at hR;have HR:=yc hR;have HNO:Hid (¬zcA b):=fun h=>by have:=h.2.2.2.2.1;rw[hrt]at this;cases this
     clear e1 e2 e3 h1 h2 h3 hR hrt
     go_wp2_with (go_at_call 79;refine HR.out.mono ?_;rintro e w1 ⟨rfl,hb1⟩)
     go_ret;exact⟨false,rfl,⟨fun h=>(by cases h),fun h=>absurd h HNO.out⟩,HBW.out.trans (hb1.mono HBW.out.size)⟩
   | true =>
     rw[hrt]at hR;rw[e3,e2]at hR;have HR:=yc hR;have HRT:=yc hrt
     have HS:Hid (∀W,Below wr.heap.size wr W->Calls ye 41 #[.slice pt nt ct,.int .i64 fl] W fun e w'=>∃ys,IsStable cfP (zU b.floor b.trail) ys/\zD W 87 zcB 4 ys e w'):=fun W hb=>by
      rw[e3];exact zi9 W _ b.trail fl (HTR.out.under (HBW.out.trans (hb.mono HBW.out.size)) (HBW.out.trans (hb.mono HBW.out.size)).size) (by have:=HOB.out.trail;omega)
     have hzw:w.heap.size<wr.heap.size:=by have:=HA1.out.lt;exact this
     clear e1 e2 e3 h1 h2 h3 hR hrt
     go_upto_region 8 with(go_at_call 79;refine HR.out.mono ?_;rintro e w1 ⟨rfl,hb1⟩)
     have HA2:=yc (HA1.out.under hb1 hzw);have HB2:=yc (HBW.out.trans (hb1.mono HBW.out.size));have HB1:=yc hb1;have hz1:=HA2.out.lt;clear c0 c1 c2 c3 c4 hb1;obtain⟨c0,c1,c2,c3,c4⟩:=HA2.out.cells5;dsimp only at c0 c1 c2 c3 c4
     go_wp2_with (go_at_call 41;refine(HS.out _ HB1.out).mono ?_;rintro e w2 ⟨ys,hys,u,rfl,hu,hb2⟩;obtain⟨p2,cc2,hv2,hcl,hcc⟩:=hu.len;subst hv2;(have hyl:ys.length<=9223372036854775807:=yg hcl hcc);go_frame)
     go_loopw [61] (fun i wr=>∃j:Nat,j<=ys.length/\i= .int .i64 j/\zqd b.objs ys j/\Below w2.heap.size w2 wr) (fun i _=>ys.length-(intOf i).toNat)
     case atStart=>exact⟨0,yu _,rfl,fun i p h=>by omega,yh _ _⟩
     case round=>
      obtain⟨j,hj,rfl,has,hbr⟩:=hrel;have hb2w:=hb2.size;have HA3:=yc ((HA2.out.under hb2 hz1).under hbr (by omega))
      have HB3:=yc ((HB2.out.trans (hb2.mono HB2.out.size)).trans (hbr.mono (by have:=HB2.out.size;omega)))
      by_cases hlt:j<ys.length
      ·obtain⟨⟨yid,ywas,yis,ylast⟩,hy⟩:∃x,ys[j]? =some x:=⟨_,yf hlt⟩;obtain⟨g,hpg,hnn,hgb,hgl,hcell,hfr⟩:=Own.at codecP (hu.below hbr (yd _)) hy;subst hpg;have f0:=hcell 0 _ rfl;have f1:=hcell 1 _ rfl;have f2:=hcell 2 _ rfl;have f3:=hcell 3 _ rfl;rw[yw]at f0;dsimp only at f0 f1 f2 f3;clear c0 c1 c2 c3 c4 hcell hfr hnn;have hz3:=HA3.out.lt;obtain⟨c0,c1,c2,c3,c4⟩:=HA3.out.cells5;dsimp only at c0 c1 c2 c3 c4;have hk0:(0:Int)<=(j:Int):=Int.natCast_nonneg _;have hk1:(j:Int)<(ys.length:Int):=by omega
       have hA4:Below w.heap.size w (wr.alloc (.cells #[.string yid,.bool ywas,.bool yis,.int .i64 ylast] 87)):=HB3.out.alloc HB3.out.size _;have hP:=zfV b ⟨po,no,co,pt,nt,ct,sq,fl,kp⟩ yid _ (HBX.out.under hA4 hA4.size) HRS.out HOB.out;have HP4:Hid ((wr.alloc (.cells #[.string yid,.bool ywas,.bool yis,.int .i64 ylast] 87)).heap[wr.heap.size]? =some (.cells #[.string yid,.bool ywas,.bool yis,.int .i64 ylast] 87 (0,0))):=za rfl;have HBR:Hid (Below w2.heap.size w2 (wr.alloc (.cells #[.string yid,.bool ywas,.bool yis,.int .i64 ylast] 87))):=hbr.alloc hbr.size _;have HA4:=yc hA4;by_cases hia:zbj b.objs yid=yis
       ·have HAS:zqd b.objs ys (j+1):=by
         intro i p hi hp;by_cases e:i=j
         ·subst e;rw[hy]at hp;cases hp;exact hia
         ·exact has i p (by omega) hp
        rw[hia]at hP;have HP:=yc hP;clear hP hy hA4 has hbr hia;cases yis
        all_goals
         go_upto_region 12 with(go_at_call 80;refine HP.out.mono ?_;rintro e w4 ⟨rfl,hb4⟩)
         have k2:=World.cell?_of_block (w:=wr.alloc _) (w':=w4) (a:=⟨wr.heap.size,2,none⟩) (hb4.block wr.heap.size (by simp))
         rw[cell_of_row _ _ 2 _ _ _ HP4.out]at k2;simp at k2
         go_wp2_with fail
         go_roundw
         case rel=>exact⟨j+1,by omega,by go_num,HAS,HBR.out.trans (hb4.mono HBR.out.size)⟩
         case measure=>simp[intOf];omega
       ·have HNO:Hid (¬zcA b):=fun h=>hia (h.2.2.2.2.2 _ (hys.perm.mem_iff.1 (ym hy)))
        obtain⟨ia,hib⟩:∃ia,zbj b.objs yid=ia:=⟨_,rfl⟩;rw[hib]at hP hia;have HP:=yc hP;clear hP hy hA4 has hbr hib;cases ia<;>cases yis
        all_goals try exact absurd rfl hia
        all_goals
         clear hia
         go_upto_region 12 with(go_at_call 80;refine HP.out.mono ?_;rintro e w4 ⟨rfl,hb4⟩)
         have k2:=World.cell?_of_block (w:=wr.alloc _) (w':=w4) (a:=⟨wr.heap.size,2,none⟩) (hb4.block wr.heap.size (by simp))
         rw[cell_of_row _ _ 2 _ _ _ HP4.out]at k2;simp at k2
         go_wp2_with fail
         go_ret;exact⟨false,rfl,⟨fun h=>(by cases h),fun h=>absurd h HNO.out⟩,HA4.out.trans (hb4.mono HA4.out.size)⟩
      ·obtain rfl:j=ys.length:=by omega
       have HYES:Hid (zcA b):=⟨HRS.out,HK.out.1,HK.out.2.1,HK.out.2.2,HRT.out,fun p hp=>by
        obtain⟨i,hi⟩:=List.getElem?_of_mem (hys.perm.mem_iff.2 hp);exact has i p (yi.1 hi).1 hi⟩
       go_wp2_with fail
       go_ret;exact⟨true,rfl,⟨fun _=>HYES.out,fun _=>rfl⟩,HB3.out⟩
end
section
open Go.RowKit Go.OpenShut Go.Lib Go.Sort
instance:Inhabited RM:=⟨⟨⟨#[]⟩,RV.zero⟩⟩
structure SortS(w W:World)(g jl jm:Nat)(l0:List JV)(m0:List (ByteArray×JV))(l:List JV)(m:List (ByteArray×JV))(ds:List RV)(dms:List RM)(r:RV)(F:Nat⊕Nat->Nat->Prop):Prop where
 parts:Parts W (w.heap.size+1+1) g (fun _=>True) l m ds dms r F
 ll:l.length=l0.length
 lm:m.length=m0.length
 dl:∀(i:Nat) (t u:JV),i<jl->l0[i]? =some t->l[i]? =some u->SortOf t u
 rl:∀i,jl<=i->l[i]? =l0[i]?
 nm:∀(i:Nat) (p q:ByteArray×JV),m0[i]? =some p->m[i]? =some q->p.1=q.1
 dm:∀(i:Nat) (p q:ByteArray×JV),i<jm->m0[i]? =some p->m[i]? =some q->SortOf p.2 q.2
 rm:∀i,jm<=i->m[i]? =m0[i]?
 below:Below w.heap.size w W
 out:VAt W (w.heap.size+1) RV.zero
 hg:w.heap.size+1<g
theorem Parts.finG{w W:World}{g:Nat}{l:List JV}{m:List (ByteArray×JV)}{ds:List RV}{dms:List RM}{r:RV}{D:Nat⊕Nat->Prop}{F:Nat⊕Nat->Nat->Prop}(h:Parts W (w.heap.size+1+1) g D l m ds dms r F)(hD:∀i,(i<l.length->D (.inl i))/\(i<m.length->D (.inr i)))(hb:Below w.heap.size w W):
 zil w (.mk r.k r.n r.s l m) (.returned r.val) (((((W.setCell ⟨w.heap.size+1,0,none⟩ (.int .i64 r.k)).setCell ⟨w.heap.size+1,1,none⟩ (.int .i64 r.n)).setCell ⟨w.heap.size+1,2,none⟩ (.string r.s)).setCell ⟨w.heap.size+1,3,none⟩ (.slice r.pl r.nl r.cl)).setCell ⟨w.heap.size+1,4,none⟩ (.slice r.pm r.nm r.cm)):=by
 have hg:=zeM W (w.heap.size+1) r;have h1:=h.whole hD;refine⟨r,rfl,(h1.same fun k hk=>hg.block k hk.2 (fun e=>by have:=hk.1;injection e with e;omega)).mono fun k hk=>⟨by omega,Nat.lt_of_lt_of_le hk.2 hg.size⟩,Below.stored hb (by omega) r⟩
def zqn(w:World)(t:JV)(e:Ending)(w':World):Prop:=∃u,SortOf t u/\zil w u e w'
theorem SortS.fin{w W W2:World}{g:Nat}{l0 l:List JV}{m0 m:List (ByteArray×JV)}{ds:List RV}{dms ys:List RM}{r:RV}{F:Nat⊕Nat->Nat->Prop}(h:SortS w W g l0.length m0.length l0 m0 l m ds dms r F)(hs:IsStable cfM dms ys)
 (ho:Own W2 (w.heap.size+1+1) 35 zl 6 (.slice r.pm r.nm r.cm) ys) (hg:W.grownBy W2 (Value.slice r.pm r.nm r.cm).ownBlock):
 VAt W2 g r/\VAt W2 (w.heap.size+1) RV.zero/\zqn w (.mk r.k r.n r.s l0 m0) (.returned r.val) (((((W2.setCell ⟨w.heap.size+1,0,none⟩ (.int .i64 r.k)).setCell ⟨w.heap.size+1,1,none⟩ (.int .i64 r.n)).setCell ⟨w.heap.size+1,2,none⟩ (.string r.s)).setCell ⟨w.heap.size+1,3,none⟩ (.slice r.pl r.nl r.cl)).setCell ⟨w.heap.size+1,4,none⟩ (.slice r.pm r.nm r.cm)):=by
 obtain⟨m',F',h1,hp⟩:=h.parts.sorted (D:=fun _=>True) hs ho hg
 have hlt:=h.parts.ownM.lt;have hbw:=h.below.size;have hb2:Below w.heap.size w W2:=h.below.trans ((yh _ _).grown hg hbw (fun k e=>by have:=(hlt k e).1;omega))
 refine⟨hp.box,(hg.block (w.heap.size+1) h.out.lt (fun e=>by have:=(hlt _ e.symm).1;omega)).trans h.out,.mk r.k r.n r.s l m',?_,hp.finG (fun _=>⟨fun _=>trivial,fun _=>trivial⟩) hb2⟩
 exact .mk h.ll (fun i t u h1 h2=>h.dl i t u (yi.1 h1).1 h1 h2) h.lm h.nm (fun i p q h1 h2=>h.dm i p q (yi.1 h1).1 h1 h2) h1
end
section
open Go.RowKit Go.OpenShut
theorem zrV(n:Int)(h:(Lit.int .i64 n).wf=true):(zho n).Ok:= .mk (by decide) h (by decide) (by decide) (by decide) (fun i x h=>by simp at h) (fun i p h=>by simp at h) (fun i p h=>by simp at h)
def zjw(os:List (ByteArray×JV)):Prop:=∀p∈os,∃n,p.2=zho n
theorem zna{w w':World}{B:Nat}{t:JV}{r:RV}(h:TreeOf w B t r)(hl:t.l=[])(hm:t.m=[]):TreeOf w' 0 t r:=by
 cases h with
 | @mk _ l m rs rms ha el cl hb em cn cm=>
 have e1:l=[]:=hl;have e2:m=[]:=hm;subst e1 e2;have h1:=yx el.symm;have h2:=yx em.symm;subst h1 h2;obtain⟨p1,c1,e1,a1,a2,a3,a4⟩:=ha;obtain⟨p2,c2,e2,d1,d2,d3,d4⟩:=hb;exact TreeOf.mk (r:=r) (rs:=[]) (rms:=[]) ⟨p1,c1,e1,a1,a2,a3,fun a _ h=>by simp at h⟩ rfl (fun i t q h=>by simp at h) ⟨p2,c2,e2,d1,d2,d3,fun a _ h=>by simp at h⟩ rfl (fun i p q h=>by simp at h) (fun i p q h=>by simp at h)
theorem zmx{w w':World}{B:Nat}{n:Int}{r:RV}(h:TreeOf w B (zho n) r):TreeOf w' 0 (zho n) r:=zna h rfl rfl
theorem NewBox.plain{W:World}{base B:Nat}{b:BoxD}{r:RB}(h:NewBox W base B b r)(hp:zjw b.objs):NewBox W base 0 b r:=by
 obtain⟨ros,h1,h2⟩:=h.objs;refine⟨⟨ros,h1,h2.len,h2.name,fun i p q a c=> ?_⟩,h.trail,h.ok,h.seq,h.floor,h.keep⟩
 obtain⟨n,hn⟩:=hp p (ym a);have:=h2.val i p q a c;rw[hn]at this⊢;exact zmx this
theorem zpy(w:World)(n:Int):TreeOf w 0 (zho n) ⟨3,n,⟨#[]⟩,none,0,0,none,0,0⟩:=
 TreeOf.mk (r:=⟨3,n,⟨#[]⟩,none,0,0,none,0,0⟩) (rs:=[]) (rms:=[]) (Rd.nil _ _) rfl (fun i t q h=>by simp at h) (Rd.nil _ _) rfl (fun i p q h=>by simp at h) (fun i p q h=>by simp at h)
structure AwS(w W:World)(g:Nat)(b:BoxD)(r:RB):Prop where
 box:BoxAt W g r
 new:∃base,g<base/\base<=W.heap.size/\NewBox W base 0 b r
 below:Below w.heap.size w W
 ge:w.heap.size<=g
section
variable {w W W':World} {g:Nat} {b:BoxD} {r:RB} (h:AwS w W g b r)
include h
theorem AwS.go(hb:Below W.heap.size W W'):AwS w W' g b r:=by
 obtain⟨base,h1,h2,h3⟩:=h.new;exact⟨h.box.under hb h.box.lt,⟨base,h1,yg h2 hb.size,h3.below hb (yu _)⟩,h.below.trans (hb.mono h.below.size),h.ge⟩
theorem AwS.of:BoxOf W W.heap.size b r:=by
 obtain⟨base,h1,h2,h3⟩:=h.new;exact h3.box (yu _)
theorem AwS.store{base B:Nat}{b':BoxD}{q:RB}(hg:g<base)(hb:base<=W.heap.size)(hn:NewBox W base B b' q)(hp:zjw b'.objs):AwS w (((((W.setCell ⟨g,0,none⟩ (.slice q.po q.no q.co)).setCell ⟨g,1,none⟩ (.slice q.pt q.nt q.ct)).setCell ⟨g,2,none⟩ (.int .i64 q.sq)).setCell ⟨g,3,none⟩ (.int .i64 q.fl)).setCell ⟨g,4,none⟩ (.int .i64 q.kp)) g b' q:=by
 have hne:=hn.ne hg;refine⟨h.box.stored q,⟨base,hg,by simpa using hb,(hn.plain hp).kept (zt W g q) hne.1 hne.2 (yu _) (yu _)⟩,h.below.grown (zt W g q) h.below.size (fun a e=>by cases e;exact h.ge),h.ge⟩
theorem AwS.put(hr:Rising b.objs)(ob:b.Ok){id:ByteArray}{n:Int}(hn:(Lit.int .i64 n).wf=true)(hid:id.size<=140737488351232){b':BoxD}(he:zbF b id (zho n)=(b',0))(hp:zjw b'.objs):
 Calls ye 53 #[r.val,.string id,.agg #[.int .i64 3,.int .i64 n,.string ⟨#[]⟩,.slice none 0 0,.slice none 0 0]] W fun e w'=>∃q,e= .returned (.tuple #[RB.val q,.int .i64 0])/\AwS w w' g b r/\AwS w (((((w'.setCell ⟨g,0,none⟩ (.slice q.po q.no q.co)).setCell ⟨g,1,none⟩ (.slice q.pt q.nt q.ct)).setCell ⟨g,2,none⟩ (.int .i64 q.sq)).setCell ⟨g,3,none⟩ (.int .i64 q.fl)).setCell ⟨g,4,none⟩ (.int .i64 q.kp)) g b' q:=
 (zlQ b r id (zho n) ⟨3,n,⟨#[]⟩,none,0,0,none,0,0⟩ W h.of hr ob ((zpy W n).mono (yu _)) (zrV n hn) hid).mono fun e w' hq=>by
  obtain⟨q,rfl,h1,h2⟩:=hq;rw[he]at h1⊢;have h3:=h.go h2;exact⟨q,rfl,h3,h3.store (base:=W.heap.size) h.box.lt h2.size h1 hp⟩
theorem AwS.drop(hr:Rising b.objs)(ob:b.Ok){id:ByteArray}(hid:id.size<=140737488351232){b':BoxD}(he:zcy b id=(b',0))(hp:zjw b'.objs):
 Calls ye 54 #[r.val,.string id] W fun e w'=>∃q,e= .returned (.tuple #[RB.val q,.int .i64 0])/\AwS w w' g b r/\AwS w (((((w'.setCell ⟨g,0,none⟩ (.slice q.po q.no q.co)).setCell ⟨g,1,none⟩ (.slice q.pt q.nt q.ct)).setCell ⟨g,2,none⟩ (.int .i64 q.sq)).setCell ⟨g,3,none⟩ (.int .i64 q.fl)).setCell ⟨g,4,none⟩ (.int .i64 q.kp)) g b' q:=
 (zjX b r id W h.of hr ob hid).mono fun e w' hq=>by
  obtain⟨q,rfl,h1,h2⟩:=hq;rw[he]at h1⊢;have h3:=h.go h2;exact⟨q,rfl,h3,h3.store (base:=W.heap.size) h.box.lt h2.size h1 hp⟩
end
end
section
open Go.RowKit
theorem zqb(e:En)(p:Pa):(zbL e p).id=p.id:=by unfold zbL;split<;>rfl
theorem zgy(sq:Int):∀l:List En,((zU sq l).map (·.id)).Nodup
 |[]=>by simp[zU]
 | e :: r => by
   have ih:=zgy sq r;rw[zeh]
   split
   ·exact ih
   ·split
    ·rw[yak];have e1:((fun x:Pa=>x.id)∘zbL e)=(fun x:Pa=>x.id):=by funext p;exact zqb e p
     rw[e1];exact ih
    ·rename_i h1 h2;rw[yaF,List.nodup_cons];refine⟨fun hm=>h2 ?_,ih⟩
     obtain⟨p,hp,he⟩:=y8.1 hm;simp only[ybt,decide_eq_true_eq];exact⟨p,hp,by rw[he];rfl⟩
theorem zkr{sq:Int}{l:List En}{ys:List Pa}(h:IsStable cfP (zU sq l) ys):(ys.map (·.id)).Nodup:=(h.perm.map _).nodup_iff.2 (zgy sq l)
end
end Go.Proofs.YtemofofnkchmeaaGreatDoor
