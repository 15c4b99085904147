import Derived.Test.YtemofofnkchmeaaGreatDoorL14
import Derived.Test.YtemofofnkchmeaaGreatDoorL04
import Derived.Maps.OwnIn
import Derived.Test.YtemofofnkchmeaaGreatDoorL11
import Derived.Test.YtemofofnkchmeaaGreatDoorL00
import Derived.Test.YtemofofnkchmeaaGreatDoorL07
import Derived.Test.YtemofofnkchmeaaGreatDoorL10
import Derived.Test.YtemofofnkchmeaaGreatDoorL12
set_option linter.unusedSimpArgs false
set_option linter.unusedVariables false
set_option maxRecDepth 200000
set_option maxHeartbeats 8000000
namespace Go.Proofs.YtemofofnkchmeaaGreatDoor
open _root_.Array renaming getElem?_eq_some_iff->yl,length_toList->yH
open _root_.Go.RowKit.Below renaming heap_alloc->yaM,refl->yh
open _root_.Go.Lib renaming hid->yc
open _root_.List renaming all_eq_true->yah,filter_cons->ya7,getElem?_eq_getElem->yf,getElem?_eq_some_iff->yi,length_append->yp,length_map->yy,map_append->yao,map_singleton->yaQ,mem_of_getElem?->ym
open _root_.Nat renaming add_zero->yw,le_refl->yd,le_trans->yg,lt_of_lt_of_le->yL,mul_one->ya4,zero_le->yu
open _root_.Go.Proofs.Tryz renaming prog->ye
section
open Go Go.RowKit Go.OpenShut Go.Shelf
attribute [local go_sem] Oper.semAt_some
def zqa{α:Type}(B:Nat)(ok:Nat->Prop)(I:List α->World->Prop)(xs:List α)(W:World):Exit->Act->World->Prop
 | .normal,_,W'=>KeepsFrom B W W'/\(∀b,ok b->W'.heap[b]? =W.heap[b]?)/\I xs W'
 |_,_,_=>False
theorem zgf{α:Type}{F:Fence}{n:Nat}{P:Program}{g:Operand}{ps:Array Tmp}{assign body:Code}{Q:Exit->Act->World->Prop}{a:Act}{w:World}
 (hro:F.round=none) (h1:1<=n) {gf:Nat} {lb:Array Value} (hg:a.eval g= .func (.func gf) #[] lb) (hFg:F.fn gf) (eg:∀args w,(callFunc gf args).run P w= .ok (.enter gf args) w)
 {encs:α->Array Value} (hps:∀x,(encs x).size=ps.size) (N:Nat) (ok:Nat->Prop) (hok:∀b,ok b->b<w.heap.size) (all:List α) (I:List α->World->Prop)
 (hI:∀s X Y row,I s X->X.grownBy Y row->(∀r,row=some r->ok r\/w.heap.size<=r/\∃o:Obj,X.heap[r]? =some o/\o.isCells=false)->I s Y) (h0:I [] w)
 (hseq:∀(l:Nat) (J:List α->World->Prop) (W:World),(∀b,ok b->W.heap[b]? =w.heap[b]?)->(∀s X Y b,ok b->J s X->X.grownBy Y (some b)->J s Y)->
  (∀pre x W1,J pre W1->pre.length<N->YieldAt F (n-1-1) P l (encs x) W1 fun e W'=>e= .returned (.bool true)/\J (pre++[x]) W'/\∀b,ok b->W'.heap[b]? =W1.heap[b]?)->J [] W->
  CallsIn F (n-1) P gf (#[.func (.yield l) #[] #[]]++lb) W fun e W'=>(∃v,e= .returned v)/\J all W')
 (a₁:α->Act)
 (hassign:∀(l:Nat) (x:α) (W:World) (K:Act->World->Prop),K (a₁ x) W->assign.wpIn (F.inRound l) (n-1-1) P (Exit.then K (fun _ _ _=>False)) {tmps:=(ps.zip (encs x)).foldl (fun t (p,v)=>t.setIfInBounds p v) a.tmps,defers:=[]} W)
 (hbody:∀(l:Nat) (pre:List α) (x:α) (W:World),w.heap.size<=W.heap.size->I pre W->pre.length<N->body.wpIn (F.inRound l) (n-1-1) P (zqa w.heap.size ok I (pre++[x]) W) (a₁ x) W)
 (hdone:∀(D:Nat) (W:World),w.heap.size<=D->I all W->W.heap[D]? =some (.deferred (some []))->Q .normal {a with defers:={target:= .collected D,args:=#[]}::a.defers} W):
 (Code.rangeFunc g ps assign body).wpIn F n P Q a w:=by
 refine wpIn_rangeFunc ?_;intro fn hfn;rw[hro];obtain⟨H,hH⟩:∃H,w.heap.size=H:=⟨_,rfl⟩;obtain⟨rec,hrec⟩:∃rec:LoopState->Loop,rec=fun st=>{state:=st,pending:=none,fn,tmps:=a.tmps,params:=ps,assign,body,defers:=w.heap.size}:=⟨_,rfl⟩
 obtain⟨V,hV⟩:∃V,(w.alloc (.deferred (some []))).alloc (.loop (rec .ready))=V:=⟨_,rfl⟩
 have vl:V.heap[H+1]? =some (.loop (rec .ready)):=by
  have:=World.alloc_heap_new (w.alloc (.deferred (some []))) (.loop (rec .ready));rw[hV,World.size_alloc,hH]at this;exact this
 have vd:V.heap[H]? =some (.deferred (some [])):=by
  rw[<-hV,<-hH];exact(yaM _ _ _ (by simp)).trans (World.alloc_heap_new w _)
 have gV:w.grownBy V none:=by rw[<-hV];exact World.grownBy.trans (World.grownBy_alloc w _ none) (World.grownBy_alloc _ _ none)
 refine⟨H+1,[{target:= .collected H,args:=#[]}],V,{target:= .fn (.func gf) lb,args:=#[.func (.yield (H+1)) #[] #[]]},V,gf,
  #[.func (.yield (H+1)) #[] #[]]++lb,V,?_,?_,?_,?_,fun _=>h1,?_⟩
 ·rw[<-hV,hrec,<-hH];exact run_enterLoop_outer _ _ _ _ _
 ·simp only[resolve,hg];simp[go_sem]
 ·intro f' hf';simp[Target.leads]at hf';subst hf';exact hFg
 ·simp[invoke,go_sem,eg]
 ·refine(hseq (H+1) (fun pre W=>I pre W/\H+1<W.heap.size/\W.heap[H+1]? =some (.loop (rec .ready))/\W.heap[H]? =some (.deferred (some []))) V (fun b hb=>gV.block b (hok b hb) (by simp)) ?_ ?_ ?_).mono ?_
  ·rintro s X Y b hb ⟨i,hs,l1,d1⟩ hg';have hbl:=hok b hb;refine⟨hI s X Y _ i hg' (fun r e=>by cases e;exact .inl hb),yL hs hg'.size,?_,?_⟩
   ·exact(hg'.block (H+1) hs (fun e=>by cases e;omega)).trans l1
   ·exact(hg'.block H (by omega) (fun e=>by cases e;omega)).trans d1
  ·rintro pre x W ⟨i,hs,l1,d1⟩ hlen;have hy:=run_yield (P:=P) (args:=encs x) l1 (by rw[hrec];exact hps x)
   rw[hrec]at hy;refine⟨fn,_,assign,body,hy,roundIn_of_wpIn hfn (hassign _ x W _ ?_)⟩;refine⟨_,run_beginRound l1 (by rw[hrec]),?_⟩
   obtain⟨rec2,hrec2⟩:∃r2:Loop,{rec .ready with state:= .busy}=r2:=⟨_,rfl⟩
   rw[hrec2];have l2:(W.putObj (H+1) (.loop rec2)).heap[H+1]? =some (.loop rec2):=World.putObj_heap_same hs;have d2:(W.putObj (H+1) (.loop rec2)).heap[H]? =some (.deferred (some [])):=(World.putObj_heap_other (by omega)).trans d1
   have i2:I pre (W.putObj (H+1) (.loop rec2)):=hI _ _ _ _ i (grownBy_putObj' W (H+1) _) (fun r e=>by cases e;exact .inr ⟨by omega,_,l1,rfl⟩)
   refine wpIn_mono (hbody _ pre x _ (by simp;omega) i2 hlen) ?_
   rintro e a3 W3 hp;cases e with
   | normal =>
     obtain⟨k3,o3,i3⟩:=hp;have l3:=k3.same _ _ (by omega) l2 rfl
     have d3:=k3.same _ _ (by omega) d2 rfl
     have s3:=(yl.1 l3).1;have hr:=run_endRound (P:=P) none l3;have er:({rec2 with state:=if(none:Option Code).isNone then .ready else .done,pending:=none}:Loop)=rec .ready:=by rw[<-hrec2,hrec];rfl
     rw[er]at hr;refine⟨_,_,hr,rfl,⟨hI _ _ _ _ i3 (grownBy_putObj' W3 (H+1) _) (fun r e=>by cases e;exact .inr ⟨by omega,_,l3,rfl⟩),by simpa using s3,World.putObj_heap_same s3,(World.putObj_heap_other (by omega)).trans d3⟩,?_⟩
     intro b hb;have hbl:=hok b hb;rw[World.putObj_heap_other (by omega),o3 b hb,World.putObj_heap_other (by omega)]
   |ret=>exact hp.elim
   |exit id=>exact hp.elim
   |goto t=>exact hp.elim
   |panic ch=>exact hp.elim
   |outgrown=>exact hp.elim
  ·exact⟨hI _ _ _ _ h0 gV (by simp),(yl.1 vl).1,vl,vd⟩
  ·rintro e W2 ⟨⟨v,rfl⟩,i,hs,l1,d1⟩;have hr:=run_endLoop (P:=P) l1 (by rw[hrec];simp)
   refine⟨none,_,by rw[hr,hrec],hdone H _ (by omega) (hI _ _ _ _ i (grownBy_putObj' W2 (H+1) _) (fun r e=>by cases e;exact .inr ⟨by omega,_,l1,rfl⟩)) ((World.putObj_heap_other (by omega)).trans d1)⟩
attribute [local go_sem] Oper.semAt_some
theorem zlh{P:Program}{w:World}{a:Addr}(f:Fn)(x y:Array Value)(m:Mode):(store a (.func f x y) m).run P w=stored P w a (.func f x y) m:=run_store P w a _ m rfl
attribute [local go_sem] zlh
theorem zlN{W:World}{base:Nat}{e:TypeId}{α:Type}{enc:α->List Value}{sz:Nat}{v:Value}{xs:List α}(h:Own W base e enc sz v xs)(r:Nat)(hr:v.ownBlock=some r):base<=r/\∃cur,W.heap[r]? =some (.cells cur e (0,0)):=by
 rcases h.2 with⟨rfl,_⟩|⟨g,cap,cur,rfl,h1,h2,_⟩
 ·cases hr
 ·obtain rfl:g=r:=by simpa[Value.ownBlock]using hr
  exact⟨h1,cur,h2⟩
def TmI(w:World)(pre:List (List UInt8))(W:World):Prop:=
 ∃o,Boxed W w.heap.size 42 o/\Own W (w.heap.size+4) 9 zg 1 o (pre.map zy)/\Below w.heap.size w W
theorem TmI.kept{w:World}{pre:List (List UInt8)}{X Y:World}{row:Option Nat}(h:TmI w pre X)(hg:X.grownBy Y row)
 (hr:∀r,row=some r->(r=w.heap.size+1\/r=w.heap.size+1+1\/r=w.heap.size+1+1+1)\/w.heap.size+4<=r/\∃o:Obj,X.heap[r]? =some o/\o.isCells=false):TmI w pre Y:=by
 obtain⟨o,h1,h2,h3⟩:=h;refine⟨o,h1.kept hg (fun e=> ?_),h2.kept hg ?_,h3.grown hg h3.size (fun k e=> ?_)⟩
 ·have:=hr _ e.symm;omega
 ·cases ho:o.ownBlock with
  |none=>exact .inl rfl
  | some r =>
    refine .inr fun e=> ?_
    obtain⟨hb,cur,hc⟩:=zlN h2 r ho
    rcases hr _ e.symm with h|⟨_,o',ho',hoc⟩
    ·omega
    ·rw[hc]at ho';cases ho';cases hoc
 ·have:=hr _ e;omega
theorem zqW:(ye.info? 9).map (fun i=>(i.zero,i.size,i.bytes))=some (some (.string ByteArray.empty),1,16):=by kernel_rfl
theorem zou(w:World)(q:ByteArray)(hq:q.size<=1000000):
 Calls ye 125 #[.string q] w fun e w'=>∃v,e= .returned v/\Own w' w.heap.size 9 zg 1 v ((zI q.data.toList).map zy)/\Below w.heap.size w w':=by
 refine(callsIn_wide (n:=6)).1 ?_;obtain⟨F,hFw,hF,hro⟩:∃F:Fence,F=Fence.wide/\(∀g,F.fn g)/\F.round=none:=⟨_,rfl,fun _=>trivial,rfl⟩
 obtain⟨n,hn,hn6⟩:∃n:Nat,6<=n/\6=n:=⟨6,by omega,rfl⟩
 rw[<-hFw];rw[hn6];have HF:=yc hFw;clear hFw hn6;have h1:1<=n:=by omega
 have HT:Hid (∀W,CallsIn F (n-1) ye 176 #[.string q] W fun e w'=>e= .returned (.func (.func 207) #[] #[.pointer (some ⟨W.heap.size,0,none⟩),.pointer (some ⟨W.heap.size+1,0,none⟩),.pointer (some ⟨W.heap.size+1+1,0,none⟩)])/\
  w'=((W.alloc (.cells #[.string q] 9)).alloc (.cells #[.func (.func 205) #[] #[]] 265)).alloc (.cells #[.func (.func 206) #[] #[]] 265)):=by
  intro W;rw[HF.out];refine(callsIn_wide (n:=n-1)).2 ?_
  go_enter Tryz.func176,Tryz.ntmps176
  go_wp2_with fail
  go_ret;exact⟨rfl,rfl⟩
 refine callsIn_of_wp_marks Tryz.func125 rfl (hF _) ?_ hro;simp only[Tryz.ntmps125,List.size_toArray,List.length_cons,List.length_nil,Nat.reduceAdd,Nat.reduceSub,Array.replicate_succ,Array.replicate_zero,List.push_toArray,List.append_toArray,List.nil_append,List.cons_append]
 gi_wp2_with (gi_at_call 176;(with_reducible refine(HT.out _).mono ?_);rintro e w1 ⟨rfl,rfl⟩)
 obtain⟨W2,hW2⟩:∃W2,((((w.alloc (.cells #[.slice none 0 0] 42)).alloc (.cells #[.string q] 9)).alloc (.cells #[.func (.func 205) #[] #[]] 265)).alloc (.cells #[.func (.func 206) #[] #[]] 265))=W2:=⟨_,rfl⟩
 have hI2:TmI w [] W2/\W2.heap.size=w.heap.size+4/\Boxed W2 (w.heap.size+1) 9 (.string q)/\Boxed W2 (w.heap.size+1+1) 265 (.func (.func 205) #[] #[])/\Boxed W2 (w.heap.size+1+1+1) 265 (.func (.func 206) #[] #[]):=by
  rw[<-hW2];have b0:=((((Boxed.new w 42 (.slice none 0 0)).alloc (.cells #[.string q] 9)).alloc (.cells #[.func (.func 205) #[] #[]] 265)).alloc (.cells #[.func (.func 206) #[] #[]] 265));have b1:=(((Boxed.new (w.alloc (.cells #[.slice none 0 0] 42)) 9 (.string q)).alloc (.cells #[.func (.func 205) #[] #[]] 265)).alloc (.cells #[.func (.func 206) #[] #[]] 265));have b2:=((Boxed.new ((w.alloc (.cells #[.slice none 0 0] 42)).alloc (.cells #[.string q] 9)) 265 (.func (.func 205) #[] #[])).alloc (.cells #[.func (.func 206) #[] #[]] 265));have b3:=Boxed.new (((w.alloc (.cells #[.slice none 0 0] 42)).alloc (.cells #[.string q] 9)).alloc (.cells #[.func (.func 205) #[] #[]] 265)) 265 (.func (.func 206) #[] #[]);simp only[World.size_alloc]at b0 b1 b2 b3;exact⟨⟨_,b0,Own.nil _ _ _,((((yh _ w).alloc (yd _) _).alloc (by simp) _).alloc (by simp;omega) _).alloc (by simp;omega) _⟩,by simp,b1,b2,b3⟩
 rw[hW2];clear hW2;obtain⟨hI,hz,c1,c2,c3⟩:=hI2;have C1:=yc c1;have C2:=yc c2;have C3:=yc c3;clear c1 c2 c3;obtain⟨i0,hi,hz0,hz1,hz2⟩:=info_parts zqW
 refine zgf hro h1 (gf:=207) (lb:=#[.pointer (some ⟨w.heap.size+1,0,none⟩),.pointer (some ⟨w.heap.size+1+1,0,none⟩),.pointer (some ⟨w.heap.size+1+1+1,0,none⟩)]) rfl (hF _) (enters_of Tryz.func207 (by kernel_rfl) rfl)
  (encs:=fun t=>#[.string (zy t)]) (fun _=>rfl) q.size (fun b=>b=w.heap.size+1\/b=w.heap.size+1+1\/b=w.heap.size+1+1+1) (fun b hb=>by omega) (zI q.data.toList) (TmI w)
  (fun s X Y row hs hg hr=>hs.kept hg (by rw[hz]at hr;exact hr)) hI
  (fun l J W hW hJ hY hJ0=>zqX F HF.out (n-1) (by omega) l (w.heap.size+1) (w.heap.size+1+1) (w.heap.size+1+1+1) q.size J q hq (yd _) (by omega) (by omega) (fun s X Y h hg=>hJ s X Y _ (.inl rfl) h hg) hY W
   ((hW _ (.inl rfl)).trans C1.out) ((hW _ (.inr (.inl rfl))).trans C2.out) ((hW _ (.inr (.inr rfl))).trans C3.out) hJ0)
  (fun t=>{tmps:=#[.string q,undef,.slice none 0 0,.pointer (some ⟨w.heap.size,0,none⟩),.string (zy t),.string q,.func (.func 207) #[] #[.pointer (some ⟨w.heap.size+1,0,none⟩),.pointer (some ⟨w.heap.size+1+1,0,none⟩),.pointer (some ⟨w.heap.size+1+1+1,0,none⟩)],.string (zy t),undef,undef,undef,undef,undef],defers:=[]})
  ?assign ?body ?done
 case assign=>
  rintro l x W K hK
  gi_wp2
  exact hK
 case body=>
  rintro l pre x W hl ⟨o,bo,HO,hb⟩ hlt;have co:=bo.cell;have lo:=bo.lt;have hvs:∃a len cap,o= .slice a len cap:=by obtain⟨a,cap,h,_⟩:=HO.len;exact⟨_,_,_,h⟩
  have hM:Hid (pre.length+1<=maxLen):=by unfold Hid maxLen;omega
  have hY:Hid ((pre.length+1)*16<=140737488355328):=by unfold Hid;omega
  have HB:=yc hb;have HBO:=yc bo;have HOO:=yc HO;clear hb bo
  gi_wp2_with (gi_at_builtin; refine wpListIn_append_own _ rfl _ _ 42 rfl (w.heap.size + 4) 9 i0 _ 1 16 Tryz.underlying42 hi hz0 hz1 hz2 rfl (by decide) _ _ _ rfl (HO.alloc _) ⟨W.heap.size, 0, none⟩ 1 1 [.string (zy x)] rfl rfl (cell_one_new _ _ _) (by simp [Value.oneCell']) (by simpa using hM.out) (by simpa using hY.out) (by simp; omega) ?_
               intro v' w3 hown' hg3 hnil3;have bo3:=((HBO.out.alloc _).kept hg3 (HBO.out.not_row (by decide) HOO.out))
               have co3:=bo3.cell;have fo3:=bo3.frozen
               obtain⟨g',cap',rfl⟩:∃g' cap',v'= .slice (some ⟨g',0,none⟩) (pre.length+1) cap':=by
                have:=ownsRow_succ hown'
                rwa[yy]at this
               go_frame)
  replace hg3:(W.alloc (.cells #[.string (zy x)] 9)).grownBy w3 o.ownBlock:=hg3
  have hO3:Own w3 (w.heap.size+4) 9 zg 1 (.slice (some ⟨g',0,none⟩) (pre.length+1) cap') ((pre++[x]).map zy):=by
   unfold Own;rw[yao,yaQ,zv,zbG,yp];exact hown'
  have hown2:=hown'.kept (grownBy_setCell' w3 w.heap.size (.slice (some ⟨g',0,none⟩) (pre.length+1) cap')) (.inr (bo3.not_row (by decide) hown').symm)
  obtain⟨q1,q2,q3,q4,q5⟩:=Boxed.appended (W:=W) (tmp:= .cells #[.string (zy x)] 9) HBO.out (by decide) (HOO.out.mono (show w.heap.size<=_ by omega)) (by omega) (yd _) (hO3.mono (show w.heap.size<=_ by omega)) hg3
  refine⟨q4.from _,?_,⟨_,q2,?_,HB.out.trans q5⟩⟩
  ·intro b hb;have hbl:b<W.heap.size:=by omega
   rw[(grownBy_setCell' w3 w.heap.size (.slice (some ⟨g',0,none⟩) (pre.length+1) cap')).block b (by have:=hg3.size;simp at this;omega) (fun e=>by cases e;omega)]
   rw[hg3.block b (by simp;omega) (fun e=>by have:=(zlN HOO.out b e.symm).1;omega)]
   exact yaM _ _ _ hbl
  ·unfold Own;rw[yao,yaQ,zv,zbG,yp];exact hown2
 case done=>
  rintro D W hD ⟨o,bo,HO,hb⟩ hK;have co:=bo.cell;have lo:=bo.lt;have HB:=yc hb;have HK:=yc hK;have HOO:=yc HO;clear hb hK HO
  gi_wp2
  refine⟨by simp,.inl ⟨_,_,rfl,run_takeDeferred HK.out,?_⟩⟩
  refine⟨_,results_tmp rfl _ _ _,o,rfl,ownsRow_putObj (HOO.out.mono (by omega)) _ HK.out rfl,?_⟩
  exact HB.out.grown (grownBy_putObj' W D _) HB.out.size (fun k e=>by cases e;omega)
end
section
open Go Go.RowKit Go.OpenShut
def MaxAt(w:World):Prop:=∃m:Int,w.cell? ⟨1,0,none⟩=some (.int .i64 m)
theorem MaxAt.below{w w':World}(h:MaxAt w)(hb:Below w.heap.size w w'):MaxAt w':=by
 obtain⟨m,h⟩:=h;exact⟨m,zc hb (zbD h).2 h⟩
theorem zkU(s t:ByteArray)(w:World)(hs:s.size<=4000000000)(ht:t.size<=maxLen)(hm:MaxAt w):
 Calls ye 128 #[.string s,.string t] w fun e w'=>e= .returned (.bool (zfb s.data.toList t.data.toList))/\Below w.heap.size w w':=by
 have HS:Hid (∀W,Calls ye 179 #[.string s] W fun e w'=>e= .returned (.string (zy (zN s.data.toList)))/\Below W.heap.size W w'):=fun W=>zfN s W (by unfold maxLen;omega)
 have HT:Hid (∀W,Calls ye 179 #[.string t] W fun e w'=>e= .returned (.string (zy (zN t.data.toList)))/\Below W.heap.size W w'):=fun W=>zfN t W ht
 have hl:(zN s.data.toList).length=s.size:=by
  unfold zN;rw[yy,yH]
  rfl
 have HC:Hid (∀W,MaxAt W->Calls ye 178 #[.string (zy (zN s.data.toList)),.string (zy (zN t.data.toList))] W fun e w'=>e= .returned (.bool (zfb s.data.toList t.data.toList))/\w'=W):=by
  rintro W ⟨m,hW⟩;have:=strings_Contains (zy (zN s.data.toList)) (zy (zN t.data.toList)) m W (by rw[zbK,hl];omega) hW
  rw[zcd,zcd]at this;exact this
 have HM:=yc hm;clear hm hl;obtain⟨R,hR⟩:∃R,zfb s.data.toList t.data.toList=R:=⟨_,rfl⟩;rw[hR]at HC⊢;clear hR
 go_enter Tryz.func128,Tryz.ntmps128
 go_wp2_with (first
  |(go_at_call 179;(with_reducible refine(HS.out _).mono ?_);rintro e w1 ⟨rfl,hb1⟩)
  |(go_at_call 179;(with_reducible refine(HT.out _).mono ?_);rintro e w2 ⟨rfl,hb2⟩)
  |(go_at_call 178;(with_reducible refine(HC.out _ ((HM.out.below hb1).below hb2)).mono ?_);rintro e w3 ⟨rfl,rfl⟩))
 go_ret;exact⟨rfl,hb1.trans (hb2.mono hb1.size)⟩
theorem zmt(x t:ByteArray)(g:Nat)(w:World)(hg:w.cell? ⟨g,0,none⟩=some (.string t))(hs:x.size<=4000000000)(ht:t.size<=maxLen)(hm:MaxAt w):
 Calls ye 127 #[.string x,.pointer (some ⟨g,0,none⟩)] w fun e w'=>e= .returned (.bool (zfb x.data.toList t.data.toList))/\Below w.heap.size w w':=by
 have HC:=yc (zkU x t w hs ht hm);clear hm
 go_enter Tryz.func127,Tryz.ntmps127
 go_wp2_with (go_at_call 128;(with_reducible refine HC.out.mono ?_);rintro e w1 ⟨rfl,hb1⟩)
 go_ret;exact⟨rfl,hb1⟩
def zfw(pb:ByteArray->Bool)(rs:List ByteArray):Bool:=rs.any pb
theorem zoF(pb:ByteArray->Bool)(rs:List ByteArray):zfw pb rs=(rs.findIdx? pb).isSome:=by
 unfold zfw;rw[List.findIdx?_isSome]
theorem zmi(w:World)(p:Option Addr)(n c g:Nat)(rs:List ByteArray)(pb:ByteArray->Bool)(hv:Rd w w.heap.size zg 1 (.slice p n c) rs)(hlen:rs.length<=1759218604390)
 (HP:∀(i:Nat) x,rs[i]? =some x->∀W,Below w.heap.size w W->Calls ye 127 #[.string x,.pointer (some ⟨g,0,none⟩)] W fun e w'=>e= .returned (.bool (pb x))/\Below W.heap.size W w'):
 Calls ye 177 #[.slice p n c,.func (.func 127) #[] #[.pointer (some ⟨g,0,none⟩)]] w fun e w'=>e= .returned (.int .i64 (zbt (rs.findIdx? pb)))/\Below w.heap.size w w':=by
 have hn:=zi hv;subst hn;have HV:=yc hv;have HPB:=yc HP;clear hv HP
 go_enter Tryz.func177,Tryz.ntmps177
 go_wp2_with fail
 go_loopw [8] (fun i wr=>∃k:Nat,k<=rs.length/\i= .int .i64 k/\Hid (∀(j:Nat) y,j<k->rs[j]? =some y->pb y=false)/\Below w.heap.size w wr) (fun i _=>rs.length-(intOf i).toNat)
 case atStart=>exact⟨0,yu _,rfl,fun j y h=>by omega,yh _ _⟩
 case round=>
  obtain⟨k,hk,rfl,hno,hbr⟩:=hrel;by_cases hlt:k<rs.length
  ·obtain⟨x,hx⟩:∃x,rs[k]? =some x:=⟨_,yf hlt⟩;obtain⟨b1,o1,rfl,hb1,hc1⟩:=zq (HV.out.below hbr (yd _)) hx;have f0:=hc1 0 _ rfl;rw[yw]at f0
   try rw[ya4]at f0
   have HX:=yc hx;have HBR:=yc hbr;have HQ:Hid (∀W,Below w.heap.size w W->Calls ye 127 #[.string x,.pointer (some ⟨g,0,none⟩)] W fun e w'=>e= .returned (.bool (pb x))/\Below W.heap.size W w'):=HPB.out k x hx
   cases hnb:pb x
   all_goals
    rw[hnb]at HQ;have HNB:=yc hnb;have HNO:=yc hno.out;clear hx hc1 hbr hnb hno
    go_wp2_with (go_at_call 127;refine(HQ.out _ HBR.out).mono ?_;rintro e w1 ⟨rfl,hb1'⟩)
    first
     | (go_roundw
        case rel=>
         refine⟨k+1,by omega,by go_num,?_,HBR.out.trans (hb1'.mono HBR.out.size)⟩
         intro j y hj hy;by_cases e:j=k
         ·subst e;have h2:=HX.out;rw[hy]at h2;cases h2;exact HNB.out
         ·exact HNO.out j y (by omega) hy
        case measure=>simp[intOf];omega)
     | (go_ret
        have HF:=zfk HX.out HNB.out HNO.out;exact⟨zcD (by rw[HF];rfl),HBR.out.trans (hb1'.mono HBR.out.size)⟩)
  ·obtain rfl:k=rs.length:=by omega
   have HF:=yc (zeL (p:=pb) (l:=rs) (fun j y hy=>hno.out j y (yi.1 hy).1 hy))
   go_wp2_with fail
   go_ret;exact⟨zcD (by rw[HF.out];rfl),hbr⟩
theorem zjm(w:World)(p:Option Addr)(n c g:Nat)(rs:List ByteArray)(pb:ByteArray->Bool)(hv:Rd w w.heap.size zg 1 (.slice p n c) rs)(hlen:rs.length<=1759218604390)
 (HP:∀(i:Nat) x,rs[i]? =some x->∀W,Below w.heap.size w W->Calls ye 127 #[.string x,.pointer (some ⟨g,0,none⟩)] W fun e w'=>e= .returned (.bool (pb x))/\Below W.heap.size W w'):
 Calls ye 126 #[.slice p n c,.func (.func 127) #[] #[.pointer (some ⟨g,0,none⟩)]] w fun e w'=>e= .returned (.bool (zfw pb rs))/\Below w.heap.size w w':=by
 have HC:=yc (zmi w p n c g rs pb hv hlen HP);have HT:=yc (zoF pb rs);clear hv HP hlen
 generalize rs.findIdx? pb=o at HC HT
 cases o with
 | none =>
   have hd:decide ((0:Int)<=zbt none)=false:=by decide
   go_enter Tryz.func126,Tryz.ntmps126
   go_wp2_with (go_at_call 177;refine HC.out.mono ?_;rintro e w1 ⟨rfl,hb1⟩)
   go_ret;exact⟨zK (by rw[HT.out];rfl),hb1⟩
 | some i =>
   have hd:decide ((0:Int)<=zbt (some i))=true:=by simp[zbt]
   go_enter Tryz.func126,Tryz.ntmps126
   go_wp2_with (go_at_call 177;refine HC.out.mono ?_;rintro e w1 ⟨rfl,hb1⟩)
   go_ret;exact⟨zK (by rw[HT.out];simp),hb1⟩
theorem zmu(q:List UInt8)(ts:List ByteArray):zel q ts=((zI q).map zy).all (fun t=>zfw (fun s=>zfb s.data.toList t.data.toList) ts):=by
 unfold zel zfw;rw[List.all_map]
 congr 1
 try(funext t;simp only[Function.comp_apply,zcd])
theorem zqv{α:Type}{p:α->Bool}{l:List α}(h:∀(j:Nat) y,l[j]? =some y->p y=true):l.all p=true:=by
 rw[yah];intro x hx;obtain⟨j,hj,rfl⟩:=List.mem_iff_getElem.1 hx;exact h j _ (yf hj)
theorem zru{α:Type}{p:α->Bool}{l:List α}{k:Nat}{x:α}(hx:l[k]? =some x)(hp:p x=false):l.all p=false:=by
 cases h:l.all p with
 |false=>rfl
 | true =>
   rw[yah]at h;have:=h x (ym hx);rw[hp]at this;cases this
theorem znP(w:World)(q:ByteArray)(p:Option Addr)(n c:Nat)(ts:List ByteArray)(hq:q.size<=1000000)(hv:Rd w w.heap.size zg 1 (.slice p n c) ts)(hlen:ts.length<=1759218604390)
 (hts:∀t∈ts,t.size<=4000000000) (hm:MaxAt w):
 Calls ye 78 #[.string q,.slice p n c] w fun e w'=>e= .returned (.bool (zel q.data.toList ts))/\Below w.heap.size w w':=by
 have HT:Hid (Calls ye 125 #[.string q] w fun e w'=>∃p1 c1,e= .returned (.slice p1 ((zI q.data.toList).map zy).length c1)/\Rd w' w'.heap.size zg 1 (.slice p1 ((zI q.data.toList).map zy).length c1) ((zI q.data.toList).map zy)/\Below w.heap.size w w'):=by
  refine(zou w q hq).mono ?_;rintro e w1 ⟨v,rfl,ho,hb⟩;obtain⟨a,cap,rfl,_⟩:=ho.len;exact⟨_,_,rfl,(ho.rd zn),hb⟩
 have hT1:((zI q.data.toList).map zy).length<=1000000:=by
  rw[yy];have h1:=zeB q.data.toList;have h2:q.data.toList.length=q.size:=by rw[yH];rfl
  omega
 have hT2:Hid (∀t∈(zI q.data.toList).map zy,t.size<=maxLen):=by
  intro t ht;obtain⟨u,hu,rfl⟩:=List.mem_map.1 ht;have h1:=zlq hu;have h2:q.data.toList.length=q.size:=by rw[yH];rfl
  rw[zbK];unfold maxLen;omega
 rw[zmu];obtain⟨T,hTT⟩:∃T,(zI q.data.toList).map zy=T:=⟨_,rfl⟩;rw[hTT]at HT hT1 hT2⊢;clear hTT;have HV:=yc hv;have HM:=yc hm;have HTS:=yc hts;clear hv hm hts
 go_enter Tryz.func78,Tryz.ntmps78
 go_wp2_with (go_at_call 125;(with_reducible refine HT.out.mono ?_);rintro e w1 ⟨p1,c1,rfl,hr1,hb1⟩)
 have HR:=yc hr1;clear hr1
 go_loopw [10] (fun i wr=>∃k:Nat,k<=T.length/\i= .int .i64 k/\Hid (∀(j:Nat) y,j<k->T[j]? =some y->zfw (fun s=>zfb s.data.toList y.data.toList) ts=true)/\Below w1.heap.size w1 wr) (fun i _=>T.length-(intOf i).toNat)
 case atStart=>exact⟨0,yu _,rfl,fun j y h=>by omega,yh _ _⟩
 case round=>
  obtain⟨k,hk,rfl,hyes,hbr⟩:=hrel;by_cases hlt:k<T.length
  ·obtain⟨x,hx⟩:∃x,T[k]? =some x:=⟨_,yf hlt⟩;obtain⟨b1,o1,rfl,hb1',hc1⟩:=zq (HR.out.below hbr (yd _)) hx;have f0:=hc1 0 _ rfl;rw[yw]at f0
   try rw[ya4]at f0
   have HX:=yc hx;have hbw:Below w.heap.size w wr:=hb1.trans (hbr.mono hb1.size);have hbn:Below w.heap.size w (wr.alloc (.cells #[.string x] 9)):=hbw.alloc hbw.size _;have HBN:=yc hbn;have HBR:=yc hbr
   have HC:Hid (Calls ye 126 #[.slice p n c,.func (.func 127) #[] #[.pointer (some ⟨wr.heap.size,0,none⟩)]] (wr.alloc (.cells #[.string x] 9)) fun e w'=>e= .returned (.bool (zfw (fun s=>zfb s.data.toList x.data.toList) ts))/\Below (wr.alloc (.cells #[.string x] 9)).heap.size (wr.alloc (.cells #[.string x] 9)) w'):=by
    refine zjm _ p n c wr.heap.size ts _ ((HV.out.below hbn (yd _)).mono hbn.size) hlen ?_;intro i s hs W hW;refine zmt s x wr.heap.size W (zc hW (by simp) (Boxed.new wr 9 (.string x)).cell) (HTS.out s (ym hs)) (hT2.out x (ym hx)) ((HM.out.below hbn).below hW)
   cases hnb:zfw (fun s=>zfb s.data.toList x.data.toList) ts
   all_goals
    rw[hnb]at HC;have HNB:=yc hnb;have HYES:=yc hyes.out;clear hx hc1 hbr hnb hyes hbn hbw
    go_wp2_with (go_at_call 126;(with_reducible refine HC.out.mono ?_);rintro e w2 ⟨rfl,hb2⟩)
    first
     | (go_roundw
        case rel=>
         refine⟨k+1,by omega,by go_num,?_,(HBR.out.alloc HBR.out.size _).trans (hb2.mono (by have:=HBR.out.size;simp;omega))⟩
         intro j y hj hy;by_cases e:j=k
         ·subst e;have h2:=HX.out;rw[hy]at h2;cases h2;exact HNB.out
         ·exact HYES.out j y (by omega) hy
        case measure=>simp[intOf];omega)
     | (go_ret
        exact⟨zK (zru HX.out HNB.out).symm,HBN.out.trans (hb2.mono HBN.out.size)⟩)
  ·obtain rfl:k=T.length:=by omega
   have HF:=yc (zqv (p:=fun t=>zfw (fun s=>zfb s.data.toList t.data.toList) ts) (l:=T) (fun j y hy=>hyes.out j y (yi.1 hy).1 hy))
   go_wp2_with fail
   go_ret;exact⟨zK HF.out.symm,hb1.trans (hbr.mono hb1.size)⟩
theorem zpW(t:JV)(r:RV)(w:World)(B:Nat)(hBw:B<=w.heap.size)(ht:TreeOf w B t r)(ot:t.Ok)(hct:zf t<=100000):
 Calls ye 29 #[r.val,.string zh] w (zD w 9 zg 1 (zbn (zba t))):=by
 obtain⟨W0,hW0⟩:∃W0,w.alloc r.obj=W0:=⟨_,rfl⟩;have hA0:VAt W0 w.heap.size r:=by rw[<-hW0];exact za rfl
 have hB0:Below w.heap.size w W0:=by rw[<-hW0];exact(yh _ _).alloc (yd _) _
 have HC:Hid (Calls ye 62 #[r.val,.string zh] W0 (zV W0 B (t.get zh))):=zT t r zh W0 B (yg hBw hB0.size) (ht.under (hB0.mono hBw) (yd _)) ot;have hw0:=hB0.size;have HTR:Hid (∀W,Below w.heap.size w W->TreeOf W B t r):=fun W hW=>ht.under (hW.mono hBw) (yd _)
 have hcn:zf (zba t)<=100000:=yg (zfD t) hct;have HWH:Hid (∀(q:RV) (W:World),B<=W.heap.size->TreeOf W B (zba t) q->Calls ye 63 #[q.val] W (zD W 9 zg 1 (zbn (zba t)))):=fun q W hB hq=>zjh (zba t) q W B hB hq (zhm ot) hcn
 have HNV:Hid ((t.get zh).getD JV.zero=zba t):=rfl;obtain⟨L,hL⟩:∃L,zbn (zba t)=L:=⟨_,rfl⟩;rw[hL]at HWH;rw[hL];clear hL hcn;obtain⟨k,n,s,pl,nl,cl,pm,nm,cm⟩:=r;dsimp only[RV.val,RV.obj]at*;have HW:=yc hW0;have HB0:=yc hB0;unfold zh at HC
 try unfold zh
 clear hW0 hB0 ht
 go_enter Tryz.func29,Tryz.ntmps29
 go_upto_region 1 with fail
 rw[HW.out];clear HW;obtain⟨a0,a1,a2,a3,a4⟩:=hA0.cells5;have hz0:=hA0.lt
 go_upto_region 3 with(go_at_call 62;refine HC.out.mono ?_;rintro e w1 ⟨rv,bb,rfl,hbb,ht1,hb1⟩;obtain⟨rk,rn,rS,rpl,rnl,rcl,rpm,rnm,rcm⟩:=rv)
 have hz1:=hb1.size;have hb2:Below W0.heap.size W0 (w1.alloc (.cells #[.int .i64 rk,.int .i64 rn,.string rS,.slice rpl rnl rcl,.slice rpm rnm rcm] 25)):=hb1.alloc hz1 _;have hv2:VAt (w1.alloc (.cells #[.int .i64 rk,.int .i64 rn,.string rS,.slice rpl rnl rcl,.slice rpm rnm rcm] 25)) w1.heap.size ⟨rk,rn,rS,rpl,rnl,rcl,rpm,rnm,rcm⟩:=za rfl;have ht2:=ht1.under ((yh B w1).alloc (yg (yg hBw hw0) hz1) (.cells #[.int .i64 rk,.int .i64 rn,.string rS,.slice rpl rnl rcl,.slice rpm rnm rcm] 25)) (yd _);obtain⟨g,hg⟩:∃g,w1.heap.size=g:=⟨_,rfl⟩;obtain⟨W2,hW2⟩:∃W,w1.alloc (.cells #[.int .i64 rk,.int .i64 rn,.string rS,.slice rpl rnl rcl,.slice rpm rnm rcm] 25)=W:=⟨_,rfl⟩;rw[hW2]at hb2 hv2 ht2;rw[hg]at hv2
 try rw[hW2]
 try rw[hg]
 obtain⟨v0,v1,v2,v3,v4⟩:=hv2.cells5;dsimp only at v0 v1 v2 v3 v4;have b0:=zc hb2 hz0 a0;have b1:=zc hb2 hz0 a1;have b2:=zc hb2 hz0 a2;have b3:=zc hb2 hz0 a3;have b4:=zc hb2 hz0 a4;have hbw:=HB0.out.trans (hb2.mono hw0);have HX:=yc hbw;have hw2:=hbw.size;have hBw2:B<=W2.heap.size:=yg hBw hw2;have HT2:=yc ht2;clear hW2 hg hb1 ht1 hb2 hv2 hz1 hbw ht2 a0 a1 a2 a3 a4 hbb;have HTN:TreeOf W2 B (zba t) ⟨rk,rn,rS,rpl,rnl,rcl,rpm,rnm,rcm⟩:=HT2.out;have HWC:=yc (HWH.out _ W2 hBw2 HTN);clear HTN;dsimp only[RV.val]at HWC
 go_wp2_with (go_at_call 63;(with_reducible refine HWC.out.mono ?_);rintro e w3 ⟨u3,rfl,ho3,hb3⟩)
 go_ret;exact⟨u3,rfl,ho3.mono hw2,HX.out.trans (hb3.mono hw2)⟩
theorem zpX(t:JV)(r:RV)(w:World)(B:Nat)(hBw:B<=w.heap.size)(ht:TreeOf w B t r)(ot:t.Ok)(hct:zf t<=100000):
 Calls ye 29 #[r.val,.string zcF] w (zD w 9 zg 1 (zO t zcZ [zh])):=by
 obtain⟨W0,hW0⟩:∃W0,w.alloc r.obj=W0:=⟨_,rfl⟩;have hA0:VAt W0 w.heap.size r:=by rw[<-hW0];exact za rfl
 have hB0:Below w.heap.size w W0:=by rw[<-hW0];exact(yh _ _).alloc (yd _) _
 have HC:Hid (Calls ye 62 #[r.val,.string zh] W0 (zV W0 B (t.get zh))):=zT t r zh W0 B (yg hBw hB0.size) (ht.under (hB0.mono hBw) (yd _)) ot;have hw0:=hB0.size;have HTR:Hid (∀W,Below w.heap.size w W->TreeOf W B t r):=fun W hW=>ht.under (hW.mono hBw) (yd _)
 have HNM:Hid (∀W,Below w.heap.size w W->∀p n c,Rd W W.heap.size zg 1 (.slice p n c) [zh]->Calls ye 65 #[r.val,.string zcZ,.slice p n c] W (zD W 9 zg 1 (zO t zcZ [zh]))):=fun W hW p n c hr=>zem t r zcZ [zh] p n c W B (yg hBw hW.size) (HTR.out W hW) ot hct hr (by simp)
 obtain⟨L,hL⟩:∃L,zO t zcZ [zh]=L:=⟨_,rfl⟩;rw[hL]at HNM;rw[hL];clear hL;obtain⟨k,n,s,pl,nl,cl,pm,nm,cm⟩:=r;dsimp only[RV.val,RV.obj]at*;have HW:=yc hW0;have HB0:=yc hB0;unfold zh at HC
 try unfold zh at*
 try unfold zcF at*
 try unfold zcZ at*
 clear hW0 hB0 ht
 go_enter Tryz.func29,Tryz.ntmps29
 go_upto_region 1 with fail
 rw[HW.out];clear HW;obtain⟨a0,a1,a2,a3,a4⟩:=hA0.cells5;have hz0:=hA0.lt
 go_upto_region 3 with(go_at_call 62;refine HC.out.mono ?_;rintro e w1 ⟨rv,bb,rfl,hbb,ht1,hb1⟩;obtain⟨rk,rn,rS,rpl,rnl,rcl,rpm,rnm,rcm⟩:=rv)
 have hz1:=hb1.size;have hb2:Below W0.heap.size W0 (w1.alloc (.cells #[.int .i64 rk,.int .i64 rn,.string rS,.slice rpl rnl rcl,.slice rpm rnm rcm] 25)):=hb1.alloc hz1 _;have hv2:VAt (w1.alloc (.cells #[.int .i64 rk,.int .i64 rn,.string rS,.slice rpl rnl rcl,.slice rpm rnm rcm] 25)) w1.heap.size ⟨rk,rn,rS,rpl,rnl,rcl,rpm,rnm,rcm⟩:=za rfl;have ht2:=ht1.under ((yh B w1).alloc (yg (yg hBw hw0) hz1) (.cells #[.int .i64 rk,.int .i64 rn,.string rS,.slice rpl rnl rcl,.slice rpm rnm rcm] 25)) (yd _);obtain⟨g,hg⟩:∃g,w1.heap.size=g:=⟨_,rfl⟩;obtain⟨W2,hW2⟩:∃W,w1.alloc (.cells #[.int .i64 rk,.int .i64 rn,.string rS,.slice rpl rnl rcl,.slice rpm rnm rcm] 25)=W:=⟨_,rfl⟩;rw[hW2]at hb2 hv2 ht2;rw[hg]at hv2
 try rw[hW2]
 try rw[hg]
 obtain⟨v0,v1,v2,v3,v4⟩:=hv2.cells5;dsimp only at v0 v1 v2 v3 v4;have b0:=zc hb2 hz0 a0;have b1:=zc hb2 hz0 a1;have b2:=zc hb2 hz0 a2;have b3:=zc hb2 hz0 a3;have b4:=zc hb2 hz0 a4;have hbw:=HB0.out.trans (hb2.mono hw0);have HX:=yc hbw;have hw2:=hbw.size;have hBw2:B<=W2.heap.size:=yg hBw hw2;have HT2:=yc ht2;clear hW2 hg hb1 ht1 hb2 hv2 hz1 hbw ht2 a0 a1 a2 a3 a4 hbb;have HR3:Hid (Rd (W2.alloc (.cells #[.string zh] 9)) (W2.alloc (.cells #[.string zh] 9)).heap.size zg 1 (.slice (some ⟨W2.heap.size,0,none⟩) 1 1) [zh]):=(Own.block (xs:=[zh]) (base:=W2.heap.size) zn (za rfl) rfl rfl (yd _) (by decide)).rd zn
 have HB3:=yc (HX.out.alloc hw2 (.cells #[.string zh] 9));have HNC:=yc (HNM.out _ HB3.out _ _ _ HR3.out)
 try unfold zh at HR3 HB3 HNC
 try unfold zcF at HR3 HB3 HNC
 try unfold zcZ at HR3 HB3 HNC
 go_wp2_with (go_at_call 65;(with_reducible refine HNC.out.mono ?_);rintro e w3 ⟨u3,rfl,ho3,hb3⟩)
 go_ret;exact⟨u3,rfl,ho3.mono HB3.out.size,HB3.out.trans (hb3.mono HB3.out.size)⟩
theorem zom(t:JV)(r:RV)(w:World)(B:Nat)(hBw:B<=w.heap.size)(ht:TreeOf w B t r)(ot:t.Ok)(hct:zf t<=100000):
 Calls ye 29 #[r.val,.string zb6] w (zD w 9 zg 1 (zO t zcw [zX])):=by
 obtain⟨W0,hW0⟩:∃W0,w.alloc r.obj=W0:=⟨_,rfl⟩;have hA0:VAt W0 w.heap.size r:=by rw[<-hW0];exact za rfl
 have hB0:Below w.heap.size w W0:=by rw[<-hW0];exact(yh _ _).alloc (yd _) _
 have HC:Hid (Calls ye 62 #[r.val,.string zh] W0 (zV W0 B (t.get zh))):=zT t r zh W0 B (yg hBw hB0.size) (ht.under (hB0.mono hBw) (yd _)) ot;have hw0:=hB0.size;have HTR:Hid (∀W,Below w.heap.size w W->TreeOf W B t r):=fun W hW=>ht.under (hW.mono hBw) (yd _)
 have HNM:Hid (∀W,Below w.heap.size w W->∀p n c,Rd W W.heap.size zg 1 (.slice p n c) [zX]->Calls ye 65 #[r.val,.string zcw,.slice p n c] W (zD W 9 zg 1 (zO t zcw [zX]))):=fun W hW p n c hr=>zem t r zcw [zX] p n c W B (yg hBw hW.size) (HTR.out W hW) ot hct hr (by simp)
 obtain⟨L,hL⟩:∃L,zO t zcw [zX]=L:=⟨_,rfl⟩;rw[hL]at HNM;rw[hL];clear hL;obtain⟨k,n,s,pl,nl,cl,pm,nm,cm⟩:=r;dsimp only[RV.val,RV.obj]at*;have HW:=yc hW0;have HB0:=yc hB0;unfold zh at HC
 try unfold zX at*
 try unfold zb6 at*
 try unfold zcw at*
 clear hW0 hB0 ht
 go_enter Tryz.func29,Tryz.ntmps29
 go_upto_region 1 with fail
 rw[HW.out];clear HW;obtain⟨a0,a1,a2,a3,a4⟩:=hA0.cells5;have hz0:=hA0.lt
 go_upto_region 3 with(go_at_call 62;refine HC.out.mono ?_;rintro e w1 ⟨rv,bb,rfl,hbb,ht1,hb1⟩;obtain⟨rk,rn,rS,rpl,rnl,rcl,rpm,rnm,rcm⟩:=rv)
 have hz1:=hb1.size;have hb2:Below W0.heap.size W0 (w1.alloc (.cells #[.int .i64 rk,.int .i64 rn,.string rS,.slice rpl rnl rcl,.slice rpm rnm rcm] 25)):=hb1.alloc hz1 _;have hv2:VAt (w1.alloc (.cells #[.int .i64 rk,.int .i64 rn,.string rS,.slice rpl rnl rcl,.slice rpm rnm rcm] 25)) w1.heap.size ⟨rk,rn,rS,rpl,rnl,rcl,rpm,rnm,rcm⟩:=za rfl;have ht2:=ht1.under ((yh B w1).alloc (yg (yg hBw hw0) hz1) (.cells #[.int .i64 rk,.int .i64 rn,.string rS,.slice rpl rnl rcl,.slice rpm rnm rcm] 25)) (yd _);obtain⟨g,hg⟩:∃g,w1.heap.size=g:=⟨_,rfl⟩;obtain⟨W2,hW2⟩:∃W,w1.alloc (.cells #[.int .i64 rk,.int .i64 rn,.string rS,.slice rpl rnl rcl,.slice rpm rnm rcm] 25)=W:=⟨_,rfl⟩;rw[hW2]at hb2 hv2 ht2;rw[hg]at hv2
 try rw[hW2]
 try rw[hg]
 obtain⟨v0,v1,v2,v3,v4⟩:=hv2.cells5;dsimp only at v0 v1 v2 v3 v4;have b0:=zc hb2 hz0 a0;have b1:=zc hb2 hz0 a1;have b2:=zc hb2 hz0 a2;have b3:=zc hb2 hz0 a3;have b4:=zc hb2 hz0 a4;have hbw:=HB0.out.trans (hb2.mono hw0);have HX:=yc hbw;have hw2:=hbw.size;have hBw2:B<=W2.heap.size:=yg hBw hw2;have HT2:=yc ht2;clear hW2 hg hb1 ht1 hb2 hv2 hz1 hbw ht2 a0 a1 a2 a3 a4 hbb;have HR3:Hid (Rd (W2.alloc (.cells #[.string zX] 9)) (W2.alloc (.cells #[.string zX] 9)).heap.size zg 1 (.slice (some ⟨W2.heap.size,0,none⟩) 1 1) [zX]):=(Own.block (xs:=[zX]) (base:=W2.heap.size) zn (za rfl) rfl rfl (yd _) (by decide)).rd zn
 have HB3:=yc (HX.out.alloc hw2 (.cells #[.string zX] 9));have HNC:=yc (HNM.out _ HB3.out _ _ _ HR3.out)
 try unfold zX at HR3 HB3 HNC
 try unfold zb6 at HR3 HB3 HNC
 try unfold zcw at HR3 HB3 HNC
 go_wp2_with (go_at_call 65;(with_reducible refine HNC.out.mono ?_);rintro e w3 ⟨u3,rfl,ho3,hb3⟩)
 go_ret;exact⟨u3,rfl,ho3.mono HB3.out.size,HB3.out.trans (hb3.mono HB3.out.size)⟩
theorem zon(t:JV)(r:RV)(w:World)(B:Nat)(hBw:B<=w.heap.size)(ht:TreeOf w B t r)(ot:t.Ok)(hct:zf t<=100000):
 Calls ye 29 #[r.val,.string zb7] w (zD w 9 zg 1 (zO t zcx [zbr])):=by
 obtain⟨W0,hW0⟩:∃W0,w.alloc r.obj=W0:=⟨_,rfl⟩;have hA0:VAt W0 w.heap.size r:=by rw[<-hW0];exact za rfl
 have hB0:Below w.heap.size w W0:=by rw[<-hW0];exact(yh _ _).alloc (yd _) _
 have HC:Hid (Calls ye 62 #[r.val,.string zh] W0 (zV W0 B (t.get zh))):=zT t r zh W0 B (yg hBw hB0.size) (ht.under (hB0.mono hBw) (yd _)) ot;have hw0:=hB0.size;have HTR:Hid (∀W,Below w.heap.size w W->TreeOf W B t r):=fun W hW=>ht.under (hW.mono hBw) (yd _)
 have HNM:Hid (∀W,Below w.heap.size w W->∀p n c,Rd W W.heap.size zg 1 (.slice p n c) [zbr]->Calls ye 65 #[r.val,.string zcx,.slice p n c] W (zD W 9 zg 1 (zO t zcx [zbr]))):=fun W hW p n c hr=>zem t r zcx [zbr] p n c W B (yg hBw hW.size) (HTR.out W hW) ot hct hr (by simp)
 obtain⟨L,hL⟩:∃L,zO t zcx [zbr]=L:=⟨_,rfl⟩;rw[hL]at HNM;rw[hL];clear hL;obtain⟨k,n,s,pl,nl,cl,pm,nm,cm⟩:=r;dsimp only[RV.val,RV.obj]at*;have HW:=yc hW0;have HB0:=yc hB0;unfold zh at HC
 try unfold zbr at*
 try unfold zb7 at*
 try unfold zcx at*
 clear hW0 hB0 ht
 go_enter Tryz.func29,Tryz.ntmps29
 go_upto_region 1 with fail
 rw[HW.out];clear HW;obtain⟨a0,a1,a2,a3,a4⟩:=hA0.cells5;have hz0:=hA0.lt
 go_upto_region 3 with(go_at_call 62;refine HC.out.mono ?_;rintro e w1 ⟨rv,bb,rfl,hbb,ht1,hb1⟩;obtain⟨rk,rn,rS,rpl,rnl,rcl,rpm,rnm,rcm⟩:=rv)
 have hz1:=hb1.size;have hb2:Below W0.heap.size W0 (w1.alloc (.cells #[.int .i64 rk,.int .i64 rn,.string rS,.slice rpl rnl rcl,.slice rpm rnm rcm] 25)):=hb1.alloc hz1 _;have hv2:VAt (w1.alloc (.cells #[.int .i64 rk,.int .i64 rn,.string rS,.slice rpl rnl rcl,.slice rpm rnm rcm] 25)) w1.heap.size ⟨rk,rn,rS,rpl,rnl,rcl,rpm,rnm,rcm⟩:=za rfl;have ht2:=ht1.under ((yh B w1).alloc (yg (yg hBw hw0) hz1) (.cells #[.int .i64 rk,.int .i64 rn,.string rS,.slice rpl rnl rcl,.slice rpm rnm rcm] 25)) (yd _);obtain⟨g,hg⟩:∃g,w1.heap.size=g:=⟨_,rfl⟩;obtain⟨W2,hW2⟩:∃W,w1.alloc (.cells #[.int .i64 rk,.int .i64 rn,.string rS,.slice rpl rnl rcl,.slice rpm rnm rcm] 25)=W:=⟨_,rfl⟩;rw[hW2]at hb2 hv2 ht2;rw[hg]at hv2
 try rw[hW2]
 try rw[hg]
 obtain⟨v0,v1,v2,v3,v4⟩:=hv2.cells5;dsimp only at v0 v1 v2 v3 v4;have b0:=zc hb2 hz0 a0;have b1:=zc hb2 hz0 a1;have b2:=zc hb2 hz0 a2;have b3:=zc hb2 hz0 a3;have b4:=zc hb2 hz0 a4;have hbw:=HB0.out.trans (hb2.mono hw0);have HX:=yc hbw;have hw2:=hbw.size;have hBw2:B<=W2.heap.size:=yg hBw hw2;have HT2:=yc ht2;clear hW2 hg hb1 ht1 hb2 hv2 hz1 hbw ht2 a0 a1 a2 a3 a4 hbb;have HR3:Hid (Rd (W2.alloc (.cells #[.string zbr] 9)) (W2.alloc (.cells #[.string zbr] 9)).heap.size zg 1 (.slice (some ⟨W2.heap.size,0,none⟩) 1 1) [zbr]):=(Own.block (xs:=[zbr]) (base:=W2.heap.size) zn (za rfl) rfl rfl (yd _) (by decide)).rd zn
 have HB3:=yc (HX.out.alloc hw2 (.cells #[.string zbr] 9));have HNC:=yc (HNM.out _ HB3.out _ _ _ HR3.out)
 try unfold zbr at HR3 HB3 HNC
 try unfold zb7 at HR3 HB3 HNC
 try unfold zcx at HR3 HB3 HNC
 go_wp2_with (go_at_call 65;(with_reducible refine HNC.out.mono ?_);rintro e w3 ⟨u3,rfl,ho3,hb3⟩)
 go_ret;exact⟨u3,rfl,ho3.mono HB3.out.size,HB3.out.trans (hb3.mono HB3.out.size)⟩
theorem zmS(t:JV)(r:RV)(w:World)(B:Nat)(hBw:B<=w.heap.size)(ht:TreeOf w B t r)(ot:t.Ok)(hct:zf t<=100000):
 Calls ye 29 #[r.val,.string zbJ] w (zD w 9 zg 1 (zO t zb3 [zbe,zcQ,zcc])):=by
 obtain⟨W0,hW0⟩:∃W0,w.alloc r.obj=W0:=⟨_,rfl⟩;have hA0:VAt W0 w.heap.size r:=by rw[<-hW0];exact za rfl
 have hB0:Below w.heap.size w W0:=by rw[<-hW0];exact(yh _ _).alloc (yd _) _
 have HC:Hid (Calls ye 62 #[r.val,.string zh] W0 (zV W0 B (t.get zh))):=zT t r zh W0 B (yg hBw hB0.size) (ht.under (hB0.mono hBw) (yd _)) ot;have hw0:=hB0.size;have HTR:Hid (∀W,Below w.heap.size w W->TreeOf W B t r):=fun W hW=>ht.under (hW.mono hBw) (yd _)
 have HNM:Hid (∀W,Below w.heap.size w W->∀p n c,Rd W W.heap.size zg 1 (.slice p n c) [zbe,zcQ,zcc]->Calls ye 65 #[r.val,.string zb3,.slice p n c] W (zD W 9 zg 1 (zO t zb3 [zbe,zcQ,zcc]))):=fun W hW p n c hr=>zem t r zb3 [zbe,zcQ,zcc] p n c W B (yg hBw hW.size) (HTR.out W hW) ot hct hr (by simp)
 obtain⟨L,hL⟩:∃L,zO t zb3 [zbe,zcQ,zcc]=L:=⟨_,rfl⟩;rw[hL]at HNM;rw[hL];clear hL;obtain⟨k,n,s,pl,nl,cl,pm,nm,cm⟩:=r;dsimp only[RV.val,RV.obj]at*;have HW:=yc hW0;have HB0:=yc hB0;unfold zh at HC
 try unfold zbJ at*
 try unfold zb3 at*
 try unfold zbe at*
 try unfold zcQ at*
 try unfold zcc at*
 clear hW0 hB0 ht
 go_enter Tryz.func29,Tryz.ntmps29
 go_upto_region 1 with fail
 rw[HW.out];clear HW;obtain⟨a0,a1,a2,a3,a4⟩:=hA0.cells5;have hz0:=hA0.lt
 go_upto_region 3 with(go_at_call 62;refine HC.out.mono ?_;rintro e w1 ⟨rv,bb,rfl,hbb,ht1,hb1⟩;obtain⟨rk,rn,rS,rpl,rnl,rcl,rpm,rnm,rcm⟩:=rv)
 have hz1:=hb1.size;have hb2:Below W0.heap.size W0 (w1.alloc (.cells #[.int .i64 rk,.int .i64 rn,.string rS,.slice rpl rnl rcl,.slice rpm rnm rcm] 25)):=hb1.alloc hz1 _;have hv2:VAt (w1.alloc (.cells #[.int .i64 rk,.int .i64 rn,.string rS,.slice rpl rnl rcl,.slice rpm rnm rcm] 25)) w1.heap.size ⟨rk,rn,rS,rpl,rnl,rcl,rpm,rnm,rcm⟩:=za rfl;have ht2:=ht1.under ((yh B w1).alloc (yg (yg hBw hw0) hz1) (.cells #[.int .i64 rk,.int .i64 rn,.string rS,.slice rpl rnl rcl,.slice rpm rnm rcm] 25)) (yd _);obtain⟨g,hg⟩:∃g,w1.heap.size=g:=⟨_,rfl⟩;obtain⟨W2,hW2⟩:∃W,w1.alloc (.cells #[.int .i64 rk,.int .i64 rn,.string rS,.slice rpl rnl rcl,.slice rpm rnm rcm] 25)=W:=⟨_,rfl⟩;rw[hW2]at hb2 hv2 ht2;rw[hg]at hv2
 try rw[hW2]
 try rw[hg]
 obtain⟨v0,v1,v2,v3,v4⟩:=hv2.cells5;dsimp only at v0 v1 v2 v3 v4;have b0:=zc hb2 hz0 a0;have b1:=zc hb2 hz0 a1;have b2:=zc hb2 hz0 a2;have b3:=zc hb2 hz0 a3;have b4:=zc hb2 hz0 a4;have hbw:=HB0.out.trans (hb2.mono hw0);have HX:=yc hbw;have hw2:=hbw.size;have hBw2:B<=W2.heap.size:=yg hBw hw2;have HT2:=yc ht2;clear hW2 hg hb1 ht1 hb2 hv2 hz1 hbw ht2 a0 a1 a2 a3 a4 hbb;have HR3:Hid (Rd (W2.alloc (.cells #[.string zbe,.string zcQ,.string zcc] 9)) (W2.alloc (.cells #[.string zbe,.string zcQ,.string zcc] 9)).heap.size zg 1 (.slice (some ⟨W2.heap.size,0,none⟩) 3 3) [zbe,zcQ,zcc]):=(Own.block (xs:=[zbe,zcQ,zcc]) (base:=W2.heap.size) zn (za rfl) rfl rfl (yd _) (by decide)).rd zn
 have HB3:=yc (HX.out.alloc hw2 (.cells #[.string zbe,.string zcQ,.string zcc] 9));have HNC:=yc (HNM.out _ HB3.out _ _ _ HR3.out)
 try unfold zbJ at HR3 HB3 HNC
 try unfold zb3 at HR3 HB3 HNC
 try unfold zbe at HR3 HB3 HNC
 try unfold zcQ at HR3 HB3 HNC
 try unfold zcc at HR3 HB3 HNC
 go_wp2_with (go_at_call 65;(with_reducible refine HNC.out.mono ?_);rintro e w3 ⟨u3,rfl,ho3,hb3⟩)
 go_ret;exact⟨u3,rfl,ho3.mono HB3.out.size,HB3.out.trans (hb3.mono HB3.out.size)⟩
theorem zpZ(t:JV)(r:RV)(w:World)(B:Nat)(hBw:B<=w.heap.size)(ht:TreeOf w B t r)(ot:t.Ok)(hct:zf t<=100000):
 Calls ye 29 #[r.val,.string zZ] w (zD w 9 zg 1 (zO t zc0 [zZ])):=by
 obtain⟨W0,hW0⟩:∃W0,w.alloc r.obj=W0:=⟨_,rfl⟩;have hA0:VAt W0 w.heap.size r:=by rw[<-hW0];exact za rfl
 have hB0:Below w.heap.size w W0:=by rw[<-hW0];exact(yh _ _).alloc (yd _) _
 have HC:Hid (Calls ye 62 #[r.val,.string zh] W0 (zV W0 B (t.get zh))):=zT t r zh W0 B (yg hBw hB0.size) (ht.under (hB0.mono hBw) (yd _)) ot;have hw0:=hB0.size;have HTR:Hid (∀W,Below w.heap.size w W->TreeOf W B t r):=fun W hW=>ht.under (hW.mono hBw) (yd _)
 have HNM:Hid (∀W,Below w.heap.size w W->∀p n c,Rd W W.heap.size zg 1 (.slice p n c) [zZ]->Calls ye 65 #[r.val,.string zc0,.slice p n c] W (zD W 9 zg 1 (zO t zc0 [zZ]))):=fun W hW p n c hr=>zem t r zc0 [zZ] p n c W B (yg hBw hW.size) (HTR.out W hW) ot hct hr (by simp)
 obtain⟨L,hL⟩:∃L,zO t zc0 [zZ]=L:=⟨_,rfl⟩;rw[hL]at HNM;rw[hL];clear hL;obtain⟨k,n,s,pl,nl,cl,pm,nm,cm⟩:=r;dsimp only[RV.val,RV.obj]at*;have HW:=yc hW0;have HB0:=yc hB0;unfold zh at HC
 try unfold zZ at*
 try unfold zc0 at*
 clear hW0 hB0 ht
 go_enter Tryz.func29,Tryz.ntmps29
 go_upto_region 1 with fail
 rw[HW.out];clear HW;obtain⟨a0,a1,a2,a3,a4⟩:=hA0.cells5;have hz0:=hA0.lt
 go_upto_region 3 with(go_at_call 62;refine HC.out.mono ?_;rintro e w1 ⟨rv,bb,rfl,hbb,ht1,hb1⟩;obtain⟨rk,rn,rS,rpl,rnl,rcl,rpm,rnm,rcm⟩:=rv)
 have hz1:=hb1.size;have hb2:Below W0.heap.size W0 (w1.alloc (.cells #[.int .i64 rk,.int .i64 rn,.string rS,.slice rpl rnl rcl,.slice rpm rnm rcm] 25)):=hb1.alloc hz1 _;have hv2:VAt (w1.alloc (.cells #[.int .i64 rk,.int .i64 rn,.string rS,.slice rpl rnl rcl,.slice rpm rnm rcm] 25)) w1.heap.size ⟨rk,rn,rS,rpl,rnl,rcl,rpm,rnm,rcm⟩:=za rfl;have ht2:=ht1.under ((yh B w1).alloc (yg (yg hBw hw0) hz1) (.cells #[.int .i64 rk,.int .i64 rn,.string rS,.slice rpl rnl rcl,.slice rpm rnm rcm] 25)) (yd _);obtain⟨g,hg⟩:∃g,w1.heap.size=g:=⟨_,rfl⟩;obtain⟨W2,hW2⟩:∃W,w1.alloc (.cells #[.int .i64 rk,.int .i64 rn,.string rS,.slice rpl rnl rcl,.slice rpm rnm rcm] 25)=W:=⟨_,rfl⟩;rw[hW2]at hb2 hv2 ht2;rw[hg]at hv2
 try rw[hW2]
 try rw[hg]
 obtain⟨v0,v1,v2,v3,v4⟩:=hv2.cells5;dsimp only at v0 v1 v2 v3 v4;have b0:=zc hb2 hz0 a0;have b1:=zc hb2 hz0 a1;have b2:=zc hb2 hz0 a2;have b3:=zc hb2 hz0 a3;have b4:=zc hb2 hz0 a4;have hbw:=HB0.out.trans (hb2.mono hw0);have HX:=yc hbw;have hw2:=hbw.size;have hBw2:B<=W2.heap.size:=yg hBw hw2;have HT2:=yc ht2;clear hW2 hg hb1 ht1 hb2 hv2 hz1 hbw ht2 a0 a1 a2 a3 a4 hbb;have HR3:Hid (Rd (W2.alloc (.cells #[.string zZ] 9)) (W2.alloc (.cells #[.string zZ] 9)).heap.size zg 1 (.slice (some ⟨W2.heap.size,0,none⟩) 1 1) [zZ]):=(Own.block (xs:=[zZ]) (base:=W2.heap.size) zn (za rfl) rfl rfl (yd _) (by decide)).rd zn
 have HB3:=yc (HX.out.alloc hw2 (.cells #[.string zZ] 9));have HNC:=yc (HNM.out _ HB3.out _ _ _ HR3.out)
 try unfold zZ at HR3 HB3 HNC
 try unfold zc0 at HR3 HB3 HNC
 go_wp2_with (go_at_call 65;(with_reducible refine HNC.out.mono ?_);rintro e w3 ⟨u3,rfl,ho3,hb3⟩)
 go_ret;exact⟨u3,rfl,ho3.mono HB3.out.size,HB3.out.trans (hb3.mono HB3.out.size)⟩
theorem zpY(t:JV)(r:RV)(f:ByteArray)(w:World)(B:Nat)(hBw:B<=w.heap.size)(ht:TreeOf w B t r)(ot:t.Ok)(hct:zf t<=100000)(n0:f≠zh)(n1:f≠zbg)(n2:f≠zcj)(n3:f≠zbO)(n4:f≠zcF)(n5:f≠zdw)(n6:f≠zb6)(n7:f≠zb7)(n8:f≠zbJ)(n9:f≠zX)(n10:f≠zZ)(n11:f≠zdT):
 Calls ye 29 #[r.val,.string f] w (zD w 9 zg 1 []):=by
 obtain⟨W0,hW0⟩:∃W0,w.alloc r.obj=W0:=⟨_,rfl⟩;have hA0:VAt W0 w.heap.size r:=by rw[<-hW0];exact za rfl
 have hB0:Below w.heap.size w W0:=by rw[<-hW0];exact(yh _ _).alloc (yd _) _
 have HC:Hid (Calls ye 62 #[r.val,.string zh] W0 (zV W0 B (t.get zh))):=zT t r zh W0 B (yg hBw hB0.size) (ht.under (hB0.mono hBw) (yd _)) ot;have hw0:=hB0.size;have HTR:Hid (∀W,Below w.heap.size w W->TreeOf W B t r):=fun W hW=>ht.under (hW.mono hBw) (yd _)
 have qn0:(f.toList==[110,97,109,101])=false:=by rw[<-zF];exact decide_eq_false n0
 have qn1:(f.toList==[110,97,109,101,47,103,105,118,101,110])=false:=by rw[<-zF];exact decide_eq_false n1
 have qn2:(f.toList==[110,97,109,101,47,115,117,114,110,97,109,101])=false:=by rw[<-zF];exact decide_eq_false n2
 have qn3:(f.toList==[110,97,109,101,47,115,117,114,110,97,109,101,50])=false:=by rw[<-zF];exact decide_eq_false n3
 have qn4:(f.toList==[110,105,99,107,110,97,109,101])=false:=by rw[<-zF];exact decide_eq_false n4
 have qn5:(f.toList==[111,114,103,97,110,105,122,97,116,105,111,110])=false:=by rw[<-zF];exact decide_eq_false n5
 have qn6:(f.toList==[101,109,97,105,108])=false:=by rw[<-zF];exact decide_eq_false n6
 have qn7:(f.toList==[112,104,111,110,101])=false:=by rw[<-zF];exact decide_eq_false n7
 have qn8:(f.toList==[111,110,108,105,110,101,83,101,114,118,105,99,101])=false:=by rw[<-zF];exact decide_eq_false n8
 have qn9:(f.toList==[97,100,100,114,101,115,115])=false:=by rw[<-zF];exact decide_eq_false n9
 have qn10:(f.toList==[110,111,116,101])=false:=by rw[<-zF];exact decide_eq_false n10
 have qn11:(f.toList==[116,101,120,116])=false:=by rw[<-zF];exact decide_eq_false n11
 obtain⟨k,n,s,pl,nl,cl,pm,nm,cm⟩:=r;dsimp only[RV.val,RV.obj]at*;have HW:=yc hW0;have HB0:=yc hB0;unfold zh at HC;clear n0 n1 n2 n3 n4 n5 n6 n7 n8 n9 n10 n11;clear hW0 hB0 ht
 go_enter Tryz.func29,Tryz.ntmps29
 go_upto_region 1 with fail
 rw[HW.out];clear HW;obtain⟨a0,a1,a2,a3,a4⟩:=hA0.cells5;have hz0:=hA0.lt
 go_upto_region 3 with(go_at_call 62;refine HC.out.mono ?_;rintro e w1 ⟨rv,bb,rfl,hbb,ht1,hb1⟩;obtain⟨rk,rn,rS,rpl,rnl,rcl,rpm,rnm,rcm⟩:=rv)
 have hz1:=hb1.size;have hb2:Below W0.heap.size W0 (w1.alloc (.cells #[.int .i64 rk,.int .i64 rn,.string rS,.slice rpl rnl rcl,.slice rpm rnm rcm] 25)):=hb1.alloc hz1 _;have hv2:VAt (w1.alloc (.cells #[.int .i64 rk,.int .i64 rn,.string rS,.slice rpl rnl rcl,.slice rpm rnm rcm] 25)) w1.heap.size ⟨rk,rn,rS,rpl,rnl,rcl,rpm,rnm,rcm⟩:=za rfl;have ht2:=ht1.under ((yh B w1).alloc (yg (yg hBw hw0) hz1) (.cells #[.int .i64 rk,.int .i64 rn,.string rS,.slice rpl rnl rcl,.slice rpm rnm rcm] 25)) (yd _);obtain⟨g,hg⟩:∃g,w1.heap.size=g:=⟨_,rfl⟩;obtain⟨W2,hW2⟩:∃W,w1.alloc (.cells #[.int .i64 rk,.int .i64 rn,.string rS,.slice rpl rnl rcl,.slice rpm rnm rcm] 25)=W:=⟨_,rfl⟩;rw[hW2]at hb2 hv2 ht2;rw[hg]at hv2
 try rw[hW2]
 try rw[hg]
 obtain⟨v0,v1,v2,v3,v4⟩:=hv2.cells5;dsimp only at v0 v1 v2 v3 v4;have b0:=zc hb2 hz0 a0;have b1:=zc hb2 hz0 a1;have b2:=zc hb2 hz0 a2;have b3:=zc hb2 hz0 a3;have b4:=zc hb2 hz0 a4;have hbw:=HB0.out.trans (hb2.mono hw0);have HX:=yc hbw;have hw2:=hbw.size;have hBw2:B<=W2.heap.size:=yg hBw hw2;have HT2:=yc ht2;clear hW2 hg hb1 ht1 hb2 hv2 hz1 hbw ht2 a0 a1 a2 a3 a4 hbb
 go_wp2_with fail
 go_ret;exact⟨_,rfl,Own.nil _ _ _,HX.out⟩
end
section
open Go.RowKit Go.OpenShut
theorem MemsOf.uncons{w:World}{B:Nat}{p:ByteArray×JV}{q:RM}{ms:List (ByteArray×JV)}{rms:List RM}(h:MemsOf w B (p::ms) (q::rms)):p.1=q.name/\TreeOf w B p.2 q.v/\MemsOf w B ms rms:=
 ⟨h.name 0 p q rfl rfl,h.val 0 p q rfl rfl,⟨by have:=h.len;simpa using this,fun i a b h1 h2=>h.name (i+1) a b (by simpa using h1) (by simpa using h2),fun i a b h1 h2=>h.val (i+1) a b (by simpa using h1) (by simpa using h2)⟩⟩
theorem MemsOf.cons{w:World}{B:Nat}{p:ByteArray×JV}{q:RM}{ms:List (ByteArray×JV)}{rms:List RM}(hn:p.1=q.name)(ht:TreeOf w B p.2 q.v)(h:MemsOf w B ms rms):MemsOf w B (p::ms) (q::rms):=by
 refine⟨by simp[h.len],fun i a b h1 h2=> ?_,fun i a b h1 h2=> ?_⟩
 ·cases i with
  |zero=>simp at h1 h2;subst h1 h2;exact hn
  |succ i=>exact h.name i a b (by simpa using h1) (by simpa using h2)
 ·cases i with
  |zero=>simp at h1 h2;subst h1 h2;exact ht
  |succ i=>exact h.val i a b (by simpa using h1) (by simpa using h2)
theorem MemsOf.filter{w:World}{B:Nat}{f:ByteArray×JV->Bool}{g:RM->Bool}(hfg:∀p q,p.1=q.name->f p=g q):∀{ms:List (ByteArray×JV)} {rms:List RM},MemsOf w B ms rms->MemsOf w B (ms.filter f) (rms.filter g)
 |[],[],h=>MemsOf.nil _ _
 |[],q::rms,h=>by have:=h.len;simp at this
 |p::ms,[],h=>by have:=h.len;simp at this
 | p :: ms, q :: rms, h => by
   obtain⟨h1,h2,h3⟩:=h.uncons;have ih:=MemsOf.filter hfg h3;rw[ya7,ya7,hfg p q h1]
   split
   ·exact ih.cons h1 h2
   ·exact ih
theorem MapRet.fin{w W0 W:World}{B g:Nat}{pm:Option Addr}{nm cm:Nat}{rms:List RM}{ms:List (ByteArray×JV)}(hBw:B<=w.heap.size)(hg:w.heap.size<=g)(hg0:g<W0.heap.size)(hb0:w.heap.size<=W0.heap.size)(hb:Below w.heap.size w W)(ho:Own W W0.heap.size 35 zl 6 (.slice pm nm cm) rms)(hm:MemsOf W B ms rms):
 MapRet w B ms (.returned (RV.val ⟨6,0,⟨#[]⟩,none,0,0,pm,nm,cm⟩)) (((((W.setCell ⟨g,0,none⟩ (.int .i64 6)).setCell ⟨g,1,none⟩ (.int .i64 0)).setCell ⟨g,2,none⟩ (.string ⟨#[]⟩)).setCell ⟨g,3,none⟩ (.slice none 0 0)).setCell ⟨g,4,none⟩ (.slice pm nm cm)):=by
 have hlt:=ho.lt;refine⟨pm,nm,cm,rms,rfl,?_,hm.under (Below.stored (yh _ _) (by omega) ⟨6,0,⟨#[]⟩,none,0,0,pm,nm,cm⟩) (yd _),Below.stored hb hg ⟨6,0,⟨#[]⟩,none,0,0,pm,nm,cm⟩⟩
 refine(ho.mono hb0).kept (zeM W g ⟨6,0,⟨#[]⟩,none,0,0,pm,nm,cm⟩) ?_;cases hob:(Value.slice pm nm cm).ownBlock with
 |none=>exact .inl rfl
 | some j =>
   refine .inr (fun h=> ?_)
   have:=(hlt j hob).1;injection h with h
   omega
end
section
open Go Go.RowKit Go.OpenShut
def KeepO(w w':World)(u v:Value):Prop:=(∀k,k<w.heap.size->u.ownBlock≠some k->w'.heap[k]? =w.heap[k]?)/\∀k,v.ownBlock=some k->u.ownBlock=some k\/w.heap.size<=k
theorem KeepO.refl(w:World)(u:Value):KeepO w w u u:=⟨fun _ _ _=>rfl,fun k h=> .inl h⟩
theorem KeepO.below{w w':World}{u:Value}(h:Below w.heap.size w w'):KeepO w w' u u:=⟨fun k hk _=>h.block k hk,fun k h=> .inl h⟩
theorem KeepO.trans{w w1 w2:World}{u v z:Value}(h:KeepO w w1 u v)(h2:KeepO w1 w2 v z)(hz:w.heap.size<=w1.heap.size):KeepO w w2 u z:=
 ⟨fun k hk hu=>(h2.1 k (yL hk hz) (fun e=>by
  rcases h.2 k e with e|e
  ·exact hu e
  ·omega)).trans (h.1 k hk hu),fun k e=>by
  rcases h2.2 k e with e|e
  ·exact h.2 k e
  ·exact .inr (yg hz e)⟩
theorem KeepO.box{w w':World}{u v:Value}{g:Nat}{r:RV}(h:KeepO w w' u v)(hv:VAt w g r)(hn:u.ownBlock≠some g):VAt w' g r:=(h.1 g hv.lt hn).trans hv
theorem KeepO.ne{w w':World}{u v:Value}{g:Nat}(h:KeepO w w' u v)(hg:g<w.heap.size)(hn:u.ownBlock≠some g):v.ownBlock≠some g:=fun e=>by
 rcases h.2 g e with e|e
 ·exact hn e
 ·omega
end
end Go.Proofs.YtemofofnkchmeaaGreatDoor
