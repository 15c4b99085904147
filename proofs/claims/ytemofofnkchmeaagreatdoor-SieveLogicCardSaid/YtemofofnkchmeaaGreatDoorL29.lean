import Derived.Test.YtemofofnkchmeaaGreatDoorL28
import Derived.Test.YtemofofnkchmeaaGreatDoorL00
import Derived.Test.YtemofofnkchmeaaGreatDoorL07
import Derived.Test.YtemofofnkchmeaaGreatDoorL11
import Derived.Test.YtemofofnkchmeaaGreatDoorL20
import Derived.Test.YtemofofnkchmeaaGreatDoorL22
import Derived.Test.YtemofofnkchmeaaGreatDoorL04
import Derived.Test.YtemofofnkchmeaaGreatDoorL08
import Derived.Test.YtemofofnkchmeaaGreatDoorL13
set_option linter.unusedSimpArgs false
set_option linter.unusedVariables false
set_option maxRecDepth 200000
set_option maxHeartbeats 8000000
namespace Go.Proofs.YtemofofnkchmeaaGreatDoor
open _root_.Array renaming getElem?_eq_some_iff->yl
open _root_.Go.RowKit.Below renaming refl->yh
open _root_.Int renaming natCast_nonneg->yj
open _root_.Go.Lib renaming hid->yc
open _root_.List renaming getD_eq_getElem?_getD->yJ,getElem?_cons_succ->yR,getElem?_cons_zero->yan,getElem?_eq_getElem->yf,length_append->yp,length_range->yaG,length_singleton->y7,range->yam,take_length->yar,take_succ_cons->yI,take_zero->yM
open _root_.Nat renaming add_zero->yw,le_refl->yd,le_trans->yg,lt_of_lt_of_le->yL,zero_le->yu
open _root_.Go.Proofs.Tryz renaming prog->ye
section
open Go Go.RowKit Go.OpenShut
theorem zrP:(ye.info? 164).map (fun i=>(i.zero,i.size,i.bytes))=some (some (.agg #[.string ByteArray.empty,.int .i64 0,.int .i64 0,.string ByteArray.empty,.slice none 0 0,.slice none 0 0,.int .i64 0]),7,104):=by kernel_rfl
theorem slIt:SlT ye 160 164 7 104:=SlT.mk Tryz.underlying160 zrP rfl
theorem zri(V:Value)(w:World):Sem.run ye (Instr.typeAssert (.iface 164 V) 20 164 true) w= .ok (.tuple #[V,.bool true]) w:=by kernel_rfl
def zfd(cs:List CmpD)(os:List (ByteArray×JV)):List Nat:=(yam os.length).mergeSort (fun a b=> !ltQ cs os b a)
theorem zeZ(cs:List CmpD)(os:List (ByteArray×JV)):(zfd cs os).Perm (yam os.length):=List.mergeSort_perm _ _
theorem zla(cs:List CmpD)(os:List (ByteArray×JV)):(zfd cs os).Pairwise (fun a b=>ltQ cs os b a=false):=by
 have L:=zhS cs os
 have h:=List.pairwise_mergeSort (le:=fun a b=> !ltQ cs os b a) (fun a b c h1 h2=>by
  simp only[Bool.not_eq_true']at h1 h2⊢;exact L.ntrans _ _ _ h1 h2) (fun a b=>by
  cases h:ltQ cs os b a with
  |false=>rfl
  |true=>rw[L.asym _ _ h];rfl) (yam os.length)
 exact h.imp (fun h=>by simpa using h)
theorem zfe{cs:List CmpD}{os:List (ByteArray×JV)}{out:List Nat}(hp:out.Perm (yam os.length))(hs:out.Pairwise (fun a b=>ltQ cs os b a=false)):out=zfd cs os:=
 zgc (lt:=ltQ cs os) out (zfd cs os) (fun x _ y _ h1 h2=>zqC h1 h2) (hp.trans (zeZ cs os).symm) hs (zla cs os)
theorem zmK(s:ByteArray)(w:World)(hlim:s.size<=281474976710656):Calls ye 96 #[.string s] w fun e w'=>e= .returned (.string s)/\Below w.heap.size w w':=by
 have HC:=yc (stringslite_Clone s w hlim)
 go_enter Tryz.func96,Tryz.ntmps96
 go_wp2_with (go_at_call 160;(with_reducible refine HC.out.mono ?_);rintro e w1 ⟨rfl,hb⟩)
 go_ret;exact⟨rfl,hb⟩
theorem Own.two{α:Type}{enc:α->List Value}{sz:Nat}{w w':World}{base q g:Nat}{e:TypeId}{v:Value}{xs:List α}(h:Own w base e enc sz v xs)(ht:Two q g w w')(hq:q<base)(hg:g<base):Own w' base e enc sz v xs:=by
 have hlt:=h.lt;obtain⟨hl,h⟩:=h;refine⟨hl,?_⟩
 rcases h with h|⟨k,cap,cur,rfl,hk,hh,r⟩
 ·exact .inl h
 ·have h2:=hlt k rfl;exact .inr ⟨k,cap,cur,rfl,hk,(ht.block k h2.2 (by omega) (by omega)).trans hh,r⟩
structure ObjL(w:World)(B:Nat)(os:List (ByteArray×JV))(rs:List RM)(v:Value):Prop where
 rd:Rd w B zl 6 v rs
 len:rs.length=os.length
 obj:∀i,i<rs.length->(rs.getD i dRM).name=(os.getD i dO).1/\TreeOf w B (os.getD i dO).2 (rs.getD i dRM).v/\(os.getD i dO).2.Ok
 ids:∀o∈os,o.1.size<=140737488351232
theorem ObjL.under{w w':World}{B B':Nat}{os:List (ByteArray×JV)}{rs:List RM}{v:Value}(h:ObjL w B os rs v)(hb:Below B w w')(hB:B<=B'):ObjL w' B' os rs v:=
 ⟨h.rd.below hb hB,h.len,fun i hi=>⟨(h.obj i hi).1,(h.obj i hi).2.1.under hb hB,(h.obj i hi).2.2⟩,h.ids⟩
theorem ziv{α:Type}{l:List α}{i:Nat}{x d:α}(h:l[i]? =some x):l.getD i d=x:=by rw[yJ,h];rfl
def lenOf:Value->Nat| .slice _ n _=>n|_=>0
structure QGr(W:World)(q:Nat)(rs:List RM)(pc:Option Addr)(nc cc:Nat)(v:Value)(xs:List Nat):Prop where
 cell:W.heap[q]? =some (.cells #[v,.slice pc nc cc] 162 (0,0))
 own:Own W (q+1) 164 (zeJ rs) 7 v xs
theorem QGr.grown{W W':World}{q:Nat}{rs:List RM}{pc:Option Addr}{nc cc:Nat}{v:Value}{xs:List Nat}(h:QGr W q rs pc nc cc v xs)(hb:Below W.heap.size W W'):QGr W' q rs pc nc cc v xs:=
 ⟨(hb.block q (yl.1 h.cell).1).trans h.cell,h.own.below hb (yd _)⟩
theorem zlf(t:JV)(r:RV)(os:List (ByteArray×JV))(rs:List RM)(pv:Option Addr)(nv cv:Nat)(w:World)(B:Nat)(hBw:B<=w.heap.size)(ht:TreeOf w B t r)(ot:t.Ok)(hl:ObjL w B os rs (.slice pv nv cv))(hn:os.length<=1000000):
 Calls ye 50 #[r.val,.slice pv nv cv] w fun e w'=>∃u,e= .returned u/\Own w' w.heap.size 9 zg 1 u ((zfd (zbB t) os).map (fun i=>(os.getD i dO).1))/\Below w.heap.size w w':=by
 obtain⟨W0,hW0⟩:∃W0,w.alloc r.obj=W0:=⟨_,rfl⟩;have hA0:VAt W0 w.heap.size r:=by rw[<-hW0];exact za rfl
 have hB0:Below w.heap.size w W0:=by rw[<-hW0];exact(yh _ _).alloc (yd _) _
 have hw0:=hB0.size;have HC:=yc (zle t r W0 B (yg hBw hw0) (ht.under (hB0.mono hBw) (yd _)) ot);have HL:=yc (hl.under (hB0.mono hBw) (yd _));have HSO:=yc (zpU t);obtain⟨cs,hcs⟩:∃C,zbB t=C:=⟨_,rfl⟩;unfold zjv at HC;rw[hcs]at HC HSO;rw[hcs];have hnv:nv=rs.length:=zi hl.rd;have hrl:=hl.len;have hnb:nv<=1000000:=by omega
 have nb:(nv:Int)<=1000000:=by omega
 have n0:(0:Int)<=(nv:Int):=yj _;have HN:Hid (nv=rs.length/\nv=os.length):=⟨hnv,by omega⟩
 obtain⟨k,n,s,pl,nl,cl,pm,nm,cm⟩:=r;dsimp only[RV.val,RV.obj]at*;have HW:=yc hW0;have HB0:=yc hB0;clear hW0 hB0 ht ot hl hcs hnv hrl hn;have hta:∀(V:Value) (w:World),Sem.run ye (Instr.typeAssert (.iface 164 V) 20 164 true) w= .ok (.tuple #[V,.bool true]) w:=zri
 go_enter Tryz.func50,Tryz.ntmps50
 go_upto_region 1 with fail
 rw[HW.out];clear HW;obtain⟨a0,a1,a2,a3,a4⟩:=hA0.cells5
 go_upto_region 2 with(go_at_call 92;(with_reducible refine HC.out.mono ?_);rintro e w1 ⟨u,rfl,ho,hb⟩;obtain⟨pc,cc,hu,_,_⟩:=ho.len;subst hu)
 obtain⟨nc,hnc⟩:∃n,cs.length=n:=⟨_,rfl⟩;rw[hnc]at ho
 try rw[hnc]
 have hb01:=HB0.out.trans (hb.mono hw0);have hz1:=hb01.size;have HL1:=yc (HL.out.under (hb.mono (yg hBw hw0)) (yd B));have HENV1:Hid (QEnv w1 w1.heap.size cs os rs pc nc cc):=⟨ho.rd zjS,HSO.out.1,by have:=HSO.out.2;omega,HL1.out.len,fun i hi=>⟨(HL1.out.obj i hi).1,(HL1.out.obj i hi).2.1.under (yh _ _) (yg hBw hz1),(HL1.out.obj i hi).2.2⟩⟩
 have HB1:=yc hb01;have hq0:(w1.alloc (.cells #[.slice none 0 0,.slice pc nc cc] 162)).heap[w1.heap.size]? =some (.cells #[.slice none 0 0,.slice pc nc cc] 162 (0,0)):=za rfl;have HG0:Hid (QGr (w1.alloc (.cells #[.slice none 0 0,.slice pc nc cc] 162)) w1.heap.size rs pc nc cc (.slice none 0 0) (yam 0)):=⟨hq0,Own.nil _ _ _⟩;have HBB0:Hid (Below w1.heap.size w1 (w1.alloc (.cells #[.slice none 0 0,.slice pc nc cc] 162))):=(yh _ _).alloc (yd _) _;have hz2:(w1.alloc (.cells #[.slice none 0 0,.slice pc nc cc] 162)).heap.size=w1.heap.size+1:=by simp
 clear ho hb hb01 hnc HC HL hA0 a0 a1 a2 a3 a4 hq0
 go_upto_region 3 with fail
 obtain⟨q,hq⟩:∃q,w1.heap.size=q:=⟨_,rfl⟩;obtain⟨W2,hW2⟩:∃W,w1.alloc (.cells #[.slice none 0 0,.slice pc nc cc] 162)=W:=⟨_,rfl⟩;rw[hW2,hq]at HG0 HBB0 hz2;rw[hq]at HENV1 hz1
 try rw[hW2]
 try rw[hq]
 have HQ:=yc hq;clear hW2 hq
 go_wp2_with fail
 go_loopw [23] (fun i wr=>∃(j:Nat) (v:Value),j<=nv/\i= .int .i64 (j:Int)/\Hid (QGr wr q rs pc nc cc v (yam j)/\Below q w1 wr/\q+1<=wr.heap.size/\(j=0->v= .slice none 0 0))) (fun i _=>nv-(intOf i).toNat)
 case atStart=>exact⟨0,_,by omega,rfl,HG0.out,HBB0.out,by omega,fun _=>rfl⟩
 case round=>
  obtain⟨j,v,hj,rfl,hS⟩:=hrel;have hj0:(0:Int)<=(j:Int):=yj _;by_cases hlt:j<nv
  ·have hj1:(j:Int)<(nv:Int):=by omega
   have hlr:=HL1.out.rd.below (hS.out.2.1.mono (by have:=hz1;omega)) (yd _)
   obtain⟨x,hx⟩:∃x,rs[j]? =some x:=⟨_,yf (by have:=HN.out;omega)⟩
   obtain⟨b1,o1,rfl,hb1,hc1⟩:=zq hlr hx;have hgx:rs.getD j dRM=x:=ziv hx;have HGX:=yc hgx;obtain⟨nx,⟨vk,vn,vs,vpl,vnl,vcl,vpm,vnm,vcm⟩⟩:=x;have f0:=hc1 0 _ rfl;have f1:=hc1 1 _ rfl;have f2:=hc1 2 _ rfl;have f3:=hc1 3 _ rfl;have f4:=hc1 4 _ rfl;have f5:=hc1 5 _ rfl;rw[yw]at f0;dsimp only at f0 f1 f2 f3 f4 f5;have hot:OAt (wr.alloc (.cells #[.string nx,.int .i64 vk,.int .i64 vn,.string vs,.slice vpl vnl vcl,.slice vpm vnm vcm] 62)) wr.heap.size ⟨nx,⟨vk,vn,vs,vpl,vnl,vcl,vpm,vnm,vcm⟩⟩:=za rfl;have hba:=(yh wr.heap.size wr).alloc (yd _) (.cells #[.string nx,.int .i64 vk,.int .i64 vn,.string vs,.slice vpl vnl vcl,.slice vpm vnm vcm] 62);have HGA:=yc (hS.out.1.grown hba);have HBA:=yc (hS.out.2.1.trans (hba.mono (by have:=hS.out.2.2.1;omega)))
   have hqs:=hS.out.2.2.1
   go_upto_region 6 with fail
   obtain⟨g9,hg9⟩:∃g,wr.heap.size=g:=⟨_,rfl⟩;obtain⟨W3,hW3⟩:∃W,wr.alloc (.cells #[.string nx,.int .i64 vk,.int .i64 vn,.string vs,.slice vpl vnl vcl,.slice vpm vnm vcm] 62)=W:=⟨_,rfl⟩;rw[hW3,hg9]at hot;rw[hW3]at HGA HBA;rw[hg9]at hqs
   try rw[hW3]
   try rw[hg9]
   have hz3:q+1<=W3.heap.size:=by rw[<-hW3];simp;omega
   obtain⟨a0,a1,a2,a3,a4,a5⟩:=hot.cells6;dsimp only at a0 a1 a2 a3 a4 a5;obtain⟨pq,cq,hvq,_,_⟩:=HGA.out.own.len;have hq0:W3.cell? ⟨q,0,none⟩=some v:=(cell_of_row _ q 0 _ _ _ HGA.out.cell).trans rfl;have hfz:W3.frozen? ⟨q,0,none⟩=false:=by simp[World.frozen?,HGA.out.cell]
   subst hvq;have HRX:Hid (Rd (W3.alloc (.cells #[.string nx,.int .i64 vk,.int .i64 vn,.string vs,.slice vpl vnl vcl,.slice vpm vnm vcm,.int .i64 (j:Int)] 164)) (W3.heap.size+1) (zeJ rs) 7 (.slice (some ⟨W3.heap.size,0,none⟩) 1 1) [j]):=Rd.one (zdH rs) (za rfl) (by unfold zeJ;rw[HGX.out]) (by omega)
   have HOX:=yc (HGA.out.own.alloc (.cells #[.string nx,.int .i64 vk,.int .i64 vn,.string vs,.slice vpl vnl vcl,.slice vpm vnm vcm,.int .i64 (j:Int)] 164));have hqx:(W3.alloc (.cells #[.string nx,.int .i64 vk,.int .i64 vn,.string vs,.slice vpl vnl vcl,.slice vpm vnm vcm,.int .i64 (j:Int)] 164)).heap[q]? =_:=zb (by omega) HGA.out.cell
   have HQX:=yc hqx
   have HLN:Hid ((yam j).length+[j].length<=maxLen/\((yam j).length+[j].length)*104<=140737488355328):=by
    simp only[y7,yaG];exact⟨by unfold maxLen;omega,by omega⟩
   have hrj:(yam j).length=j:=yaG;rw[hrj]at HOX HQX hq0;have hq3:q<W3.heap.size:=by omega
   have hg3:g9<W3.heap.size:=hot.lt;clear hW3 hg9 hot hlr hx hc1 hgx f0 f1 f2 f3 f4 f5 hb1 hba hS hqx
   go_region_law
    (first
     | (refine zea slIt (zdH rs) (W3.alloc (.cells #[.string nx, .int .i64 vk, .int .i64 vn, .string vs, .slice vpl vnl vcl, .slice vpm vnm vcm, .int .i64 (j : Int)] 164)).drew (by rfl) (.tmp 32) (.tmp 36) (by rfl) (v := .slice pq j cq) (by rfl) (by rfl) HOX.out HRX.out HLN.out.1 HLN.out.2 (by show q + 1 <= (W3.alloc _).heap.size; simp; omega) ?_
        intro v9 w9 ho9 hg9 hat9;obtain⟨p9,n9,c9,rfl⟩:∃p n c,v9=Value.slice p n c:=(by obtain⟨p,c,hv,h1,h2⟩:=ho9.len;exact⟨p,_,c,hv⟩)
        have hq9:w9.heap[q]? =_:=(hg9.block q (by show q<(W3.alloc _).heap.size;simp;omega) (fun e=>by have:=(HOX.out.lt _ e.symm).1;omega)).trans HQX.out
        have d0:w9.cell? ⟨q,0,none⟩=some (.slice pq j cq):=(cell_of_row _ q 0 _ _ _ hq9).trans rfl;have df:w9.frozen? ⟨q,0,none⟩=false:=(by simp[World.frozen?,hq9]))
     |fail)
   all_goals
    have hgq:w9.grownBy (w9.setCell ⟨q,0,none⟩ (.slice p9 n9 c9)) (some q):=⟨rfl,rfl,rfl,by simp[World.setCell],fun k _ hk=>heap_setCell_other w9 ⟨q,0,none⟩ k _ (fun e=>hk (by simp[e]))⟩
    have hnq:(Value.slice p9 n9 c9).ownBlock≠some q:=fun e=>by have:=(ho9.lt _ e).1;omega
    have hz9:=hg9.size;have HQ9:=yc (show QGr (w9.setCell ⟨q,0,none⟩ (.slice p9 n9 c9)) q rs pc nc cc (.slice p9 n9 c9) (yam (j+1))from⟨heap_setCell_same w9 q 0 _ _ _ hq9,by rw[List.range_succ];exact ho9.kept hgq (.inr hnq)⟩)
    have HB9:Hid (Below q w1 (w9.setCell ⟨q,0,none⟩ (.slice p9 n9 c9))):=((HBA.out.alloc (by omega) (.cells #[.string nx,.int .i64 vk,.int .i64 vn,.string vs,.slice vpl vnl vcl,.slice vpm vnm vcm,.int .i64 (j:Int)] 164)).drew.grown hg9 (by show q<=(W3.alloc _).heap.size;simp;omega) (fun k e=>by have:=(HOX.out.lt k e).1;omega)).setCell (p:=⟨q,0,none⟩) (yd _) _
    have hs9:q+1<=(w9.setCell ⟨q,0,none⟩ (.slice p9 n9 c9)).heap.size:=by
     have h1:(W3.alloc (.cells #[.string nx,.int .i64 vk,.int .i64 vn,.string vs,.slice vpl vnl vcl,.slice vpm vnm vcm,.int .i64 (j:Int)] 164)).drew.heap.size=W3.heap.size+1:=by show(W3.alloc _).heap.size=_;simp
     simp[World.setCell];omega
    clear ho9 hg9 hat9 hq9 d0 df hgq hnq hz9
    go_wp2_with fail
    go_roundw
    case rel=>exact⟨j+1,_,by omega,by go_num,HQ9.out,HB9.out,hs9,fun h=>by omega⟩
    case measure=>simp[intOf];omega
  ·obtain rfl:j=nv:=by omega
   have HQG:=yc hS.out.1;have HBR:=yc hS.out.2.1;have hsz:=hS.out.2.2.1;have HV0:=yc hS.out.2.2.2
   have HENV:Hid (∀W,Below q w1 W->QEnv W q cs os rs pc nc cc):=fun W hW=>by
    exact HENV1.out.below hW
   have HFIN:Hid (∀W,Below q w1 W->Below w.heap.size w W):=fun W hW=>HB1.out.trans (hW.mono hz1)
   clear hS HENV1;by_cases hj00:j=0
   ·have hv:=HV0.out hj00;subst hv
    have hON:Hid (zfd cs os=[]):=by
     have:=zeZ cs os;rw[<-HN.out.2,hj00]at this;exact List.Perm.eq_nil this
    have hc:=(cell_of_row wr q 0 _ _ _ HQG.out.cell).trans (show _=some (Value.slice none 0 0)from rfl)
    have HI:=yc (znH q (.slice none 0 0) wr hc);have HLE:=yc (zeQ none 0 0 wr);have q5:decide ((0:Int)<0)=false:=by decide
    clear hj hj0 nb n0
    go_upto_region 9 with(go_at_call 93;(with_reducible refine HI.out.mono ?_);rintro e w2 ⟨rfl,rfl⟩)
    go_wp2_with fail
    go_loopw [10] (fun u w3=>u= .slice none 0 0/\w3=wr) (fun _ _=>0)
    case atStart=>exact⟨rfl,rfl⟩
    case round=>
     obtain⟨rfl,rfl⟩:=hrel
     go_wp2_with (go_at_call 94;(with_reducible refine HLE.out.mono ?_);rintro e w2 ⟨rfl,rfl⟩)
     go_ret;exact⟨_,rfl,by rw[hON.out];exact Own.nil _ _ _,HFIN.out _ HBR.out⟩
   ·obtain⟨pq,cq,hvq,hc1,hc2⟩:=HQG.out.own.len;rw[yaG]at hvq hc1;subst hvq;have hown:=HQG.out.own;obtain⟨g,hpg,hzz,hg1,hg2,hca,hcf⟩:=Own.at (zdH rs) hown (show(yam j)[0]? =some 0 by rw[List.getElem?_range];omega)
    subst hpg;have hrl:(yam j).length=j:=yaG;have HQA:Hid (QAt wr q q g cq rs pc nc cc (yam j)):=⟨by rw[hrl];exact HQG.out.cell,by rw[hrl];exact hown.mono (Nat.le_succ _),by omega,yd _,fun x hx=>by rw[List.mem_range]at hx;have:=HN.out.1;omega⟩
    have HI:=yc (zpb cs os rs pc nc cc q q q g cq (yam j) wr (HENV.out wr HBR.out) (yd _) (by rw[hrl];omega) HQA.out)
    have hgw:=HQA.out.glo;clear hown hc1 hc2 hg1 hg2 HQG HV0 hrl hca hcf hzz
    go_upto_region 9 with(go_at_call 93;(with_reducible refine HI.out.mono ?_);rintro e w2 ⟨ys,rfl,hyl,hyp,hyh,hyq,hyg⟩)
    have hyn:ys.length=j:=hyl.trans yaG;have HB2:=yc (HBR.out.trans ((yh wr.heap.size wr).mono (Nat.le_of_lt hsz)|>.trans (HQA.out.keep hyg (yd q))))
    have HP0:Hid (PopI (ltQ cs os) 0 (yam j) [] ys):=⟨hyp,by rw[hyn];rw[yaG]at hyh;exact hyh,List.Pairwise.nil,fun a ha=>by cases ha⟩
    have HY:=yc hyq;have hg2':g<w2.heap.size:=yL hgw.2 hyg.size;have hq2':q<w2.heap.size:=yL hsz hyg.size;clear hyl hyp hyh hyq hyg hyn hgw HI
    go_wp2_with fail
    go_loopw [10] (fun u w3=>∃(out xs:List Nat),lenOf u=out.length/\Hid (PopI (ltQ cs os) 0 (yam j) out xs/\QAt w3 q q g cq rs pc nc cc xs/\Own w3 w2.heap.size 9 zg 1 u (out.map (fun i=>(os.getD i dO).1))/\Two q g w2 w3/\Below q w1 w3)) (fun u _=>j-lenOf u)
    case atStart=>exact⟨[],ys,rfl,HP0.out,HY.out,Own.nil _ _ _,Two.refl _ _ _,HB2.out⟩
    case round=>
     obtain⟨out,xs,hlo,hS⟩:=hrel
     have hpl:out.length+xs.length=j:=by
      have h1:=hS.out.1.perm.length_eq;rw[yp,yaG]at h1;exact h1
     have hxb:xs.length<=1000000:=by omega
     have hq0:=hS.out.2.1.q0;obtain⟨M,hM⟩:∃M,xs.length=M:=⟨_,rfl⟩;rw[hM]at hq0;have HLE:=yc (zeQ (some ⟨g,0,none⟩) M cq wr);have HM:=yc hM;rw[hM]at hpl hxb;have M0:(0:Int)<=(M:Int):=yj _;have Mb:(M:Int)<=1000000:=by omega
     clear hM;cases M with
     | zero =>
       have hxs:xs=[]:=List.eq_nil_of_length_eq_zero HM.out;subst hxs;have HOQ:Hid (out=zfd cs os):=zfe (by have h:=hS.out.1.perm;rw[List.append_nil,HN.out.2]at h;exact h) hS.out.1.sorted
       have HSO2:=yc hS.out.2.2.1;have HSB:=yc hS.out.2.2.2.2;have hw2w:w.heap.size<=w2.heap.size:=by omega
       clear hS HP0 HY
       go_wp2_with (go_at_call 94;(with_reducible refine HLE.out.mono ?_);rintro e w3 ⟨rfl,rfl⟩)
       go_ret;exact⟨_,rfl,by rw[<-HOQ.out];exact HSO2.out.mono hw2w,HFIN.out _ HSB.out⟩
     | succ m =>
       have hpop:=zrc cs os rs pc nc cc q q q g cq m xs wr (HENV.out wr hS.out.2.2.2.2) (yd _) (by rw[HM.out];omega) HM.out hS.out.2.1 (by have h:=hS.out.1.heap;rw[HM.out]at h;exact h)
       have hx0:xs[0]? =some (fN xs 0):=zcl (by rw[HM.out];omega)
       obtain⟨x0,hx0e⟩:∃x,fN xs 0=x:=⟨_,rfl⟩;rw[hx0e]at hpop hx0;have hxr:x0<rs.length:=hS.out.2.1.bnd x0 (List.mem_of_getElem? hx0);have hob:=HL1.out.obj x0 hxr
       have hid:(os.getD x0 dO).1.size<=140737488351232:=HL1.out.ids _ (by
        have:x0<os.length:=by have:=HN.out;omega
        rw[yJ,yf this];exact List.getElem_mem this)
       rw[<-hob.1]at hid;have HNAME:=yc hob.1;unfold ziz at hpop;obtain⟨r0,hr0⟩:∃r,rs.getD x0 dRM=r:=⟨_,rfl⟩;rw[hr0]at hpop hid HNAME;obtain⟨nx,⟨vk,vn,vs,vpl,vnl,vcl,vpm,vnm,vcm⟩⟩:=r0;dsimp only at hpop hid HNAME;have HPOP:=yc hpop;have HX0:=yc hx0;have HID:=yc hid;have HSS:=yc hS.out;have hwp:decide ((0:Int)<((m+1:Nat):Int))=true:=decide_eq_true (by omega)
       obtain⟨po,no,co,hu⟩:∃p n c,u10=Value.slice p n c:=by obtain⟨p,c,hv,_,_⟩:=hS.out.2.2.1.len;exact⟨p,_,c,hv⟩
       subst hu;clear hpop hx0 hx0e hxr hob hid hr0 hS
       go_upto_region 12 with(first
        |(go_at_call 94;(with_reducible refine HLE.out.mono ?_);rintro e w3 ⟨rfl,rfl⟩)
        |(go_at_call 95;(with_reducible refine HPOP.out.mono ?_);rintro e w4 ⟨zs,rfl,hz1,hz2,hz3,hz4,hz5⟩)
        |fail)
       have HP2:=yc (HSS.out.1.pop (zhS cs os) HX0.out hz1 (by rw[hz2];exact hz3))
       have HQ4:=yc (hz4.grown ((yh w4.heap.size w4).alloc (yd _) (.cells #[.string nx,.int .i64 vk,.int .i64 vn,.string vs,.slice vpl vnl vcl,.slice vpm vnm vcm,.int .i64 (x0:Int)] 164)));have HT4:=yc ((HSS.out.2.2.2.1.trans hz5).trans (Two.ofB ((yh w4.heap.size w4).alloc (yd _) (.cells #[.string nx,.int .i64 vk,.int .i64 vn,.string vs,.slice vpl vnl vcl,.slice vpm vnm vcm,.int .i64 (x0:Int)] 164))));have hsz4:=hz5.size;have hszr:=HSS.out.2.2.2.1.size;have HO4:=yc ((HSS.out.2.2.1.two hz5 hq2' hg2').alloc (.cells #[.string nx,.int .i64 vk,.int .i64 vn,.string vs,.slice vpl vnl vcl,.slice vpm vnm vcm,.int .i64 (x0:Int)] 164));have HB4:=yc ((HSS.out.2.2.2.2.trans (hz5.below (yd q) (by have:=HSS.out.2.1.glo;omega) (by have:=HSS.out.2.1.glo;omega))).alloc (by omega) (.cells #[.string nx,.int .i64 vk,.int .i64 vn,.string vs,.slice vpl vnl vcl,.slice vpm vnm vcm,.int .i64 (x0:Int)] 164))
       have hit:(w4.alloc (.cells #[.string nx,.int .i64 vk,.int .i64 vn,.string vs,.slice vpl vnl vcl,.slice vpm vnm vcm,.int .i64 (x0:Int)] 164)).heap[w4.heap.size]? =some (.cells #[.string nx,.int .i64 vk,.int .i64 vn,.string vs,.slice vpl vnl vcl,.slice vpm vnm vcm,.int .i64 (x0:Int)] 164 (0,0)):=za rfl;obtain⟨g11,hg11⟩:∃g,w4.heap.size=g:=⟨_,rfl⟩;obtain⟨W5,hW5⟩:∃W,w4.alloc (.cells #[.string nx,.int .i64 vk,.int .i64 vn,.string vs,.slice vpl vnl vcl,.slice vpm vnm vcm,.int .i64 (x0:Int)] 164)=W:=⟨_,rfl⟩;have hs5:W5.heap.size=g11+1:=by rw[<-hW5,<-hg11];simp
       rw[hW5,hg11]at hit;rw[hW5]at HQ4 HT4 HO4 HB4;rw[hg11]at hsz4
       try rw[hW5]
       try rw[hg11]
       have t0:W5.cell? ⟨g11,0,none⟩=some (.string nx):=(cell_of_row _ g11 0 _ _ _ hit).trans rfl;have HCL:=yc (zmK nx W5 (by have:=HID.out;omega))
       have HLN:Hid ((out.map (fun i=>(os.getD i dO).1)).length+[nx].length<=maxLen/\((out.map (fun i=>(os.getD i dO).1)).length+[nx].length)*16<=140737488355328):=by
        simp only[y7,List.length_map];exact⟨by unfold maxLen;omega,by omega⟩
       have hout1:out.length+1<=j:=by omega
       clear hz1 hz3 hz4 hz5 hW5 hg11 hit hq0 HLE HPOP hwp
       go_wp2_with (first
        |(go_at_call 96;(with_reducible refine HCL.out.mono ?_);rintro e w6 ⟨rfl,hb6⟩;(have HO6:=yc ((HO4.out.below hb6 (yd _)).alloc (.cells #[.string nx] 9)));(have HR6:Hid (Rd (w6.alloc (.cells #[.string nx] 9)) (w6.heap.size+1) zg 1 (.slice (some ⟨w6.heap.size,0,none⟩) 1 1) [nx]):=Rd.one zn (za rfl) rfl (by omega));(have hs6:=hb6.size))
        |(at_builtin;refine zk slS zn (w6.alloc (.cells #[.string nx] 9)) rfl (.tmp 58) (.tmp 63) rfl (v:= .slice po no co) rfl rfl HO6.out HR6.out HLN.out.1 HLN.out.2 (by simp;omega) ?_;intro v8 w8 ho8 hg8 hat8)
        |fail)
       have hb68:Below W5.heap.size W5 (w6.alloc (.cells #[.string nx] 9)):=hb6.alloc hs6 _;have hgx8:∀k,k<w2.heap.size->w8.heap[k]? =W5.heap[k]? :=fun k hk=>(hg8.block k (by simp;omega) (fun e=>by have:=(HO6.out.lt k e.symm).1;omega)).trans (hb68.block k (by omega))
       have hs8:=hg8.size;have hs68:=hb68.size;have HT8:Hid (Two q g w2 w8):=⟨hg8.os.trans (hb68.os.trans HT4.out.os),hg8.tape.trans (hb68.tape.trans HT4.out.tape),hg8.output.trans (hb68.output.trans HT4.out.output),yg HT4.out.size (yg hs68 hs8),fun k hk h1 h2=>(hgx8 k hk).trans (HT4.out.block k hk h1 h2)⟩
       have HQ8:Hid (QAt w8 q q g cq rs pc nc cc zs):=by
        have h5:=HQ4.out.grown hb68;refine⟨(hg8.block q (by simp;omega) (fun e=>by have:=(HO6.out.lt q e.symm).1;omega)).trans h5.cell,h5.own.kept hg8 (.inr (fun e=> ?_)),h5.ne,h5.lo,h5.bnd⟩
        have:=(HO6.out.lt g e.symm).1;omega
       have HB8:Hid (Below q w1 w8):=(HB4.out.trans (hb68.mono (by omega))).grown hg8 (by simp;omega) (fun k e=>by have:=(HO6.out.lt k e).1;omega)
       obtain⟨p8,n8,c8,hv8⟩:∃p n c,v8=Value.slice p n c:=by obtain⟨p,c,hv,_,_⟩:=ho8.len;exact⟨p,_,c,hv⟩
       have hn8:lenOf v8=out.length+1:=by
        obtain⟨p,c,hv,_,_⟩:=ho8.len;rw[hv];simp[lenOf]
       go_roundw
       case rel=>
        refine⟨out++[x0],zs,by rw[hn8,yp,y7],HP2.out,HQ8.out,?_,HT8.out,HB8.out⟩
        rw[List.map_append,List.map_singleton,<-HNAME.out];exact ho8
       case measure=>
        rw[hn8];have:lenOf (Value.slice po no co)=out.length:=hlo;simp only[this];omega
theorem zoH{n:ByteArray}(h:zfx n=true):∃k,zct n=some (fnV k):=by
 unfold zct
 repeat' split
 all_goals first|exact⟨_,rfl⟩|skip
 rename_i h1 h2 h3 h4 h5 h6 h7 h8;unfold zfx zde at h;simp[h1,h2,h3,h4,h5,h6,h7,h8]at h
theorem zqw{n:ByteArray}(h:zfx n=false):zct n=none:=by
 unfold zfx zde at h;simp only[Bool.or_eq_false_iff,decide_eq_false_iff_not]at h;obtain⟨h1,h2,h3,h4,h5,h6,h7,h8⟩:=h;unfold zct;rw[if_neg h8,if_neg h7,if_neg h6,if_neg h5,if_neg h4,if_neg h3,if_neg h2,if_neg h1]
theorem zcm(k:Nat)(w:World):(binOp BinOp.eql 130 (.func (.func k) #[] #[]) .nilFunc).run ye w= .ok (.bool false) w:=by kernel_rfl
theorem zj2(w:World):(binOp BinOp.eql 130 .nilFunc .nilFunc).run ye w= .ok (.bool true) w:=by kernel_rfl
theorem zn8(n:ByteArray)(x:JV):zh1 n x=((decide (x.k=4)&&(decide (x.s.size<=255)&&(decide (x.s.size<=64)|| !zb9 n)))&&((!decide (n=zbq)||idB x.s)&&(!zde n||(zbm x.s.data.toList).isSome))):=by
 unfold zh1;cases decide (x.k=4)<;>cases decide (x.s.size<=255)<;>cases decide (x.s.size<=64)<;>cases zb9 n<;>rfl
theorem zoT(name:ByteArray)(x:JV)(r:RV)(hk:r.k=x.k)(hs:r.s=x.s)(hsn:name.size<=maxLen)(hss:x.s.size<=maxLen)(w:World)(hall:AllAt w):
 Calls ye 72 #[RM.val ⟨name,r⟩] w fun e w'=>e= .returned (.int .i64 (zdh name x))/\Below w.heap.size w w':=by
 obtain⟨k,n,s,pl,nl,cl,pm,nm,cm⟩:=r;dsimp only[RM.val]at*;subst hk hs;have hh:(w.alloc (.cells #[.string name,.int .i64 x.k,.int .i64 n,.string x.s,.slice pl nl cl,.slice pm nm cm] 35)).heap[w.heap.size]? =some (.cells #[.string name,.int .i64 x.k,.int .i64 n,.string x.s,.slice pl nl cl,.slice pm nm cm] 35):=za rfl;have hb0:Below w.heap.size w (w.alloc (.cells #[.string name,.int .i64 x.k,.int .i64 n,.string x.s,.slice pl nl cl,.slice pm nm cm] 35)):=(yh _ _).alloc (yd _) _;have HFI:Hid (∀W,Below w.heap.size w W->Calls ye 113 #[.string name] W fun e w'=>e= .returned (.bool (zb9 name))/\W=w'):=fun W hW=>zo0 name W (hall.below hW)
 have HID:Hid (∀W,Calls ye 114 #[.string x.s] W fun e w'=>e= .returned (.bool (idB x.s))/\w'=W):=fun W=>zkX x.s W hss
 have HST:Hid (∀W,Calls ye 115 #[.string x.s] W fun e w'=>e= .returned (.bool (zbm x.s.data.toList).isSome)/\Below W.heap.size W w'):=fun W=>zlk x.s W hss
 have HAV:Hid (∀W b,AsksAt W b->(Instr.lookup 128 (.map (some b)) (.string name) false).run ye W= .ok ((zct name).getD .nilFunc) W):=fun W b h=>h.look hsn
 have HAY:Hid (zfx name=true->∃k,zct name=some (fnV k)):=zoH;have HAN:Hid (zfx name=false->zct name=none):=zqw
 have HE:Hid (zdh name x=if zfx name||zb9 name then(if((decide (x.k=4)&&(decide (x.s.size<=255)&&(decide (x.s.size<=64)|| !zb9 name)))&&((!decide (name=zbq)||idB x.s)&&(!zde name||(zbm x.s.data.toList).isSome)))then 0 else 1)else 200):=by
  unfold Hid;rw[<-zn8]
  rfl
 obtain⟨E,hE⟩:∃E,zdh name x=E:=⟨_,rfl⟩;obtain⟨A,hA⟩:∃A,zfx name=A:=⟨_,rfl⟩;obtain⟨F,hF⟩:∃A,zb9 name=A:=⟨_,rfl⟩;obtain⟨I,hI⟩:∃A,idB x.s=A:=⟨_,rfl⟩;obtain⟨T,hT⟩:∃A,(zbm x.s.data.toList).isSome=A:=⟨_,rfl⟩;obtain⟨av,hav⟩:∃a,zct name=a:=⟨_,rfl⟩;rw[hE,hA,hF,hI,hT]at HE;rw[hE];rw[hF]at HFI;rw[hI]at HID;rw[hT]at HST;rw[hA]at HAY HAN;rw[hav]at HAV HAY HAN;obtain⟨K,hK⟩:∃K,x.k=K:=⟨_,rfl⟩;obtain⟨S,hS⟩:∃S,x.s=S:=⟨_,rfl⟩;rw[hK,hS]at HE hh hb0;rw[hS]at HID HST;rw[hK,hS];obtain⟨W0,hW0⟩:∃W,w.alloc (.cells #[.string name,.int .i64 K,.int .i64 n,.string S,.slice pl nl cl,.slice pm nm cm] 35)=W:=⟨_,rfl⟩;rw[hW0]at hh hb0;have HB0:=yc hb0;have hw0:=hb0.size;have hz:=(yl.1 hh).1;have a0:W0.cell? ⟨w.heap.size,0,none⟩=some (.string name):=(cell_of_row W0 w.heap.size 0 _ _ _ hh).trans rfl;have a1:W0.cell? ⟨w.heap.size,1,none⟩=some (.int .i64 K):=(cell_of_row W0 w.heap.size 1 _ _ _ hh).trans rfl;have a3:W0.cell? ⟨w.heap.size,3,none⟩=some (.string S):=(cell_of_row W0 w.heap.size 3 _ _ _ hh).trans rfl;have hsz:(0:Int)<=(S.size:Int):=yj _;clear hh hb0 hE hA hF hI hT hav hK hS hall hss
 go_enter Tryz.func72,Tryz.ntmps72
 go_upto_region 1 with fail
 try rw[hW0]
 clear hW0;have hb00:Below W0.heap.size W0 W0.drew:=(yh _ _).drew;have HF0:Hid (∀W,Below W0.heap.size W0 W->Calls ye 113 #[.string name] W fun e w'=>e= .returned (.bool F)/\W=w'):=fun W hW=>HFI.out W (HB0.out.trans (hW.mono hw0))
 go_cut [14]from 4 to 14 (fun v wx=>v= .bool (!A&& !F)/\Hid (Below W0.heap.size W0 wx))
 case first=>
  cases A with
  | true =>
    obtain⟨kk,hkk⟩:=HAY.out rfl;rw[hkk]at HAV;unfold fnV at HAV;dsimp only[Option.getD]at HAV;clear hkk HAY HAN;have hfs:=zcm
    first
     |(go_region_with
      (first
       | (go_at_call 76
          (with_reducible refine(zg9 _).mono ?_)
          rintro e w1 ⟨b,rfl,hA1,hlb,hb1'⟩;have hb1:Below W0.heap.size W0 w1:=hb00.trans hb1';have hlk:=HAV.out w1 b hA1;have c0:=zc hb1 hz a0)
       |fail))
     |fail
    all_goals go_wp2_with fail
    all_goals go_meet
    all_goals exact⟨rfl,hb1⟩
  | false =>
    rw[HAN.out rfl]at HAV;dsimp only[Option.getD]at HAV;clear HAY HAN;have hfs:=zj2
    go_region_law
     (first
      | (go_simp; go_at_call 76
         (with_reducible refine(zg9 _).mono ?_)
         rintro e w1 ⟨b,rfl,hA1,hlb,hb1'⟩;have hb1:Below W0.heap.size W0 w1:=hb00.trans hb1';have hlk:=HAV.out w1 b hA1;have c0:=zc hb1 hz a0)
      | (go_simp; go_at_call 113
         (with_reducible refine(HF0.out _ hb1).mono ?_)
         rintro e w2 ⟨rfl,rfl⟩)
      |fail)
    all_goals go_wp2_with fail
    all_goals go_meet
    all_goals exact⟨rfl,hb1⟩
 case rest=>
 obtain⟨rfl,HB1⟩:=hcut;obtain⟨W1,rfl⟩:∃W,W=wc:=⟨_,rfl⟩;have c0:=zc HB1.out hz a0;have c1:=zc HB1.out hz a1;have c3:=zc HB1.out hz a3;have hz1:=yL hz HB1.out.size;have HBW:Hid (Below w.heap.size w W1):=HB0.out.trans (HB1.out.mono hw0);have hw1:=HBW.out.size;have HF1:Hid (Calls ye 113 #[.string name] W1 fun e w'=>e= .returned (.bool F)/\W1=w'):=HFI.out W1 HBW.out
 clear a0 a1 a3 hz HF0 HAV HAY HAN HFI hb00 HB1 HB0;by_cases hAF:(A||F)=true
 ·have hn:(!A&& !F)=false:=by revert hAF;cases A<;>cases F<;>decide
  rw[hn];obtain⟨k4,hk4⟩:∃b,decide (K=4)=b:=⟨_,rfl⟩;obtain⟨c255,h255⟩:∃b,decide (S.size<=255)=b:=⟨_,rfl⟩;obtain⟨c64,h64⟩:∃b,decide (S.size<=64)=b:=⟨_,rfl⟩;have q4:(K==4)=k4:=by rw[<-hk4];rfl
  have q255:decide ((S.size:Int)<=255)=c255:=by rw[<-h255];exact decide_eq_decide.2 (by omega)
  have q64:decide ((S.size:Int)<=64)=c64:=by rw[<-h64];exact decide_eq_decide.2 (by omega)
  have q255':decide (S.size<=255)=c255:=h255;have q64':decide (S.size<=64)=c64:=h64
  have HE1:Hid (E=if((k4&&(c255&&(c64|| !F)))&&((!decide (name=zbq)||I)&&(!zde name||T)))then 0 else 1):=by
   unfold Hid;rw[HE.out,if_pos hAF,hk4,h255,h64]
  clear hk4 h255 h64 hAF HE hn
  go_upto_region 3 with fail
  go_cut [3]from 15 to 38 (fun v wx=>v= .bool (k4&&(c255&&(c64|| !F)))/\W1=wx)
  case first=>
   cases k4<;>cases c255<;>cases c64
   all_goals
    go_wp2_with (go_at_call 113;(with_reducible refine HF1.out.mono ?_);rintro e w2 ⟨rfl,rfl⟩)
    go_meet
    exact⟨rfl,rfl⟩
  case rest=>
  obtain⟨rfl,rfl⟩:=hcut;obtain⟨R,hR⟩:∃R,(k4&&(c255&&(c64|| !F)))=R:=⟨_,rfl⟩
  rw[hR]at HE1⊢;clear hR q4 q255 q64 q255' q64' HF1;have HID1:=yc (HID.out W1);have HST1:=yc (HST.out W1);clear HID HST;by_cases h1:name=zbq
  ·have HE2:Hid (E=if R&&I then 0 else 1):=by
    unfold Hid;rw[HE1.out,h1];cases R<;>cases I<;>rfl
   subst h1;unfold zbq at c0⊢;clear HE1;cases R<;>cases I
   all_goals
    go_wp2_with (go_at_call 114;(with_reducible refine HID1.out.mono ?_);rintro e w2 ⟨rfl,rfl⟩)
    go_ret;exact⟨by rw[HE2.out];rfl,HBW.out⟩
  by_cases h2:zde name=true
  ·have HE2:Hid (E=if R&&T then 0 else 1):=by
    unfold Hid;rw[HE1.out,decide_eq_false h1,h2];cases R<;>cases T<;>rfl
   have h3:name=zcY\/name=zcX\/name=zc3\/name=zc2:=by
    unfold zde at h2;simpa using h2
   clear h1 h2 HE1
   rcases h3 with rfl|rfl|rfl|rfl
   all_goals
    try unfold zcY at*
    try unfold zcX at*
    try unfold zc3 at*
    try unfold zc2 at*
    cases R<;>cases T
   all_goals
    go_wp2_with (go_at_call 115;(with_reducible refine HST1.out.mono ?_);rintro e w2 ⟨rfl,hb2⟩)
    go_ret
    first
     |exact⟨by rw[HE2.out];rfl,HBW.out.trans (hb2.mono hw1)⟩
     |exact⟨by rw[HE2.out];rfl,HBW.out⟩
  ·have HE2:Hid (E=if R then 0 else 1):=by
    unfold Hid;rw[HE1.out,decide_eq_false h1,Bool.eq_false_iff.2 h2];cases R<;>rfl
   unfold zde at h2;simp only[Bool.or_eq_true,decide_eq_true_eq,not_or]at h2;obtain⟨n2,n3,n4,n5⟩:=h2;have q1:(name.toList==[105,110,65,100,100,114,101,115,115,66,111,111,107])=false:=by rw[<-zF];exact decide_eq_false h1
   have q2:(name.toList==[99,114,101,97,116,101,100,66,101,102,111,114,101])=false:=by rw[<-zF];exact decide_eq_false n2
   have q3:(name.toList==[99,114,101,97,116,101,100,65,102,116,101,114])=false:=by rw[<-zF];exact decide_eq_false n3
   have q4:(name.toList==[117,112,100,97,116,101,100,66,101,102,111,114,101])=false:=by rw[<-zF];exact decide_eq_false n4
   have q5:(name.toList==[117,112,100,97,116,101,100,65,102,116,101,114])=false:=by rw[<-zF];exact decide_eq_false n5
   clear h1 n2 n3 n4 n5 HE1;cases R
   all_goals
    go_wp2_with fail
    go_ret;exact⟨by rw[HE2.out];rfl,HBW.out⟩
 ·have hn:(!A&& !F)=true:=by revert hAF;cases A<;>cases F<;>decide
  have HE2:Hid (E=200):=by unfold Hid;rw[HE.out,if_neg hAF]
  rw[hn];clear hAF HE hn
  go_wp2_with fail
  go_ret;exact⟨by rw[HE2.out];rfl,HBW.out⟩
theorem zfR(q:ByteArray)(w:World):
 Calls ye 36 #[.string q] w fun e w'=>∃r:RV,e= .returned r.val/\TreeOf w' w'.heap.size (askT (⟨#[99,114,101,97,116,101,100]⟩) q) r/\Below w.heap.size w w':=by
 obtain⟨W1,hW1⟩:∃W1,w.alloc (.cells #[.int .i64 0,.int .i64 0,.string ⟨#[]⟩,.slice none 0 0,.slice none 0 0] 25)=W1:=⟨_,rfl⟩;have hz1:VAt W1 w.heap.size RV.zero:=by rw[<-hW1];exact za rfl
 have hb1:Below w.heap.size w W1:=by rw[<-hW1];exact(yh _ _).alloc (yd _) _
 have hs1:W1.heap.size=w.heap.size+1:=by rw[<-hW1,World.size_alloc]
 have hz2:VAt (W1.alloc (.cells #[.string (⟨#[99,114,101,97,116,101,100]⟩),.int .i64 4,.int .i64 0,.string q,.slice none 0 0,.slice none 0 0] 35)) w.heap.size RV.zero:=zb hz1.lt hz1;obtain⟨WS,hWS⟩:∃W:World,(((((W1.setCell ⟨w.heap.size,0,none⟩ (.int .i64 (⟨6,0,⟨#[]⟩,none,0,0,some ⟨W1.heap.size,0,none⟩,1,1⟩:RV).k)).setCell ⟨w.heap.size,1,none⟩ (.int .i64 (⟨6,0,⟨#[]⟩,none,0,0,some ⟨W1.heap.size,0,none⟩,1,1⟩:RV).n)).setCell ⟨w.heap.size,2,none⟩ (.string (⟨6,0,⟨#[]⟩,none,0,0,some ⟨W1.heap.size,0,none⟩,1,1⟩:RV).s)).setCell ⟨w.heap.size,3,none⟩ (.slice (⟨6,0,⟨#[]⟩,none,0,0,some ⟨W1.heap.size,0,none⟩,1,1⟩:RV).pl (⟨6,0,⟨#[]⟩,none,0,0,some ⟨W1.heap.size,0,none⟩,1,1⟩:RV).nl (⟨6,0,⟨#[]⟩,none,0,0,some ⟨W1.heap.size,0,none⟩,1,1⟩:RV).cl)).setCell ⟨w.heap.size,4,none⟩ (.slice (⟨6,0,⟨#[]⟩,none,0,0,some ⟨W1.heap.size,0,none⟩,1,1⟩:RV).pm (⟨6,0,⟨#[]⟩,none,0,0,some ⟨W1.heap.size,0,none⟩,1,1⟩:RV).nm (⟨6,0,⟨#[]⟩,none,0,0,some ⟨W1.heap.size,0,none⟩,1,1⟩:RV).cm))=W:=⟨_,rfl⟩;have hvS:VAt WS w.heap.size ⟨6,0,⟨#[]⟩,none,0,0,some ⟨W1.heap.size,0,none⟩,1,1⟩:=by rw[<-hWS];exact hz1.stored _
 have hsS:WS.heap.size=W1.heap.size:=by rw[<-hWS];simp
 have hbS:Below w.heap.size w WS:=by rw[<-hWS];exact Below.stored hb1 (yd _) _
 have hvF:VAt (WS.alloc (.cells #[.string (⟨#[99,114,101,97,116,101,100]⟩),.int .i64 4,.int .i64 0,.string q,.slice none 0 0,.slice none 0 0] 35)) w.heap.size ⟨6,0,⟨#[]⟩,none,0,0,some ⟨W1.heap.size,0,none⟩,1,1⟩:=zb hvS.lt hvS;have HF:Hid (TreeOf (WS.alloc (.cells #[.string (⟨#[99,114,101,97,116,101,100]⟩),.int .i64 4,.int .i64 0,.string q,.slice none 0 0,.slice none 0 0] 35)) (WS.alloc (.cells #[.string (⟨#[99,114,101,97,116,101,100]⟩),.int .i64 4,.int .i64 0,.string q,.slice none 0 0,.slice none 0 0] 35)).heap.size (askT (⟨#[99,114,101,97,116,101,100]⟩) q) ⟨6,0,⟨#[]⟩,none,0,0,some ⟨W1.heap.size,0,none⟩,1,1⟩/\Below w.heap.size w (WS.alloc (.cells #[.string (⟨#[99,114,101,97,116,101,100]⟩),.int .i64 4,.int .i64 0,.string q,.slice none 0 0,.slice none 0 0] 35))):=⟨zjM (za hsS.symm) (by rw[World.size_alloc,hsS];omega),hbS.alloc hbS.size _⟩
 obtain⟨f0,f1,f2,f3,f4⟩:=hvF.cells5;dsimp only at f0 f1 f2 f3 f4;obtain⟨z0,z1,z2,z3,z4⟩:=hz1.cells5;have y0:=hz1.frozen 0;have y1:=hz1.frozen 1;have y2:=hz1.frozen 2;have y3:=hz1.frozen 3;have y4:=hz1.frozen 4;obtain⟨s0,s1,s2,s3,s4⟩:=hz2.cells5;have r0:=hz2.frozen 0;have r1:=hz2.frozen 1;have r2:=hz2.frozen 2;have r3:=hz2.frozen 3;have r4:=hz2.frozen 4;dsimp only[RV.zero]at s0 s1 s2 s3 s4;have hlt:w.heap.size<W1.heap.size:=hz1.lt;have hne:w.heap.size≠W1.heap.size:=by omega
 dsimp only[RV.zero]at z0 z1 z2 z3 z4;clear hz1 hz2 hs1 hvS hsS hvF
 go_enter Tryz.func36,Tryz.ntmps36
 go_upto_region 1 with fail
 try rw[hW1]
 clear hW1
 go_wp2_with fail
 try rw[hWS]
 refine bodyPost_ret (v:=RV.val ⟨6,0,⟨#[]⟩,none,0,0,some ⟨W1.heap.size,0,none⟩,1,1⟩) (by simp[results,Tryz.results36,go_sem,f0,f1,f2,f3,f4]) rfl ?_
 exact⟨_,rfl,HF.out.1,HF.out.2⟩
theorem znj{l:List JV}{j:Nat}{t:JV}(h:l[j]? =some t):zH (l.take (j+1))=zH (l.take j)+zf t:=by
 induction l generalizing j with
 |nil=>simp at h
 | cons a l ih =>
   cases j with
   | zero =>
     simp only[yan,Option.some.injEq]at h;subst h;simp[zH]
   | succ j =>
     rw[yR]at h;rw[yI,yI];unfold zH;rw[ih h];omega
theorem znk{l:List (ByteArray×JV)}{j:Nat}{t:ByteArray×JV}(h:l[j]? =some t):z8 (l.take (j+1))=z8 (l.take j)+zf t.2:=by
 induction l generalizing j with
 |nil=>simp at h
 | cons a l ih =>
   obtain⟨a1,a2⟩:=a;cases j with
   | zero =>
     simp only[yan,Option.some.injEq]at h;subst h;simp[z8]
   | succ j =>
     rw[yR]at h;rw[yI,yI];unfold z8;rw[ih h];omega
theorem zkL(l:List JV)(j:Nat):zH (l.take j)<=zH l:=by
 induction l generalizing j with
 |nil=>simp
 | cons a l ih =>
   cases j with
   |zero=>rw[yM,zH];exact yu _
   |succ j=>rw[yI,zH,zH];have:=ih j;omega
theorem zkN(l:List (ByteArray×JV))(j:Nat):z8 (l.take j)<=z8 l:=by
 induction l generalizing j with
 |nil=>simp
 | cons a l ih =>
   obtain⟨a1,a2⟩:=a;cases j with
   |zero=>rw[yM,z8];exact yu _
   |succ j=>rw[yI,z8,z8];have:=ih j;omega
theorem zoR(N:Nat):∀(t:JV) (r:RV) (most:Nat) (w:World),SizeOf.sizeOf t<=N->most<=1000000->TreeOf w w.heap.size t r->t.Ok->
 Calls ye 70 #[r.val,.int .i64 (most:Int)] w fun e w'=>∃c:Nat,e= .returned (.int .i64 (c:Int))/\(c<=most+1/\c<=zf t/\(c<=most->c=zf t))/\Below w.heap.size w w':=by
 induction N with
 |zero=>intro t r most w hN;cases t;simp at hN
 | succ N ih =>
   intro t r most w hN hmost ht ot;cases ht with
   | @mk _ l m rs rms hl el hcl hm em hcn hcm=>
   obtain⟨k,n,s,pl,nl,cl,pm,nm,cm⟩:=r;cases ot with
   |mk _ _ hss bl bm okl oks okm=>
   dsimp only[RV.val]at*;have eL:=zi hl;have eM:=zi hm
   have HT:Hid (∀(i:Nat) t q,l[i]? =some t->rs[i]? =some q->∀W,Below w.heap.size w W->∀(g:Nat) (k:Int),k=((most-g:Nat):Int)->Calls ye 70 #[q.val,.int .i64 k] W fun e w'=>∃c:Nat,e= .returned (.int .i64 (c:Int))/\(c<=(most-g)+1/\c<=zf t/\(c<=most-g->c=zf t))/\Below W.heap.size W w'):=
    fun i t q h1 h2 W hb g k' hk=>by subst hk;exact ih t q (most-g) W (by have:=JV.lt_l (k:=k) (n:=n) (s:=s) (m:=m) h1;omega) (by omega) ((hcl i t q h1 h2).under hb hb.size) (okl i t h1)
   have HS:Hid (∀(i:Nat) p q,m[i]? =some p->rms[i]? =some q->∀W,Below w.heap.size w W->∀(g:Nat) (k:Int),k=((most-g:Nat):Int)->Calls ye 70 #[q.v.val,.int .i64 k] W fun e w'=>∃c:Nat,e= .returned (.int .i64 (c:Int))/\(c<=(most-g)+1/\c<=zf p.2/\(c<=most-g->c=zf p.2))/\Below W.heap.size W w'):=
    fun i p q h1 h2 W hb g k' hk=>by subst hk;exact ih p.2 q.v (most-g) W (by have:=JV.lt_m (k:=k) (n:=n) (s:=s) (l:=l) h1;omega) (by omega) ((hcm i p q h1 h2).under hb hb.size) (okm i p h1)
   have HFT:Hid (zf (.mk k n s l m)=1+zH l+z8 m):=by unfold Hid;rw[zf]
   have HL:=yc hl;have HM:=yc hm;have E1:Hid (l.length=nl/\rs.length=nl):=⟨by omega,by omega⟩
   have E2:Hid (m.length=nm/\rms.length=nm):=⟨by omega,by omega⟩
   have hnl:nl<=1759218604390:=by omega
   have hnm:nm<=1466015503658:=by omega
   have hst:1<=1:=yd 1;have hst0:(0:Int)<=((1:Nat):Int):=yj _;obtain⟨R,hR⟩:∃R,zf (.mk k n s l m)=R:=⟨_,rfl⟩;rw[hR]at HFT⊢;clear hR;have hA0:VAt (w.alloc (.cells #[.int .i64 k,.int .i64 n,.string s,.slice pl nl cl,.slice pm nm cm] 25)) w.heap.size ⟨k,n,s,pl,nl,cl,pm,nm,cm⟩:=za rfl;have hB0:Below w.heap.size w (w.alloc (.cells #[.int .i64 k,.int .i64 n,.string s,.slice pl nl cl,.slice pm nm cm] 25)):=(yh _ _).alloc (yd _) _;clear ih hcl hcn hcm hl hm okl oks okm el em bl bm eL eM hN
   go_enter Tryz.func70,Tryz.ntmps70
   go_upto_region 1 with fail
   obtain⟨W0,hW0⟩:∃W0,(w.alloc (.cells #[.int .i64 k,.int .i64 n,.string s,.slice pl nl cl,.slice pm nm cm] 25))=W0:=⟨_,rfl⟩;rw[hW0]at hA0 hB0⊢;clear hW0;have hz:=hA0.lt;have c2:=hA0.cell 2 rfl;have c3:=hA0.cell 3 rfl;have c4:=hA0.cell 4 rfl;dsimp only at c2 c3 c4;clear hA0
   go_wp2_with fail
   go_loopw [5,6] (fun a i wr=>∃(g j:Nat),j<=nl/\g<=most+1/\Hid (g<=1+zH (l.take j)/\(g<=most->g=1+zH (l.take j)))/\a= .int .i64 (g:Int)/\i= .int .i64 j/\Below W0.heap.size W0 wr) (fun _ i _=>nl-(intOf i).toNat)
   case atStart=>exact⟨1,0,yu _,by omega,⟨by rw[yM];exact Nat.le_add_right _ _,fun _=>by(rw[yM,zH];try omega)⟩,rfl,rfl,yh _ _⟩
   case round=>
    obtain⟨g,j,hj,hgb,HG,rfl,rfl,hbr⟩:=hrel;have c3:=zc hbr hz c3;have hbw:Below w.heap.size w wr:=hB0.trans (hbr.mono hB0.size);obtain⟨wo,rfl⟩:∃wo:World,wo=wr:=⟨_,rfl⟩;have hg0:(0:Int)<=(g:Int):=yj _;by_cases hgo:j<nl/\g<=most
    ·obtain⟨hlt,hgm⟩:=hgo;obtain⟨tx,htx⟩:∃x,l[j]? =some x:=⟨_,yf (by have:=E1.out;omega)⟩
     obtain⟨x,hx⟩:∃x,rs[j]? =some x:=⟨_,yf (by have:=E1.out;omega)⟩
     obtain⟨b1,o1,rfl,hb1,hc1⟩:=zq (HL.out.below hbw (yd _)) hx;have f0:=hc1 0 _ rfl;have f1:=hc1 1 _ rfl;have f2:=hc1 2 _ rfl;have f3:=hc1 3 _ rfl;have f4:=hc1 4 _ rfl;rw[yw]at f0;have HC:=yc (HT.out j tx x htx hx);have hk0:(0:Int)<=(j:Int):=yj _;have hk1:(j:Int)<(nl:Int):=by omega
     have hgi:(g:Int)<=(most:Int):=by omega
     have hdg:decide ((g:Int)<=(most:Int))=true:=decide_eq_true hgi;have hzr:W0.heap.size<=wo.heap.size:=hbr.size;have HBR:=yc hbr;have HTK:=yc (znj htx);clear hc1 htx hx hbr
     go_wp2_with (go_at_call 70;(with_reducible refine(HC.out _ hbw g _ ?num).mono ?_);(case num=>(first|omega|(rw[IntKind.wrap_i64];omega)));rintro e w1 ⟨c,rfl,⟨hc1',hc2',hc3'⟩,hb1'⟩;(have hcc:(0:Int)<=(c:Int):=yj _))
     go_roundw
     case rel=>
      obtain⟨hG1,hG2⟩:=HG.out;exact⟨g+c,j+1,by omega,by omega,⟨by rw[HTK.out];omega,fun h=>by rw[HTK.out,hG2 (by omega),hc3' (by omega)];omega⟩,by go_num,by go_num,HBR.out.trans (hb1'.mono (by omega))⟩
     case measure=>simp[intOf];omega
    ·have hz1:W0.heap.size<=wo.heap.size:=hbr.size;have c4:=zc hbr hz c4
     have HG1:Hid (g<=1+zH l/\(g<=most->g=1+zH l)):=by
      obtain⟨hG1,hG2⟩:=HG.out;have:=zkL l j;refine⟨by omega,fun h=> ?_⟩
      have hjn:j=nl:=by omega
      have hln:=E1.out.1;rw[hG2 h,hjn,<-hln,yar]
     clear HT HL E1 hbr HG;by_cases p1:j<nl
     all_goals (try(have hgm:¬g<=most:=fun h=>hgo ⟨p1,h⟩))
     all_goals (try(have hdg:decide ((g:Int)<=(most:Int))=false:=decide_eq_false (by omega)))
     all_goals clear hgo
     all_goals go_wp2_with fail
     all_goals clear c3
     all_goals (
     go_loopw [5,7] (fun a i wq=>∃(g j:Nat),j<=nm/\g<=most+1/\Hid (g<=1+zH l+z8 (m.take j)/\(g<=most->g=1+zH l+z8 (m.take j)))/\a= .int .i64 (g:Int)/\i= .int .i64 j/\Below wo.heap.size wo wq) (fun _ i _=>nm-(intOf i).toNat)
     case atStart=>exact⟨g,0,yu _,hgb,⟨by rw[yM,z8];exact HG1.out.1,fun h=>by rw[yM,z8];exact HG1.out.2 h⟩,rfl,rfl,yh _ _⟩
     case round=>
      clear hgb hg0
      try clear hgm
      try clear hdg
      obtain⟨g,j,hj,hgb,HG,rfl,rfl,hbr⟩:=hrel;have hg0:(0:Int)<=(g:Int):=yj _;have hbw2:Below w.heap.size w wr:=hbw.trans (hbr.mono (by omega))
      have c4:=zc hbr (by omega) c4
      obtain⟨w3,rfl⟩:∃w3:World,w3=wr:=⟨_,rfl⟩;by_cases hgo:j<nm/\g<=most
      ·obtain⟨hlt,hgm⟩:=hgo;obtain⟨tx,htx⟩:∃x,m[j]? =some x:=⟨_,yf (by have:=E2.out;omega)⟩
       obtain⟨x,hx⟩:∃x,rms[j]? =some x:=⟨_,yf (by have:=E2.out;omega)⟩
       obtain⟨b1,o1,rfl,hb1,hc1⟩:=zq (HM.out.below hbw2 (yd _)) hx;have f0:=hc1 0 _ rfl;have f1:=hc1 1 _ rfl;have f2:=hc1 2 _ rfl;have f3:=hc1 3 _ rfl;have f4:=hc1 4 _ rfl;have f5:=hc1 5 _ rfl;rw[yw]at f0;have HC:=yc (HS.out j tx x htx hx);have hk0:(0:Int)<=(j:Int):=yj _;have hk1:(j:Int)<(nm:Int):=by omega
       have hgi:(g:Int)<=(most:Int):=by omega
       have hdg:decide ((g:Int)<=(most:Int))=true:=decide_eq_true hgi;have HBR:=yc hbr;have hzq:wo.heap.size<=w3.heap.size:=hbr.size;have HTK:=yc (znk htx);clear hc1 htx hx hbr
       go_wp2_with (go_at_call 70;(with_reducible refine(HC.out _ hbw2 g _ ?num).mono ?_);(case num=>(first|omega|(rw[IntKind.wrap_i64];omega)));rintro e w1 ⟨c,rfl,⟨hc1',hc2',hc3'⟩,hb1'⟩;(have hcc:(0:Int)<=(c:Int):=yj _))
       go_roundw
       case rel=>
        obtain⟨hG1,hG2⟩:=HG.out;exact⟨g+c,j+1,by omega,by omega,⟨by rw[HTK.out];omega,fun h=>by rw[HTK.out,hG2 (by omega),hc3' (by omega)];omega⟩,by go_num,by go_num,HBR.out.trans (hb1'.mono (by omega))⟩
       case measure=>simp[intOf];omega
      ·have HG2:Hid (g<=R/\(g<=most->g=R)):=by
        obtain⟨hG1,hG2⟩:=HG.out;have:=zkN m j;unfold Hid;rw[HFT.out];refine⟨by omega,fun h=> ?_⟩
        have hjn:j=nm:=by omega
        have hln:=E2.out.1;rw[hG2 h,hjn,<-hln,yar]
       by_cases p1:j<nm
       all_goals (try(have hgm:¬g<=most:=fun h=>hgo ⟨p1,h⟩))
       all_goals (try(have hdg:decide ((g:Int)<=(most:Int))=false:=decide_eq_false (by omega)))
       all_goals clear hgo
       all_goals go_wp2_with fail
       all_goals go_ret
       all_goals exact⟨g,rfl,⟨hgb,HG2.out.1,HG2.out.2⟩,hbw2⟩)
end
section
open Go.RowKit Go.OpenShut
def zjy(t:JV)(n most:Nat)(w:World)(e:Ending)(w':World):Prop:=∃b:Bool,e= .returned (.bool b)/\Hid (b=true->n<=10000/\zim t/\zf t<=most)/\Below w.heap.size w w'
theorem zeV(t:JV)(r:RV)(most:Nat)(w:World)(hmost:most<=1000000)(ht:TreeOf w w.heap.size t r)(ot:t.Ok):
 Calls ye 30 #[r.val,.int .i64 (most:Int)] w (zjy t r.nm most w):=by
 have HT:=yc ht;have hA0:VAt (w.alloc (.cells #[.int .i64 r.k,.int .i64 r.n,.string r.s,.slice r.pl r.nl r.cl,.slice r.pm r.nm r.cm] 25)) w.heap.size r:=za rfl;have hB0:Below w.heap.size w (w.alloc (.cells #[.int .i64 r.k,.int .i64 r.n,.string r.s,.slice r.pl r.nl r.cl,.slice r.pm r.nm r.cm] 25)):=(yh _ _).alloc (yd _) _;clear ht
 go_enter Tryz.func30,Tryz.ntmps30
 go_upto_region 1 with fail
 obtain⟨W0,hW0⟩:∃W0,(w.alloc (.cells #[.int .i64 r.k,.int .i64 r.n,.string r.s,.slice r.pl r.nl r.cl,.slice r.pm r.nm r.cm] 25))=W0:=⟨_,rfl⟩;rw[hW0]at hA0 hB0⊢;clear hW0;have hz:=hA0.lt;obtain⟨c0,c1,c2,c3,c4⟩:=hA0.cells5;clear hA0;have HD:Hid (∀W,Below w.heap.size w W->Calls ye 69 #[r.val,.int .i64 100] W (zqg r.nm W)):=fun W hb=>znn t r W (HT.out.under hb hb.size) ot
 have HN:Hid (∀W,Below w.heap.size w W->Calls ye 70 #[r.val,.int .i64 (most:Int)] W fun e w'=>∃c:Nat,e= .returned (.int .i64 (c:Int))/\(c<=most+1/\c<=zf t/\(c<=most->c=zf t))/\Below W.heap.size W w'):=fun W hb=>zoR _ t r most W (yd _) hmost (HT.out.under hb hb.size) ot
 have HO:Hid (∀W,Below w.heap.size w W->Calls ye 71 #[r.val] W (zgH W t)):=fun W hb=>zpC _ t r W (yd _) (HT.out.under hb hb.size) ot
 go_wp2_with (first
  |(go_at_call 69;refine(HD.out _ hB0).mono ?_;rintro e w1 ⟨b1,rfl,hbL,hbA⟩;(have hb1:=hB0.trans (hbA.mono hB0.size));(have d0:=zc hbA hz c0);(have d1:=zc hbA hz c1);(have d2:=zc hbA hz c2);(have d3:=zc hbA hz c3);(have d4:=zc hbA hz c4);cases b1)
  |(go_at_call 70;refine(HN.out _ hb1).mono ?_;rintro e w2 ⟨d,rfl,hdd,hbB⟩;(have hb2:=hb1.trans (hbB.mono hb1.size));(have hz1:=yL hz hbA.size);(have e0:=zc hbB hz1 d0);(have e1:=zc hbB hz1 d1);(have e2:=zc hbB hz1 d2);(have e3:=zc hbB hz1 d3);(have e4:=zc hbB hz1 d4);(by_cases hd:(d:Int)<=(most:Int)))
  |(go_at_call 71;refine(HO.out _ hb2).mono ?_;rintro e w3 ⟨b3,rfl,hM,hbC⟩;(have hb3:=hb2.trans (hbC.mono hb2.size))))
 all_goals go_ret
 all_goals first|(refine⟨b3,rfl,?_,hb3⟩;have h:=hbL.out;exact fun hb=>⟨h trivial,hM.out hb,by have:=hdd.2.2 (by omega);omega⟩)|exact⟨false,rfl,(fun h=>by cases h),hb2⟩|exact⟨false,rfl,(fun h=>by cases h),hb1⟩
end
end Go.Proofs.YtemofofnkchmeaaGreatDoor
