import Derived.Test.YtemofofnkchmeaaGreatDoorL23
import Derived.Test.YtemofofnkchmeaaGreatDoorL13
import Derived.Test.YtemofofnkchmeaaGreatDoorL11
import Derived.Test.YtemofofnkchmeaaGreatDoorL16
import Derived.Test.YtemofofnkchmeaaGreatDoorL07
import Derived.Test.YtemofofnkchmeaaGreatDoorL10
import Derived.Test.YtemofofnkchmeaaGreatDoorL20
import Derived.Test.YtemofofnkchmeaaGreatDoorL12
import Derived.Test.YtemofofnkchmeaaGreatDoorL01
import Derived.Deep.CutBlock
import Derived.Test.YtemofofnkchmeaaGreatDoorL21
import Derived.Deep.RegionHeld3
import Derived.StillTailTactics
set_option linter.unusedSimpArgs false
set_option linter.unusedVariables false
set_option maxRecDepth 200000
set_option maxHeartbeats 8000000
namespace Go.Proofs.YtemofofnkchmeaaGreatDoor
open _root_.Array renaming getElem?_eq_some_iff->yl,replicate_succ->yX,replicate_zero->yY
open _root_.Go.RowKit.Below renaming refl->yh
open _root_.Int renaming natCast_nonneg->yj
open _root_.Go.Lib renaming hid->yc
open _root_.List renaming append_toArray->yaa,cons_append->yab,drop_drop->yaO,eq_nil_of_length_eq_zero->yx,filter_append->yax,findIdx?_eq_some_iff_getElem->yW,getElem?_eq_getElem->yf,getElem?_eq_some_iff->yi,getElem?_set->yae,length_cons->yB,length_nil->yS,map_cons->yaF,mem_cons->yA,mem_map->y8,mem_of_getElem?->ym,nil_append->y6,not_mem_nil->y5,pairwise_cons->yaE,push_toArray->yaf,size_toArray->yP,take_add_one->yD,take_length->yar
open _root_.Nat renaming add_zero->yw,le_of_lt->yaL,le_refl->yd,le_trans->yg,reduceAdd->yas,reduceSub->yat,zero_le->yu
open _root_.Go.Proofs.Tryz renaming prog->ye
section
open Go.RowKit Go.OpenShut
def Some_{α:Type}(W:World)(base:Nat)(e:TypeId)(enc:α->List Value)(sz:Nat)(p:Option Addr)(n c:Nat):Prop:=∃ms:List α,ms.length=n/\Own W base e enc sz (.slice p n c) ms
theorem Some_.kept{α:Type}{W W':World}{base:Nat}{e:TypeId}{enc:α->List Value}{sz:Nat}{p:Option Addr}{n c:Nat}{row:Option Nat}(h:Some_ W base e enc sz p n c)(hg:W.grownBy W' row)(hne:∀k,(Value.slice p n c).ownBlock=some k->row≠some k):Some_ W' base e enc sz p n c:=by
 obtain⟨ms,h1,h2⟩:=h;refine⟨ms,h1,h2.kept hg ?_⟩;cases e:(Value.slice p n c).ownBlock with
 |none=>exact .inl rfl
 |some k=>exact .inr (fun h=>hne k e h.symm)
theorem Some_.len{α:Type}{W:World}{base:Nat}{e:TypeId}{enc:α->List Value}{sz:Nat}{p:Option Addr}{n c:Nat}(h:Some_ W base e enc sz p n c):n<=maxLen:=by
 obtain⟨ms,h1,h2⟩:=h;obtain⟨q,d,hv,h3,h4⟩:=h2.len;omega
theorem Own.keptR{α:Type}{enc:α->List Value}{sz:Nat}{w w':World}{base:Nat}{e:TypeId}{v:Value}{xs:List α}{row:Option Nat}(h:Own w base e enc sz v xs)(hg:w.grownBy w' row)(hne:∀k,v.ownBlock=some k->row≠some k):Own w' base e enc sz v xs:=by
 refine h.kept hg ?_;cases e:v.ownBlock with
 |none=>exact .inl rfl
 |some k=>exact .inr (fun h=>hne k e h.symm)
theorem NewBox.keptR{W W':World}{base B:Nat}{row:Option Nat}{b:BoxD}{r:RB}(h:NewBox W base B b r)(hg:W.grownBy W' row)(h1:∀k,(Value.slice r.po r.no r.co).ownBlock=some k->row≠some k)(h2:∀k,(Value.slice r.pt r.nt r.ct).ownBlock=some k->row≠some k)(hBW:B<=W.heap.size)(hB:∀k,row=some k->B<=k):NewBox W' base B b r:=by
 obtain⟨ros,h3,h4⟩:=h.objs
 have hk:∀{v:Value},(∀k,v.ownBlock=some k->row≠some k)->v.ownBlock=none\/v.ownBlock≠row:=fun{v} hv=>by
  cases e:v.ownBlock with
  |none=>exact .inl rfl
  |some k=>exact .inr (fun h=>hv k e h.symm)
 exact⟨⟨ros,h3.kept hg (hk h1),h4.under ((yh B W).grown hg hBW hB) (yd _)⟩,h.trail.kept hg (hk h2),h.ok,h.seq,h.floor,h.keep⟩
theorem BoxAt.keptR{W W':World}{x:Nat}{row:Option Nat}{r:RB}(h:BoxAt W x r)(hg:W.grownBy W' row)(hne:row≠some x):BoxAt W' x r:=(hg.block x h.lt (fun e=>hne e.symm)).trans h
structure KeepF(w W:World)(b:BoxD)(r rw rx ry:RB)(pl:Option Addr)(nl cl:Nat)(g5 g6 g8 A B C:Nat):Prop where
 below:Below w.heap.size w W
 o1:w.heap.size+1<g5
 o2:g5<A
 o3:A<=g6
 o4:g6<B
 o5:B<=g8
 o6:g8<C
 o7:C<=W.heap.size
 b0:BoxAt W w.heap.size r
 b5:BoxAt W g5 rw
 b6:BoxAt W g6 rx
 b8:BoxAt W g8 ry
 was:NewBox W w.heap.size w.heap.size b rw
 was1:∀k,(Value.slice rw.po rw.no rw.co).ownBlock=some k->g5<k/\k<A
 was2:∀k,(Value.slice rw.pt rw.nt rw.ct).ownBlock=some k->g5<k/\k<A
 xo:Some_ W A 62 zl 6 rx.po rx.no rx.co
 xo1:∀k,(Value.slice rx.po rx.no rx.co).ownBlock=some k->A<=k/\k<g6
 xt:Some_ W A 144 zbh 3 rx.pt rx.nt rx.ct
 xt1:∀k,(Value.slice rx.pt rx.nt rx.ct).ownBlock=some k->A<=k/\k<g6
 yo:Some_ W B 62 zl 6 ry.po ry.no ry.co
 yo1:∀k,(Value.slice ry.po ry.no ry.co).ownBlock=some k->B<=k/\k<g8
 yt:Some_ W B 144 zbh 3 ry.pt ry.nt ry.ct
 yt1:∀k,(Value.slice ry.pt ry.nt ry.ct).ownBlock=some k->B<=k/\k<g8
 l:Some_ W C 9 zg 1 pl nl cl
 l1:∀k,(Value.slice pl nl cl).ownBlock=some k->C<=k
theorem Some_.unlike{α β:Type}{e1:α->List Value}{e2:β->List Value}{s1 s2 b1 b2:Nat}{t1 t2:TypeId}{w:World}{p1 p2:Option Addr}{n1 c1 n2 c2:Nat}(h1:Some_ w b1 t1 e1 s1 p1 n1 c1)(h2:Some_ w b2 t2 e2 s2 p2 n2 c2)(hne:t1≠t2){k:Nat}(hk:(Value.slice p1 n1 c1).ownBlock=some k):(Value.slice p2 n2 c2).ownBlock≠some k:=by
 obtain⟨ms,_,a⟩:=h1;obtain⟨ns,_,b⟩:=h2;exact a.unlike b hne hk
section
variable {w W W':World} {b:BoxD} {r rw rx ry:RB} {pl:Option Addr} {nl cl g5 g6 g8 A B C:Nat} (h:KeepF w W b r rw rx ry pl nl cl g5 g6 g8 A B C)
include h
end
theorem NewBox.some{W:World}{base B:Nat}{b:BoxD}{r:RB}(h:NewBox W base B b r):
 Some_ (α:=RM) W base 62 zl 6 r.po r.no r.co/\Some_ (α:=En) W base 144 zbh 3 r.pt r.nt r.ct/\(∀k,(Value.slice r.po r.no r.co).ownBlock=some k->base<=k/\k<W.heap.size)/\∀k,(Value.slice r.pt r.nt r.ct).ownBlock=some k->base<=k/\k<W.heap.size:=by
 obtain⟨ros,h1,h2⟩:=h.objs;exact⟨⟨ros,(zi (h1.rd codecM)).symm,h1⟩,⟨b.trail,(zi (h.trail.rd codecE)).symm,h.trail⟩,h1.lt,h.trail.lt⟩
theorem Some_.below{α:Type}{W W':World}{base:Nat}{e:TypeId}{enc:α->List Value}{sz:Nat}{p:Option Addr}{n c:Nat}(h:Some_ W base e enc sz p n c)(hb:Below W.heap.size W W'):Some_ W' base e enc sz p n c:=by
 obtain⟨ms,h1,h2⟩:=h;exact⟨ms,h1,h2.below hb (yd _)⟩
end
section
open Go Go.RowKit Go.OpenShut
def zfJ(c:CmpD):List Value:=[.string c.prop,.bool c.down]
theorem zjS:Codec zfJ 2:=⟨fun _=>rfl,fun x u hu=>by
 simp only[zfJ,yA,y5,or_false]at hu
 rcases hu with rfl|rfl<;>rfl,by decide⟩
def zhw(p:ByteArray):Prop:=zby p=true\/p=zbg\/p=zcj\/p=zbO
abbrev RM.ooj(r:RM):Obj:= .cells #[.string r.name,.int .i64 r.v.k,.int .i64 r.v.n,.string r.v.s,.slice r.v.pl r.v.nl r.v.cl,.slice r.v.pm r.v.nm r.v.cm] 62
def OAt(W:World)(g:Nat)(r:RM):Prop:=W.heap[g]? =some (.cells #[.string r.name,.int .i64 r.v.k,.int .i64 r.v.n,.string r.v.s,.slice r.v.pl r.v.nl r.v.cl,.slice r.v.pm r.v.nm r.v.cm] 62 (0,0))
theorem OAt.cell{W:World}{g:Nat}{r:RM}(h:OAt W g r)(j:Nat){v:Value}(hv:(#[.string r.name,.int .i64 r.v.k,.int .i64 r.v.n,.string r.v.s,.slice r.v.pl r.v.nl r.v.cl,.slice r.v.pm r.v.nm r.v.cm]:Array Value)[j]? =some v):W.cell? ⟨g,j,none⟩=some v:=(cell_of_row W g j _ _ _ h).trans hv
theorem OAt.cells6{W:World}{g:Nat}{r:RM}(h:OAt W g r):W.cell? ⟨g,0,none⟩=some (.string r.name)/\W.cell? ⟨g,1,none⟩=some (.int .i64 r.v.k)/\W.cell? ⟨g,2,none⟩=some (.int .i64 r.v.n)/\W.cell? ⟨g,3,none⟩=some (.string r.v.s)/\W.cell? ⟨g,4,none⟩=some (.slice r.v.pl r.v.nl r.v.cl)/\W.cell? ⟨g,5,none⟩=some (.slice r.v.pm r.v.nm r.v.cm):=⟨h.cell 0 rfl,h.cell 1 rfl,h.cell 2 rfl,h.cell 3 rfl,h.cell 4 rfl,h.cell 5 rfl⟩
theorem OAt.under{W W':World}{g B:Nat}{r:RM}(h:OAt W g r)(hb:Below B W W')(hg:g<B):OAt W' g r:=(hb.block g hg).trans h
theorem OAt.lt{W:World}{g:Nat}{r:RM}(h:OAt W g r):g<W.heap.size:=(yl.1 h).1
theorem ziN(cs:List CmpD)(hcs:∀(i:Nat) c,cs[i]? =some c->zhw c.prop)(hcn:cs.length<=1000000000000)(pc:Option Addr)(nc cc:Nat)(a b:ByteArray×JV)(ra rb:RM)(w:World)(B:Nat)(hBw:B<=w.heap.size)(hr:Rd w B zfJ 2 (.slice pc nc cc) cs)
 (ha:ra.name=a.1/\TreeOf w B a.2 ra.v) (oa:a.2.Ok) (hb:rb.name=b.1/\TreeOf w B b.2 rb.v) (ob:b.2.Ok):
 Calls ye 314 #[.slice pc nc cc,ra.val,rb.val] w fun e w'=>e= .returned (.bool (zdn cs a b))/\Below w.heap.size w w':=by
 obtain⟨W0,hW0⟩:∃W0,(w.alloc ra.ooj).alloc rb.ooj=W0:=⟨_,rfl⟩;have hA0:OAt W0 w.heap.size ra:=by rw[<-hW0];exact zb (by simp) (za rfl)
 have hQ0:OAt W0 (w.heap.size+1) rb:=by rw[<-hW0];exact za (by simp)
 have hB0:Below w.heap.size w W0:=by rw[<-hW0];exact zM w _ _
 have hn:=zi hr;have HRD:=yc (hr.below (hB0.mono hBw) (yd B));have hw0:=hB0.size;have HTA:=yc (ha.2.under (hB0.mono hBw) (yd B));have HTB:=yc (hb.2.under (hB0.mono hBw) (yd B));have HNA:=yc (And.intro ha.1 hb.1);have HOK:=yc (And.intro oa ob);have HCS:=yc hcs;have HN:Hid (cs.length=nc):=hn.symm;have hno:nc<=1000000000000:=by omega
 obtain⟨na,⟨k,n,s,pl,nl,cl,pm,nm,cm⟩⟩:=ra;obtain⟨nb,⟨qk,qn,qs,qpl,qnl,qcl,qpm,qnm,qcm⟩⟩:=rb;dsimp only[RM.val,RM.ooj]at*;have HW:=yc hW0;have HB0:=yc hB0;clear hW0 hB0 ha hb oa ob hr hcs hcn hn;have hq0:=hQ0.lt
 go_enter Tryz.func314,Tryz.ntmps314
 go_upto_region 1 with fail
 rw[HW.out];clear HW
 go_wp2_with fail
 go_loopw [12] (fun i wr=>∃j:Nat,j<=nc/\i= .int .i64 (j:Int)/\Hid (zdG cs a b=zdG (cs.drop j) a b/\Below W0.heap.size W0 wr)) (fun i _=>nc-(intOf i).toNat)
 case atStart=>exact⟨0,by omega,rfl,by rw[List.drop_zero],yh _ _⟩
 case round=>
  obtain⟨j,hj,rfl,hH⟩:=hrel;obtain⟨hcm,hbr⟩:=hH.out;clear hH;have hA1:=hA0.under hbr (Nat.lt_of_succ_lt hq0);have hQ1:=hQ0.under hbr hq0;by_cases hlt:j<nc
  ·obtain⟨⟨cp,cd⟩,hc⟩:∃c,cs[j]? =some c:=⟨_,yf (by have:=HN.out;omega)⟩
   have hpo:=HCS.out j _ hc;dsimp only at hpo
   have hdr:cs.drop j=⟨cp,cd⟩::cs.drop (j+1):=by
    obtain⟨h1,h2⟩:=yi.1 hc;rw[List.drop_eq_getElem_cons h1,h2]
   rw[hdr]at hcm;have HCM:Hid (zdG cs a b=if zeI ⟨cp,cd⟩ a.2 b.2≠0 then zeI ⟨cp,cd⟩ a.2 b.2 else zdG (cs.drop (j+1)) a b):=hcm
   obtain⟨b1,o1,rfl,hb1,hc1⟩:=zq (HRD.out.below (hbr.mono (yg hBw hw0)) (yd _)) hc;have f0:=hc1 0 _ rfl;have f1:=hc1 1 _ rfl;rw[yw]at f0;dsimp only at f0 f1;have hj0:(0:Int)<=(j:Int):=yj _;have hj1:(j:Int)<(nc:Int):=by omega
   have hz1:=hbr.size;have hbA:Below W0.heap.size W0 (wr.alloc (.cells #[.string cp,.bool cd] 218)):=hbr.alloc hz1 _;have HCC:=yc (zmD cp cd hpo a.2 b.2 ⟨k,n,s,pl,nl,cl,pm,nm,cm⟩ ⟨qk,qn,qs,qpl,qnl,qcl,qpm,qnm,qcm⟩ (wr.alloc (.cells #[.string cp,.bool cd] 218)) B (yg (yg hBw hw0) hbA.size) (HTA.out.under (hbA.mono (yg hBw hw0)) (yd _)) HOK.out.1 (HTB.out.under (hbA.mono (yg hBw hw0)) (yd _)) HOK.out.2);obtain⟨x,hx⟩:∃x,zeI ⟨cp,cd⟩ a.2 b.2=x:=⟨_,rfl⟩;rw[hx]at HCC HCM;have hA2:=hA1.under ((yh _ _).alloc (yd _) (.cells #[.string cp,.bool cd] 218)) hA1.lt;have hQ2:=hQ1.under ((yh _ _).alloc (yd _) (.cells #[.string cp,.bool cd] 218)) hQ1.lt;have HX:=yc hbA;have hcv:(wr.alloc (.cells #[.string cp,.bool cd] 218)).heap[wr.heap.size]? =some (.cells #[.string cp,.bool cd] 218 (0,0)):=za rfl
   go_upto_region 4 with fail
   obtain⟨W1,hW1⟩:∃W,wr.alloc (.cells #[.string cp,.bool cd] 218)=W:=⟨_,rfl⟩;obtain⟨g8,hg8⟩:∃g,wr.heap.size=g:=⟨_,rfl⟩;rw[hW1]at HCC HX hA2 hQ2 hcv;rw[hg8]at hcv
   try rw[hW1]
   try rw[hg8]
   obtain⟨a0,a1,a2,a3,a4,a5⟩:=hA2.cells6;obtain⟨q0,q1,q2,q3,q4,q5⟩:=hQ2.cells6;dsimp only at a0 a1 a2 a3 a4 a5 q0 q1 q2 q3 q4 q5;have v0:W1.cell? ⟨g8,0,none⟩=some (.string cp):=(cell_of_row W1 g8 0 _ _ _ hcv).trans rfl;have v1:W1.cell? ⟨g8,1,none⟩=some (.bool cd):=(cell_of_row W1 g8 1 _ _ _ hcv).trans rfl;have hz2:W0.heap.size<=W1.heap.size:=HX.out.size;clear hW1 hg8 hbA hA1 hQ1 hA2 hQ2 hcv hbr hc1 hcm hx hc hdr hpo
   go_upto_region 5 with(go_at_call 315;(with_reducible refine HCC.out.mono ?_);rintro e w2 ⟨rfl,hb2⟩)
   by_cases hx0:x=0
   ·subst hx0;have HC2:Hid (zdG cs a b=zdG (cs.drop (j+1)) a b):=HCM.out.trans (if_neg (by simp))
    go_wp2_with fail
    go_roundw
    case rel=>exact⟨j+1,by omega,by go_num,HC2.out,HX.out.trans (hb2.mono hz2)⟩
    case measure=>simp[intOf];omega
   ·have r1:(x==0)=false:=by simpa using hx0
    have r2:(x !=0)=true:=by simpa using hx0
    have HC2:Hid (zdG cs a b=x):=HCM.out.trans (if_pos hx0)
    go_wp2_with fail
    go_ret;exact⟨by unfold zdn;rw[HC2.out];rfl,HB0.out.trans ((HX.out.trans (hb2.mono hz2)).mono hw0)⟩
  ·obtain rfl:j=nc:=by omega
   have HE:Hid (zdG cs a b=Go.Lib.compareBytes a.1.data.toList b.1.data.toList):=by
    unfold Hid;rw[hcm,List.drop_eq_nil_of_le (by have:=HN.out;omega)]
    rfl
   have HX:=yc (HB0.out.trans (hbr.mono hw0));obtain⟨a0,a1,a2,a3,a4,a5⟩:=hA1.cells6;obtain⟨q0,q1,q2,q3,q4,q5⟩:=hQ1.cells6;dsimp only at a0 a1 a2 a3 a4 a5 q0 q1 q2 q3 q4 q5;clear hbr hcm hA1 hQ1
   go_wp2_with fail
   go_ret;refine⟨?_,HX.out⟩;unfold zdn;rw[HE.out,<-zf1,ByteArray.toList_eq,ByteArray.toList_eq,<-HNA.out.1,<-HNA.out.2]
   rfl
end
section
open Go.RowKit Go.OpenShut
def zcz(x:RM×JV):List Value:=zl x.1
theorem zb5:Codec zcz 6:=⟨fun x=>codecM.len x.1,fun x=>codecM.one x.1,by decide⟩
theorem zqx(xs:List (RM×JV)):cellsOf zcz xs=cellsOf zl (xs.map (·.1)):=by
 unfold cellsOf;rw[List.flatMap_map]
 rfl
theorem Own.ofOJ{w:World}{base:Nat}{e:TypeId}{v:Value}{xs:List (RM×JV)}(h:Own w base e zcz 6 v xs):Own w base e zl 6 v (xs.map (·.1)):=by
 unfold Own at*;rw[zqx]at h
 rwa[List.length_map]
abbrev outV(g:Nat):Value:= .func (.func 49) #[] #[.pointer (some ⟨g,0,none⟩)]
theorem zpa(w:World)(p:Option Addr)(n c:Nat)(rms:List (RM×JV))(hv:Rd w w.heap.size zcz 6 (.slice p n c) rms)(g:Nat)(pr:RM×JV->Bool)(HC:Hid (∀x∈rms,∀W,Below w.heap.size w W->Calls ye 49 #[x.1.val,.pointer (some ⟨g,0,none⟩)] W fun e w'=>e= .returned (.bool (pr x))/\Below W.heap.size W w'))(hlen:rms.length<=1466015503658):
 Calls ye 97 #[.slice p n c,outV g] w fun e w'=>e= .returned (.int .i64 (zbt (rms.findIdx? (pr))))/\Below w.heap.size w w':=by
 have hn:=zi hv;subst hn;have HV:=yc hv;clear hv
 go_enter Tryz.func97,Tryz.ntmps97
 go_wp2_with fail
 go_loopw [8] (fun i wr=>∃k:Nat,k<=rms.length/\i= .int .i64 k/\Hid (∀(j:Nat) y,j<k->rms[j]? =some y->pr y=false)/\Below w.heap.size w wr) (fun i _=>rms.length-(intOf i).toNat)
 case atStart=>exact⟨0,yu _,rfl,fun j y h=>by omega,yh _ _⟩
 case round=>
  obtain⟨k,hk,rfl,hno,hbr⟩:=hrel;by_cases hlt:k<rms.length
  ·obtain⟨x,hx⟩:∃x,rms[k]? =some x:=⟨_,yf hlt⟩;obtain⟨b1,o1,rfl,hb1,hc1⟩:=zq (HV.out.below hbr (yd _)) hx;have f0:=hc1 0 _ rfl;have f1:=hc1 1 _ rfl;have f2:=hc1 2 _ rfl;have f3:=hc1 3 _ rfl;have f4:=hc1 4 _ rfl;have f5:=hc1 5 _ rfl;rw[yw]at f0;have HX:=yc hx;have hz:=hbr.size;have HBR:=yc hbr;have HCX:=yc (HC.out x (ym hx));cases hnb:pr x with
   | true =>
     have HF:=yc (zfk HX.out hnb hno.out);have HNB:Hid (pr x=true):=hnb;clear hx hc1 hbr hnb hno
     go_wp2_with (go_at_call 49;refine(HCX.out _ HBR.out).mono ?_;rintro e w1 ⟨rfl,hb1'⟩;rw[HNB.out])
     go_ret;exact⟨zcD (by rw[HF.out];rfl),HBR.out.trans (hb1'.mono HBR.out.size)⟩
   | false =>
     have HNB:Hid (pr x=false):=hnb
     have HNX:Hid (∀(j:Nat) y,j<k+1->rms[j]? =some y->pr y=false):=by
      intro j y hj hy;by_cases e:j=k
      ·subst e;rw[hx]at hy;cases hy;exact hnb
      ·exact hno.out j y (by omega) hy
     clear hx hc1 hbr hnb hno
     go_wp2_with (go_at_call 49;refine(HCX.out _ HBR.out).mono ?_;rintro e w1 ⟨rfl,hb1'⟩;rw[HNB.out])
     go_roundw
     case rel=>exact⟨k+1,by omega,by go_num,HNX,HBR.out.trans (hb1'.mono HBR.out.size)⟩
     case measure=>simp[intOf];omega
  ·obtain rfl:k=rms.length:=by omega
   have HF:=yc (zeL (p:=pr) (l:=rms) (fun j y hy=>hno.out j y (yi.1 hy).1 hy))
   go_wp2_with fail
   go_ret;exact⟨zcD (by rw[HF.out];rfl),hbr⟩
theorem Own.storedO6{w:World}{base:Nat}{g n cap:Nat}{xs:List (RM×JV)}(h:Own w base 62 zcz 6 (.slice (some ⟨g,0,none⟩) n cap) xs){k:Nat}{x:RM×JV}(hx:xs[k]? =some x)(q:RM×JV):
 Own ((((((w.setCell ⟨g,k*6,none⟩ (.string q.1.name)).setCell ⟨g,k*6+1,none⟩ (.int .i64 q.1.v.k)).setCell ⟨g,k*6+2,none⟩ (.int .i64 q.1.v.n)).setCell ⟨g,k*6+3,none⟩ (.string q.1.v.s)).setCell ⟨g,k*6+4,none⟩ (.slice q.1.v.pl q.1.v.nl q.1.v.cl)).setCell ⟨g,k*6+5,none⟩ (.slice q.1.v.pm q.1.v.nm q.1.v.cm)) base 62 zcz 6 (.slice (some ⟨g,0,none⟩) n cap) (xs.set k q)/\
 w.grownBy ((((((w.setCell ⟨g,k*6,none⟩ (.string q.1.name)).setCell ⟨g,k*6+1,none⟩ (.int .i64 q.1.v.k)).setCell ⟨g,k*6+2,none⟩ (.int .i64 q.1.v.n)).setCell ⟨g,k*6+3,none⟩ (.string q.1.v.s)).setCell ⟨g,k*6+4,none⟩ (.slice q.1.v.pl q.1.v.nl q.1.v.cl)).setCell ⟨g,k*6+5,none⟩ (.slice q.1.v.pm q.1.v.nm q.1.v.cm)) (some g):=by
 have hk:=(yi.1 hx).1;have s0:=Own.storedAt zb5 h (j:=0) (y:=(⟨q.1.name,x.1.v⟩,q.2)) (u:= .string q.1.name) hx (by decide) rfl
 have s1:=Own.storedAt zb5 s0.1 (k:=k) (x:=(⟨q.1.name,x.1.v⟩,q.2)) (j:=1) (y:=(⟨q.1.name,{x.1.v with k:=q.1.v.k}⟩,q.2)) (u:= .int .i64 q.1.v.k) (by simp[yae,hk]) (by decide) rfl
 have s2:=Own.storedAt zb5 s1.1 (k:=k) (x:=(⟨q.1.name,{x.1.v with k:=q.1.v.k}⟩,q.2)) (j:=2) (y:=(⟨q.1.name,{x.1.v with k:=q.1.v.k,n:=q.1.v.n}⟩,q.2)) (u:= .int .i64 q.1.v.n) (by simp[yae,hk]) (by decide) rfl
 have s3:=Own.storedAt zb5 s2.1 (k:=k) (x:=(⟨q.1.name,{x.1.v with k:=q.1.v.k,n:=q.1.v.n}⟩,q.2)) (j:=3) (y:=(⟨q.1.name,{x.1.v with k:=q.1.v.k,n:=q.1.v.n,s:=q.1.v.s}⟩,q.2)) (u:= .string q.1.v.s) (by simp[yae,hk]) (by decide) rfl
 have s4:=Own.storedAt zb5 s3.1 (k:=k) (x:=(⟨q.1.name,{x.1.v with k:=q.1.v.k,n:=q.1.v.n,s:=q.1.v.s}⟩,q.2)) (j:=4) (y:=(⟨q.1.name,{x.1.v with k:=q.1.v.k,n:=q.1.v.n,s:=q.1.v.s,pl:=q.1.v.pl,nl:=q.1.v.nl,cl:=q.1.v.cl}⟩,q.2)) (u:= .slice q.1.v.pl q.1.v.nl q.1.v.cl) (by simp[yae,hk]) (by decide) rfl
 have s5:=Own.storedAt zb5 s4.1 (k:=k) (x:=(⟨q.1.name,{x.1.v with k:=q.1.v.k,n:=q.1.v.n,s:=q.1.v.s,pl:=q.1.v.pl,nl:=q.1.v.nl,cl:=q.1.v.cl}⟩,q.2)) (j:=5) (y:=q) (u:= .slice q.1.v.pm q.1.v.nm q.1.v.cm) (by simp[yae,hk]) (by decide) rfl
 simp only[List.set_set,yw]at s5 s4 s3 s2 s1 s0;exact⟨s5.1,((((s0.2.trans s1.2).trans s2.2).trans s3.2).trans s4.2).trans s5.2⟩
structure DelRO(rms:List (RM×JV))(pr:RM×JV->Bool)(a b:Nat)(cur:List (RM×JV)):Prop where
 lt:a<b
 len:cur.length=rms.length
 head:cur.take a=(rms.take b).filter (fun x=> !pr x)
 tail:cur.drop b=rms.drop b
theorem DelRO.start{rms:List (RM×JV)}{pr:RM×JV->Bool}{i:Nat}(h:rms.findIdx? (pr)=some i):DelRO rms pr i (i+1) rms:=by
 rw[yW]at h;obtain⟨h1,h2,h3⟩:=h;refine⟨by omega,rfl,?_,rfl⟩
 rw[yD,yf h1,yax]
 have e1:(rms.take i).filter (fun x=> !pr x)=rms.take i:=by
  rw[List.filter_eq_self];intro x hx;obtain⟨j,hj⟩:=List.getElem?_of_mem hx;rw[List.getElem?_take]at hj
  split at hj
  ·have:=h3 j (by assumption)
   rw[yf (by omega)]at hj
   cases hj;simpa using this
  ·cases hj
 rw[e1];simp[h2]
theorem DelRO.at{rms cur:List (RM×JV)}{pr:RM×JV->Bool}{a b:Nat}(h:DelRO rms pr a b cur){x:RM×JV}(hx:rms[b]? =some x):cur[b]? =some x:=by
 have h1:(cur.drop b)[0]? =(rms.drop b)[0]? :=by rw[h.tail]
 simpa[List.getElem?_drop,hx]using h1
theorem DelRO.skip{rms cur:List (RM×JV)}{pr:RM×JV->Bool}{a b:Nat}(h:DelRO rms pr a b cur){x:RM×JV}(hx:rms[b]? =some x)(hn:pr x=true):DelRO rms pr a (b+1) cur:=by
 refine⟨by have:=h.lt;omega,h.len,?_,?_⟩
 ·rw[yD,hx,yax,<-h.head];simp[hn]
 ·rw[<-yaO (i:=1) (j:=b),<-yaO (i:=1) (j:=b),h.tail]
theorem DelRO.keep{rms cur:List (RM×JV)}{pr:RM×JV->Bool}{a b:Nat}(h:DelRO rms pr a b cur){x:RM×JV}(hx:rms[b]? =some x)(hn:pr x=false):DelRO rms pr (a+1) (b+1) (cur.set a x):=by
 have hl:=h.lt;have hbl:=(yi.1 hx).1;refine⟨by omega,by rw[List.length_set,h.len],?_,?_⟩
 ·rw[yD,List.take_set_of_le (yd _),List.getElem?_set_self (by have:=h.len;omega),yD,hx,yax,<-h.head]
  simp[hn]
 ·rw[List.drop_set_of_lt (by omega),<-yaO (i:=1) (j:=b),<-yaO (i:=1) (j:=b),h.tail]
theorem DelRO.done{rms cur:List (RM×JV)}{pr:RM×JV->Bool}{a:Nat}(h:DelRO rms pr a rms.length cur):cur.take a=rms.filter (fun x=> !pr x):=by
 have:=h.head
 rwa[yar]at this
theorem zno(w:World)(base:Nat)(p:Option Addr)(n c:Nat)(rms:List (RM×JV))(hv:Own w base 62 zcz 6 (.slice p n c) rms)(hb:base<=w.heap.size)(g:Nat)(pr:RM×JV->Bool)(HC:Hid (∀x∈rms,∀W,Below base w W->Calls ye 49 #[x.1.val,.pointer (some ⟨g,0,none⟩)] W fun e w'=>e= .returned (.bool (pr x))/\Below W.heap.size W w'))(hlen:rms.length<=1466015503658):
 Calls ye 51 #[.slice p n c,outV g] w fun e w'=>∃m,e= .returned (.slice p m c)/\Own w' base 62 zcz 6 (.slice p m c) (rms.filter (fun x=> !pr x))/\Below base w w':=by
 have hn:=zi (hv.rd zb5);subst hn;have HI:=yc (zpa w p rms.length c rms (hv.rd zb5) g pr (fun x hx W hW=>HC.out x hx W (hW.mono hb)) hlen)
 have HV:=yc hv;clear hv;cases hf:rms.findIdx? (pr)with
 | none =>
   have HF:=yc hf;clear hf
   go_enter Tryz.func51,Tryz.ntmps51
   go_wp2_with (go_at_call 97;refine HI.out.mono ?_;rintro e w1 ⟨rfl,hb1⟩;rw[HF.out];(have hn1:zbt (none:Option Nat)= -1:=rfl);rw[hn1];go_frame)
   go_ret;refine⟨rms.length,rfl,?_,hb1.mono hb⟩
   have e1:rms.filter (fun x=> !pr x)=rms:=by
    rw[List.filter_eq_self];intro x hx;have:=List.findIdx?_eq_none_iff.1 HF.out x hx;simpa using this
   rw[e1];exact HV.out.below hb1 (yd _)
 | some i =>
   have HF:=yc hf;have hst:=DelRO.start hf;have hi:=hst.lt;have hil:i<rms.length:=by rw[yW]at hf;exact hf.1
   have HST:=yc hst;have hne:((i:Int)== -1)=false:=by rw[beq_eq_false_iff_ne];omega
   clear hf hst
   go_enter Tryz.func51,Tryz.ntmps51
   go_wp2_with (go_at_call 97;refine HI.out.mono ?_;rintro e w1 ⟨rfl,hb1⟩;rw[HF.out];(have hn1:zbt (some i)=(i:Int):=rfl);rw[hn1];clear hn1;go_frame)
   have hz1:w.heap.size<=w1.heap.size:=hb1.size;have HB1:Hid (Below base w w1):=hb1.mono hb;have hO1:Hid (Own w1 base 62 zcz 6 (.slice p rms.length c) rms):=HV.out.below hb1 (yd _);clear hb1
   go_loopw [5,6] (fun x y wr=>∃(a b:Nat) (cur:List (RM×JV)),x= .int .i64 a/\y= .int .i64 b/\b<=rms.length/\Hid (DelRO rms pr a b cur)/\Hid (Own wr base 62 zcz 6 (.slice p rms.length c) cur)/\Below base w wr) (fun _ y _=>rms.length-(intOf y).toNat)
   case atStart=>exact⟨i,i+1,rms,rfl,by go_num,by omega,HST,hO1,HB1.out⟩
   case round=>
    obtain⟨a,b,cur,rfl,rfl,hbn,HD,HO,hbr⟩:=hrel;have hab:a<b:=HD.out.lt;have hzr:=hbr.size;by_cases hlt:b<rms.length
    ·obtain⟨x,hx⟩:∃x,rms[b]? =some x:=⟨_,yf hlt⟩;have hcx:=HD.out.at hx;obtain⟨xa,hxa⟩:∃xa,cur[a]? =some xa:=⟨_,yf (by rw[HD.out.len];omega)⟩
     obtain⟨gg,hpg,hnn,hga,hgb',hcell,hfr⟩:=Own.at zb5 HO.out hcx;subst hpg;have f0:=hcell 0 _ rfl;have f1:=hcell 1 _ rfl;have f2:=hcell 2 _ rfl;have f3:=hcell 3 _ rfl;have f4:=hcell 4 _ rfl;have f5:=hcell 5 _ rfl;rw[yw]at f0;have HCX:=yc (HC.out x (ym hx));have HX:=yc hx;have HXA:=yc hxa;have HBR:=yc hbr;have hb0:(0:Int)<=(b:Int):=yj _;have hb1:(b:Int)<(rms.length:Int):=by omega
     have ha0:(0:Int)<=(a:Int):=yj _;have ha1:(a:Int)<(rms.length:Int):=by omega
     have hM0:OAt (wr.alloc (.cells #[.string x.1.name,.int .i64 x.1.v.k,.int .i64 x.1.v.n,.string x.1.v.s,.slice x.1.v.pl x.1.v.nl x.1.v.cl,.slice x.1.v.pm x.1.v.nm x.1.v.cm] 62)) wr.heap.size x.1:=za rfl;have HM0:=yc hM0;have hA:=HBR.out.alloc (yg hb hzr) (.cells #[.string x.1.name,.int .i64 x.1.v.k,.int .i64 x.1.v.n,.string x.1.v.s,.slice x.1.v.pl x.1.v.nl x.1.v.cl,.slice x.1.v.pm x.1.v.nm x.1.v.cm] 62);have HA:=yc hA;clear hx hxa hcx hcell hfr hnn hbr hA hM0;cases hnb:pr x with
     | true =>
       have HNB:Hid (pr x=true):=hnb;have HN:=yc (HD.out.skip HX.out hnb);clear hnb
       go_wp2_with (go_at_call 49;refine(HCX.out _ HA.out).mono ?_;rintro e w2 ⟨rfl,hb2⟩;rw[HNB.out])
       go_roundw
       case rel=>exact⟨a,b+1,cur,rfl,by go_num,by omega,HN,(HO.out.alloc _).below hb2 (yd _),HA.out.trans (hb2.mono (yg hb HA.out.size))⟩
       case measure=>simp[intOf];omega
     | false =>
       have HNB:Hid (pr x=false):=hnb;have HN:=yc (HD.out.keep HX.out hnb);clear hnb
       go_upto_region 9 with(go_at_call 49;refine(HCX.out _ HA.out).mono ?_;rintro e w2 ⟨rfl,hb2⟩;rw[HNB.out])
       have hM2:=HM0.out.under hb2 (by simp)
       obtain⟨v0,v1,v2,v3,v4,v5⟩:=hM2.cells6;have hO2:=(HO.out.alloc (.cells #[.string x.1.name,.int .i64 x.1.v.k,.int .i64 x.1.v.n,.string x.1.v.s,.slice x.1.v.pl x.1.v.nl x.1.v.cl,.slice x.1.v.pm x.1.v.nm x.1.v.cm] 62)).below hb2 (yd _);obtain⟨g2,hpg2,hnn2,hga2,hgb2,hcell2,hfr2⟩:=Own.at zb5 hO2 HXA.out;simp only[Option.some.injEq,Addr.mk.injEq,and_true]at hpg2;subst hpg2;have t0:=hcell2 0 _ rfl;have t1:=hcell2 1 _ rfl;have t2:=hcell2 2 _ rfl;have t3:=hcell2 3 _ rfl;have t4:=hcell2 4 _ rfl;have t5:=hcell2 5 _ rfl;rw[yw]at t0;have s0:=hfr2 (a*6);have s1:=hfr2 (a*6+1);have s2:=hfr2 (a*6+2);have s3:=hfr2 (a*6+3);have s4:=hfr2 (a*6+4);have s5:=hfr2 (a*6+5);have HST2:=yc (Own.storedO6 hO2 HXA.out x);have HB2:Hid (Below base w w2):=HA.out.trans (hb2.mono (yg hb HA.out.size));have hz2:w.heap.size<=w2.heap.size:=HB2.out.size;clear hcell2 hfr2 hnn2 hb2 hM2 hO2 f0 f1 f2 f3 f4 f5
       go_wp2_with fail
       go_roundw
       case rel=>exact⟨a+1,b+1,_,by go_num,by go_num,by omega,HN,HST2.out.1,HB2.out.grown HST2.out.2 (by omega) (fun j e=>by cases e;exact hga)⟩
       case measure=>simp[intOf];omega
    ·obtain rfl:b=rms.length:=by omega
     have hal:a<=rms.length:=by omega
     have hsl:=fun W=>zer (P:=ye) slO p rms.length c a hal W
     have hcap:rms.length<=c:=by
      obtain⟨_,_,e,h1,_⟩:=HO.out.rd zb5;simp only[Value.slice.injEq]at e;have:=HD.out.len;omega
     have hsh:=fun W=>zfr (P:=ye) slO p rms.length c a (by omega) W
     have HBR:=yc hbr;have HDD:=yc HD.out.done;clear hbr HD;obtain⟨w2,hrun,ho2,hg2⟩:=zf9 (P:=ye) slO oneO zb5 wr 0 HO.out hal (v:= .slice (p.map (fun x=>x.add (a*6))) (rms.length-a) (c-a)) (by unfold sliced;rw[if_neg (by omega)])
     have HO2:=yc ho2;have HG2:=yc hg2;clear ho2 hg2
     go_wp2_with fail
     go_ret;exact⟨a,rfl,by rw[<-HDD.out];exact HO2.out,HBR.out.grown HG2.out (by omega) (fun j e=>(HO.out.lt j e).1)⟩
end
section
open Go Go.RowKit Go.OpenShut
def dRM:RM:=⟨⟨#[]⟩,⟨0,0,⟨#[]⟩,none,0,0,none,0,0⟩⟩
def dO:ByteArray×JV:=(⟨#[]⟩,zql)
def zeJ(rs:List RM)(i:Nat):List Value:=[.string (rs.getD i dRM).name,.int .i64 (rs.getD i dRM).v.k,.int .i64 (rs.getD i dRM).v.n,.string (rs.getD i dRM).v.s,.slice (rs.getD i dRM).v.pl (rs.getD i dRM).v.nl (rs.getD i dRM).v.cl,.slice (rs.getD i dRM).v.pm (rs.getD i dRM).v.nm (rs.getD i dRM).v.cm,.int .i64 (i:Int)]
theorem zdH(rs:List RM):Codec (zeJ rs) 7:=⟨fun _=>rfl,fun x u hu=>by
 simp only[zeJ,yA,y5,or_false]at hu
 rcases hu with rfl|rfl|rfl|rfl|rfl|rfl|rfl<;>rfl,by decide⟩
def zjQ(cs:List CmpD)(os:List (ByteArray×JV))(i j:Nat):Int:=if zdG cs (os.getD i dO) (os.getD j dO)≠0 then zdG cs (os.getD i dO) (os.getD j dO)else(i:Int)-(j:Int)
def ltQ(cs:List CmpD)(os:List (ByteArray×JV))(i j:Nat):Bool:=decide (zjQ cs os i j<0)
theorem znh:CmpOk (fun i j:Nat=>(i:Int)-(j:Int)):=⟨fun x=>by omega,fun x y=>by omega,fun x y z a b=>by omega⟩
theorem zlx(cs:List CmpD)(os:List (ByteArray×JV)):CmpOk (zjQ cs os):=((zis cs).on (fun i:Nat=>os.getD i dO)).lex znh
theorem zhS(cs:List CmpD)(os:List (ByteArray×JV)):LtOk (ltQ cs os):=(zlx cs os).lt
theorem zqC{cs:List CmpD}{os:List (ByteArray×JV)}{i j:Nat}(h1:ltQ cs os i j=false)(h2:ltQ cs os j i=false):i=j:=by
 have a:=of_decide_eq_false h1;have b:=of_decide_eq_false h2;have h3:=(zlx cs os).anti i j;have h0:zjQ cs os i j=0:=by omega
 unfold zjQ at h0
 split at h0
 ·contradiction
 ·omega
theorem zpp(cs:List CmpD)(os:List (ByteArray×JV))(i j:Nat):ltQ cs os i j=(zdn cs (os.getD i dO) (os.getD j dO)||(!zdn cs (os.getD j dO) (os.getD i dO)&&decide ((i:Int)<(j:Int)))):=by
 have h:=(zis cs).anti (os.getD i dO) (os.getD j dO);unfold ltQ zjQ zdn
 rcases Int.lt_trichotomy (zdG cs (os.getD i dO) (os.getD j dO)) 0 with h1|h1|h1
 ·rw[if_pos (by omega),decide_eq_true h1];rfl
 ·rw[if_neg (by omega),h,h1]
  simp;omega
 ·rw[if_pos (by omega),decide_eq_false (by omega),decide_eq_true (by omega)];rfl
structure QEnv(w:World)(B:Nat)(cs:List CmpD)(os:List (ByteArray×JV))(rs:List RM)(pc:Option Addr)(nc cc:Nat):Prop where
 rd:Rd w B zfJ 2 (.slice pc nc cc) cs
 pok:∀(i:Nat) c,cs[i]? =some c->zhw c.prop
 few:cs.length<=1000000000000
 len:rs.length=os.length
 obj:∀i,i<rs.length->(rs.getD i dRM).name=(os.getD i dO).1/\TreeOf w B (os.getD i dO).2 (rs.getD i dRM).v/\(os.getD i dO).2.Ok
theorem QEnv.below{w w':World}{B:Nat}{cs:List CmpD}{os:List (ByteArray×JV)}{rs:List RM}{pc:Option Addr}{nc cc:Nat}(h:QEnv w B cs os rs pc nc cc)(hb:Below B w w'):QEnv w' B cs os rs pc nc cc:=
 ⟨h.rd.below hb (yd _),h.pok,h.few,h.len,fun i hi=>⟨(h.obj i hi).1,(h.obj i hi).2.1.under hb (yd _),(h.obj i hi).2.2⟩⟩
structure QAt(W:World)(base q g cap:Nat)(rs:List RM)(pc:Option Addr)(nc cc:Nat)(xs:List Nat):Prop where
 cell:W.heap[q]? =some (.cells #[.slice (some ⟨g,0,none⟩) xs.length cap,.slice pc nc cc] 162 (0,0))
 own:Own W base 164 (zeJ rs) 7 (.slice (some ⟨g,0,none⟩) xs.length cap) xs
 ne:q≠g
 lo:base<=q
 bnd:∀x∈xs,x<rs.length
theorem QAt.grown{W W':World}{base q g cap:Nat}{rs:List RM}{pc:Option Addr}{nc cc:Nat}{xs:List Nat}(h:QAt W base q g cap rs pc nc cc xs)(hg:Below W.heap.size W W'):QAt W' base q g cap rs pc nc cc xs:=
 ⟨(hg.block q (yl.1 h.cell).1).trans h.cell,h.own.below hg (yd _),h.ne,h.lo,h.bnd⟩
theorem QAt.glo{W:World}{base q g cap:Nat}{rs:List RM}{pc:Option Addr}{nc cc:Nat}{xs:List Nat}(h:QAt W base q g cap rs pc nc cc xs):base<=g/\g<W.heap.size:=h.own.lt g rfl
theorem QAt.turned{W W':World}{base q g cap:Nat}{rs:List RM}{pc:Option Addr}{nc cc:Nat}{xs ys:List Nat}(h:QAt W base q g cap rs pc nc cc xs)(hg:W.grownBy W' (some g))(hl:ys.length=xs.length)(ho:Own W' base 164 (zeJ rs) 7 (.slice (some ⟨g,0,none⟩) xs.length cap) ys)(hb:∀y∈ys,y<rs.length):QAt W' base q g cap rs pc nc cc ys:=
 ⟨by rw[hl];exact(hg.block q (yl.1 h.cell).1 (fun e=>h.ne (Option.some.inj e))).trans h.cell,by rw[hl];exact ho,h.ne,h.lo,hb⟩
theorem QAt.q0{W:World}{base q g cap:Nat}{rs:List RM}{pc:Option Addr}{nc cc:Nat}{xs:List Nat}(h:QAt W base q g cap rs pc nc cc xs):W.cell? ⟨q,0,none⟩=some (.slice (some ⟨g,0,none⟩) xs.length cap):=(cell_of_row _ q 0 _ _ _ h.cell).trans rfl
theorem QAt.q1{W:World}{base q g cap:Nat}{rs:List RM}{pc:Option Addr}{nc cc:Nat}{xs:List Nat}(h:QAt W base q g cap rs pc nc cc xs):W.cell? ⟨q,1,none⟩=some (.slice pc nc cc):=(cell_of_row _ q 1 _ _ _ h.cell).trans rfl
theorem QAt.xlen{W:World}{base q g cap:Nat}{rs:List RM}{pc:Option Addr}{nc cc:Nat}{xs:List Nat}(h:QAt W base q g cap rs pc nc cc xs):xs.length<=cap/\cap<=maxLen:=by
 obtain⟨p,c,hv,h1,h2⟩:=h.own.len;simp only[Value.slice.injEq]at hv;obtain⟨_,_,rfl⟩:=hv;exact⟨h1,h2⟩
theorem QAt.keep{W W':World}{base q g cap:Nat}{rs:List RM}{pc:Option Addr}{nc cc:Nat}{xs:List Nat}(h:QAt W base q g cap rs pc nc cc xs)(hg:W.grownBy W' (some g)){B:Nat}(hB:B<=base):Below B W W':=
 (yh B W).grown hg (yg hB (yg h.glo.1 (yaL h.glo.2))) (fun k e=>by cases e;exact yg hB h.glo.1)
theorem zgC(xs:List Nat){i j:Nat}{x y:Nat}(hi:xs[i]? =some x)(hj:xs[j]? =some y):(xs.set i y).set j x=zig xs i j (yi.1 hi).1 (yi.1 hj).1:=by
 obtain⟨a,b⟩:=yi.1 hi;obtain⟨c,d⟩:=yi.1 hj;unfold zig;rw[b,d]
end
section
structure PSt(m:List (ByteArray×JV))(j:Nat)(p:ByteArray)(d sup:Bool):Prop where
 ok:zbi (m.take j) []=false
 pv:p=match mOf (m.take j) propN with|some x=>x.s|none=>⟨#[]⟩
 dv:d=match mOf (m.take j) zd1 with|some x=>decide (x.n=0)|none=>false
 sv:sup=match mOf (m.take j) zc8 with|some x=>decide (x.s=zgi)|none=>true
theorem PSt.start(m:List (ByteArray×JV)):PSt m 0 ⟨#[]⟩ false true:=⟨rfl,rfl,rfl,rfl⟩
theorem zlJ{m:List (ByteArray×JV)}{n:ByteArray}(h:n∉m.map (·.1)):mOf m n=none:=by
 unfold mOf
 rw[List.find?_eq_none.2 (fun x hx=>by
  have:x.1≠n:=fun e=>h (e▸List.mem_map_of_mem hx)
  simpa using this)]
 rfl
theorem zbu{α:Type}{m:List α}{j:Nat}{x:α}(hx:m[j]? =some x):m.take (j+1)=m.take j++[x]:=by rw[yD,hx];rfl
theorem PSt.okS{m:List (ByteArray×JV)}{j:Nat}{p:ByteArray}{d sup:Bool}{x:ByteArray×JV}(h:PSt m j p d sup)(hx:m[j]? =some x)(hc:zc6 x=true)(hs:x.1∉(m.take j).map (·.1)):zbi (m.take (j+1)) []=false:=by
 rw[zbu hx,zf5,h.ok,hc,inS_no.2 hs]
 rfl
theorem ziD{m:List (ByteArray×JV)}{x:ByteArray×JV}(hs:x.1∉m.map (·.1)):mOf (m++[x]) x.1=some x.2:=by
 rw[zke,zlJ hs,if_pos rfl];rfl
theorem zd5{m:List (ByteArray×JV)}{x:ByteArray×JV}{n:ByteArray}(hn:x.1≠n):mOf (m++[x]) n=mOf m n:=by
 rw[zke,if_neg hn];cases mOf m n<;>rfl
theorem zjI:propN≠zd1:=by decide
theorem zjJ:propN≠zc8:=by decide
theorem zjA:zd1≠zc8:=by decide
theorem PSt.prop{m:List (ByteArray×JV)}{j:Nat}{p:ByteArray}{d sup:Bool}{x:ByteArray×JV}(h:PSt m j p d sup)(hx:m[j]? =some x)(hn:x.1=propN)(hk:x.2.k=4)(hs:x.1∉(m.take j).map (·.1)):PSt m (j+1) x.2.s d sup:=by
 refine⟨h.okS hx (by unfold zc6;rw[decide_eq_true hn,decide_eq_true hk];rfl) hs,?_,?_,?_⟩
 ·have:=ziD hs;rw[hn]at this;rw[zbu hx,this]
 ·rw[zbu hx,zd5 (by rw[hn];exact zjI)];exact h.dv
 ·rw[zbu hx,zd5 (by rw[hn];exact zjJ)];exact h.sv
theorem PSt.asc{m:List (ByteArray×JV)}{j:Nat}{p:ByteArray}{d sup:Bool}{x:ByteArray×JV}(h:PSt m j p d sup)(hx:m[j]? =some x)(hn:x.1=zd1)(hk:x.2.k=2)(hs:x.1∉(m.take j).map (·.1)):PSt m (j+1) p (decide (x.2.n=0)) sup:=by
 refine⟨h.okS hx (by unfold zc6;rw[decide_eq_true hn,decide_eq_true hk];simp) hs,?_,?_,?_⟩
 ·rw[zbu hx,zd5 (by rw[hn];exact fun e=>zjI e.symm)];exact h.pv
 ·have:=ziD hs;rw[hn]at this;rw[zbu hx,this]
 ·rw[zbu hx,zd5 (by rw[hn];exact zjA)];exact h.sv
theorem PSt.coll{m:List (ByteArray×JV)}{j:Nat}{p:ByteArray}{d sup:Bool}{x:ByteArray×JV}(h:PSt m j p d sup)(hx:m[j]? =some x)(hn:x.1=zc8)(hk:x.2.k=4)(hs:x.1∉(m.take j).map (·.1)):PSt m (j+1) p d (decide (x.2.s=zgi)):=by
 refine⟨h.okS hx (by unfold zc6;rw[decide_eq_true hn,decide_eq_true hk];simp) hs,?_,?_,?_⟩
 ·rw[zbu hx,zd5 (by rw[hn];exact fun e=>zjJ e.symm)];exact h.pv
 ·rw[zbu hx,zd5 (by rw[hn];exact fun e=>zjA e.symm)];exact h.dv
 ·have:=ziD hs;rw[hn]at this;rw[zbu hx,this]
theorem zc9{m:List (ByteArray×JV)}{j:Nat}{x:ByteArray×JV}(hx:m[j]? =some x)(hb:zc6 x=false\/x.1∈(m.take j).map (·.1)):zbi m []=true:=by
 cases h:zbi m []with
 |true=>rfl
 | false =>
   obtain⟨h1,h2,_⟩:=(zgn m []).1 h
   rcases hb with hb|hb
   ·rw[h1 x (ym hx)]at hb;cases hb
   ·have h3:((m.take (j+1)).map (·.1)).Nodup:=(List.Sublist.map _ (List.take_sublist _ _)).nodup h2
    rw[zbu hx,List.map_append,List.nodup_append]at h3;exact absurd rfl (h3.2.2 _ hb _ (by simp))
theorem znS{x:ByteArray×JV}(h:x.1=propN):zc6 x=decide (x.2.k=4):=by
 unfold zc6;rw[h];simp[zjI,zjJ]
theorem zpq{x:ByteArray×JV}(h:x.1=zd1):zc6 x=decide (x.2.k=2):=by
 have h1:¬zd1=propN:=fun e=>zjI e.symm
 unfold zc6;rw[h];simp[h1,zjA]
theorem znQ{x:ByteArray×JV}(h:x.1=zc8):zc6 x=decide (x.2.k=4):=by
 have h1:¬zc8=propN:=fun e=>zjJ e.symm
 have h2:¬zc8=zd1:=fun e=>zjA e.symm
 unfold zc6;rw[h];simp[h1,h2]
theorem znR{x:ByteArray×JV}(h1:x.1≠propN)(h2:x.1≠zd1)(h3:x.1≠zc8):zc6 x=false:=by
 unfold zc6;rw[decide_eq_false h1,decide_eq_false h2,decide_eq_false h3]
 rfl
theorem znY{v:JV}(h:v.k≠6):zb0 v=1:=by unfold zb0;rw[if_pos h]
theorem zdz{v:JV}(h:zbi v.m []=true):zb0 v=1:=by
 unfold zb0
 split<;>simp[h]
theorem PSt.done{v:JV}{p:ByteArray}{d sup:Bool}(hk:v.k=6)(h:PSt v.m v.m.length p d sup):zb0 v=(if inS (v.m.map (fun x=>x.1)) propN then(if sup&&zdc p then 0 else 210)else 1)/\(inS (v.m.map (fun x=>x.1)) propN=true->zc7 v=⟨p,d⟩):=by
 obtain⟨h1,h2,h3,h4⟩:=h;rw[yar]at h1 h2 h3 h4
 have hm:propN∈v.m.map (·.1)->∃x,mOf v.m propN=some x:=fun hp=>by
  cases hc:mOf v.m propN with
  |some x=>exact⟨x,rfl⟩
  | none =>
    exfalso
    unfold mOf at hc;rw[Option.map_eq_none_iff,List.find?_eq_none]at hc;obtain⟨y,hy,e⟩:=y8.1 hp;exact hc y hy (by simpa using e)
 refine⟨?_,fun hp=> ?_⟩
 ·unfold zb0;rw[if_neg (by simp[hk]),h1,if_neg (by decide)]
  cases hp:inS (v.m.map (fun x=>x.1)) propN with
  | true =>
    obtain⟨x,hx⟩:=hm (inS_iff.1 hp);rw[if_pos rfl,hx];rw[hx]at h2;dsimp only at h2⊢;rw[h2,h4];cases mOf v.m zc8 with
    |none=>cases zdc x.s<;>rfl
    | some c =>
      by_cases hc:c.s=zgi
      ·cases hpo:zdc x.s<;>simp[hc,hpo]
      ·cases hpo:zdc x.s<;>simp[hc,hpo]
  |false=>rw[if_neg (by decide),zlJ (inS_no.1 hp)]
 ·obtain⟨x,hx⟩:=hm (inS_iff.1 hp);unfold zc7;rw[hx]at h2⊢;dsimp only at h2⊢;rw[h2,h3]
  try rfl
end
section
open Go Go.RowKit Go.OpenShut
def Small(w:World)(k:Nat):Prop:=∃cs t z,w.heap[k]? =some (.cells cs t z)/\cs.size<5
theorem TokAt.small{W:World}{g:Nat}{t:Tok}(h:TokAt W g t):Small W g:=⟨_,_,_,h,by simp⟩
theorem RdI.same'{α:Type}{enc:α->List Value}{sz:Nat}(C:Codec enc sz)(hsz:5<=sz){w w':World}{S:Nat->Prop}{v:Value}{xs:List α}(h:RdI w S enc sz v xs)(hk:∀k,S k->w'.heap[k]? =w.heap[k]? \/Small w k):RdI w' S enc sz v xs:=by
 obtain⟨p,cap,h1,h2,h3,h4,h5⟩:=h;refine⟨p,cap,h1,h2,h3,h4,fun a ha h0=> ?_⟩
 obtain⟨b,o,e,hb,hr⟩:=h5 a ha h0
 rcases hk b hb with hs|⟨cs,t,z,hs,hlt⟩
 ·exact⟨b,o,e,hb,fun i x hx j u hu=>(World.cell?_of_block (w:=w) (a:=⟨b,o+i*sz+j,none⟩) hs).trans (hr i x hx j u hu)⟩
 ·exfalso
  obtain⟨x,hx⟩:∃x,xs[0]? =some x:=⟨_,yf h0⟩;obtain⟨u,hu⟩:∃u,(enc x)[sz-1]? =some u:=⟨_,yf (by rw[C.len];omega)⟩
  have h6:=hr 0 x hx (sz-1) u hu;rw[cell_of_row w b _ cs t z hs]at h6;have:=(yl.1 h6).1;omega
theorem TreeS.same'{w w':World}{S:Nat->Prop}{t:JV}{r:RV}(h:TreeS w S t r)(hk:∀k,S k->w'.heap[k]? =w.heap[k]? \/Small w k):TreeS w' S t r:=by
 induction h with
 |mk hl el cl hm em cn cm ih1 ih2=>exact .mk (hl.same' zb8 (by decide) hk) el ih1 (hm.same' codecM (by decide) hk) em cn ih2
def knF(l:List ByteArray)(u:List UInt8):Option Value:=if u∈l.map (·.data.toList)then some (.bool true)else none
theorem zpg(l:List ByteArray)(n:ByteArray):knF (n::l)=fun u=>if u=n.data.toList then some (.bool true)else knF l u:=by
 funext u
 unfold knF;by_cases h1:u=n.data.toList
 ·subst h1;simp
 ·by_cases h2:u∈l.map (·.data.toList)
  ·rw[if_neg h1,if_pos h2,if_pos (by rw[yaF];exact List.mem_cons_of_mem _ h2)]
  ·rw[if_neg h1,if_neg h2,if_neg (by rw[yaF,yA];exact fun e=>e.elim h1 h2)]
theorem zlD{l:List ByteArray}{n:ByteArray}(h:n∉l):knF l n.data.toList=none:=by
 unfold knF;rw[if_neg];intro hm;obtain⟨x,hx,e⟩:=y8.1 hm;exact h (zgj e▸hx)
theorem GrM.own{w:World}{base:Nat}{v:Value}{l:List (ByteArray×JV)}(h:GrM w base v l):∃p n c,v= .slice p n c/\n=l.length/\∀k,v.ownBlock=some k->base<=k/\k<w.heap.size:=by
 obtain⟨rs,h1,h2,_⟩:=h.ex;obtain⟨p,c,hv,_,_⟩:=h1.len;exact⟨p,_,c,hv,by rw[h2],h1.lt⟩
theorem GrM.small{w w':World}{base x:Nat}{v:Value}{m:List (ByteArray×JV)}(h:GrM w base v m)(hg:w.grownBy w' (some x))(hs:Small w x)(hx:v.ownBlock≠some x):GrM w' base v m:=by
 obtain⟨rs,h1,h2,h4,h3⟩:=h.ex;have hz:=hg.size
 have key:∀k,k<w.heap.size->w'.heap[k]? =w.heap[k]? \/Small w k:=fun k hk=>by
  by_cases e:k=x
  ·subst e;exact .inr hs
  ·exact .inl (hg.block k hk (fun e2=>by cases e2;exact e rfl))
 exact⟨rs,h1.same (fun k e=>hg.block k (h1.lt k e).2 (fun e2=>by cases e2;exact hx e)),h2,h4,fun i t q a b=>((h3 i t q a b).same' (fun k e=>key k e.2.1)).mono (fun k e=>⟨e.1,by omega,e.2.2⟩)⟩
structure MSt(w W:World)(g mb base:Nat)(known:List ByteArray)(ts:List Tok)(en pa:Nat)(o:Value)(l:List (ByteArray×JV)):Prop where
 rds:RdS W g ts en pa
 gr:GrM W base o l
 mp:MapF W ye 9 mb known.length (knF known)
 gw:w.grownBy W (some g)
 lt:g<w.heap.size/\w.heap.size<=mb/\mb<base/\base<=W.heap.size
section
variable {w W W':World} {g mb base en pa:Nat} {known:List ByteArray} {ts:List Tok} {o:Value} {l:List (ByteArray×JV)} (h:MSt w W g mb base known ts en pa o l)
include h
theorem MSt.go{ts':List Tok}{pa':Nat}(hr:RdS W' g ts' en pa')(hg:W.grownBy W' (some g)):MSt w W' g mb base known ts' en pa' o l:=by
 have hl:=h.lt;exact⟨hr,h.gr.out (fun k h1 h2=>hg.block k h2 (fun e=>by cases e;omega)) hg.size,h.mp.kept hg (fun e=>by cases e;omega),h.gw.trans hg,hl.1,hl.2.1,hl.2.2.1,yg hl.2.2.2 hg.size⟩
theorem MSt.call(hb:Below W.heap.size W W'):MSt w W' g mb base known ts en pa o l:=h.go (h.rds.kept (hb.gbr none) (fun k e=>by cases e)) (hb.gbr _)
theorem MSt.alloc(x:Obj):MSt w (W.alloc x) g mb base known ts en pa o l:=h.call ((yh _ _).alloc (yd _) _)
end
end
section
open Go.RowKit Go.Shelf
attribute [local go_sem] Oper.semAt_some
abbrev OkS:={s:ByteArray//s.size<=maxLen}
def zjF(x:OkS):List Value:=zg x.1
theorem zm9(F:Fence)(n:Nat)(h7:F.fn 132)(hro:F.round=none)(hn:1<=n)(l Bs n₀ b off cap:Nat)(xs:List OkS)(hlen:xs.length<=4398046511104)(hb:b<n₀)(J Jx:List (Nat×OkS)->World->Prop)
 (hY:∀pre x W,J pre W->pre.length<xs.length->YieldAt F (n-1) ye l #[.int .i64 (x.1:Nat),.string x.2.1] W fun e W'=>
  (e= .returned (.bool true)/\J (pre++[x]) W'/\Kq n₀ Bs W W')\/(e= .returned (.bool false)/\Jx (pre++[x]) W'))
 (W:World) (hBs:W.cell? ⟨Bs,0,none⟩=some (.slice (some ⟨b,off,none⟩) xs.length cap)) (hc:RowAt W b off zjF 1 xs) (h0:J [] W):
 CallsIn F n ye 132 #[.func (.yield l) #[] #[],.pointer (some ⟨Bs,0,none⟩)] W fun e W'=>(∃v,e= .returned v)/\
  ((∃ys,ys=zQ xs xs.length/\J ys W')\/(∃pre,True/\Jx pre W')):=by
 refine callsIn_of_wp Tryz.func132 rfl h7 ?_ hro;simp only[Tryz.ntmps132,yP,yB,yS,yas,yat,yX,yY,yaf,yaa,y6,yab]
 gi_wp2
 gi_loopw [3] (fun i wr=>∃k:Nat,k<=xs.length/\i= .int .i64 ((xs.length:Int)-1-(k:Int))/\J (zQ xs k) wr/\Kq n₀ Bs W wr)
  (fun i _=>(intOf i+1).toNat)
 case atStart=>exact⟨0,yu _,by congr 1;omega,h0,Kq.refl _ _ _⟩
 case round=>
  obtain⟨k,hk,rfl,hJs,hnx⟩:=hrel;have hcs:=hnx.cell hBs;by_cases hlt:k<xs.length
  ·obtain⟨j,hj⟩:∃j,xs.length-1-k=j:=⟨_,rfl⟩;have ej:(xs.length:Int)-1-(k:Int)=(j:Int):=by omega
   have hjl:j<xs.length:=by omega
   obtain⟨x,hx⟩:∃x,xs[j]? =some x:=⟨_,yf hjl⟩;obtain⟨fn,tmps,assign,body,hy,hR⟩:=hY _ (j,x) wr hJs (by rw[zcS _ _ hk];exact hlt)
   dsimp only at hy;have c0:=zc hnx.1 hb (hc j x hx 0 _ rfl);rw[yw,Nat.mul_one]at c0;have hT:Hid (zQ xs (k+1)=zQ xs k++[(j,x)]):=ze7 xs k j x hlt hj hx;have HJ:=yc hj;clear hj hx hY;have hR':=yc hR;clear hR
   gi_wp2
   refine hR'.out.mono ?_;rintro e W3 (⟨rfl,hJ3,hk3⟩|⟨rfl,hJx3⟩)
   ·gi_wp2
    go_roundw
    case rel=>exact⟨k+1,by omega,by congr 1;omega,by rw[hT.out];exact hJ3,hnx.trans hk3⟩
    case measure=>simp[intOf];omega
   ·gi_wp2
    refine bodyPost_ret (results_none rfl _ _ _) rfl ?_;exact⟨⟨_,rfl⟩,.inr ⟨_,trivial,hJx3⟩⟩
  ·obtain rfl:k=xs.length:=by omega
   gi_wp2
   go_end0
   exact⟨⟨_,rfl⟩,.inl ⟨_,rfl,hJs⟩⟩
theorem zhD(pa:Option Addr)(ca:Nat)(F:Fence)(n:Nat)(h7:F.fn 132)(hro:F.round=none)(l Bs:Nat)(J:List (Nat×OkS)->World->Prop)(W:World)(hBs:W.cell? ⟨Bs,0,none⟩=some (.slice pa 0 ca))(h0:J [] W):
 CallsIn F n ye 132 #[.func (.yield l) #[] #[],.pointer (some ⟨Bs,0,none⟩)] W fun e W'=>(∃v,e= .returned v)/\J [] W':=by
 refine callsIn_of_wp Tryz.func132 rfl h7 ?_ hro;simp only[Tryz.ntmps132,yP,yB,yS,yas,yat,yX,yY,yaf,yaa,y6,yab]
 gi_wp2
 gi_loopw [3] (fun i wr=>i= .int .i64 (-1)/\J [] wr) (fun _ _=>0)
 case atStart=>exact⟨rfl,h0⟩
 case round=>
  obtain⟨rfl,hJs⟩:=hrel
  gi_wp2
  go_end0
  exact⟨⟨_,rfl⟩,hJs⟩
theorem zoK(F:Fence)(n:Nat)(h5:F.fn 81)(hro:F.round=none)(v:Value)(w:World)(hv:∃a len cap,v= .slice a len cap):
 CallsIn F n ye 81 #[v] w fun e w'=>e= .returned (.func (.func 132) #[] #[.pointer (some ⟨w.heap.size,0,none⟩)])/\w'=w.alloc (.cells #[v] 42):=by
 obtain⟨a,len,cap,rfl⟩:=hv;refine callsIn_of_wp Tryz.func81 rfl h5 ?_ hro;simp only[Tryz.ntmps81,yP,yB,yS,yas,yat,yX,yY,yaf,yaa,y6,yab]
 gi_wp2
 go_ret;exact⟨rfl,rfl⟩
theorem zkD(F:Fence)(n:Nat)(h7:F.fn 132)(hro:F.round=none)(hn:1<=n)(Bs n₀:Nat)(v:Value)(xs:List OkS)(hlen:xs.length<=4398046511104)(w:World)(hBs:Bs<w.heap.size)(hn₀:n₀<=w.heap.size)
 (hc:w.cell? ⟨Bs,0,none⟩=some v) (hv:Rd w n₀ zjF 1 v xs):
 SeqStopsK F n ye 132 #[.pointer (some ⟨Bs,0,none⟩)] (fun x:Nat×OkS=>#[.int .i64 (x.1:Nat),.string x.2.1]) (Kq n₀ Bs) (fun ys=>ys=zQ xs xs.length) (fun _=>True) xs.length w:=fun l J Jx W hW _ _ hY h0=>by
 have hc':=(hW.cell (p:=⟨Bs,0,none⟩) hBs).trans hc;obtain⟨p,cap,rfl,h1,h2,h3,h4⟩:=hv;cases p with
 | none =>
   have hc0:cap=0:=h3 rfl;have hx:xs=[]:=yx (by omega)
   subst hx hc0;exact(zhD _ _ F n h7 hro l Bs J W hc' h0).mono fun e W' ⟨he,hj⟩=>⟨he,.inl ⟨_,rfl,hj⟩⟩
 | some a =>
   by_cases hx0:xs.length=0
   ·have hx:xs=[]:=yx hx0;subst hx;exact(zhD _ _ F n h7 hro l Bs J W hc' h0).mono fun e W' ⟨he,hj⟩=>⟨he,.inl ⟨_,rfl,hj⟩⟩
   obtain⟨b,o,rfl,hb,hr⟩:=h4 a rfl (by omega)
   exact zm9 F n h7 hro hn l Bs n₀ b o cap xs hlen hb J Jx hY W hc' (hr.below hW (by omega)) h0
end
section
open Go.RowKit Go.OpenShut
abbrev Obs:=List (ByteArray×JV)
def ze6(os:Obs):Prop:=os.Pairwise (fun p q=>zA p.1 q.1<0)
theorem rise_iff{os:Obs}:Rising os↔ze6 os:=by
 unfold ze6;rw[List.pairwise_iff_getElem]
 constructor
 ·intro h i j hi hj hij;exact h i j _ _ hij (yf hi) (yf hj)
 ·intro h i j p q hij hp hq;obtain⟨hi,rfl⟩:=yi.1 hp;obtain⟨hj,rfl⟩:=yi.1 hq;exact h i j hi hj hij
theorem zjR{a b:ByteArray}(h:zA a b<0):a≠b:=fun e=>by subst e;rw[zgk]at h;omega
theorem zly(a b:ByteArray):zA a b<0\/a=b\/zA b a<0:=by
 have h:=zda a b;by_cases h1:zA a b<0
 ·exact .inl h1
 ·by_cases h2:zA a b=0
  ·exact .inr (.inl (zir h2))
  ·exact .inr (.inr (by omega))
theorem ziP{a b c:ByteArray}(h1:zA a b<0)(h2:zA b c<0):zA a c<0:=zf2 h1 (by have:=zda b c;omega)
theorem zgp(p:ByteArray×JV)(os:Obs)(id:ByteArray):zx (p::os) id=if zA p.1 id<0 then zx os id+1 else 0:=by
 unfold zx;rw[List.takeWhile_cons];by_cases h:zA p.1 id<0<;>simp[h]
def look(os:Obs)(id:ByteArray):Option JV:=if zbj os id=true then some (zgt os id)else none
theorem ziT(p:ByteArray×JV)(os:Obs)(id:ByteArray):zbj (p::os) id=if zA p.1 id<0 then zbj os id else decide (p.1=id):=by
 unfold zbj;rw[zgp];by_cases h:zA p.1 id<0<;>simp[h]
def zdR(os:Obs)(id:ByteArray)(v:JV):Obs:=if zbj os id=true then os.set (zx os id) (id,v)else os.take (zx os id)++(id,v)::os.drop (zx os id)
def zfF(os:Obs)(id:ByteArray):Obs:=if zbj os id=true then os.take (zx os id)++os.drop (zx os id+1)else os
theorem zi5(id:ByteArray)(v:JV):zdR [] id v=[(id,v)]:=by simp[zdR,zbj,zx]
theorem zhZ(p:ByteArray×JV)(os:Obs)(id:ByteArray)(v:JV):zdR (p::os) id v=if zA p.1 id<0 then p::zdR os id v else if p.1=id then(id,v)::os else(id,v)::p::os:=by
 unfold zdR;rw[ziT,zgp];by_cases h:zA p.1 id<0
 ·simp only[if_pos h];by_cases e:zbj os id=true<;>simp[e]
 ·simp only[if_neg h];by_cases e:p.1=id<;>simp[e]
theorem zoW(id:ByteArray):zfF [] id=[]:=by simp[zfF]
theorem znp(p:ByteArray×JV)(os:Obs)(id:ByteArray):zfF (p::os) id=if zA p.1 id<0 then p::zfF os id else if p.1=id then os else p::os:=by
 unfold zfF;rw[ziT,zgp];by_cases h:zA p.1 id<0
 ·simp only[if_pos h];by_cases e:zbj os id=true<;>simp[e]
 ·simp only[if_neg h];by_cases e:p.1=id<;>simp[e]
theorem zi4:∀{os:Obs} (hr:ze6 os) (id:ByteArray) (v:JV) (z:ByteArray×JV),z∈zdR os id v↔z=(id,v)\/z∈os/\z.1≠id
 |[],_,id,v,z=>by simp[zi5]
 | p :: os, hr, id, v, z => by
   obtain⟨h1,h2⟩:=yaE.1 hr;have ih:=zi4 h2 id v z;rw[zhZ];by_cases h:zA p.1 id<0
   ·have hp:=zjR h;simp only[if_pos h,yA,ih]
    constructor
    ·rintro(rfl|h|h)
     ·exact .inr ⟨.inl rfl,hp⟩
     ·exact .inl h
     ·exact .inr ⟨.inr h.1,h.2⟩
    ·rintro(h|⟨rfl|h,h3⟩)
     ·exact .inr (.inl h)
     ·exact .inl rfl
     ·exact .inr (.inr ⟨h,h3⟩)
   ·simp only[if_neg h];by_cases e:p.1=id
    ·have hn:∀y∈os,y.1≠id:=fun y hy e2=>zjR (h1 y hy) (by rw[e,e2])
     simp only[if_pos e,yA]
     constructor
     ·rintro(h|h)
      ·exact .inl h
      ·exact .inr ⟨.inr h,hn z h⟩
     ·rintro(h|⟨rfl|h,h3⟩)
      ·exact .inl h
      ·exact absurd e h3
      ·exact .inr h
    ·have hlt:zA id p.1<0:=by
      rcases zly p.1 id with h3|h3|h3
      ·exact absurd h3 h
      ·exact absurd h3 e
      ·exact h3
     have hn:∀y∈os,y.1≠id:=fun y hy e2=>zjR (ziP hlt (h1 y hy)) e2.symm
     simp only[if_neg e,yA]
     constructor
     ·rintro(h|rfl|h)
      ·exact .inl h
      ·exact .inr ⟨.inl rfl,e⟩
      ·exact .inr ⟨.inr h,hn z h⟩
     ·rintro(h|⟨h,_⟩)
      ·exact .inl h
      ·exact .inr h
theorem zfW:∀{os:Obs} (hr:ze6 os) (id:ByteArray) (v:JV),ze6 (zdR os id v)
 |[],_,id,v=>by rw[zi5];exact List.pairwise_singleton _ _
 | p :: os, hr, id, v => by
   obtain⟨h1,h2⟩:=yaE.1 hr;have ih:=zfW h2 id v;rw[zhZ];by_cases h:zA p.1 id<0
   ·rw[if_pos h];refine yaE.2 ⟨fun z hz=> ?_,ih⟩
    rcases(zi4 h2 id v z).1 hz with rfl|⟨hz,_⟩
    ·exact h
    ·exact h1 z hz
   ·rw[if_neg h];by_cases e:p.1=id
    ·rw[if_pos e];exact yaE.2 ⟨fun z hz=>by have:=h1 z hz;rw[e]at this;exact this,h2⟩
    ·have hlt:zA id p.1<0:=by
      rcases zly p.1 id with h3|h3|h3
      ·exact absurd h3 h
      ·exact absurd h3 e
      ·exact h3
     rw[if_neg e];refine yaE.2 ⟨fun z hz=> ?_,hr⟩
     rcases yA.1 hz with rfl|hz
     ·exact hlt
     ·exact ziP hlt (h1 z hz)
theorem zjU:∀(os:Obs) (id:ByteArray),(zfF os id).Sublist os
 |[],id=>by rw[zoW];exact List.Sublist.refl _
 | p :: os, id => by
   rw[znp];by_cases h:zA p.1 id<0
   ·rw[if_pos h];exact(zjU os id).cons_cons p
   ·rw[if_neg h];by_cases e:p.1=id
    ·rw[if_pos e];exact List.sublist_cons_self _ _
    ·rw[if_neg e];exact List.Sublist.refl _
theorem znq{os:Obs}(hr:ze6 os)(id:ByteArray):ze6 (zfF os id):=hr.sublist (zjU os id)
end
section
open Go Go.RowKit Go.OpenShut
theorem ScS.cells{w W:World}{g i:Nat}{s:ByteArray}{l:List Tok}(h:ScS w W g s i l):W.cell? ⟨g,0,none⟩=some (.string s)/\W.cell? ⟨g,1,none⟩=some (.int .i64 i)/\g<W.heap.size:=by
 obtain⟨v,h1,h2⟩:=h.ex;exact⟨h1.cell 0 rfl,h1.cell 1 rfl,h1.lt⟩
theorem ScS.call{w W W':World}{g i:Nat}{s:ByteArray}{l:List Tok}(h:ScS w W g s i l)(hb:Below W.heap.size W W'):ScS w W' g s i l:=by
 obtain⟨⟨v,h1,h2⟩,h3⟩:=h;exact⟨⟨v,h1.under hb h1.lt,h2.below hb (yd _)⟩,h3.trans (hb.mono (yaL h1.lt))⟩
end
end Go.Proofs.YtemofofnkchmeaaGreatDoor
