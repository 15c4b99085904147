import Derived.Test.YtemofofnkchmeaaGreatDoorL04
set_option linter.unusedSimpArgs false
set_option linter.unusedVariables false
set_option maxRecDepth 200000
set_option maxHeartbeats 8000000
namespace Go.Proofs.YtemofofnkchmeaaGreatDoor
open _root_.Go.RowKit.Below renaming refl->yh
open _root_.Int renaming natCast_nonneg->yj
open _root_.Go.Lib renaming hid->yc
open _root_.List renaming eq_nil_of_length_eq_zero->yx,getElem?_eq_getElem->yf,length_append->yp
open _root_.Nat renaming add_zero->yw,le_refl->yd,zero_le->yu
open _root_.Go.Proofs.Tryz renaming prog->ye
section
open Go.RowKit Go.OpenShut
def TreesV(w:World)(B:Nat)(xs:List RV):Prop:=∀x∈xs,∃t:JV,t.Ok/\TreeOf w B t x
theorem TreesV.under{w w':World}{B B':Nat}{xs:List RV}(h:TreesV w B xs)(hb:Below B w w')(hB:B<=B'):TreesV w' B' xs:=fun x hx=>by
 obtain⟨t,h1,h2⟩:=h x hx;exact⟨t,h1,h2.under hb hB⟩
theorem TreesV.append{w:World}{B:Nat}{xs ys:List RV}(h:TreesV w B xs)(h':TreesV w B ys):TreesV w B (xs++ys):=fun x hx=>by
 rcases List.mem_append.1 hx with h1|h1
 ·exact h x h1
 ·exact h' x h1
theorem TreesV.nil(w:World)(B:Nat):TreesV w B []:=fun x hx=>by cases hx
theorem TreesV.one{w:World}{B:Nat}{t:JV}{x:RV}(ot:t.Ok)(h:TreeOf w B t x):TreesV w B [x]:=fun y hy=>by
 cases List.mem_singleton.1 hy;exact⟨t,ot,h⟩
theorem TreeOf.opened{w:World}{B:Nat}{t:JV}{x:RV}(ot:t.Ok)(h:TreeOf w B t x):∃(rs:List RV) (rms:List RM),Rd w B zbc 5 (.slice x.pl x.nl x.cl) rs/\rs.length=x.nl/\TreesV w B rs/\x.nl<=1759218604390/\
 Rd w B zl 6 (.slice x.pm x.nm x.cm) rms/\rms.length=x.nm/\(∀(i:Nat) (y:RM),rms[i]? =some y->∃t:JV,t.Ok/\TreeOf w B t y.v)/\x.nm<=1466015503658:=by
 cases h with
 | @mk _ l m rs rms hl el hcl hm em hcn hcm=>
 cases ot with
 |mk _ _ _ bl bm okl oks okm=>
 have eL:=zi hl;have eM:=zi hm;refine⟨rs,rms,hl,by omega,?_,by omega,hm,by omega,?_,by omega⟩
 ·intro y hy;obtain⟨i,hi,rfl⟩:=List.mem_iff_getElem.1 hy;exact⟨l[i],okl i _ (yf (by omega)),hcl i _ _ (yf (by omega)) (yf hi)⟩
 ·intro i y hy
  have hi:i<rms.length:=by
   rcases Nat.lt_or_ge i rms.length with h|h
   ·exact h
   ·rw[List.getElem?_eq_none h]at hy;cases hy
  exact⟨(m[i]'(by omega)).2,okm i _ (yf (by omega)),hcm i _ _ (yf (by omega)) hy⟩
structure GrowV(W0:World)(B:Nat)(rs:List RV)(v:Value)(W:World):Prop where
 own:Own W W0.heap.size 25 zbc 5 v rs
 each:TreesV W B rs
 below:Below W0.heap.size W0 W
theorem GrowV.drewN{W0 W:World}{B:Nat}{rs:List RV}{v:Value}(h:GrowV W0 B rs v W)(n:Nat):GrowV W0 B rs v (W.drewN n):=
 ⟨h.own,h.each.under (bdn (yh _ _) n) (yd _),bdn h.below n⟩
theorem GrowV.alloc{W0 W:World}{B:Nat}{rs:List RV}{v:Value}(h:GrowV W0 B rs v W)(hB:B<=W0.heap.size)(o:Obj):GrowV W0 B rs v (W.alloc o):=by
 have:=h.below.size;exact⟨h.own.alloc o,h.each.under ((yh _ _).alloc (by omega) o) (yd _),h.below.alloc (by omega) o⟩
theorem GrowV.push{W0 W W2:World}{B:Nat}{rs ys:List RV}{v v':Value}(h:GrowV W0 B rs v W)(hB:B<=W0.heap.size)(ho:Own W2 W0.heap.size 25 zbc 5 v' (rs++ys))(hg:W.grownBy W2 v.ownBlock)(hy:TreesV W B ys):GrowV W0 B (rs++ys) v' W2:=by
 have hb:Below W0.heap.size W W2:=Below.appended (yh _ _) hg h.own h.below.size;exact⟨ho,(h.each.append hy).under (hb.mono hB) (yd _),h.below.trans hb⟩
theorem zk9(N:Nat)(ih:∀(most:Int) (p:Option Addr) (n c:Nat) (xs:List RV) (w:World) (B:Nat),most.toNat<N->most<=100->B<=w.heap.size->Rd w B zbc 5 (.slice p n c) xs->TreesV w B xs->n<=20000->
 Calls ye 112 #[.slice p n c,.int .i64 most] w (zhx w)):∀(most:Int) (p:Option Addr) (n c:Nat) (xs:List RV) (w:World) (B:Nat),most.toNat=N->most<=100->B<=w.heap.size->Rd w B zbc 5 (.slice p n c) xs->TreesV w B xs->n<=20000->
 Calls ye 112 #[.slice p n c,.int .i64 most] w (zhx w):=by
 intro most p n c xs w B hN hm hB hr hx hn;have eL:=zi hr;have HIH:=yc ih;have HR:=yc hr;have HX:=yc hx;have E1:Hid (xs.length=n):=by unfold Hid;omega
 clear ih hr hx eL
 go_enter Tryz.func112,Tryz.ntmps112
 go_wp2_with fail
 go_loopw [5,6] (fun a i wr=>∃(j:Nat) (rs:List RV) (p':Option Addr) (n' c':Nat),j<=n/\a= .slice p' n' c'/\i= .int .i64 j/\rs.length=n'/\n'<=20000/\Hid (GrowV w B rs (.slice p' n' c') wr)) (fun _ i _=>n-(intOf i).toNat)
 case atStart=>exact⟨0,[],none,0,0,yu _,rfl,rfl,rfl,by omega,⟨Own.nil _ _ _,TreesV.nil _ _,yh _ _⟩⟩
 case round=>
  obtain⟨j,rs,p',n',c',hj,rfl,rfl,hrs,hn',HG⟩:=hrel;have HRS:=yc hrs;have hbr:=HG.out.below;clear hrs;by_cases hlt:j<n
  ·obtain⟨x,hx⟩:∃x,xs[j]? =some x:=⟨_,yf (by have:=E1.out;omega)⟩
   obtain⟨b1,o1,rfl,hb1,hc1⟩:=zq HR.out hx;have g0:=hc1 0 _ rfl;have g1:=hc1 1 _ rfl;have g2:=hc1 2 _ rfl;have g3:=hc1 3 _ rfl;have g4:=hc1 4 _ rfl;rw[yw]at g0;have f3:=zc (hbr.mono hB) hb1 g3;have f4:=zc (hbr.mono hB) hb1 g4;obtain⟨tx,otx,htx⟩:=HX.out x (List.mem_of_getElem? hx);obtain⟨rs1,rms1,hL,eL1,hTL,hL9,hM,eM1,hTM,hM9⟩:=htx.opened otx;have HL:=yc hL;have HM:=yc hM;have HTL:=yc hTL;have HTM:=yc hTM;have EL:=yc eL1;have EM:=yc eM1;have hk0:(0:Int)<=(j:Int):=yj _;have hk1:(j:Int)<(n:Int):=by omega
   clear hc1 hx otx htx hL hM hTL hTM eL1 eM1 g0 g1 g2;have G4:=yc g4;clear g3 g4;by_cases hbig:x.nl+x.nm<=20000
   ·go_wp2_with fail
    go_quiet (fail)
    have HG1:∀q,Hid (GrowV w B rs (.slice p' n' c') (wr.drewN q)):=fun q=>HG.out.drewN q
    have HL1:∀q,Hid (Rd (wr.drewN q) B zbc 5 (.slice x.pl x.nl x.cl) rs1):=fun q=>(HL.out.below (hbr.mono hB) (yd _)).drewN q
    have HT1:∀q,Hid (TreesV (wr.drewN q) B rs1):=fun q=>HTL.out.under (bdn (hbr.mono hB) q) (yd _)
    have hws:∀q,Hid (w.heap.size<=(wr.drewN q).heap.size):=fun q=>(HG1 q).out.below.size
    go_wp2_with (at_builtin;refine zk slV zb8 _ rfl (.tmp 28) (.tmp 33) rfl (v:= .slice p' n' c') rfl rfl (HG1 _).out.own (HL1 _).out ?_ ?_ ?_ ?_;(· have:=HRS.out;have:=EL.out;unfold maxLen;omega);(· have:=HRS.out;have:=EL.out;omega);(· exact(hws _).out);intro v2 w2 ho2 hg2 hat2;obtain⟨p2,c2,hv2,hq1,hq2⟩:=ho2.len;(have hv3:v2= .slice p2 (n'+x.nl) c2:=by rw[hv2,yp,HRS.out,EL.out]);clear hv2;subst hv3;clear hq1 hq2;(have HG2:Hid (GrowV w B (rs++rs1) (.slice p2 (n'+x.nl) c2) w2):=(HG1 _).out.push hB ho2 hg2 (HT1 _).out);clear ho2 hg2 hat2;go_frame)
    have HRS2:Hid ((rs++rs1).length=n'+x.nl):=by rw[yp,HRS.out,EL.out];exact rfl
    have hbr2:=HG2.out.below;clear HG1 HL1 HT1 hws HL HTL HG HRS hbr f3 f4
    go_loopw [5,7] (fun a i wr=>∃(j2:Nat) (rs2:List RV) (p3:Option Addr) (n3 c3:Nat),j2<=x.nm/\a= .slice p3 n3 c3/\i= .int .i64 j2/\rs2.length=n3/\n3=n'+x.nl+j2/\Hid (GrowV w B rs2 (.slice p3 n3 c3) wr)) (fun _ i _=>x.nm-(intOf i).toNat)
    case atStart=>exact⟨0,rs++rs1,p2,n'+x.nl,c2,yu _,rfl,rfl,HRS2.out,rfl,HG2⟩
    case round=>
     obtain⟨j2,rs2,p3,n3,c3,hj2,rfl,rfl,hrs3,hn3,HG3⟩:=hrel;have HRS3:=yc hrs3;have HN3:=yc hn3;have hbr3:=HG3.out.below;have f4:=zc (hbr3.mono hB) hb1 G4.out;clear hrs3 hn3;by_cases hlt2:j2<x.nm
     ·obtain⟨y,hy⟩:∃y,rms1[j2]? =some y:=⟨_,yf (by have:=EM.out;omega)⟩
      obtain⟨b2,o2,e2,hb2,hc2⟩:=zq (HM.out.below (hbr3.mono hB) (yd _)) hy;rw[e2]at f4;have h0:=hc2 0 _ rfl;have h1:=hc2 1 _ rfl;have h2:=hc2 2 _ rfl;have h3:=hc2 3 _ rfl;have h4:=hc2 4 _ rfl;have h5:=hc2 5 _ rfl;rw[yw]at h0;obtain⟨ty,oty,hty⟩:=HTM.out j2 y hy;have hT4:Hid (TreesV wr B [y.v]):=TreesV.one oty (hty.under (hbr3.mono hB) (yd _));have hk2:(0:Int)<=(j2:Int):=yj _;have hk3:(j2:Int)<(x.nm:Int):=by omega
      have E2:=yc e2;clear hc2 hy oty hty e2;have HG4:Hid (GrowV w B rs2 (.slice p3 n3 c3) (wr.alloc (.cells #[.int .i64 y.v.k,.int .i64 y.v.n,.string y.v.s,.slice y.v.pl y.v.nl y.v.cl,.slice y.v.pm y.v.nm y.v.cm] 25))):=HG3.out.alloc hB _;have HT4:Hid (TreesV (wr.alloc (.cells #[.int .i64 y.v.k,.int .i64 y.v.n,.string y.v.s,.slice y.v.pl y.v.nl y.v.cl,.slice y.v.pm y.v.nm y.v.cm] 25)) B [y.v]):=hT4.out.under ((yh _ _).alloc (by have:=hbr3.size;omega) _) (yd _)
      go_wp2_with (at_builtin;refine zk slV zb8 (wr.alloc (.cells #[.int .i64 y.v.k,.int .i64 y.v.n,.string y.v.s,.slice y.v.pl y.v.nl y.v.cl,.slice y.v.pm y.v.nm y.v.cm] 25)) rfl (.tmp 45) (.tmp 55) rfl (v:= .slice p3 n3 c3) rfl rfl HG4.out.own (Rd.one (B:=wr.heap.size+1) (x:=y.v) zb8 (heap_alloc_new _ _) rfl (by omega)) ?_ ?_ ?_ ?_;(· have:=HRS3.out;have:=HN3.out;simp;unfold maxLen;omega);(· have:=HRS3.out;have:=HN3.out;simp;omega);(· exact HG4.out.below.size);intro v2 w2 ho2 hg2 hat2;obtain⟨p4,c4,hv2,hq1,hq2⟩:=ho2.len;(have hv3:v2= .slice p4 (n3+1) c4:=by rw[hv2,yp,HRS3.out];rfl);clear hv2;subst hv3;clear hq1 hq2;(have HG5:Hid (GrowV w B (rs2++[y.v]) (.slice p4 (n3+1) c4) w2):=HG4.out.push hB ho2 hg2 HT4.out);clear ho2 hg2 hat2;go_frame)
      go_roundw
      case rel=>exact⟨j2+1,rs2++[y.v],p4,n3+1,c4,by omega,rfl,by go_num,by rw[yp,HRS3.out];rfl,by have:=HN3.out;omega,HG5⟩
      case measure=>simp[intOf];omega
     ·have:=HN3.out;by_cases hend:n3<=20000
      ·go_wp2_with fail
       go_roundw
       case rel=>exact⟨j+1,rs2,p3,n3,c3,by omega,rfl,by go_num,HRS3.out,hend,HG3⟩
       case measure=>simp[intOf];omega
      ·go_wp2_with fail
       go_ret;exact⟨false,rfl,hbr3⟩
   ·go_wp2_with fail
    go_quiet (fail)
    go_wp2_with fail
    go_ret;exact⟨false,rfl,bdn hbr _⟩
  ·by_cases hz:n'=0
   ·subst hz
    go_wp2_with fail
    go_ret;exact⟨true,rfl,hbr⟩
   ·by_cases hpos:0<most
    ·have HC:Hid (Calls ye 112 #[.slice p' n' c',.int .i64 (most-1)] wr (zhx wr)):=
      HIH.out (most-1) p' n' c' rs wr wr.heap.size (by omega) (by omega) (yd _) (HG.out.own.rd zb8) (HG.out.each.under (yh _ _) (by have:=hbr.size;omega)) hn'
     have hw:IntKind.i64.wrap (most-1)=most-1:=by rw[IntKind.wrap_i64];omega
     go_wp2_with (go_at_call 112;refine HC.out.mono ?_;rintro e w1 ⟨b,rfl,hb1'⟩)
     go_ret;exact⟨_,rfl,hbr.trans (hb1'.mono hbr.size)⟩
    ·go_wp2_with fail
     go_ret;exact⟨_,rfl,hbr⟩
theorem zmr(N:Nat):∀(most:Int) (p:Option Addr) (n c:Nat) (xs:List RV) (w:World) (B:Nat),most.toNat=N->most<=100->B<=w.heap.size->Rd w B zbc 5 (.slice p n c) xs->TreesV w B xs->n<=20000->
 Calls ye 112 #[.slice p n c,.int .i64 most] w (zhx w):=by
 induction N using Nat.strongRecOn with
 |_ N ih=>exact zk9 N fun most p n c xs w B h=>ih _ h most p n c xs w B rfl
def zqg(n:Nat)(w:World)(e:Ending)(w':World):Prop:=∃b:Bool,e= .returned (.bool b)/\Hid (b=true->n<=10000)/\Below w.heap.size w w'
theorem znn(t:JV)(r:RV)(w:World)(ht:TreeOf w w.heap.size t r)(ot:t.Ok):
 Calls ye 69 #[r.val,.int .i64 100] w (zqg r.nm w):=by
 obtain⟨rs,rms,hl,el,hT,bl,hm,em,hTM,bm⟩:=ht.opened ot;obtain⟨k,n,s,pl,nl,cl,pm,nm,cm⟩:=r;dsimp only[RV.val]at*;have hA0:VAt (w.alloc (.cells #[.int .i64 k,.int .i64 n,.string s,.slice pl nl cl,.slice pm nm cm] 25)) w.heap.size ⟨k,n,s,pl,nl,cl,pm,nm,cm⟩:=za rfl;have hB0:Below w.heap.size w (w.alloc (.cells #[.int .i64 k,.int .i64 n,.string s,.slice pl nl cl,.slice pm nm cm] 25)):=(yh _ _).alloc (yd _) _;have HT:=yc ht;clear hl hT hm hTM el em ht
 go_enter Tryz.func69,Tryz.ntmps69
 go_upto_region 1 with fail
 obtain⟨W0,hW0⟩:∃W0,(w.alloc (.cells #[.int .i64 k,.int .i64 n,.string s,.slice pl nl cl,.slice pm nm cm] 25))=W0:=⟨_,rfl⟩;rw[hW0]at hA0 hB0⊢;clear hW0;have hz:=hA0.lt;obtain⟨c0,c1,c2,c3,c4⟩:=hA0.cells5;dsimp only at c0 c1 c2 c3 c4;clear hA0
 have HC:Hid (Calls ye 112 #[.slice (some ⟨W0.heap.size,0,none⟩) 1 1,.int .i64 100] (W0.alloc (.cells #[.int .i64 k,.int .i64 n,.string s,.slice pl nl cl,.slice pm nm cm] 25)) (zhx (W0.alloc (.cells #[.int .i64 k,.int .i64 n,.string s,.slice pl nl cl,.slice pm nm cm] 25)))):=
  zmr _ 100 _ 1 1 [⟨k,n,s,pl,nl,cl,pm,nm,cm⟩] _ (W0.heap.size+1) rfl (by decide) (by simp) (Rd.one zb8 (heap_alloc_new _ _) rfl (by omega)) (TreesV.one ot (HT.out.under (hB0.alloc hB0.size _) (by have:=hB0.size;omega))) (by decide)
 by_cases h1:nl<=10000
 ·by_cases h2:nm<=10000
  ·have hnm:Hid (∀b:Bool,b=true->nm<=10000):=fun _ _=>h2
   go_wp2_with (go_at_call 112;refine HC.out.mono ?_;rintro e w1 ⟨b,rfl,hb1'⟩)
   all_goals go_ret
   all_goals exact⟨_,rfl,hnm.out _,(hB0.alloc hB0.size _).trans (hb1'.mono (by have:=hB0.size;simp;omega))⟩
  ·go_wp2_with fail
   go_ret;exact⟨false,rfl,(fun h=>by cases h),hB0⟩
 ·go_wp2_with fail
  go_ret;exact⟨false,rfl,(fun h=>by cases h),hB0⟩
def OwnM(t:JV):Prop:=(t.k≠5->t.l=[])/\∀p∈t.m,p.2.k≠5->p.2.l=[]
theorem zpD{k:Int}{nl:Nat}{b5:Bool}(h5:(k !=5)=b5)(h:b5=true->¬0<nl):k≠5->nl=0:=fun hk=>by
 have h2:(k !=5)=true:=by simpa using hk
 have:=h (h5.symm.trans h2);omega
def zim(t:JV):Prop:=OwnM t/\(t.k≠6->t.m=[])
def zgH(w:World)(t:JV)(e:Ending)(w':World):Prop:=∃b:Bool,e= .returned (.bool b)/\Hid (b=true->zim t)/\Below w.heap.size w w'
theorem zn2{k:Int}{nl:Nat}{b5:Bool}(h5:(k !=6)=b5)(h:b5=true->¬0<nl):k≠6->nl=0:=fun hk=>by
 have h2:(k !=6)=true:=by simpa using hk
 have:=h (h5.symm.trans h2);omega
theorem zpC(N:Nat):∀(t:JV) (r:RV) (w:World),SizeOf.sizeOf t<=N->TreeOf w w.heap.size t r->t.Ok->
 Calls ye 71 #[r.val] w (zgH w t):=by
 induction N with
 |zero=>intro t r w hN;cases t;simp at hN
 | succ N ih =>
   intro t r w hN ht ot;cases ht with
   | @mk _ l m rs rms hl el hcl hm em hcn hcm=>
   obtain⟨k,n,s,pl,nl,cl,pm,nm,cm⟩:=r;cases ot with
   |mk _ _ _ bl bm okl oks okm=>
   dsimp only[RV.val]at*;have eL:=zi hl;have eM:=zi hm
   have HT:Hid (∀(i:Nat) t q,l[i]? =some t->rs[i]? =some q->∀W,Below w.heap.size w W->Calls ye 71 #[q.val] W (zgH W t)):=
    fun i t q h1 h2 W hb=>ih t q W (by have:=JV.lt_l (k:=k) (n:=n) (s:=s) (m:=m) h1;omega) ((hcl i t q h1 h2).under hb hb.size) (okl i t h1)
   have HS:Hid (∀(i:Nat) p q,m[i]? =some p->rms[i]? =some q->∀W,Below w.heap.size w W->Calls ye 71 #[q.v.val] W (zgH W p.2)):=
    fun i p q h1 h2 W hb=>ih p.2 q.v W (by have:=JV.lt_m (k:=k) (n:=n) (s:=s) (l:=l) h1;omega) ((hcm i p q h1 h2).under hb hb.size) (okm i p h1)
   have HL:=yc hl;have HM:=yc hm;have E1:Hid (l.length=nl/\rs.length=nl):=⟨by omega,by omega⟩
   have HE1:Hid (l.length=nl):=by unfold Hid;omega
   have E2:Hid (m.length=nm/\rms.length=nm):=⟨by omega,by omega⟩
   have hnl:nl<=1759218604390:=by omega
   have hnm:nm<=1466015503658:=by omega
   have hA0:VAt (w.alloc (.cells #[.int .i64 k,.int .i64 n,.string s,.slice pl nl cl,.slice pm nm cm] 25)) w.heap.size ⟨k,n,s,pl,nl,cl,pm,nm,cm⟩:=za rfl;have hB0:Below w.heap.size w (w.alloc (.cells #[.int .i64 k,.int .i64 n,.string s,.slice pl nl cl,.slice pm nm cm] 25)):=(yh _ _).alloc (yd _) _;clear ih hcl hcn hcm hl hm okl oks okm el em bl bm eL eM hN
   go_enter Tryz.func71,Tryz.ntmps71
   go_upto_region 1 with fail
   obtain⟨W0,hW0⟩:∃W0,(w.alloc (.cells #[.int .i64 k,.int .i64 n,.string s,.slice pl nl cl,.slice pm nm cm] 25))=W0:=⟨_,rfl⟩;rw[hW0]at hA0 hB0⊢;clear hW0;have hz:=hA0.lt;have c0:=hA0.cell 0 rfl;have c3:=hA0.cell 3 rfl;have c4:=hA0.cell 4 rfl;dsimp only at c0 c3 c4;have HA:=yc hA0;clear hA0
   go_cut [24]from 5 to 24 (fun v wr=>∃b:Bool,v= .bool b/\Hid ((b=false->k≠5->nl=0)/\(b=false->k≠6->nm=0))/\wr=W0)
   case first=>
    cases h5:(k !=5)<;>cases h6:(k !=6)<;>by_cases p1:0<nl<;>by_cases p2:0<nm
    all_goals go_wp2_with fail
    all_goals (go_meet;exact⟨_,rfl,⟨fun hb=>by first|(cases hb;done)|exact zpD h5 (fun h=>by first|(cases h;done)|exact p1),fun hb=>by first|(cases hb;done)|exact zn2 h6 (fun h=>by first|(cases h;done)|exact p2)⟩,rfl⟩)
   case rest=>
   obtain⟨b,rfl,HB5,rfl⟩:=hcut;cases b with
   | true =>
     go_wp2_with fail
     go_ret;exact⟨false,rfl,(fun h=>by cases h),hB0⟩
   | false =>
     go_wp2_with fail
     go_loopw [3] (fun i wr=>∃j:Nat,j<=nl/\i= .int .i64 j/\Below wc.heap.size wc wr) (fun i _=>nl-(intOf i).toNat)
     case atStart=>exact⟨0,yu _,rfl,yh _ _⟩
     case round=>
      obtain⟨j,hj,rfl,hbr⟩:=hrel;have c3:=zc hbr hz c3;have hbw:Below w.heap.size w wr:=hB0.trans (hbr.mono hB0.size);by_cases hlt:j<nl
      ·obtain⟨tx,htx⟩:∃x,l[j]? =some x:=⟨_,yf (by have:=E1.out;omega)⟩
       obtain⟨x,hx⟩:∃x,rs[j]? =some x:=⟨_,yf (by have:=E1.out;omega)⟩
       obtain⟨b1,o1,rfl,hb1,hc1⟩:=zq (HL.out.below hbw (yd _)) hx;have f0:=hc1 0 _ rfl;have f1:=hc1 1 _ rfl;have f2:=hc1 2 _ rfl;have f3:=hc1 3 _ rfl;have f4:=hc1 4 _ rfl;rw[yw]at f0;have HC:=yc (HT.out j tx x htx hx);have hk0:(0:Int)<=(j:Int):=yj _;have hk1:(j:Int)<(nl:Int):=by omega
       have hzr:wc.heap.size<=wr.heap.size:=hbr.size;have HBR:=yc hbr;clear hc1 htx hx hbr
       go_wp2_with (go_at_call 71;refine(HC.out _ hbw).mono ?_;rintro e w1 ⟨b,rfl,hM,hb1'⟩;cases b)
       ·go_ret;exact⟨false,rfl,(fun h=>by cases h),hbw.trans (hb1'.mono hbw.size)⟩
       ·go_roundw
        case rel=>exact⟨j+1,by omega,by go_num,HBR.out.trans (hb1'.mono (by omega))⟩
        case measure=>simp[intOf];omega
      ·obtain rfl:j=nl:=by omega
       have hz1:wc.heap.size<=wr.heap.size:=hbr.size;have c4:=zc hbr hz c4;clear HT HL E1 hbr;obtain⟨wo,rfl⟩:∃wo:World,wo=wr:=⟨_,rfl⟩
       go_wp2_with fail
       clear c3
       go_loopw [4] (fun i wq=>∃j:Nat,j<=nm/\i= .int .i64 j/\Hid (∀(i:Nat) p,i<j->m[i]? =some p->p.2.k≠5->p.2.l=[])/\Below wo.heap.size wo wq) (fun i _=>nm-(intOf i).toNat)
       case atStart=>exact⟨0,yu _,rfl,(fun i p h=>by omega),yh _ _⟩
       case round=>
        obtain⟨wq,rfl⟩:∃wq:World,wq=wr:=⟨_,rfl⟩;obtain⟨j,hj,rfl,HMJ,hbr⟩:=hrel;have hbw2:Below w.heap.size w wq:=hbw.trans (hbr.mono (by omega))
        have c4:=zc hbr (by omega) c4
        by_cases hlt:j<nm
        ·obtain⟨tx,htx⟩:∃x,m[j]? =some x:=⟨_,yf (by have:=E2.out;omega)⟩
         obtain⟨x,hx⟩:∃x,rms[j]? =some x:=⟨_,yf (by have:=E2.out;omega)⟩
         obtain⟨b1,o1,rfl,hb1,hc1⟩:=zq (HM.out.below hbw2 (yd _)) hx;have f0:=hc1 0 _ rfl;have f1:=hc1 1 _ rfl;have f2:=hc1 2 _ rfl;have f3:=hc1 3 _ rfl;have f4:=hc1 4 _ rfl;have f5:=hc1 5 _ rfl;rw[yw]at f0;have HC:=yc (HS.out j tx x htx hx);have HTX:=yc htx;have hk0:(0:Int)<=(j:Int):=yj _;have hk1:(j:Int)<(nm:Int):=by omega
         have hzr:wc.heap.size<=wq.heap.size:=by have:=hbr.size;omega
         have hzq:wo.heap.size<=wq.heap.size:=hbr.size;have HBR:=yc hbr;clear hc1 htx hx hbr
         go_wp2_with (go_at_call 71;refine(HC.out _ hbw2).mono ?_;rintro e w1 ⟨b,rfl,hM,hb1'⟩;cases b)
         ·go_ret;exact⟨false,rfl,(fun h=>by cases h),hbw2.trans (hb1'.mono hbw2.size)⟩
         ·go_roundw
          case rel=>
           refine⟨j+1,by omega,by go_num,fun i p hi hp=> ?_,HBR.out.trans (hb1'.mono (by omega))⟩
           by_cases hij:i<j
           ·exact HMJ.out i p hij hp
           ·obtain rfl:i=j:=by omega
            obtain rfl:tx=p:=Option.some.inj (HTX.out.symm.trans hp);exact(hM.out (by trivial)).1.1
          case measure=>simp[intOf];omega
        ·obtain rfl:j=nm:=by omega
         go_wp2_with fail
         go_ret;refine⟨true,rfl,fun _=>⟨⟨fun hk=> ?_,fun p hp=> ?_⟩,fun hk=> ?_⟩,hbw2⟩
         ·have h1:=HB5.out.1 (by trivial) hk
          have h2:=HE1.out;exact yx (by show l.length=0;omega)
         ·obtain⟨i,hi⟩:=List.getElem?_of_mem hp;have hlt:=(List.getElem?_eq_some_iff.1 hi).1;exact HMJ.out i p (by have:=E2.out;have h3:i<m.length:=hlt;omega) hi
         ·have h1:=HB5.out.2 (by trivial) hk
          have h2:=E2.out.1;exact yx (by show m.length=0;omega)
end
end Go.Proofs.YtemofofnkchmeaaGreatDoor
