import Derived.Test.YtemofofnkchmeaaGreatDoorL34
import Derived.Test.YtemofofnkchmeaaGreatDoorL27
import Derived.Test.YtemofofnkchmeaaGreatDoorL23
import Derived.Test.YtemofofnkchmeaaGreatDoorL20
import Derived.Test.YtemofofnkchmeaaGreatDoorL28
import Derived.Test.YtemofofnkchmeaaGreatDoorL11
import Derived.Test.YtemofofnkchmeaaGreatDoorL09
import Derived.Test.YtemofofnkchmeaaGreatDoorL07
import Derived.Test.YtemofofnkchmeaaGreatDoorL13
import Derived.Test.YtemofofnkchmeaaGreatDoorL24
import Derived.Test.YtemofofnkchmeaaGreatDoorL10
import Derived.Test.YtemofofnkchmeaaGreatDoorL04
import Derived.Test.YtemofofnkchmeaaGreatDoorL29
set_option linter.unusedSimpArgs false
set_option linter.unusedVariables false
set_option maxRecDepth 200000
set_option maxHeartbeats 8000000
namespace Go.Proofs.YtemofofnkchmeaaGreatDoor
open _root_.Go.RowKit.Below renaming refl->yh
open _root_.Int renaming natCast_nonneg->yj
open _root_.Go.Lib renaming hid->yc
open _root_.List renaming Perm->yaV,append_assoc->yV,getElem?_eq_some_iff->yi,length_cons->yB,length_take->yz
open _root_.Nat renaming le_refl->yd
section
open Go Go.RowKit Go.OpenShut
def DlRet(w:World)(x:DlD×Int)(e:Ending)(w':World):Prop:=
 ∃r:RD,e= .returned (.tuple #[r.val,.int .i64 x.2])/\Own w' w.heap.size 9 zg 1 (.slice r.pr r.nr r.cr) x.1.rem/\Own w' w.heap.size 80 zdI 2 (.slice r.pa r.na r.ca) x.1.add/\r.tot=x.1.tot/\(∀k,(Value.slice r.pr r.nr r.cr).ownBlock=some k->(Value.slice r.pa r.na r.ca).ownBlock≠some k)/\Below w.heap.size w w'
theorem DlRet.zero{w w':World}(c:Int)(h:Below w.heap.size w w'):DlRet w (DlD.zero,c) (.returned (.tuple #[RD.zero.val,.int .i64 c])) w':=
 ⟨RD.zero,rfl,Own.nil _ _ _,Own.nil _ _ _,rfl,fun k e=>by simp[RD.zero,Value.ownBlock]at e,h⟩
theorem zh4(sq:Int):∀l:List En,(zU sq l).length<=l.length
 |[]=>yd _
 | e :: r => by
   have ih:=zh4 sq r;rw[zeh]
   split
   ·simp only[yB];omega
   ·split
    ·simp only[List.length_map,yB];omega
    ·simp only[yB];omega
theorem zfi(b:BoxD)(r:RB)(f so:JV)(rf rs:RV)(seq most:Int)(w:World)(hb:BoxOf w w.heap.size b r)(ob:b.Ok)(hf:TreeOf w w.heap.size f rf)(of:f.Ok)(hs:TreeOf w w.heap.size so rs)(os:so.Ok)
 (hcf:zf f<=100000) (hv:∀p∈b.objs,zf p.2<=100000/\zr p.2<=4000000000) (hnull:f.k=1->f.m=[]) (hall:AllAt w) (hmax:MaxAt w) (hn:b.objs.length<=1000000) (hnd:(b.objs.map (·.1)).Nodup) (hnt:b.trail.length<=1000000):
 Calls Tryz.prog 18 #[r.val,rf.val,rs.val,.int .i64 seq,.int .i64 most] w fun e w'=>∃ys,(¬(seq<b.floor\/b.seq<seq)->IsStable cfP (zU seq b.trail) ys)/\DlRet w (zdD (zcv f so b.objs) b ys seq most) e w':=by
 obtain⟨W0,hW0⟩:∃W0,(((w.alloc r.obj).alloc rf.obj).alloc rs.obj).alloc (.cells #[.slice none 0 0,.slice none 0 0,.int .i64 0] 45)=W0:=⟨_,rfl⟩;have hA0:BoxAt W0 w.heap.size r:=by rw[<-hW0];exact zb (by simp;omega) (zb (by simp;omega) (zb (by simp) (za rfl)))
 have hC0:VAt W0 (w.heap.size+1) rf:=by rw[<-hW0];exact zb (by simp) (zb (by simp) (za (by simp)))
 have hD0:VAt W0 (w.heap.size+2) rs:=by rw[<-hW0];exact zb (by simp) (za (by simp))
 have hZ0:DAt 45 W0 (w.heap.size+3) RD.zero:=by rw[<-hW0];exact za (by simp)
 have hB0:Below w.heap.size w W0:=by rw[<-hW0];exact((zM w _ _).alloc (zM w _ _).size _).alloc ((zM w _ _).alloc (zM w _ _).size _).size _
 have hw0:=hB0.size;have hsq:=hb.seq;have hfl:=hb.floor
 have HQ:Hid (∀W,Below W0.heap.size W0 W->Calls Tryz.prog 22 #[r.val,rf.val,rs.val] W fun e w'=>∃u,e= .returned u/\Own w' W.heap.size 9 zg 1 u (zcv f so b.objs)/\Below W.heap.size W w'):=fun W h=>by
  have hW:=hB0.trans (h.mono hw0);exact zeF b r f so rf rs W w.heap.size hW.size (hb.under hW (yd _)) ob (hf.under hW (yd _)) of (hs.under hW (yd _)) os hcf hv hnull (hall.below hW) (hmax.below hW) hn
 have HS:Hid (∀W,Below W0.heap.size W0 W->Calls Tryz.prog 41 #[.slice r.pt r.nt r.ct,.int .i64 seq] W fun e w'=>∃ys,IsStable cfP (zU seq b.trail) ys/\zD W 87 zcB 4 ys e w'):=fun W h=>by
  have hW:=hB0.trans (h.mono hw0);exact zi9 W _ b.trail seq (hb.trail.under hW hW.size) (by omega)
 have HNO:Hid ((zcv f so b.objs).length<=1000000/\(zcv f so b.objs).Nodup/\∀s∈zcv f so b.objs,s.size<=maxLen):=⟨Nat.le_trans (zpL _ _ _) hn,zmy f so hnd,fun s h=>by
  have h1:=(zi6 f so b.objs).mem_iff.1 h;obtain⟨p,hp,rfl⟩:=List.mem_map.1 h1;have:=(ob.each p (List.mem_filter.1 hp).1).1;unfold maxLen;omega⟩
 have HLY:Hid (∀ys,IsStable cfP (zU seq b.trail) ys->ys.length<=1000000/\(ys.map (·.id)).Nodup):=fun ys h=>⟨by have h1:=h.perm.length_eq;have h2:=zh4 seq b.trail;omega,zkr h⟩
 have HIZ:Hid (∀ys,IsStable cfP (zU seq b.trail) ys->∀x∈ys,x.id.size<=maxLen):=fun ys h x hx=>by
  obtain⟨y,hy,e,_⟩:=(zi8 seq x.id b.trail).1 ⟨x,(h.perm.mem_iff).1 hx,rfl⟩;rw[<-e];exact((rdE_iff.1 hb.trail).1 y hy).2.1
 have HBAD:Hid ((seq<b.floor\/b.seq<seq)↔(seq<r.fl\/r.sq<seq)):=by unfold Hid;rw[hsq,hfl]
 obtain⟨now,hnow⟩:∃l,zcv f so b.objs=l:=⟨_,rfl⟩;rw[hnow]at HQ HNO;rw[hnow];have HB0:=yc hB0;have HVA:Hid (∀W,Below W0.heap.size W0 W->BoxAt W w.heap.size r/\VAt W (w.heap.size+1) rf/\VAt W (w.heap.size+2) rs/\DAt 45 W (w.heap.size+3) RD.zero):=fun W hb=>⟨hA0.under hb hA0.lt,hC0.under hb hC0.lt,hD0.under hb hD0.lt,hZ0.under hb hZ0.lt⟩
 have hza:=hA0.lt;have hzc:=hC0.lt;have hzd:=hD0.lt;have hzz:=hZ0.lt;have HZ0:=yc hZ0;obtain⟨po,no,co,pt,nt,ct,sq,fl,kp⟩:=r;obtain⟨fk,fn,fs,fpl,fnl,fcl,fpm,fnm,fcm⟩:=rf;obtain⟨sk,sn,ss,spl,snl,scl,spm,snm,scm⟩:=rs;dsimp only[RB.val,RB.obj,RV.val,RV.obj]at*;obtain⟨a0,a1,a2,a3,a4⟩:=hA0.cells5;dsimp only at a0 a1 a2 a3 a4;have HW:=yc hW0;clear hb ob hf of hs os hcf hv hnull hall hmax hn hnd hnt hW0 hA0 hC0 hD0 hB0 hsq hfl hnow
 go_enter Tryz.func18,Tryz.ntmps18
 go_upto_region 1 with fail
 try rw[HW.out]
 clear HW;by_cases h1:seq<fl\/sq<seq
 ·have d1:decide (seq<fl)=true\/(decide (seq<fl)=false/\decide (sq<seq)=true):=by
   by_cases h:seq<fl
   ·left;simpa using h
   ·right;exact⟨by simpa using h,by simpa using h1.resolve_left h⟩
  have HX:Hid (∀ys,zdD now b ys seq most=(DlD.zero,190)):=fun ys=>by unfold zdD;rw[if_pos (HBAD.out.2 h1)]
  have z0:=hZ0.cell 0 rfl;have z1:=hZ0.cell 1 rfl;have z2:=hZ0.cell 2 rfl;have y0:=hZ0.frozen 0;have y1:=hZ0.frozen 1;have y2:=hZ0.frozen 2;dsimp only[RD.zero]at z0 z1 z2;clear hZ0
  rcases d1 with d1|⟨d1,d2⟩
  all_goals
   go_wp2_with fail
   refine bodyPost_ret (v:= .tuple #[RD.val RD.zero,.int .i64 190]) (by simp[results,Tryz.results18,go_sem,RD.zero,z0,z1,z2]) rfl ⟨[],(fun h=>absurd (HBAD.out.2 h1) h),?_⟩
   rw[HX.out];exact DlRet.zero 190 (HB0.out.grown (zdL W0 (w.heap.size+3) _ _ _) HB0.out.size (fun k e=>by cases e;omega))
 have HX1:Hid (∀ys,zdD now b ys seq most=if 0<=most/\most<((zbv ys).length:Int)+((zcs now ys now.length).length:Int)then(DlD.zero,230)else(⟨zb2 (zbv ys),zcs now ys now.length,now.length⟩,0)):=fun ys=>by unfold zdD;rw[if_neg (fun h=>h1 (HBAD.out.1 h))]
 have d1:decide (seq<fl)=false:=by simp;omega
 have d2:decide (sq<seq)=false:=by simp;omega
 have hva:=HVA.out W0 (yh _ _);have hvc:=hva.2.1;have hvd:=hva.2.2.1;obtain⟨uc0,uc1,uc2,uc3,uc4⟩:=hvc.cells5;obtain⟨ud0,ud1,ud2,ud3,ud4⟩:=hvd.cells5;have HNS:Hid (¬(seq<b.floor\/b.seq<seq)):=fun h=>h1 (HBAD.out.1 h)
 clear h1 hZ0 hva hvc hvd HBAD
 go_upto_region 6 with(first
  |(go_at_call 22;(with_reducible refine(HQ.out _ (yh _ _)).mono ?_);rintro e w1 ⟨u,rfl,ho1,hb1⟩;obtain⟨p1,cc1,hu,hq1,hq2⟩:=ho1.len;subst hu)
  |(go_at_call 40;(with_reducible refine(zmw w1 _ now (ho1.rd zn) HNO.out.1 HNO.out.2.2).mono ?_);rintro e w2 ⟨mb,mf,rfl,hmb,hmf,hmv,hb2⟩))
 obtain⟨nn,hnn⟩:∃n,now.length=n:=⟨_,rfl⟩;have HNN:=yc hnn;rw[hnn]at hmf
 try rw[hnn]
 have hnb:nn<=1000000:=by have:=HNO.out.1;omega
 have hB2:Below W0.heap.size W0 w2:=hb1.trans (hb2.mono hb1.size);obtain⟨gd,hgd⟩:∃g,w2.heap.size=g:=⟨_,rfl⟩;have hZ3:DAt 45 (w2.alloc (.cells #[.slice none 0 0,.slice none 0 0,.int .i64 (nn:Int)] 45)) gd ⟨none,0,0,none,0,0,nn⟩:=by rw[<-hgd];exact za rfl
 have hB3:Below gd w2 (w2.alloc (.cells #[.slice none 0 0,.slice none 0 0,.int .i64 (nn:Int)] 45)):=by rw[<-hgd];exact(yh _ _).alloc (yd _) _
 obtain⟨W3,hW3⟩:∃W,w2.alloc (.cells #[.slice none 0 0,.slice none 0 0,.int .i64 (nn:Int)] 45)=W:=⟨_,rfl⟩;rw[hW3]at hZ3 hB3
 try rw[hW3]
 try rw[hgd]
 have hW0g:W0.heap.size<=gd:=by rw[<-hgd];exact hB2.size
 have hB03:Below W0.heap.size W0 W3:=hB2.trans (hB3.mono hW0g);have hmbg:mb<gd:=by rw[<-hgd];exact hmf.lt
 have HMF:=yc hmf;have HMV:=yc hmv;have HB2:=yc hB2;have HB03:=yc hB03;have HB3:=yc hB3;have hA3:=(HVA.out W3 hB03).1;obtain⟨b0,b1,b2,b3,b4⟩:=hA3.cells5;dsimp only at b0 b1 b2 b3 b4;have hgl3:=hZ3.lt;have HZ3:=yc hZ3;clear hW3 hgd ho1 hb1 hb2 hmf hmv hq1 hq2 hA3 hB2 hB3 hB03 hZ3 HQ a0 a1 a2 a3 a4 uc0 uc1 uc2 uc3 uc4 ud0 ud1 ud2 ud3 ud4 hmb hnn
 go_wp2_with (go_at_call 41;(with_reducible refine(HS.out _ HB03.out).mono ?_);rintro e w4 ⟨ys,hys,u,rfl,hu,hb4⟩;obtain⟨pY,cY,hvY,hy1,hy2⟩:=hu.len;subst hvY;go_frame)
 have hly:=HLY.out ys hys;obtain⟨ny,hny⟩:∃n,ys.length=n:=⟨_,rfl⟩;have HNY:=yc hny;have hYn:ny<=1000000:=by omega
 have HYN:=yc hly.2;have HYS:=yc hys;obtain⟨gz,hgz⟩:∃g,w.heap.size+3=g:=⟨_,rfl⟩;obtain⟨bs,hbs⟩:∃n,w4.heap.size=n:=⟨_,rfl⟩;have HIDS:Hid (∀x∈ys,x.id.size<=maxLen):=fun x hx=>HIZ.out ys hys x hx
 have HA0:Hid (AskS w2 bs gz gd (.slice pY ys.length cY) ys [] [] ⟨none,0,0,none,0,0,nn⟩ w4):=
  ⟨by rw[<-hgz];exact(HVA.out w4 (HB03.out.trans (hb4.mono HB03.out.size))).2.2.2,hu.mono hgl3,Own.nil _ _ _,Own.nil _ _ _,fun k e=>by simp[Value.ownBlock]at e,HB3.out.trans (hb4.mono (Nat.le_of_lt hgl3)),⟨by omega,by have:=hb4.size;omega,by omega⟩,fun k e=>by have:=(hu.lt k e).2;omega⟩
 have HD0:Hid (DAt 45 w4 gd ⟨none,0,0,none,0,0,nn⟩):=HZ3.out.under hb4 hgl3;have HGZ:Hid (w.heap.size+3=gz/\W0.heap.size<=gd/\gd<bs):=⟨hgz,hW0g,HA0.out.ord.2.1⟩
 try rw[hny]
 try rw[hgz]
 rw[hny]at HA0;clear hu hb4 hy1 hy2 hly hny hys b0 b1 b2 b3 b4 HS hgl3 hgz hbs HLY HIZ hW0g;have hgzd:gz<gd:=by have:=HGZ.out;omega
 go_loopw [44] (fun i wr=>∃(j:Nat) (q:RD),j<=ny/\i= .int .i64 (j:Int)/\Hid (AskS w2 bs gz gd (.slice pY ny cY) ys (zbv (ys.take j)) (zbA now (ys.take j)) q wr/\DAt 45 wr gd q/\q.tot=nn)) (fun i _=>ny-(intOf i).toNat)
 case atStart=>exact⟨0,_,Nat.zero_le _,rfl,HA0.out,HD0.out,rfl⟩
 case round=>
  obtain⟨j,q,hj,rfl,HR⟩:=hrel;have hk0:(0:Int)<=(j:Int):=yj _;by_cases hlt:j<ny
  ·have hk1:(j:Int)<(ny:Int):=by omega
   obtain⟨x,hx⟩:∃x,ys[j]? =some x:=⟨_,List.getElem?_eq_getElem (by have:=HNY.out;omega)⟩
   obtain⟨b1,o1,rfl,hb1,hc1⟩:=zq (HR.out.1.own.rd codecP) hx;have HX:=yc hx;have hidz:=HIDS.out x (List.mem_of_getElem? hx);obtain⟨xi,xw,xb,xl⟩:=x;have f0:=hc1 0 _ rfl;have f1:=hc1 1 _ rfl;have f2:=hc1 2 _ rfl;have f3:=hc1 3 _ rfl;rw[Nat.add_zero]at f0;dsimp only at f0 f1 f2 f3 hidz;obtain⟨gp,hgp⟩:∃g,wr.heap.size=g:=⟨_,rfl⟩;have hlr:∀k,(Value.slice q.pr q.nr q.cr).ownBlock=some k->k<gp:=fun k e=>by rw[<-hgp];exact(HR.out.1.rem.lt k e).2
   have hla:∀k,(Value.slice q.pa q.na q.ca).ownBlock=some k->k<gp:=fun k e=>by rw[<-hgp];exact(HR.out.1.add.lt k e).2
   have HLR:=yc hlr;have HLA:=yc hla;have hb1a:=(yh wr.heap.size wr).alloc (yd _) (.cells #[.string xi,.bool xw,.bool xb,.int .i64 xl] 87);have hP1:PaAt (wr.alloc (.cells #[.string xi,.bool xw,.bool xb,.int .i64 xl] 87)) gp ⟨xi,xw,xb,xl⟩:=by rw[<-hgp];exact za rfl
   have hA1:=HR.out.1.go hb1a;have hD1:=HR.out.2.1.under hb1a HR.out.2.1.lt;have HTOT:=yc HR.out.2.2;have hgdp:gd<gp:=by rw[<-hgp];exact HR.out.2.1.lt
   clear hx hc1 hlr hla hb1a HR
   go_upto_region 9 with fail
   obtain⟨W1,hW1⟩:∃W,wr.alloc (.cells #[.string xi,.bool xw,.bool xb,.int .i64 xl] 87)=W:=⟨_,rfl⟩;rw[hW1]at hP1 hA1 hD1
   try rw[hW1]
   try rw[hgp]
   clear hW1 hgp f0 f1 f2 f3 hb1;have HA1:=yc hA1;have HD1:=yc hD1;have HP1:=yc hP1;have g0:=hP1.cell 0 rfl;have g1:=hP1.cell 1 rfl;have g2:=hP1.cell 2 rfl;dsimp only at g0 g1 g2;have hpl1:=hP1.lt;have hdl1:=hD1.lt;clear hP1 hA1 hD1;cases xw
   focus
    go_upto_region 11 with fail
    have HA5:Hid (AskS w2 bs gz gd (.slice (some ⟨b1,o1,none⟩) ny cY) ys (zbv (ys.take (j+1))) (zbA now (ys.take j)) q W1):=by rw[zpf HX.out rfl];exact HA1.out
    obtain⟨q5,hq5⟩:∃p,q=p:=⟨_,rfl⟩;obtain⟨W5,hW5⟩:∃p,W1=p:=⟨_,rfl⟩;have HLA5:Hid (∀k,(Value.slice q5.pa q5.na q5.ca).ownBlock=some k->k<gp):=by rw[<-hq5];exact HLA.out
    rw[hq5,hW5]at HA5 HD1;rw[hW5]at HP1;rw[hq5]at HTOT;rw[hW5];have HD5:=yc HD1.out;have HP5:=yc HP1.out;have HTOT5:=yc HTOT.out;clear HA1 HD1 HP1 g0 g1 g2 hpl1 hdl1 HLR HLA HTOT hq5 hW5
   rotate_left
   focus
    have h0:=HD1.out.cell 0 rfl;have hbx:=(yh W1.heap.size W1).alloc (yd _) (.cells #[.string xi] 9);have HA2:=yc (HA1.out.go hbx);have HD2:=yc (HD1.out.under hbx HD1.out.lt);have HP2:=yc (HP1.out.kept (W':=W1.alloc (.cells #[.string xi] 9)) (row:=none) ⟨rfl,rfl,rfl,by simp,fun k hk _=>heap_alloc_old _ _ hk⟩ (by simp))
    have HRX:Hid (Rd (W1.alloc (.cells #[.string xi] 9)) (W1.heap.size+1) zg 1 (.slice (some ⟨W1.heap.size,0,none⟩) 1 1) [xi]):=Rd.one zn (za rfl) rfl (by omega)
    have HLW:Hid ((zbv (ys.take j)).length<=1000000):=by have:=zkx (ys.take j);have:=HNY.out;rw[yz]at*;unfold Hid;omega
    clear hbx
    go_upto_region 11 with(at_builtin;refine zk slS zn (W1.alloc (.cells #[.string xi] 9)) rfl (.tmp 51) (.tmp 54) rfl (v:= .slice q.pr q.nr q.cr) rfl rfl HA2.out.rem HRX.out (by have:=HLW.out;simp;unfold maxLen;omega) (by have:=HLW.out;simp;omega) HA2.out.ord.2.2 ?_;intro v9 w9 ho9 hg9 hat9;obtain⟨p9,n9,c9,rfl⟩:∃p n c,v9=Value.slice p n c:=(by obtain⟨p,c,hv,h1,h2⟩:=ho9.len;exact⟨p,_,c,hv⟩);(have HT:=yc (HA2.out.turnR ho9 hg9 hat9));(have HD9:=yc (HT.out.2 _ HD2.out));(have HP9:=yc (HP2.out.kept hg9 (fun e=>by have:=HLR.out gp e.symm;omega)));(have k0:=HD9.out.cell 0 rfl);(have kf:=HD9.out.frozen 0);clear ho9 hg9 hat9;go_frame)
    have HP5:Hid (PaAt (w9.setCell ⟨gd,0,none⟩ (.slice p9 n9 c9)) gp ⟨xi,true,xb,xl⟩):=(heap_setCell_other w9 ⟨gd,0,none⟩ gp (.slice p9 n9 c9) (fun e=>by simp at e;omega)).trans HP9.out
    have HD5:=yc (HD9.out.set0 p9 n9 c9)
    have HA5:Hid (AskS w2 bs gz gd (.slice (some ⟨b1,o1,none⟩) ny cY) ys (zbv (ys.take (j+1))) (zbA now (ys.take j)) {q with pr:=p9,nr:=n9,cr:=c9} (w9.setCell ⟨gd,0,none⟩ (.slice p9 n9 c9))):=by
     have e:=zjg HX.out;simp only[if_true]at e;rw[e];exact HT.out.1.setD 0 _
    obtain⟨q5,hq5⟩:∃p:RD,{q with pr:=p9,nr:=n9,cr:=c9}=p:=⟨_,rfl⟩
    obtain⟨W5,hW5⟩:∃p,w9.setCell ⟨gd,0,none⟩ (.slice p9 n9 c9)=p:=⟨_,rfl⟩;have HTOT5:Hid (q5.tot=nn):=by rw[<-hq5];exact HTOT.out
    have HLA5:Hid (∀k,(Value.slice q5.pa q5.na q5.ca).ownBlock=some k->k<gp):=by rw[<-hq5];exact HLA.out
    rw[hq5,hW5]at HA5 HD5;rw[hW5]at HP5;rw[hW5];clear HA1 HD1 HP1 g0 g1 g2 hpl1 hdl1 HA2 HD2 HP2 HRX HLW HT HD9 HP9 k0 kf h0 HLR HLA HTOT hq5 hW5
   all_goals (
    have hp5:=HP5.out;have g0:=hp5.cell 0 rfl;have g1:=hp5.cell 1 rfl;have g2:=hp5.cell 2 rfl;dsimp only at g0 g1 g2;have hpl5:=hp5.lt;have hdl5:=HD5.out.lt;have HM5:Hid (MapF W5 Tryz.prog 9 mb nn mf):=HMF.out.below HA5.out.below hmbg;clear hp5;obtain⟨fi,hfi⟩:∃o,now.findIdx? (fun y=>decide (xi=y))=o:=⟨_,rfl⟩
    have HFI:=yc hfi;have hmv5:mf xi.data.toList=fi.map (fun(i:Nat)=>Value.int .i64 (i:Int)):=by rw[HMV.out];unfold plV;rw[hfi]
    have HMV5:=yc hmv5;clear hfi hmv5;cases fi with
    | none =>
      have HPL:Hid (zbA now (ys.take (j+1))=zbA now (ys.take j)):=by
       unfold Hid;rw[zgv HX.out];have hpn:∀y,plP now ⟨xi,y,xb,xl⟩=none:=fun y=>by unfold plP;dsimp only;rw[HFI.out];simp
       rw[hpn];simp
      go_wp2_with (at_lookup;refine zce W5 rfl _ _ _ rfl 9 2 Tryz.underlying9 Tryz.underlying82 (Tryz.zeroValue2 _) mb nn mf rfl HM5.out xi rfl hidz (v:= .int .i64 0) (y:=false) (by rw[HMV5.out];rfl) (by rw[HMV5.out];rfl) ?_;go_frame)
      go_roundw
      case rel=>exact⟨j+1,q5,by omega,by go_num,by rw[HPL.out];exact HA5.out,HD5.out,HTOT5.out⟩
      case measure=>simp[intOf];omega
    | some i =>
      have hil:i<nn:=by have:=(yi.1 (zfL HFI.out)).1;have:=HNN.out;omega
      cases xb
      ·have HPL:Hid (zbA now (ys.take (j+1))=zbA now (ys.take j)):=by
        unfold Hid;rw[zgv HX.out];have hpn:∀y,plP now ⟨xi,y,false,xl⟩=none:=fun y=>by unfold plP;simp
        rw[hpn];simp
       go_wp2_with (at_lookup;refine zce W5 rfl _ _ _ rfl 9 2 Tryz.underlying9 Tryz.underlying82 (Tryz.zeroValue2 _) mb nn mf rfl HM5.out xi rfl hidz (v:= .int .i64 (i:Int)) (y:=true) (by rw[HMV5.out];rfl) (by rw[HMV5.out];rfl) ?_;go_frame)
       go_roundw
       case rel=>exact⟨j+1,q5,by omega,by go_num,by rw[HPL.out];exact HA5.out,HD5.out,HTOT5.out⟩
       case measure=>simp[intOf];omega
      ·have HPL:Hid (zbA now (ys.take (j+1))=zbA now (ys.take j)++[(xi,(i:Int))]):=by
        unfold Hid;rw[zgv HX.out];have hpn:∀y,plP now ⟨xi,y,true,xl⟩=some (xi,(i:Int)):=fun y=>by unfold plP;dsimp only;rw[HFI.out];simp
        rw[hpn]
        rfl
       have h1:=HD5.out.cell 1 rfl;have hbx:=(yh W5.heap.size W5).alloc (yd _) (.cells #[.string xi,.int .i64 (i:Int)] 80);have HA6:=yc (HA5.out.go hbx);have HD6:=yc (HD5.out.under hbx HD5.out.lt);have HRX:Hid (Rd (W5.alloc (.cells #[.string xi,.int .i64 (i:Int)] 80)) (W5.heap.size+1) zdI 2 (.slice (some ⟨W5.heap.size,0,none⟩) 1 1) [(xi,(i:Int))]):=Rd.one codecA (za rfl) rfl (by omega)
       have HLW:Hid ((zbA now (ys.take j)).length<=1000000):=by have:=zkl now (ys.take j);have:=HNY.out;rw[yz]at*;unfold Hid;omega
       clear hbx
       go_wp2_with (first
        |(at_lookup;refine zce W5 rfl _ _ _ rfl 9 2 Tryz.underlying9 Tryz.underlying82 (Tryz.zeroValue2 _) mb nn mf rfl HM5.out xi rfl hidz (v:= .int .i64 (i:Int)) (y:=true) (by rw[HMV5.out];rfl) (by rw[HMV5.out];rfl) ?_;go_frame)
        |(at_builtin;refine zk slA codecA (W5.alloc (.cells #[.string xi,.int .i64 (i:Int)] 80)) rfl (.tmp 70) (.tmp 75) rfl (v:= .slice q5.pa q5.na q5.ca) rfl rfl HA6.out.add HRX.out (by have:=HLW.out;simp;unfold maxLen;omega) (by have:=HLW.out;simp;omega) HA6.out.ord.2.2 ?_;intro v9 w9 ho9 hg9 hat9;obtain⟨p9,n9,c9,rfl⟩:∃p n c,v9=Value.slice p n c:=(by obtain⟨p,c,hv,h1,h2⟩:=ho9.len;exact⟨p,_,c,hv⟩);(have HT:=yc (HA6.out.turnA ho9 hg9 hat9));(have HD9:=yc (HT.out.2 _ HD6.out));(have k0:=HD9.out.cell 1 rfl);(have kf:=HD9.out.frozen 1);clear ho9 hg9 hat9;go_frame))
       go_roundw
       case rel=>exact⟨j+1,_,by omega,by go_num,by rw[HPL.out];exact HT.out.1.setD 1 _,HD9.out.set1 p9 n9 c9,HTOT5.out⟩
       case measure=>simp[intOf];omega)
  ·obtain rfl:j=ny:=by omega
   have ht:ys.take j=ys:=List.take_of_length_le (by have:=HNY.out;omega)
   have HA:=yc HR.out.1;have HD:=yc HR.out.2.1;have HT:=yc HR.out.2.2;rw[ht]at HA
   have hnr:q.nr=(zbv ys).length:=by
    obtain⟨_,_,e,_,_⟩:=HA.out.rem.len;simp only[Value.slice.injEq]at e;exact e.2.1
   have hna:q.na=(zbA now ys).length:=by
    obtain⟨_,_,e,_,_⟩:=HA.out.add.len;simp only[Value.slice.injEq]at e;exact e.2.1
   have hl1:=zkx ys;have hl2:=zkl now ys;have hl3:=zm4 HNO.out.2.1 HYN.out;have hny2:=HNY.out;have hnr1:(q.nr:Int)<=1000000:=by omega
   have hna1:(q.na:Int)<=1000000:=by omega
   have hnr0:(0:Int)<=(q.nr:Int):=yj _;have hna0:(0:Int)<=(q.na:Int):=yj _;have HNR:Hid (q.nr=(zbv ys).length/\q.na=(zcs now ys now.length).length/\(zbv ys).length<4611686018427387904/\(zbA now ys).length<4611686018427387904):=⟨hnr,by omega,by omega,by omega⟩
   have u0:=HD.out.cell 0 rfl;have u1:=HD.out.cell 1 rfl;have u2:=HD.out.cell 2 rfl;have hBW:Hid (Below w.heap.size w wr):=HB0.out.trans ((HB2.out.trans (HA.out.below.mono HGZ.out.2.1)).mono HB0.out.size);have hbsr:=HA.out.ord.2.2;have hdl:=HD.out.lt;clear ht hnr hna hl1 hl2 hl3 hny2 HR hj hlt hk0;by_cases hm0:0<=most
   ·have dm0:decide ((0:Int)<=most)=true:=decide_eq_true hm0;by_cases hm1:most<(q.nr:Int)+(q.na:Int)
    ·have dm1:decide (most<(q.nr:Int)+(q.na:Int))=true:=decide_eq_true hm1;have HX2:Hid (zdD now b ys seq most=(DlD.zero,230)):=by unfold Hid;rw[HX1.out,if_pos ⟨hm0,by rw[<-HNR.out.1,<-HNR.out.2.1];exact hm1⟩]
     have z0:=HA.out.z.cell 0 rfl;have z1:=HA.out.z.cell 1 rfl;have z2:=HA.out.z.cell 2 rfl;have y0:=HA.out.z.frozen 0;have y1:=HA.out.z.frozen 1;have y2:=HA.out.z.frozen 2;have hzl:=HA.out.z.lt;clear hm0 hm1
     go_wp2_with fail
     refine bodyPost_ret (v:= .tuple #[RD.val RD.zero,.int .i64 230]) (by simp[results,Tryz.results18,go_sem,RD.zero,z0,z1,z2,y0,y1,y2,hzl]) rfl ⟨ys,(fun _=>HYS.out),?_⟩
     rw[HX2.out];exact DlRet.zero 230 (hBW.out.grown (zdL wr gz _ _ _) hBW.out.size (fun k e=>by cases e;have:=HGZ.out;omega))
    ·have dm1:decide (most<(q.nr:Int)+(q.na:Int))=false:=decide_eq_false hm1;have HX2:Hid (zdD now b ys seq most=(⟨zb2 (zbv ys),zcs now ys now.length,now.length⟩,0)):=by unfold Hid;rw[HX1.out,if_neg (fun h=>hm1 (by rw[HNR.out.1,HNR.out.2.1];exact h.2))]
     clear hm0 hm1;have HC1:=yc (zic wr bs q.pr q.nr q.cr (zbv ys) HA.out.rem HNR.out.2.2.1)
     go_upto_region 18 with(go_at_call 42;(with_reducible refine HC1.out.mono ?_);rintro e w7 ⟨rfl,ho7,hg7⟩)
     have HT7:=yc (HA.out.turnR ho7 hg7 (.inl rfl));have HA7:Hid (AskS w2 bs gz gd (.slice pY j cY) ys (zb2 (zbv ys)) (zbA now ys) q w7):=HT7.out.1;have HD7:=yc (HT7.out.2 _ HD.out);have v0:=HD7.out.cell 0 rfl;have v1:=HD7.out.cell 1 rfl;have v2:=HD7.out.cell 2 rfl
     have HC2:=yc (zjb w7 bs q.pa q.na q.ca (zbA now ys) HA7.out.add HNR.out.2.2.2 (fun x hx=>by
      obtain⟨p,_,_,_,i,e,h⟩:=(zhl HNO.out.2.1).1 hx;have h2:=(yi.1 h).1;have h3:=HNO.out.1;omega))
     have hBW7:Hid (Below w.heap.size w w7):=hBW.out.grown hg7 hBW.out.size (fun k e=>by have:=(HA.out.rem.lt k e).1;have:=HGZ.out;omega)
     clear ho7 hg7 u0 u1 u2 HC1 HT7 hdl
     go_upto_region 19 with(go_at_call 44;(with_reducible refine HC2.out.mono ?_);rintro e w8 ⟨rfl,zs,hp8,hs8,ho8,hg8⟩)
     have HT8:=yc (HA7.out.turnA ho8 hg8 (.inl rfl));have HA8:Hid (AskS w2 bs gz gd (.slice pY j cY) ys (zb2 (zbv ys)) zs q w8):=HT8.out.1;have HD8:=yc (HT8.out.2 _ HD7.out);have HZS:Hid (zs=zcs now ys now.length):=zg8 HNO.out.2.1 HYN.out hp8 hs8;have hBW8:Hid (Below w.heap.size w w8):=hBW7.out.grown hg8 hBW7.out.size (fun k e=>by have:=(HA7.out.add.lt k e).1;have:=HGZ.out;omega)
     clear v0 v1 v2 ho8 hg8 hp8 hs8 HT8 HC2;have u0:=HD8.out.cell 0 rfl;have u1:=HD8.out.cell 1 rfl;have u2:=HD8.out.cell 2 rfl;have z0:=HA8.out.z.cell 0 rfl;have z1:=HA8.out.z.cell 1 rfl;have z2:=HA8.out.z.cell 2 rfl;have y0:=HA8.out.z.frozen 0;have y1:=HA8.out.z.frozen 1;have y2:=HA8.out.z.frozen 2;have hzl:=HA8.out.z.lt
     go_wp2_with fail
     refine bodyPost_ret (v:= .tuple #[RD.val q,.int .i64 0]) (by simp[results,Tryz.results18,go_sem,z0,z1,z2,y0,y1,y2,hzl]) rfl ⟨ys,(fun _=>HYS.out),?_⟩
     rw[HX2.out];have hgs:=zdL w8 gz (.slice q.pr q.nr q.cr) (.slice q.pa q.na q.ca) (.int .i64 q.tot);have hgb:=HGZ.out;have hr:=HA8.out.rem.kept hgs (zcp fun k e=>by have:=(HA8.out.rem.lt k e).1;omega)
     have ha:=HA8.out.add.kept hgs (zcp fun k e=>by have:=(HA8.out.add.lt k e).1;omega)
     rw[HZS.out]at ha;exact⟨q,rfl,hr.mono (by omega),ha.mono (by omega),by rw[HT.out,HNN.out],HA8.out.apart,hBW8.out.grown hgs hBW8.out.size (fun k e=>by cases e;omega)⟩
   ·have dm0:decide ((0:Int)<=most)=false:=decide_eq_false hm0;have HX2:Hid (zdD now b ys seq most=(⟨zb2 (zbv ys),zcs now ys now.length,now.length⟩,0)):=by unfold Hid;rw[HX1.out,if_neg (fun h=>hm0 h.1)]
    clear hm0;have HC1:=yc (zic wr bs q.pr q.nr q.cr (zbv ys) HA.out.rem HNR.out.2.2.1)
    go_upto_region 18 with(go_at_call 42;(with_reducible refine HC1.out.mono ?_);rintro e w7 ⟨rfl,ho7,hg7⟩)
    have HT7:=yc (HA.out.turnR ho7 hg7 (.inl rfl));have HA7:Hid (AskS w2 bs gz gd (.slice pY j cY) ys (zb2 (zbv ys)) (zbA now ys) q w7):=HT7.out.1;have HD7:=yc (HT7.out.2 _ HD.out);have v0:=HD7.out.cell 0 rfl;have v1:=HD7.out.cell 1 rfl;have v2:=HD7.out.cell 2 rfl
    have HC2:=yc (zjb w7 bs q.pa q.na q.ca (zbA now ys) HA7.out.add HNR.out.2.2.2 (fun x hx=>by
     obtain⟨p,_,_,_,i,e,h⟩:=(zhl HNO.out.2.1).1 hx;have h2:=(yi.1 h).1;have h3:=HNO.out.1;omega))
    have hBW7:Hid (Below w.heap.size w w7):=hBW.out.grown hg7 hBW.out.size (fun k e=>by have:=(HA.out.rem.lt k e).1;have:=HGZ.out;omega)
    clear ho7 hg7 u0 u1 u2 HC1 HT7 hdl
    go_upto_region 19 with(go_at_call 44;(with_reducible refine HC2.out.mono ?_);rintro e w8 ⟨rfl,zs,hp8,hs8,ho8,hg8⟩)
    have HT8:=yc (HA7.out.turnA ho8 hg8 (.inl rfl));have HA8:Hid (AskS w2 bs gz gd (.slice pY j cY) ys (zb2 (zbv ys)) zs q w8):=HT8.out.1;have HD8:=yc (HT8.out.2 _ HD7.out);have HZS:Hid (zs=zcs now ys now.length):=zg8 HNO.out.2.1 HYN.out hp8 hs8;have hBW8:Hid (Below w.heap.size w w8):=hBW7.out.grown hg8 hBW7.out.size (fun k e=>by have:=(HA7.out.add.lt k e).1;have:=HGZ.out;omega)
    clear v0 v1 v2 ho8 hg8 hp8 hs8 HT8 HC2;have u0:=HD8.out.cell 0 rfl;have u1:=HD8.out.cell 1 rfl;have u2:=HD8.out.cell 2 rfl;have z0:=HA8.out.z.cell 0 rfl;have z1:=HA8.out.z.cell 1 rfl;have z2:=HA8.out.z.cell 2 rfl;have y0:=HA8.out.z.frozen 0;have y1:=HA8.out.z.frozen 1;have y2:=HA8.out.z.frozen 2;have hzl:=HA8.out.z.lt
    go_wp2_with fail
    refine bodyPost_ret (v:= .tuple #[RD.val q,.int .i64 0]) (by simp[results,Tryz.results18,go_sem,z0,z1,z2,y0,y1,y2,hzl]) rfl ⟨ys,(fun _=>HYS.out),?_⟩
    rw[HX2.out];have hgs:=zdL w8 gz (.slice q.pr q.nr q.cr) (.slice q.pa q.na q.ca) (.int .i64 q.tot);have hgb:=HGZ.out;have hr:=HA8.out.rem.kept hgs (zcp fun k e=>by have:=(HA8.out.rem.lt k e).1;omega)
    have ha:=HA8.out.add.kept hgs (zcp fun k e=>by have:=(HA8.out.add.lt k e).1;omega)
    rw[HZS.out]at ha;exact⟨q,rfl,hr.mono (by omega),ha.mono (by omega),by rw[HT.out,HNN.out],HA8.out.apart,hBW8.out.grown hgs hBW8.out.size (fun k e=>by cases e;omega)⟩
structure MgI(lt:Nat->Nat->Bool)(a b out:List Nat)(i k:Nat):Prop where
 perm:out.Perm (a.take i++b.take k)
 sorted:out.Pairwise (fun x y=>lt y x=false)
 low:∀x∈out,∀y∈a.drop i++b.drop k,lt y x=false
section
variable {lt:Nat->Nat->Bool} {a b out:List Nat} {i k:Nat}
theorem MgI.start:MgI lt a b [] 0 0:=⟨yaV.refl _,List.Pairwise.nil,fun x h=>by cases h⟩
theorem MgI.done(h:MgI lt a b out i b.length)(ha:a.Pairwise (fun x y=>lt y x=false)):(out++a.drop i).Perm (a++b)/\(out++a.drop i).Pairwise (fun x y=>lt y x=false):=by
 constructor
 ·refine(h.perm.append_right _).trans ?_;rw[List.take_length,yV];refine(yaV.append_left _ List.perm_append_comm).trans ?_;rw[<-yV,List.take_append_drop]
 ·rw[List.pairwise_append];exact⟨h.sorted,ha.sublist (List.drop_sublist _ _),fun x hx y hy=>h.low x hx y (List.mem_append.2 (.inl hy))⟩
end
structure OEnv(w:World)(B:Nat)(t:JV)(r:RV)(os:List (ByteArray×JV))(rs:List RM):Prop where
 ht:TreeOf w B t r
 ot:t.Ok
 own:t.k≠5->t.l=[]
 len:rs.length=os.length
 obj:∀i,i<rs.length->(rs.getD i dRM).name=(os.getD i dO).1/\TreeOf w B (os.getD i dO).2 (rs.getD i dRM).v/\(os.getD i dO).2.Ok
theorem OEnv.below{w w':World}{B:Nat}{t:JV}{r:RV}{os:List (ByteArray×JV)}{rs:List RM}(h:OEnv w B t r os rs)(hb:Below B w w'):OEnv w' B t r os rs:=
 ⟨h.ht.under hb (yd _),h.ot,h.own,h.len,fun i hi=>⟨(h.obj i hi).1,(h.obj i hi).2.1.under hb (yd _),(h.obj i hi).2.2⟩⟩
end
end Go.Proofs.YtemofofnkchmeaaGreatDoor
