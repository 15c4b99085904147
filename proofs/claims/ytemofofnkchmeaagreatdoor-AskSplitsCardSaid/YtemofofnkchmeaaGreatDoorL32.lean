import Derived.Test.YtemofofnkchmeaaGreatDoorL30
import Derived.Test.YtemofofnkchmeaaGreatDoorL17
import Derived.Test.YtemofofnkchmeaaGreatDoorL23
import Derived.Test.YtemofofnkchmeaaGreatDoorL11
set_option linter.unusedSimpArgs false
set_option linter.unusedVariables false
set_option maxRecDepth 200000
set_option maxHeartbeats 8000000
namespace Go.Proofs.YtemofofnkchmeaaGreatDoor
open _root_.Int renaming natCast_nonneg->yj
open _root_.Go.Lib renaming hid->yc
open _root_.List renaming getElem?_eq_getElem->yf,getElem?_eq_some_iff->yi,getElem?_of_mem->yQ,mem_of_getElem?->ym
open _root_.Go.Proofs.Tryz renaming prog->ye
section
open Go Go.RowKit Go.OpenShut
structure FewF(b:BoxD)(f so:JV)(ops:List (RO×JV)):Prop where
 objs:b.objs.length<=30
 nops:ops.length<=30
 trail:b.trail.length<=300
 right:zcA b
 ownf:zim f
 cf:zf f<=100
 owns:zim so
 vals:∀p∈b.objs,zf p.2<=200/\zr p.2<=20000
 acts:∀o∈ops,zf o.2<=200/\zr o.2<=20000
def zm2(w:World)(b:BoxD)(f so:JV)(ops:List (RO×JV))(e:Ending)(w':World):Prop:=∃y:Bool,e= .returned (.bool y)/\Hid (y=true->FewF b f so ops)/\Below w.heap.size w w'
theorem znw(b:BoxD)(r:RB)(f so:JV)(rf rs:RV)(ops:List (RO×JV))(v:Value)(w:World)(hb:BoxOf w w.heap.size b r)(ob:b.Ok)(hf:TreeOf w w.heap.size f rf)(of:f.Ok)(hs:TreeOf w w.heap.size so rs)(os:so.Ok)(hv:Rd w w.heap.size zeU 7 v (ops.map (·.1)))(ht:∀o∈ops,TreeOf w w.heap.size o.2 o.1.v/\zlV o.1 o.2):
 Calls ye 17 #[r.val,rf.val,rs.val,v] w (zm2 w b f so ops):=by
 obtain⟨pv,cv,rfl,_,_⟩:=zfq hv;obtain⟨nv,hnv⟩:∃n,(ops.map (·.1)).length=n:=⟨_,rfl⟩
 have hnv2:ops.length=nv:=by rw[<-hnv,List.length_map]
 rw[hnv]at hv⊢;obtain⟨W0,hW0⟩:∃W0,((w.alloc r.obj).alloc rf.obj).alloc rs.obj=W0:=⟨_,rfl⟩;have hA0:BoxAt W0 w.heap.size r:=by rw[<-hW0];exact zb (by simp;omega) (zb (by simp) (za rfl))
 have hC0:VAt W0 (w.heap.size+1) rf:=by rw[<-hW0];exact zb (by simp) (za (by simp))
 have hD0:VAt W0 (w.heap.size+2) rs:=by rw[<-hW0];exact za (by simp)
 have hB0:Below w.heap.size w W0:=by rw[<-hW0];exact(zM w _ _).alloc (zM w _ _).size _
 have hw0:=hB0.size;obtain⟨rms,hrd,hms⟩:=hb.objs;have hno:r.no=rms.length:=zi hrd;have hlm:=hms.len;have HB18:Hid (∀W,Below W0.heap.size W0 W->Calls ye 37 #[r.val] W (zqe W b)):=fun W h=>zmb b r W (hb.under (hB0.trans (h.mono hw0)) (hB0.trans (h.mono hw0)).size) ob
 have HRT:Hid (∀W,Below W0.heap.size W0 W->Calls ye 38 #[r.val] W (Said W (zcA b))):=fun W h=>zmB b r W (hb.under (hB0.trans (h.mono hw0)) (hB0.trans (h.mono hw0)).size) ob
 have HFF:Hid (∀W,Below W0.heap.size W0 W->Calls ye 30 #[rf.val,.int .i64 100] W (zjy f rf.nm 100 W)):=fun W h=>zeV f rf 100 W (by decide) (hf.under (hB0.trans (h.mono hw0)) (hB0.trans (h.mono hw0)).size) of
 have HFS:Hid (∀W,Below W0.heap.size W0 W->Calls ye 30 #[rs.val,.int .i64 40] W (zjy so rs.nm 40 W)):=fun W h=>zeV so rs 40 W (by decide) (hs.under (hB0.trans (h.mono hw0)) (hB0.trans (h.mono hw0)).size) os
 have HZF:Hid (∀W,Below W0.heap.size W0 W->Calls ye 39 #[rf.val,.int .i64 1000] W fun e w'=>∃c:Nat,e= .returned (.int .i64 (c:Int))/\(c<=1000+140737488355328/\c<=zr f/\(c<=1000->c=zr f))/\Below W.heap.size W w'):=fun W h=>zfX _ f rf 1000 W (Nat.le_refl _) (by decide) (hf.under (hB0.trans (h.mono hw0)) (hB0.trans (h.mono hw0)).size) of
 have HZO:Hid (∀(k:Nat) p x,b.objs[k]? =some p->rms[k]? =some x->∀W,Below W0.heap.size W0 W->Calls ye 39 #[x.v.val,.int .i64 20000] W fun e w'=>∃c:Nat,e= .returned (.int .i64 (c:Int))/\(c<=20000+140737488355328/\c<=zr p.2/\(c<=20000->c=zr p.2))/\Below W.heap.size W w'):=fun k p x hp hx W h=>zfX _ p.2 x.v 20000 W (Nat.le_refl _) (by decide) ((hms.val k p x hp hx).under (hB0.trans (h.mono hw0)) (hB0.trans (h.mono hw0)).size) (ob.each p (ym hp)).2
 have HZA:Hid (∀(k:Nat) o,ops[k]? =some o->∀W,Below W0.heap.size W0 W->(Calls ye 39 #[o.1.v.val,.int .i64 20000] W fun e w'=>∃c:Nat,e= .returned (.int .i64 (c:Int))/\(c<=20000+140737488355328/\c<=zr o.2/\(c<=20000->c=zr o.2))/\Below W.heap.size W w')/\Calls ye 30 #[o.1.v.val,.int .i64 200] W (zjy o.2 o.1.v.nm 200 W)):=fun k o ho W h=>by
  have h1:=ht o (ym ho);have h2:=h1.1.under (hB0.trans (h.mono hw0)) (hB0.trans (h.mono hw0)).size;exact⟨zfX _ o.2 o.1.v 20000 W (Nat.le_refl _) (by decide) h2 h1.2.2,zeV o.2 o.1.v 200 W (by decide) h2 h1.2.2⟩
 have HRD:Hid (∀W,Below W0.heap.size W0 W->Rd W W0.heap.size zl 6 (.slice r.po r.no r.co) rms/\Rd W W0.heap.size zeU 7 (.slice pv nv cv) (ops.map (·.1))):=fun W h=>⟨hrd.below (hB0.trans (h.mono hw0)) hw0,hv.below (hB0.trans (h.mono hw0)) hw0⟩
 have HN:Hid (r.no=rms.length/\rms.length=b.objs.length/\ops.length=nv):=⟨hno,by omega,hnv2⟩
 have HVA:Hid (∀W,Below W0.heap.size W0 W->BoxAt W w.heap.size r/\VAt W (w.heap.size+1) rf/\VAt W (w.heap.size+2) rs):=fun W hb=>⟨hA0.under hb hA0.lt,hC0.under hb hC0.lt,hD0.under hb hD0.lt⟩
 have HB0:=yc hB0;obtain⟨po,no,co,pt,nt,ct,sq,fl,kp⟩:=r;obtain⟨fk,fn,fs,fpl,fnl,fcl,fpm,fnm,fcm⟩:=rf;obtain⟨sk,sn,ss,spl,snl,scl,spm,snm,scm⟩:=rs;dsimp only[RB.val,RB.obj,RV.val,RV.obj]at*;have hza:=hA0.lt;have hzc:=hC0.lt;have hzd:=hD0.lt;have HW:=yc hW0;clear hb ob hf of hs os hv ht hnv hnv2 hW0 hA0 hC0 hD0 hB0 hrd hms hno hlm
 go_enter Tryz.func17,Tryz.ntmps17
 go_upto_region 1 with fail
 try rw[HW.out]
 clear HW;have HBR0:Hid (Below W0.heap.size W0 W0):=Below.refl _ _;have hva:=HVA.out W0 HBR0.out;have hva1:=hva.1;obtain⟨a0,a1,a2,a3,a4⟩:=hva1.cells5;dsimp only at a0 a1 a2 a3 a4;clear hva hva1;by_cases h1:30<no
 ·have q1:decide ((30:Int)<(no:Int))=true:=by simp;omega
  clear h1
  go_wp2_with fail
  go_ret;exact⟨false,rfl,(fun h=>by cases h),HB0.out⟩
 have q1:decide ((30:Int)<(no:Int))=false:=by simp;omega
 have hno:no<=30:=by omega
 by_cases h2:30<nv
 ·have q2:decide ((30:Int)<(nv:Int))=true:=by simp;omega
  clear h1 h2
  go_wp2_with fail
  go_ret;exact⟨false,rfl,(fun h=>by cases h),HB0.out⟩
 have q2:decide ((30:Int)<(nv:Int))=false:=by simp;omega
 have hnv:nv<=30:=by omega
 clear h1 h2
 go_wp2_with (first
  |(go_at_call 37;(with_reducible refine(HB18.out _ HBR0.out).mono ?_);rintro e w1 ⟨y1,rfl,HL1,hb9⟩;(have HBR1:=yc (HBR0.out.trans hb9));(have hva:=HVA.out _ HBR1.out);(have hva1:=hva.1);(obtain⟨b0,b1,b2,b3,b4⟩:=hva1.cells5);clear hva hva1;dsimp only at b0 b1 b2 b3 b4;cases y1)
  |(go_at_call 38;(with_reducible refine(HRT.out _ HBR1.out).mono ?_);rintro e w2 ⟨y2,rfl,HL2,hb9⟩;(have HBR2:=yc (HBR1.out.trans (hb9.mono HBR1.out.size)));(have hva:=HVA.out _ HBR2.out);(have hva2:=hva.2.1);(obtain⟨c0,c1,c2,c3,c4⟩:=hva2.cells5);clear hva hva2;dsimp only at c0 c1 c2 c3 c4;cases y2)
  |(go_at_call 30;(with_reducible refine(HFF.out _ HBR2.out).mono ?_);rintro e w3 ⟨y3,rfl,HL3,hb9⟩;(have HBR3:=yc (HBR2.out.trans (hb9.mono HBR2.out.size)));(have hva:=HVA.out _ HBR3.out);(have hva3:=hva.2.2);(obtain⟨d0,d1,d2,d3,d4⟩:=hva3.cells5);clear hva hva3;dsimp only at d0 d1 d2 d3 d4;cases y3)
  |(go_at_call 30;(with_reducible refine(HFS.out _ HBR3.out).mono ?_);rintro e w4 ⟨y4,rfl,HL4,hb9⟩;(have HBR4:=yc (HBR3.out.trans (hb9.mono HBR3.out.size)));(have hva:=HVA.out _ HBR4.out);(have hva2:=hva.2.1);(obtain⟨h0,h1,h2,h3,h4⟩:=hva2.cells5);clear hva hva2;dsimp only at h0 h1 h2 h3 h4;cases y4)
  |(go_at_call 39;(with_reducible refine(HZF.out _ HBR4.out).mono ?_);rintro e w5 ⟨c5,rfl,HL5,hb9⟩;(have HBR5:=yc (HBR4.out.trans (hb9.mono HBR4.out.size)))))
 all_goals first
  |(go_ret;exact⟨false,rfl,(fun h=>by cases h),HB0.out.trans (HBR4.out.mono HB0.out.size)⟩)
  |(go_ret;exact⟨false,rfl,(fun h=>by cases h),HB0.out.trans (HBR3.out.mono HB0.out.size)⟩)
  |(go_ret;exact⟨false,rfl,(fun h=>by cases h),HB0.out.trans (HBR2.out.mono HB0.out.size)⟩)
  |(go_ret;exact⟨false,rfl,(fun h=>by cases h),HB0.out.trans (HBR1.out.mono HB0.out.size)⟩)
  |skip
 have HK:Hid (b.trail.length<=300/\(∀p∈b.objs,zf p.2<=200)/\zcA b/\zim f/\zf f<=100/\zim so):=⟨(HL1.out (by trivial)).1.2,fun p hp=>((HL1.out (by trivial)).2 p hp).2,HL2.1 (by trivial),(HL3.out (by trivial)).2.1,(HL3.out (by trivial)).2.2,(HL4.out (by trivial)).2.1⟩
 have hc5:c5<=140737488380000:=by have:=HL5.1;omega
 clear HL1 HL2 HL3 HL4 HL5 HB18 HRT HFF HFS HZF HBR0 HBR1 HBR2 HBR3 HBR4 a0 a1 a2 a3 a4 b0 b1 b2 b3 b4 c0 c1 c2 c3 c4 d0 d1 d2 d3 d4 h0 h1 h2 h3 h4 q1 q2
 go_wp2_with fail
 go_loopw [9,10] (fun a i wr=>∃(g k:Nat),k<=no/\g<=140737488400000/\a= .int .i64 (g:Int)/\i= .int .i64 (k:Int)/\Hid (g<=20000->∀(i:Nat) p,i<k->b.objs[i]? =some p->zr p.2<=20000)/\Below W0.heap.size W0 wr) (fun _ i _=>no-(intOf i).toNat)
 case atStart=>exact⟨c5,0,Nat.zero_le _,by omega,rfl,rfl,(fun _ i p h=>by omega),HBR5.out⟩
 case round=>
  obtain⟨g,k,hk,hgb,rfl,rfl,HG,hbr⟩:=hrel;have hva:=HVA.out _ hbr;have hva1:=hva.1;obtain⟨a0,a1,a2,a3,a4⟩:=hva1.cells5;dsimp only at a0 a1 a2 a3 a4;have hk0:(0:Int)<=(k:Int):=yj _;have hg0:(0:Int)<=(g:Int):=yj _;have hgi:(g:Int)<=140737488400000:=by omega
  clear hva hva1;by_cases hgo:k<no/\g<=20000
  ·obtain⟨hlt,hgm⟩:=hgo;obtain⟨x,hx⟩:∃x,rms[k]? =some x:=⟨_,yf (by have:=HN.out.1;omega)⟩
   obtain⟨p,hp⟩:∃x,b.objs[k]? =some x:=⟨_,yf (by have:=HN.out;omega)⟩
   have HC:=yc (HZO.out k p x hp hx);obtain⟨b1,o1,rfl,hb1,hc1⟩:=zq (HRD.out wr hbr).1 hx;have s0:=hc1 0 _ rfl;have s1:=hc1 1 _ rfl;have s2:=hc1 2 _ rfl;have s3:=hc1 3 _ rfl;have s4:=hc1 4 _ rfl;have s5:=hc1 5 _ rfl;have hk1:(k:Int)<(no:Int):=by omega
   have hdg:decide ((g:Int)<=20000)=true:=decide_eq_true (by omega)
   have HP:=yc hp;have HBR:=yc hbr;clear hc1 hx hp hbr
   go_wp2_with (go_at_call 39;(with_reducible refine(HC.out _ HBR.out).mono ?_);rintro e w7 ⟨c,rfl,hcc,hb7⟩;(have hc0:(0:Int)<=(c:Int):=yj _);(have hcb:(c:Int)<=140737488375328:=by have:=hcc.1;omega))
   go_roundw
   case rel=>
    refine⟨g+c,k+1,by omega,by omega,by go_num,by go_num,fun hle i q hi hq=> ?_,HBR.out.trans (hb7.mono HBR.out.size)⟩
    by_cases hij:i<k
    ·exact HG.out (by omega) i q hij hq
    ·obtain rfl:i=k:=by omega
     obtain rfl:p=q:=Option.some.inj (HP.out.symm.trans hq);have:=hcc.2.2 (by omega)
     omega
   case measure=>simp[intOf];omega
  ·have hdg:k<no->decide ((g:Int)<=20000)=false:=fun h=>decide_eq_false (by omega)
   have HG2:Hid (g<=20000->∀p∈b.objs,zr p.2<=20000):=fun hle p hp=>by
    obtain⟨i,hi⟩:=yQ hp;have h9:=(yi.1 hi).1;have:=HN.out;exact HG.out hle i p (by omega) hi
   have HBR:=yc hbr;obtain⟨wo,hwo⟩:∃wo:World,wo=wr:=⟨_,rfl⟩;rw[<-hwo]at HBR a0 a1 a2 a3 a4⊢;clear hwo HG hbr hgo;by_cases p1:k<no
   all_goals (try(have hdg:=hdg p1))
   all_goals (
    go_wp2_with fail
    go_loopw [9,11] (fun a i wr=>∃(g k:Nat),k<=nv/\g<=140737488800000/\a= .int .i64 (g:Int)/\i= .int .i64 (k:Int)/\Hid (g<=20000->(∀p∈b.objs,zr p.2<=20000)/\∀(i:Nat) o,i<k->ops[i]? =some o->zf o.2<=200/\zr o.2<=20000)/\Below W0.heap.size W0 wr) (fun _ i _=>nv-(intOf i).toNat)
    case atStart=>exact⟨g,0,Nat.zero_le _,by omega,rfl,rfl,(fun h=>⟨HG2.out h,fun i o hi=>by omega⟩),HBR.out⟩
    case round=>
     clear hgb hgi hg0 hk0 hk;obtain⟨g,k,hk,hgb,rfl,rfl,HG,hbr⟩:=hrel;have hk0:(0:Int)<=(k:Int):=yj _;have hg0:(0:Int)<=(g:Int):=yj _;by_cases hgo:k<nv/\g<=20000
     ·obtain⟨hlt,hgm⟩:=hgo;obtain⟨o,ho⟩:∃x,ops[k]? =some x:=⟨_,yf (by have:=HN.out.2.2;omega)⟩
      have ho1:(ops.map (·.1))[k]? =some o.1:=by rw[List.getElem?_map,ho];rfl
      have HC:=yc (HZA.out k o ho);obtain⟨b1,o1,rfl,hb1,hc1⟩:=zq (HRD.out wr hbr).2 ho1;have s0:=hc1 0 _ rfl;have s1:=hc1 1 _ rfl;have s2:=hc1 2 _ rfl;have s3:=hc1 3 _ rfl;have s4:=hc1 4 _ rfl;have s5:=hc1 5 _ rfl;have s6:=hc1 6 _ rfl;have hc5:=hc1;have hk1:(k:Int)<(nv:Int):=by omega
      have hdg:decide ((g:Int)<=20000)=true:=decide_eq_true (by omega)
      have HP:=yc ho;have HBR2:=yc hbr;have HO1:=yc ho1;clear ho ho1 hbr
      go_wp2_with (first
       |(go_at_call 30;(with_reducible refine((HC.out _ HBR2.out).2).mono ?_);rintro e w7 ⟨y,rfl,hyM,hb7⟩;(have HBR7:=yc (HBR2.out.trans (hb7.mono HBR2.out.size)));(obtain⟨b3,o3,hq3,hb3',hc3⟩:=zq (HRD.out _ HBR7.out).2 HO1.out);cases hq3;(have t0:=hc3 0 _ rfl);(have t1:=hc3 1 _ rfl);(have t2:=hc3 2 _ rfl);(have t3:=hc3 3 _ rfl);(have t4:=hc3 4 _ rfl);(have t5:=hc3 5 _ rfl);(have t6:=hc3 6 _ rfl);cases y)
       |(go_at_call 39;(with_reducible refine((HC.out _ HBR7.out).1).mono ?_);rintro e w8 ⟨c,rfl,hcc,hb8⟩;(have hc0:(0:Int)<=(c:Int):=yj _);(have hcb:(c:Int)<=140737488375328:=by have:=hcc.1;omega)))
      ·go_ret;exact⟨false,rfl,(fun h=>by cases h),HB0.out.trans (HBR7.out.mono HB0.out.size)⟩
      ·go_roundw
       case rel=>
        refine⟨g+c,k+1,by omega,by omega,by go_num,by go_num,fun hle=>⟨(HG.out (by omega)).1,fun i q hi hq=> ?_⟩,HBR7.out.trans (hb8.mono HBR7.out.size)⟩
        by_cases hij:i<k
        ·exact(HG.out (by omega)).2 i q hij hq
        ·obtain rfl:i=k:=by omega
         obtain rfl:o=q:=Option.some.inj (HP.out.symm.trans hq);have h7:=hcc.2.2 (by omega)
         exact⟨(hyM.out (by trivial)).2.2,by omega⟩
       case measure=>simp[intOf];omega
     ·have hdg2:k<nv->decide ((g:Int)<=20000)=false:=fun h=>decide_eq_false (by omega)
      have hfin:g<=20000->FewF b f so ops:=fun hle=>by
       have h8:=HN.out;have h9:=HK.out;refine⟨by omega,by omega,h9.1,h9.2.2.1,h9.2.2.2.1,h9.2.2.2.2.1,h9.2.2.2.2.2,fun p hp=>⟨h9.2.1 p hp,(HG.out hle).1 p hp⟩,fun o ho=> ?_⟩
       obtain⟨i,hi⟩:=yQ ho;have h10:=(yi.1 hi).1;exact(HG.out hle).2 i o (by omega) hi
      have HFIN:=yc hfin;clear hfin hgo;by_cases p2:k<nv
      all_goals (try(have hdg2:=hdg2 p2))
      all_goals go_wp2_with fail
      all_goals go_ret
      all_goals first
       |exact⟨false,rfl,(fun h=>by cases h),HB0.out.trans (hbr.mono HB0.out.size)⟩
       |exact⟨_,rfl,(fun h=>HFIN.out (by have:=of_decide_eq_true h;omega)),HB0.out.trans (hbr.mono HB0.out.size)⟩)
end
end Go.Proofs.YtemofofnkchmeaaGreatDoor
