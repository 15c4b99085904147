import Derived.Test.YtemofofnkchmeaaGreatDoorL20
import Derived.Test.YtemofofnkchmeaaGreatDoorL11
import Derived.Test.YtemofofnkchmeaaGreatDoorL15
import Derived.WalkLawsBesides
import Derived.BigQuiet
import Derived.Test.YtemofofnkchmeaaGreatDoorL05
import Derived.RangeFuncNested
import Derived.RangeFuncBound
import Derived.RangeFuncCalls
import Derived.RangeFuncLeaves
import Derived.Shelf.Abstract
import Derived.OwnWalkIn
import Derived.TacticsInMore
import Derived.LoopNIn
import Derived.LoopIn
import Derived.Test.YtemofofnkchmeaaGreatDoorL10
import Derived.Test.YtemofofnkchmeaaGreatDoorL04
import Derived.Deep.RegionLaw
set_option linter.unusedSimpArgs false
set_option linter.unusedVariables false
set_option maxRecDepth 200000
set_option maxHeartbeats 8000000
namespace Go.Proofs.YtemofofnkchmeaaGreatDoor
open _root_.Array renaming replicate_succ->yX,replicate_zero->yY
open _root_.Go.RowKit.Below renaming refl->yh,setCell->yE
open _root_.Int renaming natCast_nonneg->yj
open _root_.Go.Lib renaming hid->yc
open _root_.List renaming append_toArray->yaa,cons_append->yab,eq_nil_of_length_eq_zero->yx,getElem?_eq_getElem->yf,getElem?_eq_some_iff->yi,length_cons->yB,length_nil->yS,nil_append->y6,push_toArray->yaf,size_toArray->yP,take_add_one->yD,take_of_length_le->yq
open _root_.Nat renaming add_zero->yw,le_refl->yd,mul_one->ya4,reduceAdd->yas,reduceSub->yat,zero_le->yu
open _root_.Go.Proofs.Tryz renaming prog->ye
section
open Go.RowKit Go.OpenShut
theorem ziU{os:List (ByteArray×JV)}{id:ByteArray}(h:zbj os id=true):∃p,os[zx os id]? =some p/\p.1=id/\zgt os id=p.2:=by
 unfold zbj at h;unfold zgt;cases e:os[zx os id]? with
 |none=>rw[e]at h;cases h
 |some p=>rw[e]at h;exact⟨p,rfl,by simpa using h,rfl⟩
theorem zlH(os:List (ByteArray×JV))(id:ByteArray):zx os id<=os.length:=(List.takeWhile_sublist _).length_le
theorem zlQ(b:BoxD)(r:RB)(id:ByteArray)(v:JV)(vr:RV)(w:World)(hb:BoxOf w w.heap.size b r)(hr:Rising b.objs)(ob:b.Ok)(hv:TreeOf w w.heap.size v vr)(ov:v.Ok)(hid:id.size<=140737488351232):
 Calls ye 53 #[r.val,.string id,vr.val] w (zm0 w (zbF b id v)):=by
 have hS:=PutS.start w r id vr;have HV:=yc hv;have HOV:=yc ov;have HBX:=yc hb;have HR:=yc hr;have HOB:=yc ob;have HID:=yc hid;have HSQ:Hid (b.seq=r.sq/\b.objs.length=r.no):=⟨hb.seq,hb.objs.nlen⟩;have hlo:=zlH b.objs id;clear hv ov hb hr ob hid
 go_enter Tryz.func53,Tryz.ntmps53
 go_upto_region 1 with fail
 obtain⟨W0,hW0⟩:∃W0,((((w.alloc (.cells #[.slice r.po r.no r.co,.slice r.pt r.nt r.ct,.int .i64 r.sq,.int .i64 r.fl,.int .i64 r.kp] 40)).alloc (.cells #[.string id] 9)).alloc (.cells #[.int .i64 vr.k,.int .i64 vr.n,.string vr.s,.slice vr.pl vr.nl vr.cl,.slice vr.pm vr.nm vr.cm] 25)).alloc (.cells #[.slice none 0 0,.slice none 0 0,.int .i64 0,.int .i64 0,.int .i64 0] 40))=W0:=⟨_,rfl⟩;rw[hW0]at hS⊢;clear hW0;have HS:=yc hS;have hz0:=hS.sizes;obtain⟨c0,c1,c2,c3,c4⟩:=hS.box.cells5;have s0:=hS.scell;have HPL:=yc (zfV b r id W0 (HBX.out.under hS.below hS.below.size) HR.out HOB.out);clear hS
 go_upto_region 2 with(go_at_call 80;refine HPL.out.mono ?_;rintro e w1 ⟨rfl,hb1⟩)
 have HS1:=yc (HS.out.go hb1);clear HPL HS hb1 c0 c1 c2 c3 c4 s0 hz0;have hz1:=HS1.out.sizes;have hzz:=HS1.out.size;have hBX1:=HBX.out.under HS1.out.below HS1.out.below.size;obtain⟨c0,c1,c2,c3,c4⟩:=HS1.out.box.cells5;have s0:=HS1.out.scell;obtain⟨e0,e1,e2,e3,e4⟩:=HS1.out.val.cells5;obtain⟨z0,z1,z2,z3,z4⟩:=HS1.out.zero.cells5;have y0:=HS1.out.zero.frozen 0;have y1:=HS1.out.zero.frozen 1;have y2:=HS1.out.zero.frozen 2;have y3:=HS1.out.zero.frozen 3;have y4:=HS1.out.zero.frozen 4;dsimp only[RB.zero]at z0 z1 z2 z3 z4;cases hat:zbj b.objs id with
 | false =>
   go_quiet (fail)
   have HS2:=yc (HS1.out.go (W':=w1.drewN nq) (bdn (yh _ _) nq));have hbx:=HBX.out.under HS2.out.below (yd _);obtain⟨W2,hW2⟩:∃W2,w1.drewN nq=W2:=⟨_,rfl⟩;rw[hW2]at HS2 hbx⊢;have hz2:=HS2.out.sizes;have hzz2:=HS2.out.size;clear hW2 c0 c1 c2 c3 c4 s0 e0 e1 e2 e3 e4 hz1 hzz hBX1 HS1 z0 y0 z1 y1 z2 y2 z3 y3 z4 y4;obtain⟨c0,c1,c2,c3,c4⟩:=HS2.out.box.cells5;have s0:=HS2.out.scell;obtain⟨e0,e1,e2,e3,e4⟩:=HS2.out.val.cells5;obtain⟨z0,z1,z2,z3,z4⟩:=HS2.out.zero.cells5;have y0:=HS2.out.zero.frozen 0;have y1:=HS2.out.zero.frozen 1;have y2:=HS2.out.zero.frozen 2;have y3:=HS2.out.zero.frozen 3;have y4:=HS2.out.zero.frozen 4;dsimp only[RB.zero]at z0 z1 z2 z3 z4;have hC:=zjk W2 r.pt r.nt r.ct b.trail ((rdE_iff.1 (hbx.under (yh _ _) HS2.out.below.size).trail).2) (w.heap.size+1) id s0 HOB.out.trail;have HAT:=yc hat;have HBX2:=yc hbx;clear hat hbx;cases htd:ze4 b.trail id with
   | true =>
     rw[htd]at hC;have HX:Hid (zbF b id v=(BoxD.zero,181)):=by unfold Hid zbF;rw[if_neg (by rw[HAT.out];decide),if_pos htd]
     have HC:=yc hC;clear hC htd
     go_wp2_with (go_at_call 100;refine HC.out.mono ?_;rintro e w3 ⟨rfl,hb3⟩;(have HS3:=yc (HS2.out.go hb3));clear z0 z1 z2 z3 z4 y0 y1 y2 y3 y4;(obtain⟨z0,z1,z2,z3,z4⟩:=HS3.out.zero.cells5);(have y0:=HS3.out.zero.frozen 0);(have y1:=HS3.out.zero.frozen 1);(have y2:=HS3.out.zero.frozen 2);(have y3:=HS3.out.zero.frozen 3);(have y4:=HS3.out.zero.frozen 4);dsimp only[RB.zero]at z0 z1 z2 z3 z4)
     have hz3:=HS3.out.sizes;refine bodyPost_ret (v:= .tuple #[RB.val RB.zero,.int .i64 181]) (by simp[results,Tryz.results53,go_sem,RB.zero,z0,z1,z2,z3,z4]) rfl ?_
     exact⟨RB.zero,by rw[HX.out],by rw[HX.out];exact NewBox.zero _ _ _,HS3.out.below.grown (zt _ _ RB.zero) HS3.out.below.size (fun a e=>by cases e;omega)⟩
   | false =>
     rw[htd]at hC;have HC:=yc hC;have HTD:=yc htd;clear hC htd;by_cases hfull:9007199254740991<=b.seq
     ·have HX:Hid (zbF b id v=(BoxD.zero,180)):=by unfold Hid zbF;rw[if_neg (by rw[HAT.out];decide),if_neg (by rw[HTD.out];decide),if_pos hfull]
      have hq:decide ((9007199254740991:Int)<=r.sq)=true:=by have:=HSQ.out.1;simp;omega
      clear hfull
      go_wp2_with (go_at_call 100;refine HC.out.mono ?_;rintro e w3 ⟨rfl,hb3⟩;(have HS3:=yc (HS2.out.go hb3));(have c2':=HS3.out.box.cell 2 rfl);clear z0 z1 z2 z3 z4 y0 y1 y2 y3 y4;(obtain⟨z0,z1,z2,z3,z4⟩:=HS3.out.zero.cells5);(have y0:=HS3.out.zero.frozen 0);(have y1:=HS3.out.zero.frozen 1);(have y2:=HS3.out.zero.frozen 2);(have y3:=HS3.out.zero.frozen 3);(have y4:=HS3.out.zero.frozen 4);dsimp only[RB.zero]at z0 z1 z2 z3 z4)
      have hz3:=HS3.out.sizes;refine bodyPost_ret (v:= .tuple #[RB.val RB.zero,.int .i64 180]) (by simp[results,Tryz.results53,go_sem,RB.zero,z0,z1,z2,z3,z4]) rfl ?_
      exact⟨RB.zero,by rw[HX.out],by rw[HX.out];exact NewBox.zero _ _ _,HS3.out.below.grown (zt _ _ RB.zero) HS3.out.below.size (fun a e=>by cases e;omega)⟩
     ·have HX:Hid (zbF b id v=(zeG b (b.objs.take (zx b.objs id)++(id,v)::b.objs.drop (zx b.objs id)) id 1,0)):=by unfold Hid zbF;rw[if_neg (by rw[HAT.out];decide),if_neg (by rw[HTD.out];decide),if_neg hfull]
      have hq:decide ((9007199254740991:Int)<=r.sq)=false:=by have:=HSQ.out.1;simp;omega
      have HFU:=yc hfull;clear hfull
      go_upto_region 8 with(go_at_call 100;refine HC.out.mono ?_;rintro e w3 ⟨rfl,hb3⟩;(have HS3:=yc (HS2.out.go hb3));(have c2':=HS3.out.box.cell 2 rfl))
      clear c0 c1 c2 c3 c4 c2' s0 e0 e1 e2 e3 e4 z0 y0 z1 y1 z2 y2 z3 y3 z4 y4;obtain⟨c0,c1,c2,c3,c4⟩:=HS3.out.box.cells5
      go_upto_region 9 with(go_at_call 99;refine(zgQ b r _ w.heap.size HS3.out.below.size (HBX.out.under HS3.out.below (yd _)) HOB.out).mono ?_;rintro e w4 ⟨q1,rfl,hN1,hb4⟩;(have HS4:=yc (HS3.out.go hb4));clear c0 c1 c2 c3 c4;(obtain⟨c0,c1,c2,c3,c4⟩:=HS4.out.box.cells5);(have x0:=HS4.out.box.frozen 0);(have x1:=HS4.out.box.frozen 1);(have x2:=HS4.out.box.frozen 2);(have x3:=HS4.out.box.frozen 3);(have x4:=HS4.out.box.frozen 4))
      have hz3:=HS3.out.size;have hg5:=zt w4 w.heap.size q1;have HS5:=yc (HS4.out.setBox q1 (HS4.out.box.stored q1) hg5);have hne5:=hN1.ne (g:=w.heap.size) (by omega)
      have hN5:=hN1.kept hg5 hne5.1 hne5.2 HS4.out.below.size (yd _);obtain⟨W5,hW5⟩:∃W5,(((((w4.setCell ⟨w.heap.size,0,none⟩ (.slice q1.po q1.no q1.co)).setCell ⟨w.heap.size,1,none⟩ (.slice q1.pt q1.nt q1.ct)).setCell ⟨w.heap.size,2,none⟩ (.int .i64 q1.sq)).setCell ⟨w.heap.size,3,none⟩ (.int .i64 q1.fl)).setCell ⟨w.heap.size,4,none⟩ (.int .i64 q1.kp))=W5:=⟨_,rfl⟩;have hz5:w4.heap.size=W5.heap.size:=by rw[<-hW5];simp
      rw[hW5]at HS5 hN5⊢;have hzb:=hb4.size;clear hW5 hg5 hne5 hN1 hb4 HS4 c0 c1 c2 c3 c4 x0 x1 x2 x3 x4;obtain⟨bs,hbs⟩:∃n,w3.heap.size=n:=⟨_,rfl⟩;rw[hbs]at hN5 hz3 hzb;obtain⟨ros,hro,hms⟩:=hN5.objs;have hn1:=hms.len;have hn2:=zi (hro.rd codecM);obtain⟨c0,c1,c2,c3,c4⟩:=HS5.out.box.cells5;have s0:=HS5.out.scell;obtain⟨e0,e1,e2,e3,e4⟩:=HS5.out.val.cells5;have hS6:=HS5.out.go (W':=W5.alloc (.cells #[.string id,.int .i64 vr.k,.int .i64 vr.n,.string vr.s,.slice vr.pl vr.nl vr.cl,.slice vr.pm vr.nm vr.cm] 62)) ((yh _ _).alloc (yd _) _);have hlenz:=HOB.out.objs;have hIns:=zkY (W5.alloc (.cells #[.string id,.int .i64 vr.k,.int .i64 vr.n,.string vr.s,.slice vr.pl vr.nl vr.cl,.slice vr.pm vr.nm vr.cm] 62)) bs q1.po q1.no q1.co W5.heap.size (zx b.objs id) ros ⟨id,vr⟩ (hro.alloc _) (by simp;omega) (by omega) (za rfl) (fun e=>by have:=(hro.lt W5.heap.size (by rw[e];rfl)).2;omega) (by omega)
      have HIns:=yc hIns;have HS6:=yc hS6;have HN5:=yc hN5;have HMS:=yc hms;have HRO:=yc hro;have HZB:Hid (bs<=W5.heap.size):=by unfold Hid;omega
      clear hIns hS6 hN5 hms hro hn1 hn2 hlenz hzb hz5 hbs
      go_upto_region 13 with(go_at_call 103;refine HIns.out.mono ?_;rintro e w6 ⟨p6,c6,rfl,ho6,hg6⟩;(have HS6':=yc (HS6.out.row hg6 (fun k e=>by have:=(HRO.out.lt k e).1;omega)));clear c0 c1 c2 c3 c4;(obtain⟨c0,c1,c2,c3,c4⟩:=HS6'.out.box.cells5);(have x0:=HS6'.out.box.frozen 0);(have x1:=HS6'.out.box.frozen 1);(have x2:=HS6'.out.box.frozen 2);(have x3:=HS6'.out.box.frozen 3);(have x4:=HS6'.out.box.frozen 4))
      have hg7:=zz w6 w.heap.size 0 (.slice p6 (q1.no+1) c6);have hB7:=HS6'.out.box.set0 p6 (q1.no+1) c6;have HS7:=yc (HS6'.out.setBox _ hB7 hg7);have hO7:=ho6.kept hg7 (.inr (fun e=>by have:=(ho6.lt _ e).1;omega))
      obtain⟨W7,hW7⟩:∃W7,w6.setCell ⟨w.heap.size,0,none⟩ (.slice p6 (q1.no+1) c6)=W7:=⟨_,rfl⟩;rw[hW7]at HS7 hO7 hg7⊢;have hzb7:bs<=W7.heap.size:=by have h1:=hg6.size;have h2:=hg7.size;have:=HZB.out;simp at h1;omega
      have hga:W5.grownBy w6 (Value.slice q1.po q1.no q1.co).ownBlock:=(World.grownBy_alloc _ _ _).trans hg6;have hb6:Below w.heap.size W5 w6:=(yh _ _).grown hga HS5.out.below.size (fun k e=>by have:=(HRO.out.lt k e).1;omega)
      have hMS7:MemsOf W7 w.heap.size (b.objs.take (zx b.objs id)++(id,v)::b.objs.drop (zx b.objs id)) (ros.take (zx b.objs id)++(⟨id,vr⟩:RM)::ros.drop (zx b.objs id)):=
       ((HMS.out.insert (zx b.objs id) (p:=(id,v)) (q:=⟨id,vr⟩) rfl (HV.out.under HS5.out.below (yd _))).under hb6 (yd _)).under ((yh _ _).grown hg7 (by have:=HS6'.out.below.size;omega) (fun a e=>by cases e;exact yd _)) (yd _)
      have hN6:=HN5.out.withObjs hga rfl (by decide) ho6 ((HMS.out.insert (zx b.objs id) (p:=(id,v)) (q:=⟨id,vr⟩) rfl (HV.out.under HS5.out.below (yd _))).under hb6 (yd _))
      have hne6:=hN6.ne (g:=w.heap.size) (by omega)
      have HN7:=yc (hN6.kept hg7 hne6.1 hne6.2 (by have:=HS6'.out.below.size;omega) (yd _))
      clear hW7 hg7 hB7 hO7 hga hb6 hMS7 hN6 hne6 ho6 hg6 c0 c1 c2 c3 c4 x0 x1 x2 x3 x4 s0 e0 e1 e2 e3 e4 HS6';have hz7:=HS7.out.size;have hCh:=ze9 {b with objs:=b.objs.take (zx b.objs id)++(id,v)::b.objs.drop (zx b.objs id)} ⟨p6,q1.no+1,c6,q1.pt,q1.nt,q1.ct,q1.sq,q1.fl,q1.kp⟩ W7 bs w.heap.size id 1 HS7.out.below.size hzb7 HN7.out HOB.out.seq (by have:=HFU.out;show b.seq<_;omega) HOB.out.floor HOB.out.keep (by have:=HID.out;unfold maxLen;omega) (by decide) (by have:=HOB.out.trail;show(b.trail.length+1)*32<=_;omega)
      have HCh:=yc hCh;clear hCh;obtain⟨c0,c1,c2,c3,c4⟩:=HS7.out.box.cells5;dsimp only at c0 c1 c2 c3 c4;have s0:=HS7.out.scell
      go_wp2_with (go_at_call 102;refine HCh.out.mono ?_;rintro e w8 ⟨q8,rfl,hN8,hb8⟩;(have HS8:=yc (HS7.out.go hb8));(obtain⟨z0,z1,z2,z3,z4⟩:=HS8.out.zero.cells5);(have y0:=HS8.out.zero.frozen 0);(have y1:=HS8.out.zero.frozen 1);(have y2:=HS8.out.zero.frozen 2);(have y3:=HS8.out.zero.frozen 3);(have y4:=HS8.out.zero.frozen 4);dsimp only[RB.zero]at z0 z1 z2 z3 z4)
      have hz8:=HS8.out.size;have hg9:=zt w8 (w.heap.size+1+1+1) q8;have hne9:=hN8.ne (g:=w.heap.size+1+1+1) (by omega)
      refine bodyPost_ret (v:= .tuple #[RB.val q8,.int .i64 0]) (by simp[results,Tryz.results53,go_sem,z0,z1,z2,z3,z4]) rfl ?_
      exact⟨q8,by rw[HX.out],by rw[HX.out];exact((hN8.kept hg9 hne9.1 hne9.2 HS8.out.below.size (by omega)).mono (by omega) (yd _)),HS8.out.below.grown hg9 HS8.out.below.size (fun a e=>by cases e;omega)⟩
 | true =>
   obtain⟨p,hp,hpi,hpo⟩:=ziU hat;have hi:=(yi.1 hp).1;obtain⟨ros0,hro0,hms0⟩:=HBX.out.objs;have hn0:=hms0.len;have hn1:=zi hro0;obtain⟨q,hq⟩:∃q,ros0[zx b.objs id]? =some q:=⟨_,yf (by omega)⟩
   have HTQ:=yc (hms0.val _ p q hp hq);obtain⟨b1,o1,hpo1,hb1',hc1⟩:=zq (hro0.below HS1.out.below (yd _)) hq;have f0:=hc1 0 _ rfl;have f1:=hc1 1 _ rfl;have f2:=hc1 2 _ rfl;have f3:=hc1 3 _ rfl;have f4:=hc1 4 _ rfl;have f5:=hc1 5 _ rfl;have HOP:Hid p.2.Ok:=(HOB.out.each p (List.mem_of_getElem? hp)).2;have HAT:=yc hat;have HP:=yc hp;have HPI:=yc hpi;have HPO:=yc hpo;have hi0:(0:Int)<=(zx b.objs id:Int):=yj _;have hi1:(zx b.objs id:Int)<(r.no:Int):=by omega
   have HILT:Hid (zx b.objs id<b.objs.length):=hi;have hb1w:b1<w1.heap.size:=by have:=HS1.out.below.size;omega
   have HPO1:=yc hpo1;rw[hpo1]at c0;clear hat hp hpi hpo hi hro0 hms0 hn0 hn1 hq hc1 hBX1 hpo1 hb1';have hSame:=fun(W:World) (hk:KB w1.heap.size w1 W)=>zod _ p.2 v q.v vr W (yd _) (HTQ.out.under (HS1.out.below.trans (hk.1.mono HS1.out.below.size)) (HS1.out.below.trans (hk.1.mono HS1.out.below.size)).size) (HV.out.under (HS1.out.below.trans (hk.1.mono HS1.out.below.size)) (HS1.out.below.trans (hk.1.mono HS1.out.below.size)).size) HOP.out HOV.out
   by_cases hsame:SameT p.2 v
   ·have HSM:Hid (∀W,KB w1.heap.size w1 W->Calls ye 98 #[q.v.val,vr.val] W fun e w'=>e= .returned (.bool true)/\Below W.heap.size W w'):=fun W hk=>(hSame W hk).mono fun e w' h=>h.yes hsame
    have HX:Hid (zbF b id v=(b,0)):=by unfold Hid zbF;rw[if_pos HAT.out,if_pos (by rw[HPO.out];exact hsame)]
    clear hSame hsame
    go_region_held3 (fun w'=>Below w1.heap.size w1 w'/\∀b o,b<w1.heap.size->w'.cell? ⟨b,o,none⟩=w1.cell? ⟨b,o,none⟩)
     (first|exact KB.drew w1|exact hbk)
     ((go_at_call 98;refine(HSM.out _ (by assumption)).mono ?_;rintro e w2 ⟨rfl,hbs⟩;have hbk:=KB.step (W:=w1) (by assumption) hbs))
    rename (Below w1.heap.size w1 _/\_)=>hkb
    have HS2:=yc (HS1.out.go hkb.1);clear c0 c1 c2 c3 c4 s0 e0 e1 e2 e3 e4 z0 z1 z2 z3 z4 y0 y1 y2 y3 y4 f0 f1 f2 f3 f4 f5 hz1 hzz hb1w;obtain⟨c0,c1,c2,c3,c4⟩:=HS2.out.box.cells5;have hz2:=HS2.out.size
    go_wp2_with (go_at_call 99;refine(zgQ b r _ w.heap.size HS2.out.below.size (HBX.out.under HS2.out.below (yd _)) HOB.out).mono ?_;rintro e w4 ⟨q1,rfl,hN1,hb4⟩;(have HS4:=yc (HS2.out.go hb4));(obtain⟨z0,z1,z2,z3,z4⟩:=HS4.out.zero.cells5);(have y0:=HS4.out.zero.frozen 0);(have y1:=HS4.out.zero.frozen 1);(have y2:=HS4.out.zero.frozen 2);(have y3:=HS4.out.zero.frozen 3);(have y4:=HS4.out.zero.frozen 4);dsimp only[RB.zero]at z0 z1 z2 z3 z4)
    have hg9:=zt w4 (w.heap.size+1+1+1) q1;have hne9:=hN1.ne (g:=w.heap.size+1+1+1) (by omega)
    refine bodyPost_ret (v:= .tuple #[RB.val q1,.int .i64 0]) (by simp[results,Tryz.results53,go_sem,z0,z1,z2,z3,z4]) rfl ?_
    exact⟨q1,by rw[HX.out],by rw[HX.out];exact((hN1.kept hg9 hne9.1 hne9.2 HS4.out.below.size (by omega)).mono HS2.out.below.size (yd _)),HS4.out.below.grown hg9 HS4.out.below.size (fun a e=>by cases e;omega)⟩
   ·have HSM:Hid (∀W,KB w1.heap.size w1 W->Calls ye 98 #[q.v.val,vr.val] W fun e w'=>e= .returned (.bool false)/\Below W.heap.size W w'):=fun W hk=>(hSame W hk).mono fun e w' h=>h.no hsame
    have HNS:=yc hsame;clear hSame hsame;by_cases hfull:9007199254740991<=b.seq
    ·have HX:Hid (zbF b id v=(BoxD.zero,180)):=by unfold Hid zbF;rw[if_pos HAT.out,if_neg (by rw[HPO.out];exact HNS.out),if_pos hfull]
     have hq:decide ((9007199254740991:Int)<=r.sq)=true:=by have:=HSQ.out.1;simp;omega
     clear hfull
     go_region_held3 (fun w'=>Below w1.heap.size w1 w'/\∀b o,b<w1.heap.size->w'.cell? ⟨b,o,none⟩=w1.cell? ⟨b,o,none⟩)
      (first|exact KB.drew w1|exact hbk)
      ((go_at_call 98;refine(HSM.out _ (by assumption)).mono ?_;rintro e w2 ⟨rfl,hbs⟩;have hbk:=KB.step (W:=w1) (by assumption) hbs))
     rename (Below w1.heap.size w1 _/\_)=>hkb
     have HS2:=yc (HS1.out.go hkb.1);clear c0 c1 c2 c3 c4 s0 e0 e1 e2 e3 e4 z0 z1 z2 z3 z4 y0 y1 y2 y3 y4 f0 f1 f2 f3 f4 f5 hz1 hzz hb1w;obtain⟨c0,c1,c2,c3,c4⟩:=HS2.out.box.cells5;obtain⟨z0,z1,z2,z3,z4⟩:=HS2.out.zero.cells5;have y0:=HS2.out.zero.frozen 0;have y1:=HS2.out.zero.frozen 1;have y2:=HS2.out.zero.frozen 2;have y3:=HS2.out.zero.frozen 3;have y4:=HS2.out.zero.frozen 4;dsimp only[RB.zero]at z0 z1 z2 z3 z4
     go_wp2_with fail
     refine bodyPost_ret (v:= .tuple #[RB.val RB.zero,.int .i64 180]) (by simp[results,Tryz.results53,go_sem,RB.zero,z0,z1,z2,z3,z4]) rfl ?_
     exact⟨RB.zero,by rw[HX.out],by rw[HX.out];exact NewBox.zero _ _ _,HS2.out.below.grown (zt _ _ RB.zero) HS2.out.below.size (fun a e=>by cases e;omega)⟩
    ·have HX:Hid (zbF b id v=(zeG b (b.objs.set (zx b.objs id) (id,v)) id 2,0)):=by unfold Hid zbF;rw[if_pos HAT.out,if_neg (by rw[HPO.out];exact HNS.out),if_neg hfull]
     have hq:decide ((9007199254740991:Int)<=r.sq)=false:=by have:=HSQ.out.1;simp;omega
     have HFU:=yc hfull;clear hfull
     go_region_held3 (fun w'=>Below w1.heap.size w1 w'/\∀b o,b<w1.heap.size->w'.cell? ⟨b,o,none⟩=w1.cell? ⟨b,o,none⟩)
      (first|exact KB.drew w1|exact hbk)
      ((go_at_call 98;refine(HSM.out _ (by assumption)).mono ?_;rintro e w2 ⟨rfl,hbs⟩;have hbk:=KB.step (W:=w1) (by assumption) hbs))
     rename (Below w1.heap.size w1 _/\_)=>hkb
     have HS2:=yc (HS1.out.go hkb.1);clear c0 c1 c2 c3 c4 s0 e0 e1 e2 e3 e4 z0 z1 z2 z3 z4 y0 y1 y2 y3 y4 f0 f1 f2 f3 f4 f5 hz1 hzz hb1w;obtain⟨c0,c1,c2,c3,c4⟩:=HS2.out.box.cells5
     go_upto_region 9 with(go_at_call 99;refine(zgQ b r _ w.heap.size HS2.out.below.size (HBX.out.under HS2.out.below (yd _)) HOB.out).mono ?_;rintro e w4 ⟨q1,rfl,hN1,hb4⟩;(have HS4:=yc (HS2.out.go hb4));clear c0 c1 c2 c3 c4;(obtain⟨c0,c1,c2,c3,c4⟩:=HS4.out.box.cells5);(have x0:=HS4.out.box.frozen 0);(have x1:=HS4.out.box.frozen 1);(have x2:=HS4.out.box.frozen 2);(have x3:=HS4.out.box.frozen 3);(have x4:=HS4.out.box.frozen 4))
     have hz3:=HS2.out.size;have hg5:=zt w4 w.heap.size q1;have HS5:=yc (HS4.out.setBox q1 (HS4.out.box.stored q1) hg5);have hne5:=hN1.ne (g:=w.heap.size) (by omega)
     have hN5:=hN1.kept hg5 hne5.1 hne5.2 HS4.out.below.size (yd _);obtain⟨W5,hW5⟩:∃W5,(((((w4.setCell ⟨w.heap.size,0,none⟩ (.slice q1.po q1.no q1.co)).setCell ⟨w.heap.size,1,none⟩ (.slice q1.pt q1.nt q1.ct)).setCell ⟨w.heap.size,2,none⟩ (.int .i64 q1.sq)).setCell ⟨w.heap.size,3,none⟩ (.int .i64 q1.fl)).setCell ⟨w.heap.size,4,none⟩ (.int .i64 q1.kp))=W5:=⟨_,rfl⟩;have hz5:w4.heap.size=W5.heap.size:=by rw[<-hW5];simp
     rw[hW5]at HS5 hN5⊢;have hzb:=hb4.size;clear hW5 hg5 hne5 hN1 hb4 HS4 c0 c1 c2 c3 c4 x0 x1 x2 x3 x4;obtain⟨bs,hbs⟩:∃n,w2.heap.size=n:=⟨_,rfl⟩;rw[hbs]at hN5 hz3 hzb;obtain⟨ros,hro,hms⟩:=hN5.objs;have hn1:=hms.len;have hn2:=zi (hro.rd codecM);obtain⟨x,hx⟩:∃x,ros[zx b.objs id]? =some x:=⟨_,yf (by have:=HILT.out;omega)⟩
     have hxn:x.name=id:=by rw[<-hms.name _ p x HP.out hx];exact HPI.out
     obtain⟨g,hpg,hnn,hgb,hgl,hcell,hfr⟩:=Own.at codecM hro hx;have hi2:(zx b.objs id:Int)<(q1.no:Int):=by have:=HILT.out;omega
     have HPG:=yc hpg;rw[hpg]at hro;have hst:=Own.storedVO hro hx vr;obtain⟨c0,c1,c2,c3,c4⟩:=HS5.out.box.cells5;rw[hpg]at c0;obtain⟨e0,e1,e2,e3,e4⟩:=HS5.out.val.cells5;have k0:=hcell 0 _ rfl;have k1:=hcell 1 _ rfl;have k2:=hcell 2 _ rfl;have k3:=hcell 3 _ rfl;have k4:=hcell 4 _ rfl;have k5:=hcell 5 _ rfl;rw[yw]at k0;have m1:=hfr (zx b.objs id*6+1);have m2:=hfr (zx b.objs id*6+2);have m3:=hfr (zx b.objs id*6+3);have m4:=hfr (zx b.objs id*6+4);have m5:=hfr (zx b.objs id*6+5);have HST:=yc hst;have HN5:=yc hN5;have HMS:=yc hms;have HZB:Hid (bs<=W5.heap.size):=by unfold Hid;omega
     have HXN:=yc hxn;clear hst hN5 hms hro hn1 hn2 hzb hz5 hbs hx hxn hpg hnn hcell hfr
     go_upto_region 11 with fail
     have hO7:=HST.out.1;have hg7:=HST.out.2;have hrow:some g=(Value.slice q1.po q1.no q1.co).ownBlock:=by rw[HPG.out];rfl
     have HS7:=yc (HS5.out.row hg7 (fun k e=>by cases e;omega))
     have hzb7:bs<=W5.heap.size:=HZB.out;have hm7:=((HMS.out.set (zx b.objs id) (p:=(id,v)) (q:=⟨x.name,vr⟩) HXN.out.symm (HV.out.under HS5.out.below (yd _))).under ((yh w.heap.size W5).grown hg7 HS5.out.below.size (fun k e=>by cases e;omega)) (yd _))
     have hN7:=HN5.out.withObjs hg7 hrow (by decide) hO7 hm7
     have hqq:({q1 with po:=some ⟨g,0,none⟩,no:=q1.no,co:=q1.co}:RB)=q1:=by rw[<-HPG.out]
     rw[hqq]at hN7;have HN7:=yc hN7;obtain⟨W7,hW7⟩:∃W7,(((((W5.setCell ⟨g,zx b.objs id*6+1,none⟩ (.int .i64 vr.k)).setCell ⟨g,zx b.objs id*6+2,none⟩ (.int .i64 vr.n)).setCell ⟨g,zx b.objs id*6+3,none⟩ (.string vr.s)).setCell ⟨g,zx b.objs id*6+4,none⟩ (.slice vr.pl vr.nl vr.cl)).setCell ⟨g,zx b.objs id*6+5,none⟩ (.slice vr.pm vr.nm vr.cm))=W7:=⟨_,rfl⟩;have hz7:W7.heap.size=W5.heap.size:=by rw[<-hW7];simp
     rw[hW7]at HS7 HN7⊢;clear hW7 hO7 hg7 hrow hm7 hN7 hqq HST k0 k1 k2 k3 k4 k5 m1 m2 m3 m4 m5 c0 c1 c2 c3 c4 e0 e1 e2 e3 e4;have hCh:=ze9 {b with objs:=b.objs.set (zx b.objs id) (id,v)} q1 W7 bs w.heap.size id 2 HS7.out.below.size (by omega) HN7.out HOB.out.seq (by have:=HFU.out;show b.seq<_;omega) HOB.out.floor HOB.out.keep (by have:=HID.out;unfold maxLen;omega) (by decide) (by have:=HOB.out.trail;show(b.trail.length+1)*32<=_;omega)
     have HCh:=yc hCh;have HZ7:=yc hz7;clear hCh hz7;obtain⟨c0,c1,c2,c3,c4⟩:=HS7.out.box.cells5;have s0:=HS7.out.scell
     go_wp2_with (go_at_call 102;refine HCh.out.mono ?_;rintro e w8 ⟨q8,rfl,hN8,hb8⟩;(have HS8:=yc (HS7.out.go hb8));(obtain⟨z0,z1,z2,z3,z4⟩:=HS8.out.zero.cells5);(have y0:=HS8.out.zero.frozen 0);(have y1:=HS8.out.zero.frozen 1);(have y2:=HS8.out.zero.frozen 2);(have y3:=HS8.out.zero.frozen 3);(have y4:=HS8.out.zero.frozen 4);dsimp only[RB.zero]at z0 z1 z2 z3 z4)
     have hg9:=zt w8 (w.heap.size+1+1+1) q8;have hne9:=hN8.ne (g:=w.heap.size+1+1+1) (by omega)
     refine bodyPost_ret (v:= .tuple #[RB.val q8,.int .i64 0]) (by simp[results,Tryz.results53,go_sem,z0,z1,z2,z3,z4]) rfl ?_
     exact⟨q8,by rw[HX.out],by rw[HX.out];exact((hN8.kept hg9 hne9.1 hne9.2 HS8.out.below.size (by omega)).mono (by omega) (yd _)),HS8.out.below.grown hg9 HS8.out.below.size (fun a e=>by cases e;omega)⟩
def zcy(b:BoxD)(id:ByteArray):BoxD×Int:=
 if zbj b.objs id=false then(BoxD.zero,81)else if 9007199254740991<=b.seq then(BoxD.zero,180)else(zeG b (b.objs.take (zx b.objs id)++b.objs.drop (zx b.objs id+1)) id 3,0)
structure TwoB(w W:World)(r:RB):Prop where
 box:BoxAt W w.heap.size r
 zero:BoxAt W (w.heap.size+1) RB.zero
 below:Below w.heap.size w W
section
variable {w W W':World} {r:RB} (h:TwoB w W r)
include h
theorem TwoB.size:w.heap.size+1<W.heap.size:=h.zero.lt
theorem TwoB.go(hb:Below W.heap.size W W'):TwoB w W' r:=⟨h.box.under hb h.box.lt,h.zero.under hb h.size,h.below.trans (hb.mono h.below.size)⟩
theorem TwoB.setBox(q:RB)(hq:BoxAt W' w.heap.size q)(hg:W.grownBy W' (some w.heap.size)):TwoB w W' q:=⟨hq,h.zero.kept hg (by omega),h.below.grown hg h.below.size (fun a e=>by cases e;exact yd _)⟩
theorem TwoB.row{row:Option Nat}(hg:W.grownBy W' row)(hr:∀k,row=some k->w.heap.size+1<k):TwoB w W' r:=by
 have hz:=h.size;have hb:∀k,k<=w.heap.size+1->W'.heap[k]? =W.heap[k]? :=fun k hk=>hg.block k (by omega) (fun e=>by have:=hr k e.symm;omega)
 exact⟨(hb _ (by omega)).trans h.box,(hb _ (by omega)).trans h.zero,h.below.grown hg h.below.size (fun a e=>by have:=hr a e;omega)⟩
end
theorem TwoB.start(w:World)(r:RB):TwoB w ((w.alloc (.cells #[.slice r.po r.no r.co,.slice r.pt r.nt r.ct,.int .i64 r.sq,.int .i64 r.fl,.int .i64 r.kp] 40)).alloc (.cells #[.slice none 0 0,.slice none 0 0,.int .i64 0,.int .i64 0,.int .i64 0] 40)) r:=⟨zb (by simp) (za rfl),za (by simp),zM _ _ _⟩
theorem zjX(b:BoxD)(r:RB)(id:ByteArray)(w:World)(hb:BoxOf w w.heap.size b r)(hr:Rising b.objs)(ob:b.Ok)(hid:id.size<=140737488351232):
 Calls ye 54 #[r.val,.string id] w (zm0 w (zcy b id)):=by
 have hS:=TwoB.start w r;have HBX:=yc hb;have HR:=yc hr;have HOB:=yc ob;have HID:=yc hid;have HSQ:Hid (b.seq=r.sq/\b.objs.length=r.no):=⟨hb.seq,hb.objs.nlen⟩;clear hb hr ob hid
 go_enter Tryz.func54,Tryz.ntmps54
 go_upto_region 1 with fail
 obtain⟨W0,hW0⟩:∃W0,((w.alloc (.cells #[.slice r.po r.no r.co,.slice r.pt r.nt r.ct,.int .i64 r.sq,.int .i64 r.fl,.int .i64 r.kp] 40)).alloc (.cells #[.slice none 0 0,.slice none 0 0,.int .i64 0,.int .i64 0,.int .i64 0] 40))=W0:=⟨_,rfl⟩;rw[hW0]at hS⊢;clear hW0;have HS:=yc hS;have hz0:=hS.size;obtain⟨c0,c1,c2,c3,c4⟩:=hS.box.cells5;have HPL:=yc (zfV b r id W0 (HBX.out.under hS.below hS.below.size) HR.out HOB.out);clear hS
 go_upto_region 2 with(go_at_call 80;refine HPL.out.mono ?_;rintro e w1 ⟨rfl,hb1⟩)
 have HS1:=yc (HS.out.go hb1);clear HPL HS hb1 c0 c1 c2 c3 c4 hz0;have hz1:=HS1.out.size;obtain⟨c0,c1,c2,c3,c4⟩:=HS1.out.box.cells5;obtain⟨z0,z1,z2,z3,z4⟩:=HS1.out.zero.cells5;have y0:=HS1.out.zero.frozen 0;have y1:=HS1.out.zero.frozen 1;have y2:=HS1.out.zero.frozen 2;have y3:=HS1.out.zero.frozen 3;have y4:=HS1.out.zero.frozen 4;dsimp only[RB.zero]at z0 z1 z2 z3 z4;cases hat:zbj b.objs id with
 | false =>
   have HX:Hid (zcy b id=(BoxD.zero,81)):=by unfold Hid zcy;rw[if_pos hat]
   clear hat
   go_wp2_with fail
   refine bodyPost_ret (v:= .tuple #[RB.val RB.zero,.int .i64 81]) (by simp[results,Tryz.results54,go_sem,RB.zero,z0,z1,z2,z3,z4]) rfl ?_
   exact⟨RB.zero,by rw[HX.out],by rw[HX.out];exact NewBox.zero _ _ _,HS1.out.below.grown (zt _ _ RB.zero) HS1.out.below.size (fun a e=>by cases e;omega)⟩
 | true =>
   obtain⟨p,hp,hpi,hpo⟩:=ziU hat;have hi:=(yi.1 hp).1;have HAT:=yc hat;have HILT:Hid (zx b.objs id<b.objs.length):=hi;have HP:=yc hp;clear hat hp hpi hpo hi;by_cases hfull:9007199254740991<=b.seq
   ·have HX:Hid (zcy b id=(BoxD.zero,180)):=by unfold Hid zcy;rw[if_neg (by rw[HAT.out];decide),if_pos hfull]
    have hq:decide ((9007199254740991:Int)<=r.sq)=true:=by have:=HSQ.out.1;simp;omega
    clear hfull
    go_wp2_with fail
    refine bodyPost_ret (v:= .tuple #[RB.val RB.zero,.int .i64 180]) (by simp[results,Tryz.results54,go_sem,RB.zero,z0,z1,z2,z3,z4]) rfl ?_
    exact⟨RB.zero,by rw[HX.out],by rw[HX.out];exact NewBox.zero _ _ _,HS1.out.below.grown (zt _ _ RB.zero) HS1.out.below.size (fun a e=>by cases e;omega)⟩
   ·have HX:Hid (zcy b id=(zeG b (b.objs.take (zx b.objs id)++b.objs.drop (zx b.objs id+1)) id 3,0)):=by unfold Hid zcy;rw[if_neg (by rw[HAT.out];decide),if_neg hfull]
    have hq:decide ((9007199254740991:Int)<=r.sq)=false:=by have:=HSQ.out.1;simp;omega
    have HFU:=yc hfull;clear hfull;clear z0 z1 z2 z3 z4 y0 y1 y2 y3 y4
    go_upto_region 7 with(go_at_call 99;refine(zgQ b r _ w.heap.size HS1.out.below.size (HBX.out.under HS1.out.below (yd _)) HOB.out).mono ?_;rintro e w4 ⟨q1,rfl,hN1,hb4⟩;(have HS4:=yc (HS1.out.go hb4));clear c0 c1 c2 c3 c4;(obtain⟨c0,c1,c2,c3,c4⟩:=HS4.out.box.cells5);(have x0:=HS4.out.box.frozen 0);(have x1:=HS4.out.box.frozen 1);(have x2:=HS4.out.box.frozen 2);(have x3:=HS4.out.box.frozen 3);(have x4:=HS4.out.box.frozen 4))
    have hg5:=zt w4 w.heap.size q1;have HS5:=yc (HS4.out.setBox q1 (HS4.out.box.stored q1) hg5);have hne5:=hN1.ne (g:=w.heap.size) (by omega)
    have hN5:=hN1.kept hg5 hne5.1 hne5.2 HS4.out.below.size (yd _);obtain⟨W5,hW5⟩:∃W5,(((((w4.setCell ⟨w.heap.size,0,none⟩ (.slice q1.po q1.no q1.co)).setCell ⟨w.heap.size,1,none⟩ (.slice q1.pt q1.nt q1.ct)).setCell ⟨w.heap.size,2,none⟩ (.int .i64 q1.sq)).setCell ⟨w.heap.size,3,none⟩ (.int .i64 q1.fl)).setCell ⟨w.heap.size,4,none⟩ (.int .i64 q1.kp))=W5:=⟨_,rfl⟩;have hz5:w4.heap.size=W5.heap.size:=by rw[<-hW5];simp
    rw[hW5]at HS5 hN5⊢;have hzb:=hb4.size;clear hW5 hg5 hne5 hN1 hb4 HS4 c0 c1 c2 c3 c4 x0 x1 x2 x3 x4;obtain⟨bs,hbs⟩:∃n,w1.heap.size=n:=⟨_,rfl⟩;rw[hbs]at hN5 hz1 hzb;obtain⟨ros,hro,hms⟩:=hN5.objs;have hn1:=hms.len;have hn2:=zi (hro.rd codecM);have hlenz:=HOB.out.objs;obtain⟨c0,c1,c2,c3,c4⟩:=HS5.out.box.cells5;have x0:=HS5.out.box.frozen 0;have hDel:=zkQ W5 bs q1.po q1.no q1.co (zx b.objs id) ros hro (by omega) (by have:=HILT.out;omega) (by omega)
    have hrowb:(Value.slice q1.po (q1.no-1) q1.co).ownBlock=(Value.slice q1.po q1.no q1.co).ownBlock:=by cases q1.po<;>rfl
    unfold zm1 at hDel;rw[hrowb]at hDel;have HDel:=yc hDel;clear hrowb;have HN5:=yc hN5;have HMS:=yc hms;have HRO:=yc hro;have HZB:Hid (bs<=W5.heap.size):=by unfold Hid;omega
    have hnn:(zx b.objs id:Int)<=1466015503658:=by have:=HILT.out;omega
    have hnn0:(0:Int)<=(zx b.objs id:Int):=yj _;clear hDel hN5 hms hro hn1 hn2 hlenz hzb hz5 hbs
    go_upto_region 8 with(go_at_call 104;refine HDel.out.mono ?_;rintro e w6 ⟨rfl,ho6,hg6⟩;(have HS6':=yc (HS5.out.row hg6 (fun k e=>by have:=(HRO.out.lt k e).1;omega)));clear c0 c1 c2 c3 c4 x0;(obtain⟨c0,c1,c2,c3,c4⟩:=HS6'.out.box.cells5);(have x0:=HS6'.out.box.frozen 0);(have x1:=HS6'.out.box.frozen 1);(have x2:=HS6'.out.box.frozen 2);(have x3:=HS6'.out.box.frozen 3);(have x4:=HS6'.out.box.frozen 4))
    have hg7:=zz w6 w.heap.size 0 (.slice q1.po (q1.no-1) q1.co);have hB7:=HS6'.out.box.set0 q1.po (q1.no-1) q1.co;have HS7:=yc (HS6'.out.setBox _ hB7 hg7);obtain⟨W7,hW7⟩:∃W7,w6.setCell ⟨w.heap.size,0,none⟩ (.slice q1.po (q1.no-1) q1.co)=W7:=⟨_,rfl⟩;rw[hW7]at HS7 hg7⊢;have hzb7:bs<=W7.heap.size:=by have h1:=hg6.size;have h2:=hg7.size;have:=HZB.out;omega
    have hb6:Below w.heap.size W5 w6:=(yh _ _).grown hg6 HS5.out.below.size (fun k e=>by have:=(HRO.out.lt k e).1;omega)
    have hN6:=HN5.out.withObjs hg6 rfl (by decide) ho6 ((HMS.out.delete (zx b.objs id)).under hb6 (yd _))
    have hne6:=hN6.ne (g:=w.heap.size) (by omega)
    have HN7:=yc (hN6.kept hg7 hne6.1 hne6.2 (by have:=HS6'.out.below.size;omega) (yd _))
    clear hW7 hg7 hB7 hb6 hN6 hne6 ho6 hg6 c0 c1 c2 c3 c4 x0 x1 x2 x3 x4 HS6' HDel;have hz7:=HS7.out.size;have hCh:=ze9 {b with objs:=b.objs.take (zx b.objs id)++b.objs.drop (zx b.objs id+1)} ⟨q1.po,q1.no-1,q1.co,q1.pt,q1.nt,q1.ct,q1.sq,q1.fl,q1.kp⟩ W7 bs w.heap.size id 3 HS7.out.below.size hzb7 HN7.out HOB.out.seq (by have:=HFU.out;show b.seq<_;omega) HOB.out.floor HOB.out.keep (by have:=HID.out;unfold maxLen;omega) (by decide) (by have:=HOB.out.trail;show(b.trail.length+1)*32<=_;omega)
    have HCh:=yc hCh;clear hCh;obtain⟨c0,c1,c2,c3,c4⟩:=HS7.out.box.cells5;dsimp only at c0 c1 c2 c3 c4
    go_wp2_with (go_at_call 102;refine HCh.out.mono ?_;rintro e w8 ⟨q8,rfl,hN8,hb8⟩;(have HS8:=yc (HS7.out.go hb8));(obtain⟨z0,z1,z2,z3,z4⟩:=HS8.out.zero.cells5);(have y0:=HS8.out.zero.frozen 0);(have y1:=HS8.out.zero.frozen 1);(have y2:=HS8.out.zero.frozen 2);(have y3:=HS8.out.zero.frozen 3);(have y4:=HS8.out.zero.frozen 4);dsimp only[RB.zero]at z0 z1 z2 z3 z4)
    have hz8:=HS8.out.size;have hg9:=zt w8 (w.heap.size+1) q8;have hne9:=hN8.ne (g:=w.heap.size+1) (by omega)
    refine bodyPost_ret (v:= .tuple #[RB.val q8,.int .i64 0]) (by simp[results,Tryz.results54,go_sem,z0,z1,z2,z3,z4]) rfl ?_
    exact⟨q8,by rw[HX.out],by rw[HX.out];exact((hN8.kept hg9 hne9.1 hne9.2 HS8.out.below.size (by omega)).mono (by omega) (yd _)),HS8.out.below.grown hg9 HS8.out.below.size (fun a e=>by cases e;omega)⟩
def zei(n hi:Int):Int:=if n<0 then 0 else if hi<n then hi else n
theorem zoP{n hi:Int}(h:0<=hi:=by decide):min (max n 0) hi=zei n hi:=by unfold zei;split<;>(try split)<;>omega
def newB(start keep:Int):BoxD:=⟨[],[],zei start 9007199254740991,zei start 9007199254740991,zei keep 1000⟩
def zgs(start keep:Int):RB:=⟨none,0,0,none,0,0,zei start 9007199254740991,zei start 9007199254740991,zei keep 1000⟩
theorem zq6(w:World)(B:Nat)(start keep:Int):BoxOf w B (newB start keep) (zgs start keep):=⟨ObjsOf.nil _ _,RdE.nil _ _,rfl,rfl,rfl⟩
def zqm(w:World)(start keep:Int)(e:Ending)(w':World):Prop:=e= .returned (RB.val (zgs start keep))/\Below w.heap.size w w'
theorem zq7(start keep:Int)(w:World):Calls ye 35 #[.int .i64 start,.int .i64 keep] w (zqm w start keep):=by
 have hZ0:BoxAt (w.alloc (.cells #[.slice none 0 0,.slice none 0 0,.int .i64 0,.int .i64 0,.int .i64 0] 40)) w.heap.size RB.zero:=za rfl;have hB0:Below w.heap.size w (w.alloc (.cells #[.slice none 0 0,.slice none 0 0,.int .i64 0,.int .i64 0,.int .i64 0] 40)):=(yh _ _).alloc (yd _) _
 go_enter Tryz.func35,Tryz.ntmps35
 go_upto_region 1 with fail
 obtain⟨W0,hW0⟩:∃W0,(w.alloc (.cells #[.slice none 0 0,.slice none 0 0,.int .i64 0,.int .i64 0,.int .i64 0] 40))=W0:=⟨_,rfl⟩;rw[hW0]at hZ0 hB0⊢;clear hW0;obtain⟨z0,z1,z2,z3,z4⟩:=hZ0.cells5;dsimp only[RB.zero]at z0 z1 z2 z3 z4;have y0:=hZ0.frozen 0;have y1:=hZ0.frozen 1;have y2:=hZ0.frozen 2;have y3:=hZ0.frozen 3;have y4:=hZ0.frozen 4;have HZ:=yc hZ0;have HB:=yc hB0;clear hZ0 hB0
 go_wp2_with fail
 have hS:=HZ.out.stored (zgs start keep);have hg:=zt W0 w.heap.size (zgs start keep);refine bodyPost_ret (v:=RB.val (zgs start keep)) (by simp[results,Tryz.results35,go_sem,zgs,zoP,z0,z1,z2,z3,z4]) rfl ⟨rfl,?_⟩
 exact yE (yE (yE (yE (yE HB.out (yd _) _) (yd _) _) (yd _) _) (yd _) _) (yd _) _
theorem zga(w:World)(B:Nat)(u v:Value)(l m:List ByteArray)(hu:Rd w B zg 1 u l)(hv:Rd w B zg 1 v m):
 Calls ye 25 #[u,v] w fun e w'=>e= .returned (.bool (decide (l=m)))/\∃n,w'=w.drewN n:=by
 obtain⟨p,c,rfl,hlc,hcm⟩:=zfq hu;obtain⟨q,d,rfl,hmd,hdm⟩:=zfq hv;have HU:=yc hu;have HV:=yc hv;clear hu hv;by_cases hlen:l.length=m.length
 ·have hb:((l.length:Int) !=(m.length:Int))=false:=by simp[hlen]
  have HL:=yc hlen;have hle:l.length<=m.length:=by omega
  have hle2:m.length<=l.length:=by omega
  clear hlen
  go_enter Tryz.func25,Tryz.ntmps25
  go_wp2_with fail
  go_loopw [5] (fun i wr=>∃k:Nat,k<=l.length/\i= .int .i64 k/\Hid (l.take k=m.take k)/\∃n,wr=w.drewN n) (fun i _=>l.length-(intOf i).toNat)
  case atStart=>exact⟨0,yu _,rfl,rfl,0,rfl⟩
  case round=>
   obtain⟨k,hk,rfl,htk,nr,rfl⟩:=hrel;by_cases hlt:k<l.length
   ·obtain⟨x,hx⟩:∃x,l[k]? =some x:=⟨_,yf hlt⟩;obtain⟨y,hy⟩:∃x,m[k]? =some x:=⟨_,yf (by omega)⟩
    obtain⟨b1,o1,rfl,hb1,hc1⟩:=zqi HU.out hx;obtain⟨b2,o2,rfl,hb2,hc2⟩:=zqi HV.out hy;have f0:=hc1 0 _ rfl;have g0:=hc2 0 _ rfl;rw[yw,ya4]at f0 g0;have hk0:(0:Int)<=(k:Int):=yj _;have hk1:(k:Int)<(l.length:Int):=by omega
    have hk2:(k:Int)<(m.length:Int):=by omega
    have hq:=zdk x y;by_cases hxy:x=y
    ·have e2:(x.toList==y.toList)=true:=by rw[hq];simpa using hxy
     have e1:(x.toList !=y.toList)=false:=by rw[bne,e2];rfl
     have HTK:Hid (l.take (k+1)=m.take (k+1)):=by
      unfold Hid;rw[yD,yD,hx,hy,htk.out,hxy]
     clear hx hy hc1 hc2 hq hxy htk
     go_wp2_with fail
     go_quiet (fail)
     go_wp2_with fail
     go_roundw
     case rel=>exact⟨k+1,by omega,by go_num,HTK,_,rfl⟩
     case measure=>simp[intOf];omega
    ·have e2:(x.toList==y.toList)=false:=by rw[hq];simpa using hxy
     have e1:(x.toList !=y.toList)=true:=by rw[bne,e2];rfl
     have HNO:Hid (decide (l=m)=false):=znu hx hy hxy;clear hx hy hc1 hc2 hq hxy htk
     go_wp2_with fail
     go_quiet (fail)
     go_wp2_with fail
     go_ret;exact⟨zbU HNO.out.symm,_,World.drewN_drewN _ _ _⟩
   ·obtain rfl:k=l.length:=by omega
    have HYES:Hid (decide (l=m)=true):=by
     have h:=htk.out;rw[yq (yd _),yq hle2]at h;unfold Hid;simpa using h
    go_wp2_with fail
    go_ret;exact⟨zbU HYES.out.symm,_,rfl⟩
 ·have hb:((l.length:Int) !=(m.length:Int))=true:=by simp;omega
  have HNO:Hid (decide (l=m)=false):=by unfold Hid;rw[decide_eq_false_iff_not];exact fun h=>hlen (by rw[h])
  clear hlen
  go_enter Tryz.func25,Tryz.ntmps25
  go_wp2_with fail
  go_ret;exact⟨zbU HNO.out.symm,0,rfl⟩
end
section
open Go.RowKit Go.Shelf
attribute [local go_sem] Oper.semAt_some
def Kq(n₀ Bs:Nat)(W W':World):Prop:=Below n₀ W W'/\W'.heap[Bs]? =W.heap[Bs]?
theorem Kq.refl(n₀ Bs:Nat)(W:World):Kq n₀ Bs W W:=⟨yh _ _,rfl⟩
theorem Kq.trans{n₀ Bs:Nat}{A B C:World}(h:Kq n₀ Bs A B)(k:Kq n₀ Bs B C):Kq n₀ Bs A C:=⟨h.1.trans k.1,k.2.trans h.2⟩
theorem Kq.book{n₀ Bs:Nat}{w:World}(hn:n₀<=w.heap.size)(hB:Bs<w.heap.size)(W:World)(l:Nat)(o o':Obj)(hl:w.heap.size<=l)(h:W.heap[l]? =some o)(h1:o.isCells=false)(h2:o.isWalk=false):Kq n₀ Bs W (W.putObj l o'):=
 ⟨belowK_b hn W l o o' hl h h1 h2,World.putObj_heap_other (by omega)⟩
theorem Kq.cell{n₀ Bs:Nat}{W W':World}(h:Kq n₀ Bs W W'){v:Value}(hc:W.cell? ⟨Bs,0,none⟩=some v):W'.cell? ⟨Bs,0,none⟩=some v:=(World.cell?_of_block (w:=W) h.2).trans hc
def zQ{α:Type}(xs:List α)(k:Nat):List (Nat×α):=(xs.zipIdx.reverse.take k).map fun p=>(p.2,p.1)
theorem ze7{α:Type}(xs:List α)(k j:Nat)(x:α)(hk:k<xs.length)(hj:xs.length-1-k=j)(hx:xs[j]? =some x):zQ xs (k+1)=zQ xs k++[(j,x)]:=by
 subst hj;unfold zQ;rw[yD,List.getElem?_reverse (by simpa using hk),List.length_zipIdx,List.getElem?_zipIdx,hx]
 simp
theorem zcS{α:Type}(xs:List α)(k:Nat)(hk:k<=xs.length):(zQ xs k).length=k:=by simp[zQ];omega
theorem zlW{α:Type}(xs:List α):(zQ xs xs.length).map (·.2)=xs.reverse:=by
 unfold zQ;rw[yq (by simp),List.map_map,List.map_reverse]
 congr 1
 apply List.ext_getElem
 ·simp
 ·intro i h1 h2;simp
abbrev OkE:={e:En//e.ok}
def zl9(x:OkE):List Value:=zbh x.1
theorem zm7(F:Fence)(n:Nat)(h7:F.fn 133)(hro:F.round=none)(hn:1<=n)(l Bs n₀ b off cap:Nat)(xs:List OkE)(hlen:xs.length<=4398046511104)(hb:b<n₀)(J Jx:List (Nat×OkE)->World->Prop)
 (hY:∀pre x W,J pre W->pre.length<xs.length->YieldAt F (n-1) ye l #[.int .i64 (x.1:Nat),.agg #[.int .i64 x.2.1.seq,.string x.2.1.id,.int .i64 x.2.1.what]] W fun e W'=>
  (e= .returned (.bool true)/\J (pre++[x]) W'/\Kq n₀ Bs W W')\/(e= .returned (.bool false)/\Jx (pre++[x]) W'))
 (W:World) (hBs:W.cell? ⟨Bs,0,none⟩=some (.slice (some ⟨b,off,none⟩) xs.length cap)) (hc:RowAt W b off zl9 3 xs) (h0:J [] W):
 CallsIn F n ye 133 #[.func (.yield l) #[] #[],.pointer (some ⟨Bs,0,none⟩)] W fun e W'=>(∃v,e= .returned v)/\
  ((∃ys,ys=zQ xs xs.length/\J ys W')\/(∃pre,True/\Jx pre W')):=by
 refine callsIn_of_wp Tryz.func133 rfl h7 ?_ hro;simp only[Tryz.ntmps133,yP,yB,yS,yas,yat,yX,yY,yaf,yaa,y6,yab]
 gi_wp2
 gi_loopw [3] (fun i wr=>∃k:Nat,k<=xs.length/\i= .int .i64 ((xs.length:Int)-1-(k:Int))/\J (zQ xs k) wr/\Kq n₀ Bs W wr)
  (fun i _=>(intOf i+1).toNat)
 case atStart=>exact⟨0,yu _,by congr 1;omega,h0,Kq.refl _ _ _⟩
 case round=>
  obtain⟨k,hk,rfl,hJs,hnx⟩:=hrel;have hcs:=hnx.cell hBs;by_cases hlt:k<xs.length
  ·obtain⟨j,hj⟩:∃j,xs.length-1-k=j:=⟨_,rfl⟩;have ej:(xs.length:Int)-1-(k:Int)=(j:Int):=by omega
   have hjl:j<xs.length:=by omega
   obtain⟨x,hx⟩:∃x,xs[j]? =some x:=⟨_,yf hjl⟩;obtain⟨fn,tmps,assign,body,hy,hR⟩:=hY _ (j,x) wr hJs (by rw[zcS _ _ hk];exact hlt)
   dsimp only at hy;have c0:=zc hnx.1 hb (hc j x hx 0 _ rfl);have c1:=zc hnx.1 hb (hc j x hx 1 _ rfl);have c2:=zc hnx.1 hb (hc j x hx 2 _ rfl);rw[yw]at c0;have hT:Hid (zQ xs (k+1)=zQ xs k++[(j,x)]):=ze7 xs k j x hlt hj hx;have HJ:=yc hj;clear hj hx hY;have hR':=yc hR;clear hR
   gi_wp2
   refine hR'.out.mono ?_;rintro e W3 (⟨rfl,hJ3,hk3⟩|⟨rfl,hJx3⟩)
   ·gi_wp2
    go_roundw
    case rel=>exact⟨k+1,by omega,by congr 1;omega,by rw[hT.out];exact hJ3,hnx.trans hk3⟩
    case measure=>simp[intOf];omega
   ·gi_wp2
    refine bodyPost_ret (results_none rfl _ _ _) rfl ?_;exact⟨⟨_,rfl⟩,.inr ⟨_,trivial,hJx3⟩⟩
  ·obtain rfl:k=xs.length:=by omega
   gi_wp2
   go_end0
   exact⟨⟨_,rfl⟩,.inl ⟨_,rfl,hJs⟩⟩
theorem zhB(pa:Option Addr)(ca:Nat)(F:Fence)(n:Nat)(h7:F.fn 133)(hro:F.round=none)(l Bs:Nat)(J:List (Nat×OkE)->World->Prop)(W:World)(hBs:W.cell? ⟨Bs,0,none⟩=some (.slice pa 0 ca))(h0:J [] W):
 CallsIn F n ye 133 #[.func (.yield l) #[] #[],.pointer (some ⟨Bs,0,none⟩)] W fun e W'=>(∃v,e= .returned v)/\J [] W':=by
 refine callsIn_of_wp Tryz.func133 rfl h7 ?_ hro;simp only[Tryz.ntmps133,yP,yB,yS,yas,yat,yX,yY,yaf,yaa,y6,yab]
 gi_wp2
 gi_loopw [3] (fun i wr=>i= .int .i64 (-1)/\J [] wr) (fun _ _=>0)
 case atStart=>exact⟨rfl,h0⟩
 case round=>
  obtain⟨rfl,hJs⟩:=hrel
  gi_wp2
  go_end0
  exact⟨⟨_,rfl⟩,hJs⟩
theorem zoI(F:Fence)(n:Nat)(h5:F.fn 82)(hro:F.round=none)(v:Value)(w:World)(hv:∃a len cap,v= .slice a len cap):
 CallsIn F n ye 82 #[v] w fun e w'=>e= .returned (.func (.func 133) #[] #[.pointer (some ⟨w.heap.size,0,none⟩)])/\w'=w.alloc (.cells #[v] 38):=by
 obtain⟨a,len,cap,rfl⟩:=hv;refine callsIn_of_wp Tryz.func82 rfl h5 ?_ hro;simp only[Tryz.ntmps82,yP,yB,yS,yas,yat,yX,yY,yaf,yaa,y6,yab]
 gi_wp2
 go_ret;exact⟨rfl,rfl⟩
theorem zkB(F:Fence)(n:Nat)(h7:F.fn 133)(hro:F.round=none)(hn:1<=n)(Bs n₀:Nat)(v:Value)(xs:List OkE)(hlen:xs.length<=4398046511104)(w:World)(hBs:Bs<w.heap.size)(hn₀:n₀<=w.heap.size)
 (hc:w.cell? ⟨Bs,0,none⟩=some v) (hv:Rd w n₀ zl9 3 v xs):
 SeqStopsK F n ye 133 #[.pointer (some ⟨Bs,0,none⟩)] (fun x:Nat×OkE=>#[.int .i64 (x.1:Nat),.agg #[.int .i64 x.2.1.seq,.string x.2.1.id,.int .i64 x.2.1.what]]) (Kq n₀ Bs) (fun ys=>ys=zQ xs xs.length) (fun _=>True) xs.length w:=fun l J Jx W hW _ _ hY h0=>by
 have hc':=(hW.cell (p:=⟨Bs,0,none⟩) hBs).trans hc;obtain⟨p,cap,rfl,h1,h2,h3,h4⟩:=hv;cases p with
 | none =>
   have hc0:cap=0:=h3 rfl;have hx:xs=[]:=yx (by omega)
   subst hx hc0;exact(zhB _ _ F n h7 hro l Bs J W hc' h0).mono fun e W' ⟨he,hj⟩=>⟨he,.inl ⟨_,rfl,hj⟩⟩
 | some a =>
   by_cases hx0:xs.length=0
   ·have hx:xs=[]:=yx hx0;subst hx;exact(zhB _ _ F n h7 hro l Bs J W hc' h0).mono fun e W' ⟨he,hj⟩=>⟨he,.inl ⟨_,rfl,hj⟩⟩
   obtain⟨b,o,rfl,hb,hr⟩:=h4 a rfl (by omega)
   exact zm7 F n h7 hro hn l Bs n₀ b o cap xs hlen hb J Jx hY W hc' (hr.below hW (by omega)) h0
def zfK(b:Nat):List Value:=[.pointer (some ⟨b,0,none⟩)]
theorem zqE:Codec zfK 1:=⟨fun _=>rfl,fun x u hu=>by
 simp only[zfK,List.mem_cons,List.not_mem_nil,or_false]at hu
 rcases hu with rfl;rfl,by decide⟩
variable {p:Nat->Prop}
def zjG(x:{b:Nat//p b}):List Value:=zfK x.1
theorem zm8(F:Fence)(n:Nat)(h7:F.fn 134)(hro:F.round=none)(hn:1<=n)(l Bs n₀ b off cap:Nat)(xs:List {b:Nat//p b})(hlen:xs.length<=17592186044416)(hb:b<n₀)(J Jx:List (Nat×{b:Nat//p b})->World->Prop)
 (hY:∀pre x W,J pre W->pre.length<xs.length->YieldAt F (n-1) ye l #[.int .i64 (x.1:Nat),.pointer (some ⟨x.2.1,0,none⟩)] W fun e W'=>
  (e= .returned (.bool true)/\J (pre++[x]) W'/\Kq n₀ Bs W W')\/(e= .returned (.bool false)/\Jx (pre++[x]) W'))
 (W:World) (hBs:W.cell? ⟨Bs,0,none⟩=some (.slice (some ⟨b,off,none⟩) xs.length cap)) (hc:RowAt W b off zjG 1 xs) (h0:J [] W):
 CallsIn F n ye 134 #[.func (.yield l) #[] #[],.pointer (some ⟨Bs,0,none⟩)] W fun e W'=>(∃v,e= .returned v)/\
  ((∃ys,ys=zQ xs xs.length/\J ys W')\/(∃pre,True/\Jx pre W')):=by
 refine callsIn_of_wp Tryz.func134 rfl h7 ?_ hro;simp only[Tryz.ntmps134,yP,yB,yS,yas,yat,yX,yY,yaf,yaa,y6,yab]
 gi_wp2
 gi_loopw [3] (fun i wr=>∃k:Nat,k<=xs.length/\i= .int .i64 ((xs.length:Int)-1-(k:Int))/\J (zQ xs k) wr/\Kq n₀ Bs W wr)
  (fun i _=>(intOf i+1).toNat)
 case atStart=>exact⟨0,yu _,by congr 1;omega,h0,Kq.refl _ _ _⟩
 case round=>
  obtain⟨k,hk,rfl,hJs,hnx⟩:=hrel;have hcs:=hnx.cell hBs;by_cases hlt:k<xs.length
  ·obtain⟨j,hj⟩:∃j,xs.length-1-k=j:=⟨_,rfl⟩;have ej:(xs.length:Int)-1-(k:Int)=(j:Int):=by omega
   have hjl:j<xs.length:=by omega
   obtain⟨x,hx⟩:∃x,xs[j]? =some x:=⟨_,yf hjl⟩;obtain⟨fn,tmps,assign,body,hy,hR⟩:=hY _ (j,x) wr hJs (by rw[zcS _ _ hk];exact hlt)
   dsimp only at hy;have c0:=zc hnx.1 hb (hc j x hx 0 _ rfl);rw[yw,ya4]at c0;have hT:Hid (zQ xs (k+1)=zQ xs k++[(j,x)]):=ze7 xs k j x hlt hj hx;have HJ:=yc hj;clear hj hx hY;have hR':=yc hR;clear hR
   gi_wp2
   refine hR'.out.mono ?_;rintro e W3 (⟨rfl,hJ3,hk3⟩|⟨rfl,hJx3⟩)
   ·gi_wp2
    go_roundw
    case rel=>exact⟨k+1,by omega,by congr 1;omega,by rw[hT.out];exact hJ3,hnx.trans hk3⟩
    case measure=>simp[intOf];omega
   ·gi_wp2
    refine bodyPost_ret (results_none rfl _ _ _) rfl ?_;exact⟨⟨_,rfl⟩,.inr ⟨_,trivial,hJx3⟩⟩
  ·obtain rfl:k=xs.length:=by omega
   gi_wp2
   go_end0
   exact⟨⟨_,rfl⟩,.inl ⟨_,rfl,hJs⟩⟩
theorem zhC(pa:Option Addr)(ca:Nat)(F:Fence)(n:Nat)(h7:F.fn 134)(hro:F.round=none)(l Bs:Nat)(J:List (Nat×{b:Nat//p b})->World->Prop)(W:World)(hBs:W.cell? ⟨Bs,0,none⟩=some (.slice pa 0 ca))(h0:J [] W):
 CallsIn F n ye 134 #[.func (.yield l) #[] #[],.pointer (some ⟨Bs,0,none⟩)] W fun e W'=>(∃v,e= .returned v)/\J [] W':=by
 refine callsIn_of_wp Tryz.func134 rfl h7 ?_ hro;simp only[Tryz.ntmps134,yP,yB,yS,yas,yat,yX,yY,yaf,yaa,y6,yab]
 gi_wp2
 gi_loopw [3] (fun i wr=>i= .int .i64 (-1)/\J [] wr) (fun _ _=>0)
 case atStart=>exact⟨rfl,h0⟩
 case round=>
  obtain⟨rfl,hJs⟩:=hrel
  gi_wp2
  go_end0
  exact⟨⟨_,rfl⟩,hJs⟩
theorem zoJ(F:Fence)(n:Nat)(h5:F.fn 83)(hro:F.round=none)(v:Value)(w:World)(hv:∃a len cap,v= .slice a len cap):
 CallsIn F n ye 83 #[v] w fun e w'=>e= .returned (.func (.func 134) #[] #[.pointer (some ⟨w.heap.size,0,none⟩)])/\w'=w.alloc (.cells #[v] 139):=by
 obtain⟨a,len,cap,rfl⟩:=hv;refine callsIn_of_wp Tryz.func83 rfl h5 ?_ hro;simp only[Tryz.ntmps83,yP,yB,yS,yas,yat,yX,yY,yaf,yaa,y6,yab]
 gi_wp2
 go_ret;exact⟨rfl,rfl⟩
theorem zkC(F:Fence)(n:Nat)(h7:F.fn 134)(hro:F.round=none)(hn:1<=n)(Bs n₀:Nat)(v:Value)(xs:List {b:Nat//p b})(hlen:xs.length<=17592186044416)(w:World)(hBs:Bs<w.heap.size)(hn₀:n₀<=w.heap.size)
 (hc:w.cell? ⟨Bs,0,none⟩=some v) (hv:Rd w n₀ zjG 1 v xs):
 SeqStopsK F n ye 134 #[.pointer (some ⟨Bs,0,none⟩)] (fun x:Nat×{b:Nat//p b}=>#[.int .i64 (x.1:Nat),.pointer (some ⟨x.2.1,0,none⟩)]) (Kq n₀ Bs) (fun ys=>ys=zQ xs xs.length) (fun _=>True) xs.length w:=fun l J Jx W hW _ _ hY h0=>by
 have hc':=(hW.cell (p:=⟨Bs,0,none⟩) hBs).trans hc;obtain⟨p,cap,rfl,h1,h2,h3,h4⟩:=hv;cases p with
 | none =>
   have hc0:cap=0:=h3 rfl;have hx:xs=[]:=yx (by omega)
   subst hx hc0;exact(zhC _ _ F n h7 hro l Bs J W hc' h0).mono fun e W' ⟨he,hj⟩=>⟨he,.inl ⟨_,rfl,hj⟩⟩
 | some a =>
   by_cases hx0:xs.length=0
   ·have hx:xs=[]:=yx hx0;subst hx;exact(zhC _ _ F n h7 hro l Bs J W hc' h0).mono fun e W' ⟨he,hj⟩=>⟨he,.inl ⟨_,rfl,hj⟩⟩
   obtain⟨b,o,rfl,hb,hr⟩:=h4 a rfl (by omega)
   exact zm8 F n h7 hro hn l Bs n₀ b o cap xs hlen hb J Jx hY W hc' (hr.below hW (by omega)) h0
end
section
open Go.RowKit Go.OpenShut
def zil(w:World)(t:JV)(e:Ending)(w':World):Prop:=∃q:RV,e= .returned q.val/\LoneV w' (Fresh w w') t q/\Below w.heap.size w w'
structure CopyS(w W:World)(jl jm:Nat)(l:List JV)(m:List (ByteArray×JV))(rs:List RV)(rms:List RM)(ds:List RV)(dms:List RM)(r:RV)(F:Nat⊕Nat->Nat->Prop):Prop where
 parts:Parts W (w.heap.size+1+1) w.heap.size (fun a=>(∃i,a= .inl i/\i<jl)\/∃i,a= .inr i/\i<jm) l m ds dms r F
 rl:∀i,jl<=i->ds[i]? =rs[i]?
 rm:∀i,jm<=i->dms[i]? =rms[i]?
 below:Below w.heap.size w W
 out:VAt W (w.heap.size+1) RV.zero
theorem Parts.drew{W:World}{b0 g:Nat}{D:Nat⊕Nat->Prop}{l:List JV}{m:List (ByteArray×JV)}{ds:List RV}{dms:List RM}{r:RV}{F:Nat⊕Nat->Nat->Prop}(h:Parts W b0 g D l m ds dms r F):Parts W.drew b0 g D l m ds dms r F:=
 ⟨h.box,h.ownL,h.ownM,h.bL,h.bM,h.dr,h.los,h.el,h.em,h.cn,fun i t q h1 h2 h3=>(h.cl i t q h1 h2 h3).same fun _ _=>rfl,fun i t q h1 h2 h3=>(h.cm i t q h1 h2 h3).same fun _ _=>rfl,h.ff,h.dd⟩
theorem VAt.set3{W:World}{g:Nat}{r:RV}(h:VAt W g r)(p:Option Addr)(n c:Nat):VAt (W.setCell ⟨g,3,none⟩ (.slice p n c)) g {r with pl:=p,nl:=n,cl:=c}:=by
 unfold VAt at h⊢;simp[World.setCell,Array.getElem?_modify,h]
theorem CopyS.start{w w1 w2:World}{b1:Nat}{k n:Int}{s:ByteArray}{pl pm p' p2:Option Addr}{nl cl nm cm c' c2:Nat}{l:List JV}{m:List (ByteArray×JV)}{rs:List RV}{rms:List RM}
 (hA:VAt w2 w.heap.size ⟨k,n,s,pl,nl,cl,pm,nm,cm⟩) (hZ:VAt w2 (w.heap.size+1) RV.zero) (ho1:Own w1 b1 25 zbc 5 (.slice p' nl c') rs) (hb1:w.heap.size+1+1<=b1) (ho2:Own w2 w1.heap.size 35 zl 6 (.slice p2 nm c2) rms)
 (hb2:Below w1.heap.size w1 w2) (hb:Below w.heap.size w w2) (hw:w.heap.size+1+1<=w1.heap.size) (el:l.length=rs.length) (em:m.length=rms.length) (cn:∀(i:Nat) (p:ByteArray×JV) (q:RM),m[i]? =some p->rms[i]? =some q->p.1=q.name):
 CopyS w ((w2.setCell ⟨w.heap.size,3,none⟩ (.slice p' nl c')).setCell ⟨w.heap.size,4,none⟩ (.slice p2 nm c2)) 0 0 l m rs rms rs rms ⟨k,n,s,p',nl,c',p2,nm,c2⟩ (fun _ _=>False):=by
 have hg:w2.grownBy ((w2.setCell ⟨w.heap.size,3,none⟩ (.slice p' nl c')).setCell ⟨w.heap.size,4,none⟩ (.slice p2 nm c2)) (some w.heap.size):=(zz w2 w.heap.size 3 _).trans (zz _ w.heap.size 4 _);have hsz:((w2.setCell ⟨w.heap.size,3,none⟩ (.slice p' nl c')).setCell ⟨w.heap.size,4,none⟩ (.slice p2 nm c2)).heap.size=w2.heap.size:=by simp
 have hs2:=hb2.size;have l1:=ho1.lt;have l2:=ho2.lt;refine⟨⟨(hA.set3 p' nl c').set4 p2 nm c2,((ho1.mono hb1).below hb2 (yd _)).kept hg ?_,(ho2.mono hw).kept hg ?_,?_,?_,?_,by omega,el,em,cn,?_,?_,?_,?_⟩,fun _ _=>rfl,fun _ _=>rfl,?_,?_⟩
 ·cases h:(Value.slice p' nl c').ownBlock with
  |none=>exact .inl rfl
  |some j=>exact .inr (fun e=>by have:=(l1 j h).1;cases e;omega)
 ·cases h:(Value.slice p2 nm c2).ownBlock with
  |none=>exact .inl rfl
  |some j=>exact .inr (fun e=>by have:=(l2 j h).1;cases e;omega)
 ·intro k h;have:=l1 k h;omega
 ·intro k h;have:=l2 k h;omega
 ·intro k h h';have:=l1 k h;have:=l2 k h';omega
 ·rintro i t q (⟨_,_,h⟩|⟨_,_,h⟩)<;>omega
 ·rintro i t q (⟨_,_,h⟩|⟨_,_,h⟩)<;>omega
 ·intro a k h;exact h.elim
 ·intro a b k h;exact h.elim
 ·exact(hb.setCell (p:=⟨w.heap.size,3,none⟩) (yd _) _).setCell (p:=⟨w.heap.size,4,none⟩) (yd _) _
 ·exact(hg.block (w.heap.size+1) (by omega) (fun e=>by injection e with e;omega)).trans hZ
theorem Parts.fin{w W:World}{l:List JV}{m:List (ByteArray×JV)}{ds:List RV}{dms:List RM}{r:RV}{D:Nat⊕Nat->Prop}{F:Nat⊕Nat->Nat->Prop}(h:Parts W (w.heap.size+1+1) w.heap.size D l m ds dms r F)(hD:∀i,(i<l.length->D (.inl i))/\(i<m.length->D (.inr i)))(hb:Below w.heap.size w W):
 zil w (.mk r.k r.n r.s l m) (.returned r.val) (((((W.setCell ⟨w.heap.size+1,0,none⟩ (.int .i64 r.k)).setCell ⟨w.heap.size+1,1,none⟩ (.int .i64 r.n)).setCell ⟨w.heap.size+1,2,none⟩ (.string r.s)).setCell ⟨w.heap.size+1,3,none⟩ (.slice r.pl r.nl r.cl)).setCell ⟨w.heap.size+1,4,none⟩ (.slice r.pm r.nm r.cm)):=by
 have hg:=zeM W (w.heap.size+1) r;have h1:=h.whole hD;refine⟨r,rfl,(h1.same fun k hk=>hg.block k hk.2 (fun e=>by have:=hk.1;injection e with e;omega)).mono fun k hk=>⟨by omega,Nat.lt_of_lt_of_le hk.2 hg.size⟩,Below.stored hb (by omega) r⟩
end
end Go.Proofs.YtemofofnkchmeaaGreatDoor
