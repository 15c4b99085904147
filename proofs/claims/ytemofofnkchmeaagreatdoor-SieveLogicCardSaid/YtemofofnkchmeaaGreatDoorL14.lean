import Derived.Test.YtemofofnkchmeaaGreatDoorL12
import Derived.RangeFuncNested
import Derived.RangeFuncBound
import Derived.RangeFuncCalls
import Derived.RangeFuncLeaves
import Derived.RangeFuncBox
import Derived.Shelf.Abstract
import Derived.OwnWalkIn
import Derived.TacticsInMore
import Derived.LoopNIn
import Derived.LoopIn
import Derived.Sort.LoopGhostIn
import Derived.Sort.CutIn
import Derived.Stop.RegionWithIn
set_option linter.unusedSimpArgs false
set_option linter.unusedVariables false
set_option maxRecDepth 200000
set_option maxHeartbeats 8000000
namespace Go.Proofs.YtemofofnkchmeaaGreatDoor
open _root_.Array renaming length_toList->yH
open _root_.Go.Lib renaming hid->yc
open _root_.List renaming append_assoc->yV,length->ybq,length_append->yp,length_cons->yB,length_nil->yS
open _root_.Nat renaming le_refl->yd
section
open Go Go.RowKit Go.OpenShut Go.Shelf
attribute [local go_sem] Oper.semAt_some
theorem zl0{x:ByteArray}(h:0<x.size):x.data.toList=x[0]::x.data.toList.drop 1:=by
 have h1:x.data.toList[0]? =some x[0]:=zd2 h;cases hl:x.data.toList with
 |nil=>rw[hl]at h1;simp at h1
 | cons a r =>
   rw[hl]at h1;simp at h1;rw[<-h1]
   rfl
theorem zdX{F:Fence}{n:Nat}{P:Program}{c:Code}{Q:Exit->Act->World->Prop}{a:Act}{W:World}(R:World->Prop)(h:R W)(k:∀W1,R W1->c.wpIn F n P Q a W1):c.wpIn F n P Q a W:=k _ h
theorem zcd(l:List UInt8):(zy l).data.toList=l:=by simp[zy]
theorem zij(l:List UInt8):(zy l).toList=l:=by rw[ByteArray.toList_eq];exact zcd l
theorem zjH{J:List (List UInt8)->World->Prop}{s:List (List UInt8)}{bq:Nat}{wr X:World}(HJ:∀s X Y,J s X->X.grownBy Y (some bq)->J s Y)(h:J s wr)(v:Value)(h1:wr.grownBy X (some bq)):J s (X.setCell ⟨bq,0,none⟩ v):=
 HJ _ _ _ h (World.grownBy.trans h1 (grownBy_setCell' X bq v))
theorem zqX(F:Fence)(hFw:F=Fence.wide)(n:Nat)(hn:1<=n)(l bq b3 b4 N:Nat)(J:List (List UInt8)->World->Prop)(q0:ByteArray)(hs:q0.size<=1000000)(hN:q0.size<=N)(n3:bq≠b3)(n4:bq≠b4)
 (hJ:∀s X Y,J s X->X.grownBy Y (some bq)->J s Y)
 (hY:∀pre x W,J pre W->pre.length<N->YieldAt F (n-1) Tryz.prog l #[.string (zy x)] W fun e W'=>e= .returned (.bool true)/\J (pre++[x]) W'/\∀b,b=bq\/b=b3\/b=b4->W'.heap[b]? =W.heap[b]?)
 (W:World) (hq:Boxed W bq 9 (.string q0)) (h3:Boxed W b3 265 (.func (.func 205) #[] #[])) (h4:Boxed W b4 265 (.func (.func 206) #[] #[])) (h0:J [] W):
 CallsIn F n Tryz.prog 207 #[.func (.yield l) #[] #[],.pointer (some ⟨bq,0,none⟩),.pointer (some ⟨b3,0,none⟩),.pointer (some ⟨b4,0,none⟩)] W fun e W'=>(∃v,e= .returned v)/\J (zI q0.data.toList) W':=by
 have hro:F.round=none:=by rw[hFw];rfl
 have hfn:∀f,F.fn f:=fun f=>by rw[hFw];trivial
 have HF:=yc hFw;have HJ:=yc hJ;have HY:=yc hY;clear hFw hJ hY;refine callsIn_of_wp Tryz.func207 rfl (hfn _) ?_ hro;simp only[Tryz.ntmps207,List.size_toArray,yB,yS,Nat.reduceAdd,Nat.reduceSub,Array.replicate_succ,Array.replicate_zero,List.push_toArray,List.append_toArray,List.nil_append,List.cons_append]
 gi_wp2
 gi_loopg [5] q0.size (fun gk u5 wr=>∃(x:ByteArray) (pre:List (List UInt8)),x.size<=gk/\x.size<=q0.size/\Hid (pre++zI x.data.toList=zI q0.data.toList)/\Hid (Boxed wr bq 9 (.string x)/\Boxed wr b3 265 (.func (.func 205) #[] #[])/\Boxed wr b4 265 (.func (.func 206) #[] #[])/\J pre wr))
 case atStart=>exact⟨q0,[],yd _,yd _,rfl,hq,h3,h4,h0⟩
 case round=>
  obtain⟨x,pre,hgk,hxs,HP,HB⟩:=hrel;obtain⟨bq0,b30,b40,hj⟩:=HB.out;have cq:=bq0.cell;have fq:=bq0.frozen;have c3:=b30.cell;have c4:=b40.cell;have lq:=bq0.lt;clear HB;have HBQ:=yc bq0;have HB3:=yc b30;have HB4:=yc b40;have HJJ:=yc hj;clear bq0 b30 b40 hj;by_cases hx0:x.size=0
  ·have e0:x=⟨#[]⟩:=by
    apply ByteArray.ext;exact Array.eq_empty_of_size_eq_zero hx0
   subst e0
   have HP2:Hid (pre=zI q0.data.toList):=by
    have:=HP.out;rw[show(⟨#[]⟩:ByteArray).data.toList=[]from rfl,zmT,List.append_nil]at this
    exact this
   clear hx0 HP
   gi_wp2
   go_end0
   exact⟨⟨_,rfl⟩,by rw[<-HP2.out];exact HJJ.out⟩
  ·have hx1:0<x.size:=by omega
   have hcons:=zl0 hx1;obtain⟨c,hc⟩:∃c,x[0]=c:=⟨_,rfl⟩;rw[hc]at hcons;obtain⟨r,hr⟩:∃r,x.data.toList.drop 1=r:=⟨_,rfl⟩;have HR0:=yc hr.symm;rw[hr]at hcons;have HCO:=yc hcons;have hne:x.toList=c::r:=by rw[ByteArray.toList_eq];exact hcons
   have HNE:Hid (x.toList=c::r):=hne;have e1:(x.toList==[])=false:=by rw[hne];rfl
   have e2:(x.toList !=[])=true:=by rw[hne];rfl
   have e3:x.toList.isEmpty=false:=by rw[hne];rfl
   have hcl:=c.toNat_lt;clear hcons hne hr;have hxt:(x.extract 1 x.size).size=x.size-1:=by rw[ByteArray.size_extract];omega
   have hxl:(x.extract 1 x.size).data.toList=r:=by rw[zma,zcd,<-HR0.out]
   have HXL:=yc hxl;clear hxl;by_cases h32:c=32
   ·subst h32;have f32:((((32:UInt8).toNat:Nat):Int)==32)=true:=by decide
    have f34:((((32:UInt8).toNat:Nat):Int)==34)=false:=by decide
    gi_wp2
    gi_roundg (x.size-1)
    case rel=>
     refine⟨x.extract 1 x.size,pre,by omega,by omega,?_,HBQ.out.set _,HB3.out.other (Ne.symm n3) _,HB4.out.other (Ne.symm n4) _,zjH HJ.out HJJ.out _ (World.grownBy.refl _ _)⟩
     unfold Hid;rw[HXL.out,<-HP.out,HCO.out,zot]
    case measure=>omega
   ·have f32:(((c.toNat:Nat):Int)==32)=false:=by
     rw[beq_eq_false_iff_ne];intro h;exact h32 (UInt8.toNat_inj.1 (show c.toNat=(32:UInt8).toNat from by have:(32:UInt8).toNat=32:=rfl;omega))
    by_cases h34:c=34
    ·have f34:(((c.toNat:Nat):Int)==34)=true:=by rw[h34];rfl
     obtain⟨A,hA⟩:∃A,r.takeWhile zbT=A:=⟨_,rfl⟩;obtain⟨D,hD⟩:∃A,r.dropWhile zbT=A:=⟨_,rfl⟩
     have HPP:Hid (pre++((if A=[]then[]else[A])++zI (D.drop 1))=zI q0.data.toList):=by
      unfold Hid;rw[<-HP.out,HCO.out,h34,zp6,hA,hD]
     have hDL:D.length<=r.length:=by rw[<-hD];exact zcG r
     have hrl:r.length=x.size-1:=by rw[<-HXL.out,yH];exact hxt
     have HU:Hid (∀w,CallsIn F (n-1) Tryz.prog 208 #[.string (x.extract 1 x.size),.func (.func 205) #[] #[]] w fun e w'=>e= .returned (.tuple #[.string (zy A),.string (zy D)])/\∃m,w'=w.drewN m):=by
      intro w;rw[HF.out];have:=(callsIn_wide (n:=n-1)).2 (zmY (x.extract 1 x.size) w (by unfold maxLen;omega))
      rw[HXL.out,hA,hD]at this;exact this
     clear hA hD h34
     gi_upto_region 7 with fail
     gi_region_with (gi_at_call 208;(with_reducible refine(HU.out _).mono ?_);rintro e w1 ⟨rfl,m,rfl⟩)
     all_goals (
      gi_upto_region 8 with fail
      refine zdX (fun W1=>Hid (Boxed W1 bq 9 (.string (zy D)))/\Hid (Boxed W1 b3 265 (.func (.func 205) #[] #[]))/\Hid (Boxed W1 b4 265 (.func (.func 206) #[] #[]))/\J pre W1) ⟨Boxed.set _ HBQ.out,Boxed.other HB3.out (Ne.symm n3) _,Boxed.other HB4.out (Ne.symm n4) _,zjH HJ.out HJJ.out _ ⟨rfl,rfl,rfl,yd _,fun _ _ _=>rfl⟩⟩ ?_
      rintro W0 ⟨hq0,h30,h40,hj0⟩;have cq0:=hq0.out.cell;have fq0:=hq0.out.frozen;have lq0:=hq0.out.lt;have HJ0:=yc hj0;clear hj0 cq fq c3 c4 lq HBQ HB3 HB4 HJJ e1 e2 e3;cases D with
      | nil =>
        rw[show zy []=⟨#[]⟩from rfl]at*
        gi_upto_region 10 with fail
        refine zdX (fun W1=>Hid (Boxed W1 bq 9 (.string (zy ([]))))/\Hid (Boxed W1 b3 265 (.func (.func 205) #[] #[]))/\Hid (Boxed W1 b4 265 (.func (.func 206) #[] #[]))/\J pre W1) ⟨hq0.out,h30.out,h40.out,HJ0.out⟩ ?_
        rintro W1 ⟨hq1,h31,h41,hj1⟩;cases A with
        | nil =>
          have HPE:Hid (pre++zI ([])=zI q0.data.toList):=HPP.out;clear HPP;rw[show zy []=⟨#[]⟩from rfl]
          gi_wp2
          gi_roundg ((zy ([])).size)
          case rel=>exact⟨zy ([]),pre,yd _,by rw[zbK];omega,by unfold Hid;rw[zcd];exact HPE.out,hq1.out,h31.out,h41.out,hj1⟩
          case measure=>rw[zbK];omega
        | cons a0 a1 =>
          have HPE:Hid (pre++([a0::a1]++zI ([]))=zI q0.data.toList):=HPP.out;clear HPP;have t1a:(zy (a0::a1)).toList=a0::a1:=zij _;have t2a:((zy (a0::a1)).toList==[])=false:=by rw[t1a];rfl
          have t3a:((zy (a0::a1)).toList !=[])=true:=by rw[t1a];rfl
          have t4a:(zy (a0::a1)).toList.isEmpty=false:=by rw[t1a];rfl
          clear t1a
          have HLN:Hid (pre.length<N):=by
           have h1:=congrArg ybq HPE.out;have h2:=zeB q0.data.toList;have h3:q0.data.toList.length=q0.size:=by rw[yH];rfl
           simp only[yp,yB,yS]at h1;unfold Hid;omega
          obtain⟨fn,tmps,assign,body,hy,hR⟩:=HY.out pre (a0::a1) W1 hj1 HLN.out;have hR':=yc hR;clear hR
          gi_wp2
          refine hR'.out.mono ?_;rintro e W3 ⟨rfl,hJ3,hk3⟩
          gi_wp2
          gi_roundg ((zy ([])).size)
          case rel=>exact⟨zy ([]),pre++[a0::a1],yd _,by rw[zbK];omega,by unfold Hid;rw[zcd,yV];exact HPE.out,(hk3 bq (.inl rfl)).trans hq1.out,(hk3 b3 (.inr (.inl rfl))).trans h31.out,(hk3 b4 (.inr (.inr rfl))).trans h41.out,hJ3⟩
          case measure=>rw[zbK];omega
      | cons d0 d1 =>
        have t1d:(zy (d0::d1)).toList=d0::d1:=zij _;have t2d:((zy (d0::d1)).toList==[])=false:=by rw[t1d];rfl
        have t3d:((zy (d0::d1)).toList !=[])=true:=by rw[t1d];rfl
        have t4d:(zy (d0::d1)).toList.isEmpty=false:=by rw[t1d];rfl
        clear t1d;have hdz:(zy (d0::d1)).size=d1.length+1:=by rw[zbK];rfl
        have hdl:d1.length+1<=r.length:=hDL;have hde:Hid ((zy (d0::d1)).extract 1 (d1.length+1)=zy d1):=by unfold Hid;rw[<-hdz,zma,zcd];rfl
        gi_upto_region 10 with fail
        refine zdX (fun W1=>Hid (Boxed W1 bq 9 (.string (zy (d1))))/\Hid (Boxed W1 b3 265 (.func (.func 205) #[] #[]))/\Hid (Boxed W1 b4 265 (.func (.func 206) #[] #[]))/\J pre W1) ⟨(by rw[hde.out];exact Boxed.set _ hq0.out),Boxed.other h30.out (Ne.symm n3) _,Boxed.other h40.out (Ne.symm n4) _,zjH HJ.out HJ0.out _ (World.grownBy.refl _ _)⟩ ?_
        rintro W1 ⟨hq1,h31,h41,hj1⟩;cases A with
        | nil =>
          have HPE:Hid (pre++zI (d1)=zI q0.data.toList):=HPP.out;clear HPP;rw[show zy []=⟨#[]⟩from rfl]
          gi_wp2
          gi_roundg ((zy (d1)).size)
          case rel=>exact⟨zy (d1),pre,yd _,by rw[zbK];omega,by unfold Hid;rw[zcd];exact HPE.out,hq1.out,h31.out,h41.out,hj1⟩
          case measure=>rw[zbK];omega
        | cons a0 a1 =>
          have HPE:Hid (pre++([a0::a1]++zI (d1))=zI q0.data.toList):=HPP.out;clear HPP;have t1a:(zy (a0::a1)).toList=a0::a1:=zij _;have t2a:((zy (a0::a1)).toList==[])=false:=by rw[t1a];rfl
          have t3a:((zy (a0::a1)).toList !=[])=true:=by rw[t1a];rfl
          have t4a:(zy (a0::a1)).toList.isEmpty=false:=by rw[t1a];rfl
          clear t1a
          have HLN:Hid (pre.length<N):=by
           have h1:=congrArg ybq HPE.out;have h2:=zeB q0.data.toList;have h3:q0.data.toList.length=q0.size:=by rw[yH];rfl
           simp only[yp,yB,yS]at h1;unfold Hid;omega
          obtain⟨fn,tmps,assign,body,hy,hR⟩:=HY.out pre (a0::a1) W1 hj1 HLN.out;have hR':=yc hR;clear hR
          gi_wp2
          refine hR'.out.mono ?_;rintro e W3 ⟨rfl,hJ3,hk3⟩
          gi_wp2
          gi_roundg ((zy (d1)).size)
          case rel=>exact⟨zy (d1),pre++[a0::a1],yd _,by rw[zbK];omega,by unfold Hid;rw[zcd,yV];exact HPE.out,(hk3 bq (.inl rfl)).trans hq1.out,(hk3 b3 (.inr (.inl rfl))).trans h31.out,(hk3 b4 (.inr (.inr rfl))).trans h41.out,hJ3⟩
          case measure=>rw[zbK];omega)
    ·have f34:(((c.toNat:Nat):Int)==34)=false:=by
      rw[beq_eq_false_iff_ne];intro h;exact h34 (UInt8.toNat_inj.1 (show c.toNat=(34:UInt8).toNat from by have:(34:UInt8).toNat=34:=rfl;omega))
     obtain⟨A,hA⟩:∃A,(c::r).takeWhile zbI=A:=⟨_,rfl⟩;obtain⟨D,hD⟩:∃A,(c::r).dropWhile zbI=A:=⟨_,rfl⟩
     have HPE:Hid (pre++([A]++zI D)=zI q0.data.toList):=by
      unfold Hid;rw[<-HP.out,HCO.out,zp5 h32 h34,hA,hD]
      rfl
     have hAne:A≠[]:=by rw[<-hA];exact zp3 h32 h34 r
     have hrl:r.length=x.size-1:=by rw[<-HXL.out,yH];exact hxt
     have hDL:D.length<=r.length:=by rw[<-hD,zfG (zfQ h32 h34)];exact zcG r
     have HU:Hid (∀w,CallsIn F (n-1) Tryz.prog 208 #[.string x,.func (.func 206) #[] #[]] w fun e w'=>e= .returned (.tuple #[.string (zy A),.string (zy D)])/\∃m,w'=w.drewN m):=by
      intro w;rw[HF.out];have:=(callsIn_wide (n:=n-1)).2 (zmX x w (by unfold maxLen;omega))
      rw[HCO.out,hA,hD]at this;exact this
     clear hA hD
     gi_upto_region 3 with fail
     gi_upto_region 10 with(gi_at_call 208;(with_reducible refine(HU.out _).mono ?_);rintro e w1 ⟨rfl,m,rfl⟩)
     refine zdX (fun W1=>Hid (Boxed W1 bq 9 (.string (zy D)))/\Hid (Boxed W1 b3 265 (.func (.func 205) #[] #[]))/\Hid (Boxed W1 b4 265 (.func (.func 206) #[] #[]))/\J pre W1) ⟨Boxed.set _ HBQ.out,Boxed.other HB3.out (Ne.symm n3) _,Boxed.other HB4.out (Ne.symm n4) _,zjH HJ.out HJJ.out _ ⟨rfl,rfl,rfl,yd _,fun _ _ _=>rfl⟩⟩ ?_
     rintro W1 ⟨hq1,h31,h41,hj1⟩;clear cq fq c3 c4 lq HBQ HB3 HB4 HJJ e1 e2 e3;cases A with
     |nil=>exact(hAne rfl).elim
     | cons a0 a1 =>
       clear hAne;have t1a:(zy (a0::a1)).toList=a0::a1:=zij _;have t2a:((zy (a0::a1)).toList==[])=false:=by rw[t1a];rfl
       have t3a:((zy (a0::a1)).toList !=[])=true:=by rw[t1a];rfl
       have t4a:(zy (a0::a1)).toList.isEmpty=false:=by rw[t1a];rfl
       clear t1a
       have HLN:Hid (pre.length<N):=by
        have h1:=congrArg ybq HPE.out;have h2:=zeB q0.data.toList;have h3:q0.data.toList.length=q0.size:=by rw[yH];rfl
        simp only[yp,yB,yS]at h1;unfold Hid;omega
       obtain⟨fn,tmps,assign,body,hy,hR⟩:=HY.out pre (a0::a1) W1 hj1 HLN.out;have hR':=yc hR;clear hR
       gi_wp2
       refine hR'.out.mono ?_;rintro e W3 ⟨rfl,hJ3,hk3⟩
       gi_wp2
       gi_roundg ((zy (D)).size)
       case rel=>exact⟨zy (D),pre++[a0::a1],yd _,by rw[zbK];omega,by unfold Hid;rw[zcd,yV];exact HPE.out,(hk3 bq (.inl rfl)).trans hq1.out,(hk3 b3 (.inr (.inl rfl))).trans h31.out,(hk3 b4 (.inr (.inr rfl))).trans h41.out,hJ3⟩
       case measure=>rw[zbK];omega
end
end Go.Proofs.YtemofofnkchmeaaGreatDoor
