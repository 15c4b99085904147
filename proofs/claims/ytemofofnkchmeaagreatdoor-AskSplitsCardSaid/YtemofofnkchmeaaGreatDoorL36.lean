import Derived.Test.YtemofofnkchmeaaGreatDoorL35
import Derived.Test.YtemofofnkchmeaaGreatDoorL34
import Derived.Test.YtemofofnkchmeaaGreatDoorL18
import Derived.Test.YtemofofnkchmeaaGreatDoorL12
import Derived.Test.YtemofofnkchmeaaGreatDoorL04
import Derived.Test.YtemofofnkchmeaaGreatDoorL07
import Derived.Test.YtemofofnkchmeaaGreatDoorL10
import Derived.Test.YtemofofnkchmeaaGreatDoorL09
import Derived.Test.YtemofofnkchmeaaGreatDoorL15
import Derived.Test.YtemofofnkchmeaaGreatDoorL11
import Derived.Test.YtemofofnkchmeaaGreatDoorL13
import Derived.Test.YtemofofnkchmeaaGreatDoorL19
import Derived.Test.YtemofofnkchmeaaGreatDoorL33
import Derived.Test.YtemofofnkchmeaaGreatDoorL30
import Derived.BigQuiet
import Derived.Test.YtemofofnkchmeaaGreatDoorL29
import Derived.StillTailTactics
import Derived.Test.YtemofofnkchmeaaGreatDoorL25
import Derived.Test.YtemofofnkchmeaaGreatDoorL21
import Derived.Test.YtemofofnkchmeaaGreatDoorL32
import Derived.Test.YtemofofnkchmeaaGreatDoorL24
set_option linter.unusedSimpArgs false
set_option linter.unusedVariables false
set_option maxRecDepth 200000
set_option maxHeartbeats 8000000
namespace Go.Proofs.YtemofofnkchmeaaGreatDoor
open _root_.Go.Lib renaming hid->yc
open _root_.Nat renaming le_refl->yd
open _root_.Go.Proofs.Tryz renaming prog->ye
section
open Go Go.RowKit Go.OpenShut
structure AskT(w3:World)(gz gd:Nat)(l1:List ByteArray)(l2:List (ByteArray×Int))(r:RD)(W:World):Prop where
 z:DAt 48 W gz RD.zero
 d:DAt 48 W gd r
 rem:Own W (gd+1) 9 zg 1 (.slice r.pr r.nr r.cr) l1
 add:Own W (gd+1) 80 zdI 2 (.slice r.pa r.na r.ca) l2
 apart:∀k,(Value.slice r.pr r.nr r.cr).ownBlock=some k->(Value.slice r.pa r.na r.ca).ownBlock≠some k
 below:Below gd w3 W
 ord:gz<gd
section
variable {w3 W W':World} {gz gd:Nat} {l1:List ByteArray} {l2:List (ByteArray×Int)} {r:RD}
theorem AskT.go(h:AskT w3 gz gd l1 l2 r W)(hb:Below W.heap.size W W'):AskT w3 gz gd l1 l2 r W':=
 ⟨h.z.under hb h.z.lt,h.d.under hb h.d.lt,h.rem.below hb (yd _),h.add.below hb (yd _),h.apart,h.below.trans (hb.mono (Nat.le_of_lt h.d.lt)),h.ord⟩
theorem AskT.put(h:AskT w3 gz gd l1 l2 r W){w9:World}{p9:Option Addr}{n9 c9:Nat}{l9:List ByteArray}(hb:Below W.heap.size W w9)(ho:Own w9 W.heap.size 9 zg 1 (.slice p9 n9 c9) l9):
 AskT w3 gz gd l9 l2 {r with pr:=p9,nr:=n9,cr:=c9} (w9.setCell ⟨gd,0,none⟩ (.slice p9 n9 c9)):=by
 have h9:=h.go hb;have hs:=zdK w9 gd 0 (.slice p9 n9 c9);have hdl:=h.d.lt;have hz:=h.ord;have ho':Own w9 (gd+1) 9 zg 1 (.slice p9 n9 c9) l9:=ho.mono hdl;refine⟨(hs.block gz h9.z.lt (fun e=>by cases e;omega)).trans h9.z,h9.d.set0 _ _ _,ho'.kept hs (zcp fun k e=>by have:=(ho'.lt k e).1;omega),h9.add.kept hs (zcp fun k e=>by have:=(h9.add.lt k e).1;omega),fun k e e2=> ?_,h9.below.grown hs (by have:=hb.size;omega) (fun k e=>by cases e;exact yd _),hz⟩
 have h1:=(ho.lt k e).1;have h2:=(h.add.lt k e2).2;omega
end
theorem znr(r:RD)(w:World):Calls ye 21 #[r.val] w fun e w'=>e= .returned r.val/\Below w.heap.size w w':=by
 obtain⟨W0,hW0⟩:∃W0,(w.alloc (.cells #[.slice r.pr r.nr r.cr,.slice r.pa r.na r.ca,.int .i64 r.tot] 45)).alloc (.cells #[.slice none 0 0,.slice none 0 0,.int .i64 0] 48)=W0:=⟨_,rfl⟩;have hA0:DAt 45 W0 w.heap.size r:=by rw[<-hW0];exact zb (by simp) (za rfl)
 have hZ0:DAt 48 W0 (w.heap.size+1) RD.zero:=by rw[<-hW0];exact za (by simp)
 have hB0:Below w.heap.size w W0:=by rw[<-hW0];exact zM w _ _
 obtain⟨pr,nr,cr,pa,na,ca,tot⟩:=r;dsimp only[RD.val]at*;have a0:=hA0.cell 0 rfl;have a1:=hA0.cell 1 rfl;have a2:=hA0.cell 2 rfl;have z0:=hZ0.cell 0 rfl;have z1:=hZ0.cell 1 rfl;have z2:=hZ0.cell 2 rfl;have y0:=hZ0.frozen 0;have y1:=hZ0.frozen 1;have y2:=hZ0.frozen 2;dsimp only[RD.zero]at a0 a1 a2 z0 z1 z2;have hzl:=hZ0.lt;have HB:=yc hB0;have HW:=yc hW0;clear hA0 hZ0 hB0 hW0
 go_enter Tryz.func21,Tryz.ntmps21
 go_upto_region 1 with fail
 try rw[HW.out]
 clear HW
 go_wp2_with fail
 refine bodyPost_ret (v:= .agg #[.slice pr nr cr,.slice pa na ca,.int .i64 tot]) (by simp[results,Tryz.results21,go_sem,z0,z1,z2,y0,y1,y2,hzl]) rfl ⟨rfl,?_⟩
 exact HB.out.grown (zdL W0 (w.heap.size+1) _ _ _) HB.out.size (fun k e=>by cases e;omega)
theorem zrL:ye.eqGuardType ye.depth 80=false:=by kernel_rfl
theorem zr8:ye.stoodInHeld 80=false:=by kernel_rfl
theorem znV(s:ByteArray)(i:Int)(w:World):(Go.binOp .neq 80 (.agg #[.string s,.int .i64 i]) (.agg #[.string s,.int .i64 i])).run ye w= .ok (.bool false) w:=by
 have h1:=zr8;rw[run_neq_struct];simp[go_sem,h1,Tryz.underlying80]
structure RdD(w:World)(B:Nat)(x:DlD)(r:RD):Prop where
 rem:Rd w B zg 1 (.slice r.pr r.nr r.cr) x.rem
 add:Rd w B zdI 2 (.slice r.pa r.na r.ca) x.add
 tot:r.tot=x.tot
theorem RdD.under{w w':World}{B B':Nat}{x:DlD}{r:RD}(h:RdD w B x r)(hb:Below B w w')(hB:B<=B'):RdD w' B' x r:=⟨h.rem.below hb hB,h.add.below hb hB,h.tot⟩
theorem zmI(x:DlD)(r q:RD)(w:World)(hx:RdD w w.heap.size x r)(hy:RdD w w.heap.size x q):
 Calls ye 20 #[r.val,q.val] w fun e w'=>e= .returned (.bool true)/\Below w.heap.size w w':=by
 have hna:=zi hx.add;have hnb:=zi hy.add
 have hnm:x.add.length<=9223372036854775807:=by
  obtain⟨_,_,_,h1,h2⟩:=zfq hx.add;omega
 have hta:=hx.tot;have htb:=hy.tot;have HX:=yc hx;have HY:=yc hy;obtain⟨pr,nr,cr,pa,na,ca,tot⟩:=r;obtain⟨qr,mr,dr,qa,ma,da,tob⟩:=q;dsimp only[RD.val]at*;obtain rfl:na=ma:=by omega
 obtain rfl:tot=tob:=by omega
 have hnm2:(na:Int)<=9223372036854775807:=by omega
 obtain⟨W0,hW0⟩:∃W0,(w.alloc (.cells #[.slice pr nr cr,.slice pa na ca,.int .i64 tot] 48)).alloc (.cells #[.slice qr mr dr,.slice qa na da,.int .i64 tot] 48)=W0:=⟨_,rfl⟩;have hA0:DAt 48 W0 w.heap.size ⟨pr,nr,cr,pa,na,ca,tot⟩:=by rw[<-hW0];exact zb (by simp) (za rfl)
 have hC0:DAt 48 W0 (w.heap.size+1) ⟨qr,mr,dr,qa,na,da,tot⟩:=by rw[<-hW0];exact za (by simp)
 have hB0:Below w.heap.size w W0:=by rw[<-hW0];exact zM w _ _
 have hx0:=HX.out.under hB0 hB0.size;have hy0:=HY.out.under hB0 hB0.size;have HSP:Hid (∀W,Below W0.heap.size W0 W->Calls ye 25 #[.slice pr nr cr,.slice qr mr dr] W fun e w'=>e= .returned (.bool true)/\∃n,w'=W.drewN n):=fun W hb=>(zga W W0.heap.size _ _ x.rem x.rem (hx0.rem.below hb (yd _)) (hy0.rem.below hb (yd _))).mono fun e w' h=>by rw[decide_eq_true rfl]at h;exact h
 have HVA:Hid (∀W,Below W0.heap.size W0 W->DAt 48 W w.heap.size ⟨pr,nr,cr,pa,na,ca,tot⟩/\DAt 48 W (w.heap.size+1) ⟨qr,mr,dr,qa,na,da,tot⟩/\Rd W W0.heap.size zdI 2 (.slice pa na ca) x.add/\Rd W W0.heap.size zdI 2 (.slice qa na da) x.add):=fun W hb=>⟨hA0.under hb hA0.lt,hC0.under hb hC0.lt,hx0.add.below hb (yd _),hy0.add.below hb (yd _)⟩
 have HN:Hid (na=x.add.length):=hna;have HB:=yc hB0;have HW:=yc hW0;have a0:=hA0.cell 0 rfl;have a1:=hA0.cell 1 rfl;have a2:=hA0.cell 2 rfl;have c0:=hC0.cell 0 rfl;have c1:=hC0.cell 1 rfl;have c2:=hC0.cell 2 rfl;dsimp only at a0 a1 a2 c0 c1 c2;clear hx hy hna hnb hta htb hnm hA0 hC0 hB0 hx0 hy0 hW0
 go_enter Tryz.func20,Tryz.ntmps20
 go_upto_region 1 with fail
 try rw[HW.out]
 clear HW
 go_wp2_with (go_at_call 25;(with_reducible refine(HSP.out _ (Below.refl _ _)).mono ?_);rintro e w1 ⟨rfl,nd,rfl⟩)
 clear a0 a1 a2 c0 c1 c2
 go_loopw [5] (fun i wr=>∃k:Nat,k<=na/\i= .int .i64 (k:Int)/\Below W0.heap.size W0 wr) (fun i _=>na-(intOf i).toNat)
 case atStart=>exact⟨0,Nat.zero_le _,rfl,bdn (Below.refl _ _) _⟩
 case round=>
  obtain⟨k,hk,rfl,hbr⟩:=hrel;have hva:=HVA.out wr hbr;have hk0:(0:Int)<=(k:Int):=Int.natCast_nonneg _;by_cases hlt:k<na
  ·have hk1:(k:Int)<(na:Int):=by omega
   obtain⟨y,hy⟩:∃y,x.add[k]? =some y:=⟨_,List.getElem?_eq_getElem (by have:=HN.out;omega)⟩
   obtain⟨b1,o1,e1,hb1,hc1⟩:=zq hva.2.2.1 hy;obtain⟨b2,o2,e2,hb2,hc2⟩:=zq hva.2.2.2 hy;have hv1:=hva.1;have hv2:=hva.2.1;have a0:=hv1.cell 0 rfl;have a1:=hv1.cell 1 rfl;have a2:=hv1.cell 2 rfl;have c0:=hv2.cell 0 rfl;have c1:=hv2.cell 1 rfl;have c2:=hv2.cell 2 rfl;dsimp only at a0 a1 a2 c0 c1 c2;obtain⟨s,i⟩:=y;have f0:=hc1 0 _ rfl;have f1:=hc1 1 _ rfl;have g0:=hc2 0 _ rfl;have g1:=hc2 1 _ rfl;rw[Nat.add_zero]at f0 g0;dsimp only at f0 f1 g0 g1;have hg:=zrL;have hq:=fun W=>znV s i W
   subst e1;subst e2;have HBR:=yc hbr;clear hc1 hc2 hy hva hv1 hv2 hbr
   go_upto_region 6 with fail
   go_quiet (fail)
   go_wp2_with fail
   go_roundw
   case rel=>exact⟨k+1,by omega,by go_num,bdn HBR.out _⟩
   case measure=>simp[intOf];omega
  ·have hv1:=hva.1;have a0:=hv1.cell 0 rfl;have a1:=hv1.cell 1 rfl;have a2:=hv1.cell 2 rfl;dsimp only at a0 a1 a2;clear hva hv1
   go_wp2_with fail
   go_ret;exact⟨rfl,HB.out.trans (hbr.mono HB.out.size)⟩
theorem FewF.vals4{b:BoxD}{f so:JV}{ops:List (RO×JV)}(h:FewF b f so ops):∀p∈b.objs,zf p.2<=100000/\zr p.2<=4000000000:=fun p hp=>by
 have:=h.vals p hp;omega
theorem zko{os:List (ByteArray×JV)}(h:Rising os):(os.map (·.1)).Nodup:=by
 have h1:=rise_iff.1 h;rw[List.Nodup,List.pairwise_map]
 exact List.Pairwise.imp (fun{a b} hab e=>by
  have h2:zA a.1 b.1<0:=hab;rw[e,zgk]at h2;omega) h1
theorem FewF.nodup{b:BoxD}{f so:JV}{ops:List (RO×JV)}(h:FewF b f so ops):(b.objs.map (·.1)).Nodup:=zko h.right.1
theorem FewF.null{b:BoxD}{f so:JV}{ops:List (RO×JV)}(h:FewF b f so ops):f.k=1->f.m=[]:=fun h1=>h.ownf.2 (by omega)
end
end Go.Proofs.YtemofofnkchmeaaGreatDoor
