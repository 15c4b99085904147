import Derived.Test.YtemofofnkchmeaaGreatDoorL11
import Derived.Test.YtemofofnkchmeaaGreatDoorL08
import Derived.Test.YtemofofnkchmeaaGreatDoorL04
import Derived.Test.YtemofofnkchmeaaGreatDoorL07
import Derived.Test.YtemofofnkchmeaaGreatDoorL01
import Derived.BigQuiet
import Derived.Deep.RegionHeld3
import Derived.Test.YtemofofnkchmeaaGreatDoorL10
import Derived.Shelf.SlSortCmp.KitK
import Derived.Sort.WalkB2
import Derived.Sort.WalkB12
import Derived.Deep.LoopGhost
import Derived.Lib.Hide
set_option linter.unusedSimpArgs false
set_option linter.unusedVariables false
set_option maxRecDepth 200000
set_option maxHeartbeats 8000000
namespace Go.Proofs.YtemofofnkchmeaaGreatDoor
open _root_.Array renaming getElem?_eq_some_iff->yl,getElem?_modify->yC,getElem?_toList->yK
open _root_.Int renaming natCast_nonneg->yj
open _root_.Go.Lib renaming hid->yc
open _root_.List renaming getElem?_eq_getElem->yf,getElem?_eq_some_iff->yi,length_set->yaj,length_take->yz,mem_of_getElem?->ym,take_add_one->yD,take_append_drop->y9,take_of_length_le->yq
open _root_.Nat renaming add_zero->yw,le_refl->yd,min_eq_left->yaw
open _root_.Go.Proofs.Tryz renaming prog->ye
section
open Go.RowKit Go.OpenShut
theorem BoxD.ext'{a b:BoxD}(h1:a.objs=b.objs)(h2:a.trail=b.trail)(h3:a.seq=b.seq)(h4:a.floor=b.floor)(h5:a.keep=b.keep):a=b:=by
 cases a;cases b;simp_all
theorem zmH(a b:BoxD)(r q:RB)(w:World)(ha:BoxOf w w.heap.size a r)(hb:BoxOf w w.heap.size b q)(oa:a.Ok)(ob:b.Ok):
 Calls ye 27 #[r.val,q.val] w (Said w (a=b)):=by
 have hta:=ha.trail;have htb:=hb.trail;have hna:=hta.nlen;have hnb:=htb.nlen;obtain⟨ras,hra,hma⟩:=ha.objs;obtain⟨rbs,hrb,hmb⟩:=hb.objs;have hla:=hma.len;have hlb:=hmb.len;have hna2:=zi hra;have hnb2:=zi hrb;have hzo:=oa.objs;have HEQ:Hid (a.seq=r.sq/\a.floor=r.fl/\a.keep=r.kp/\b.seq=q.sq/\b.floor=q.fl/\b.keep=q.kp):=⟨ha.seq,ha.floor,ha.keep,hb.seq,hb.floor,hb.keep⟩;have hA0:BoxAt ((w.alloc (.cells #[.slice r.po r.no r.co,.slice r.pt r.nt r.ct,.int .i64 r.sq,.int .i64 r.fl,.int .i64 r.kp] 40)).alloc (.cells #[.slice q.po q.no q.co,.slice q.pt q.nt q.ct,.int .i64 q.sq,.int .i64 q.fl,.int .i64 q.kp] 40)) w.heap.size r:=zb (by simp) (za rfl)
 have hZ0:BoxAt ((w.alloc (.cells #[.slice r.po r.no r.co,.slice r.pt r.nt r.ct,.int .i64 r.sq,.int .i64 r.fl,.int .i64 r.kp] 40)).alloc (.cells #[.slice q.po q.no q.co,.slice q.pt q.nt q.ct,.int .i64 q.sq,.int .i64 q.fl,.int .i64 q.kp] 40)) (w.heap.size+1) q:=za (by simp)
 have hB0:=zM w (.cells #[.slice r.po r.no r.co,.slice r.pt r.nt r.ct,.int .i64 r.sq,.int .i64 r.fl,.int .i64 r.kp] 40) (.cells #[.slice q.po q.no q.co,.slice q.pt q.nt q.ct,.int .i64 q.sq,.int .i64 q.fl,.int .i64 q.kp] 40);have HTA:=yc hta;have HTB:=yc htb;have HRA:=yc hra;have HRB:=yc hrb;have HMA:=yc hma;have HMB:=yc hmb;have HOA:=yc oa.each;have HOB:=yc ob.each;have HN:Hid (a.objs.length=r.no/\ras.length=r.no/\a.trail.length=r.nt/\b.objs.length=q.no/\rbs.length=q.no/\b.trail.length=q.nt):=⟨by omega,by omega,hna,by omega,by omega,hnb⟩
 have hno:r.no<=1466015503658:=by omega
 clear ha hb hta htb hna hnb hra hma hrb hmb hla hlb hna2 hnb2 hzo oa ob
 go_enter Tryz.func27,Tryz.ntmps27
 go_upto_region 1 with fail
 obtain⟨W0,hW0⟩:∃W0,((w.alloc (.cells #[.slice r.po r.no r.co,.slice r.pt r.nt r.ct,.int .i64 r.sq,.int .i64 r.fl,.int .i64 r.kp] 40)).alloc (.cells #[.slice q.po q.no q.co,.slice q.pt q.nt q.ct,.int .i64 q.sq,.int .i64 q.fl,.int .i64 q.kp] 40))=W0:=⟨_,rfl⟩;rw[hW0]at hA0 hZ0 hB0⊢;clear hW0;have HB:=yc hB0;have HA:=yc hA0;have HZ:=yc hZ0;have hz:=hZ0.lt;obtain⟨c0,c1,c2,c3,c4⟩:=hA0.cells5;obtain⟨d0,d1,d2,d3,d4⟩:=hZ0.cells5;clear hA0 hZ0 hB0;by_cases h1:r.sq=q.sq
 rotate_left
 ·have d1:(r.sq !=q.sq)=true:=by simpa using h1
  have HNO:Hid (¬a=b):=fun h=>h1 (by rw[<-HEQ.out.1,h];exact HEQ.out.2.2.2.1)
  clear h1
  go_wp2_with fail
  go_ret;exact⟨false,rfl,⟨fun h=>(by cases h),fun h=>absurd h HNO.out⟩,HB.out⟩
 have d1:(r.sq !=q.sq)=false:=by simpa using h1
 by_cases h2:r.fl=q.fl
 rotate_left
 ·have d2:(r.fl !=q.fl)=true:=by simpa using h2
  have HNO:Hid (¬a=b):=fun h=>h2 (by rw[<-HEQ.out.2.1,h];exact HEQ.out.2.2.2.2.1)
  clear h1 h2
  go_wp2_with fail
  go_ret;exact⟨false,rfl,⟨fun h=>(by cases h),fun h=>absurd h HNO.out⟩,HB.out⟩
 have d2:(r.fl !=q.fl)=false:=by simpa using h2
 by_cases h3:r.kp=q.kp
 rotate_left
 ·have d3:(r.kp !=q.kp)=true:=by simpa using h3
  have HNO:Hid (¬a=b):=fun h=>h3 (by rw[<-HEQ.out.2.2.1,h];exact HEQ.out.2.2.2.2.2)
  clear h1 h2 h3
  go_wp2_with fail
  go_ret;exact⟨false,rfl,⟨fun h=>(by cases h),fun h=>absurd h HNO.out⟩,HB.out⟩
 have d3:(r.kp !=q.kp)=false:=by simpa using h3
 by_cases h4:r.no=q.no
 rotate_left
 ·have d4:((r.no:Int) !=(q.no:Int))=true:=by simp;omega
  have HNO:Hid (¬a=b):=fun h=>h4 (by have:=HN.out;rw[h]at this;omega)
  clear h1 h2 h3 h4
  go_wp2_with fail
  go_ret;exact⟨false,rfl,⟨fun h=>(by cases h),fun h=>absurd h HNO.out⟩,HB.out⟩
 have d4:((r.no:Int) !=(q.no:Int))=false:=by simp;omega
 have HE:=yc (zpQ W0 w.heap.size (.slice r.pt r.nt r.ct) (.slice q.pt q.nt q.ct) a.trail b.trail (HTA.out.under HB.out (yd _)) (HTB.out.under HB.out (yd _)));have H1:Hid (r.sq=q.sq/\r.fl=q.fl/\r.kp=q.kp/\r.no=q.no):=⟨h1,h2,h3,h4⟩;clear h1 h2 h3 h4;by_cases h5:a.trail=b.trail
 rotate_left
 ·have HNO:Hid (¬a=b):=fun h=>h5 (by rw[h])
  rw[decide_eq_false h5]at HE;clear h5
  go_wp2_with (go_at_call 55;refine HE.out.mono ?_;rintro e w1 ⟨rfl,n1,rfl⟩)
  go_ret;exact⟨false,rfl,⟨fun h=>(by cases h),fun h=>absurd h HNO.out⟩,bdn HB.out _⟩
 rw[decide_eq_true h5]at HE;have H5:=yc h5;clear h5
 go_wp2_with (go_at_call 55;refine HE.out.mono ?_;rintro e w1 ⟨rfl,n1,rfl⟩)
 go_loopw [5] (fun i wr=>∃k:Nat,k<=r.no/\i= .int .i64 k/\Hid (a.objs.take k=b.objs.take k)/\Below W0.heap.size W0 wr) (fun i _=>r.no-(intOf i).toNat)
 case atStart=>exact⟨0,Nat.zero_le _,rfl,by unfold Hid;simp,bdn (Below.refl _ _) _⟩
 case round=>
  obtain⟨k,hk,rfl,htk,hbr⟩:=hrel;have hbw:Below w.heap.size w wr:=HB.out.trans (hbr.mono HB.out.size);have hA1:=HA.out.under hbr (by omega)
  have hZ1:=HZ.out.under hbr hz;have hz1:=hZ1.lt;clear c0 c1 c2 c3 c4 d0 d1 d2 d3 d4;have c0:=hA1.cell 0 rfl;have d0:=hZ1.cell 0 rfl;by_cases hlt:k<r.no
  ·obtain⟨x,hx⟩:∃x,ras[k]? =some x:=⟨_,yf (by have:=HN.out;omega)⟩
   obtain⟨y,hy⟩:∃x,rbs[k]? =some x:=⟨_,yf (by have:=HN.out;have:=H1.out;omega)⟩
   obtain⟨p,hp⟩:∃x,a.objs[k]? =some x:=⟨_,yf (by have:=HN.out;omega)⟩
   obtain⟨s,hs⟩:∃x,b.objs[k]? =some x:=⟨_,yf (by have:=HN.out;have:=H1.out;omega)⟩
   have hpn:=HMA.out.name _ p x hp hx;have hsn:=HMB.out.name _ s y hs hy;have HTX:=yc (HMA.out.val _ p x hp hx);have HTY:=yc (HMB.out.val _ s y hs hy);have HOX:Hid p.2.Ok:=(HOA.out p (ym hp)).2;have HOY:Hid s.2.Ok:=(HOB.out s (ym hs)).2;obtain⟨b1,o1,hpo,hb1,hc1⟩:=zq (HRA.out.below hbw (yd _)) hx;obtain⟨b2,o2,hqo,hb2,hc2⟩:=zq (HRB.out.below hbw (yd _)) hy;rw[hpo]at c0;rw[hqo]at d0;have f0:=hc1 0 _ rfl;have f1:=hc1 1 _ rfl;have f2:=hc1 2 _ rfl;have f3:=hc1 3 _ rfl;have f4:=hc1 4 _ rfl;have f5:=hc1 5 _ rfl;have g0:=hc2 0 _ rfl;have g1:=hc2 1 _ rfl;have g2:=hc2 2 _ rfl;have g3:=hc2 3 _ rfl;have g4:=hc2 4 _ rfl;have g5:=hc2 5 _ rfl;rw[yw]at f0 g0;have hk0:(0:Int)<=(k:Int):=yj _;have hk1:(k:Int)<(r.no:Int):=by omega
   have hk2:(k:Int)<(q.no:Int):=by have:=H1.out;omega
   have hb1w:b1<wr.heap.size:=by have:=hbw.size;omega
   have hb2w:b2<wr.heap.size:=by have:=hbw.size;omega
   have hzw:w.heap.size<wr.heap.size:=by omega
   have HBR:=yc hbr;have HBW:=yc hbw;have hqn:(x.name.toList==y.name.toList)=decide (p.1=s.1):=by rw[zdk,hpn,hsn]
   by_cases hnm:p.1=s.1
   ·have e2:(x.name.toList==y.name.toList)=true:=by rw[hqn,decide_eq_true hnm]
    have e1:(x.name.toList !=y.name.toList)=false:=by rw[bne,hqn,decide_eq_true hnm];rfl
    have hS:=fun(W:World) (hkb:KB wr.heap.size wr W)=>zob _ p.2 s.2 x.v y.v W (yd _) (HTX.out.under (HBW.out.trans (hkb.1.mono HBW.out.size)) (HBW.out.trans (hkb.1.mono HBW.out.size)).size) (HTY.out.under (HBW.out.trans (hkb.1.mono HBW.out.size)) (HBW.out.trans (hkb.1.mono HBW.out.size)).size) HOX.out HOY.out
    by_cases hval:p.2=s.2
    ·have HSM:Hid (∀W,KB wr.heap.size wr W->Calls ye 56 #[x.v.val,y.v.val] W fun e w'=>e= .returned (.bool true)/\Below W.heap.size W w'):=fun W hkb=>(hS W hkb).mono fun e w' h=>h.yes hval
     have HTK:Hid (a.objs.take (k+1)=b.objs.take (k+1)):=by
      unfold Hid;have hps:p=s:=Prod.ext hnm hval;rw[yD,yD,hp,hs,htk.out,hps]
     clear hx hy hp hs hpn hsn hc1 hc2 hqn hnm hval hS hbr hbw htk hA1 hZ1 hpo hqo
     go_wp2_with fail
     go_region_held3 (fun w'=>Below wr.heap.size wr w'/\∀b o,b<wr.heap.size->w'.cell? ⟨b,o,none⟩=wr.cell? ⟨b,o,none⟩)
      (first|exact KB.drew wr|exact hbk)
      ((go_at_call 56;refine(HSM.out _ (by assumption)).mono ?_;rintro e w2 ⟨rfl,hbs⟩;have hbk:=KB.step (W:=wr) (by assumption) hbs))
     rename (Below wr.heap.size wr _/\_)=>hkb
     go_wp2_with fail
     go_roundw
     case rel=>exact⟨k+1,by omega,by go_num,HTK,HBR.out.trans (hkb.1.mono HBR.out.size)⟩
     case measure=>simp[intOf];omega
    ·have HSM:Hid (∀W,KB wr.heap.size wr W->Calls ye 56 #[x.v.val,y.v.val] W fun e w'=>e= .returned (.bool false)/\Below W.heap.size W w'):=fun W hkb=>(hS W hkb).mono fun e w' h=>h.no hval
     have HNO:Hid (¬a=b):=fun h=>hval (by rw[h,hs]at hp;cases hp;rfl)
     clear hx hy hp hs hpn hsn hc1 hc2 hqn hnm hval hS hbr hbw htk hA1 hZ1 hpo hqo
     go_wp2_with fail
     go_region_held3 (fun w'=>Below wr.heap.size wr w'/\∀b o,b<wr.heap.size->w'.cell? ⟨b,o,none⟩=wr.cell? ⟨b,o,none⟩)
      (first|exact KB.drew wr|exact hbk)
      ((go_at_call 56;refine(HSM.out _ (by assumption)).mono ?_;rintro e w2 ⟨rfl,hbs⟩;have hbk:=KB.step (W:=wr) (by assumption) hbs))
     rename (Below wr.heap.size wr _/\_)=>hkb
     go_wp2_with fail
     go_ret;exact⟨false,rfl,⟨fun h=>(by cases h),fun h=>absurd h HNO.out⟩,HBW.out.trans (hkb.1.mono HBW.out.size)⟩
   ·have e2:(x.name.toList==y.name.toList)=false:=by rw[hqn,decide_eq_false hnm]
    have e1:(x.name.toList !=y.name.toList)=true:=by rw[bne,hqn,decide_eq_false hnm];rfl
    have HNO:Hid (¬a=b):=fun h=>hnm (by rw[h,hs]at hp;cases hp;rfl)
    clear hx hy hp hs hpn hsn hc1 hc2 hqn hnm hbr hbw htk hA1 hZ1 hpo hqo
    go_wp2_with fail
    go_quiet (fail)
    go_wp2_with fail
    go_ret;exact⟨false,rfl,⟨fun h=>(by cases h),fun h=>absurd h HNO.out⟩,bdn HBW.out _⟩
  ·obtain rfl:k=r.no:=by omega
   have HYES:Hid (a=b):=BoxD.ext' (by
    have h:=htk.out;rw[yq (by have:=HN.out;omega),yq (by have:=HN.out;have:=H1.out;omega)]at h
    exact h) H5.out (by rw[HEQ.out.1,H1.out.1];exact HEQ.out.2.2.2.1.symm) (by rw[HEQ.out.2.1,H1.out.2.1];exact HEQ.out.2.2.2.2.1.symm) (by rw[HEQ.out.2.2.1,H1.out.2.2.1];exact HEQ.out.2.2.2.2.2.symm)
   go_wp2_with fail
   go_ret;exact⟨true,rfl,⟨fun _=>HYES.out,fun _=>rfl⟩,hbw⟩
end
section
open Go Go.RowKit Go.OpenShut
theorem zet:∀a b:List UInt8,-1<=Go.Lib.compareBytes a b/\Go.Lib.compareBytes a b<=1
 |[],[]=>by decide
 |[],_::_=>⟨show(-1:Int)<= -1 by decide,show(-1:Int)<=1 by decide⟩
 |_::_,[]=>⟨show(-1:Int)<=1 by decide,show(1:Int)<=1 by decide⟩
 | x :: a, y :: b => by
   unfold Go.Lib.compareBytes
   split
   ·decide
   ·split
    ·decide
    ·exact zet a b
theorem zf1:∀a b:List UInt8,Op.bytesLess a b=decide (Go.Lib.compareBytes a b<0)
 |[],[]=>by decide
 |[],_::_=>by unfold Op.bytesLess;exact(decide_eq_true (show(-1:Int)<0 by decide)).symm
 |_::_,[]=>by unfold Op.bytesLess;exact(decide_eq_false (show¬(1:Int)<0 by decide)).symm
 | x :: a, y :: b => by
   have ih:=zf1 a b;unfold Op.bytesLess Go.Lib.compareBytes;by_cases h:x<y
   ·rw[if_pos h,decide_eq_true h]
    rfl
   ·rw[if_neg h,decide_eq_false h];by_cases h2:y<x
    ·have hne:x≠y:=fun e=>by rw[e]at h2;exact UInt8.lt_irrefl _ h2
     rw[if_pos h2];have:(x==y)=false:=by simpa using hne
     rw[this]
     rfl
    ·have he:x=y:=UInt8.le_antisymm (UInt8.not_lt.1 h2) (UInt8.not_lt.1 h);rw[if_neg h2];subst he;rw[ih];simp
end
section
open Go Go.RowKit
section
variable {α:Type} {enc:α->List Value} {sz:Nat} {e:TypeId}
theorem zfl{w w' w'':World}{row:Option Nat}(h:w.grownBy w' row)(k:w'.grownBy w'' row):w.grownBy w'' row:=
 ⟨k.os.trans h.os,k.tape.trans h.tape,k.output.trans h.output,Nat.le_trans h.size k.size,fun i hi hne=>(k.block i (Nat.lt_of_lt_of_le hi h.size) hne).trans (h.block i hi hne)⟩
def ziI:List Value->Nat->List Value->List Value
 |cs,_,[]=>cs
 |cs,s,v::vs=>ziI (cs.set s v) (s+1) vs
theorem zlP:∀(a b r pre:List Value),a.length=b.length->ziI (pre++(a++r)) pre.length b=pre++(b++r)
 |[],[],_,_,_=>rfl
 |[],_::_,_,_,h=>by cases h
 |_::_,[],_,_,h=>by cases h
 | x :: a, y :: b, r, pre, h => by
   have ih:=zlP a b r (pre++[y]) (by simpa using h)
   rw[List.length_append,List.length_singleton]at ih
   show ziI ((pre++(x::(a++r))).set pre.length y) (pre.length+1) b=_
   rw[List.set_append_right _ _ (yd _),Nat.sub_self,List.set_cons_zero,show pre++y::(a++r)=(pre++[y])++(a++r) by simp,ih]
   simp
theorem zkH(C:Codec enc sz){xs:List α}{k:Nat}{x y:α}(hx:xs[k]? =some x):ziI (cellsOf enc xs) (k*sz) (enc y)=cellsOf enc (xs.set k y):=by
 obtain⟨hk,he⟩:=yi.1 hx;have e1:xs=xs.take k++(x::xs.drop (k+1)):=by rw[<-he,<-List.drop_eq_getElem_cons hk,y9]
 have e2:xs.set k y=xs.take k++(y::xs.drop (k+1)):=List.set_eq_take_append_cons_drop.trans (if_pos hk);have hp:(cellsOf enc (xs.take k)).length=k*sz:=by rw[zm C,yz,yaw (Nat.le_of_lt hk)]
 rw[e2]
 conv=>lhs;rw[e1]
 rw[zv,zv]
 show ziI (_++(enc x++cellsOf enc (xs.drop (k+1)))) _ _=_++(enc y++cellsOf enc (xs.drop (k+1)))
 rw[<-hp];exact zlP _ _ _ _ (by rw[C.len,C.len])
theorem zg2{g n cap base:Nat}:∀(vs:List Value) (s:Nat) (w:World) (cs:List Value),w.ownsRow base e sz (.slice (some ⟨g,0,none⟩) n cap) n cs->(w.setCells g s vs).ownsRow base e sz (.slice (some ⟨g,0,none⟩) n cap) n (ziI cs s vs)/\w.grownBy (w.setCells g s vs) (some g)
 |[],s,w,cs,h=>⟨h,World.grownBy.refl w _⟩
 | v :: vs, s, w, cs, h => by
   obtain⟨h1,h2⟩:=World.ownsRow.stored h s v;obtain⟨h3,h4⟩:=zg2 vs (s+1) _ _ h1;exact⟨h3,zfl h2 h4⟩
theorem Own.storeRow(C:Codec enc sz)(P:Program){w:World}{base g n cap:Nat}{xs:List α}(h:Own w base e enc sz (.slice (some ⟨g,0,none⟩) n cap) xs){k:Nat}{x:α}(hx:xs[k]? =some x)(y:α):
 Sem.run P (storeCells ⟨g,k*sz,none⟩ (enc y) 0) w= .ok () (w.setCells g (k*sz) (enc y))/\Own (w.setCells g (k*sz) (enc y)) base e enc sz (.slice (some ⟨g,0,none⟩) n cap) (xs.set k y)/\w.grownBy (w.setCells g (k*sz) (enc y)) (some g):=by
 obtain⟨g',e1,hn,hb,hlt,hc,hf⟩:=Own.at C h hx;injection e1 with e1
 injection e1 with e1
 subst e1;subst hn;have h2:=zg2 (enc y) (k*sz) w _ h;rw[zkH C hx]at h2;refine⟨?_,?_,h2.2⟩
 ·refine run_storeCells_cells g (k*sz) (enc y) 0 w (fun j hj=> ?_) (fun j _=>hf _) (C.one y)
  rw[C.len]at hj;obtain⟨u,hu⟩:∃u,(enc x)[j]? =some u:=⟨_,yf (by rw[C.len];exact hj)⟩
  rw[yw,hc j u hu]
  rfl
 ·have h3:=h2.1;unfold Own;rw[yaj];exact h3
theorem Own.loadRow(C:Codec enc sz)(P:Program){w:World}{base g n cap:Nat}{xs:List α}(h:Own w base e enc sz (.slice (some ⟨g,0,none⟩) n cap) xs){k:Nat}{x:α}(hx:xs[k]? =some x):
 Sem.run P (loadCellsFrom ⟨g,k*sz,none⟩ 0 sz #[]) w= .ok (enc x).toArray w:=by
 obtain⟨g',e1,hn,hb,hlt,hc,hf⟩:=Own.at C h hx;injection e1 with e1
 injection e1 with e1
 subst e1;exact Go.Proofs.run_loadCellsFrom_list P w _ (enc x) sz (C.len x) (fun j v hv=>by rw[zbl];exact hc j v hv)
theorem Own.drewO{w:World}{base:Nat}{v:Value}{xs:List α}(h:Own w base e enc sz v xs):Own w.drew base e enc sz v xs:=h
theorem Own.swapped(C:Codec enc sz)(P:Program){w:World}{base g n cap:Nat}{xs:List α}(h:Own w base e enc sz (.slice (some ⟨g,0,none⟩) n cap) xs){i j:Nat}{x y:α}(hi:xs[i]? =some x)(hj:xs[j]? =some y):
 Sem.run P (storeCells ⟨g,i*sz,none⟩ (enc y) 0) w= .ok () (w.setCells g (i*sz) (enc y))/\
 Sem.run P (storeCells ⟨g,j*sz,none⟩ (enc x) 0) (w.setCells g (i*sz) (enc y))= .ok () ((w.setCells g (i*sz) (enc y)).setCells g (j*sz) (enc x))/\
 Own ((w.setCells g (i*sz) (enc y)).setCells g (j*sz) (enc x)) base e enc sz (.slice (some ⟨g,0,none⟩) n cap) ((xs.set i y).set j x)/\w.grownBy ((w.setCells g (i*sz) (enc y)).setCells g (j*sz) (enc x)) (some g):=by
 obtain⟨s1,o1,g1⟩:=Own.storeRow C P h hi y;obtain⟨z,hz⟩:∃z,(xs.set i y)[j]? =some z:=⟨_,yf (by rw[yaj];exact(yi.1 hj).1)⟩
 obtain⟨s2,o2,g2⟩:=Own.storeRow C P o1 hz x;exact⟨s1,s2,o2,zfl g1 g2⟩
theorem Own.firstN(C:Codec enc sz){w:World}{base g n cap:Nat}{xs:List α}(h:Own w base e enc sz (.slice (some ⟨g,0,none⟩) n cap) xs)(m:Nat)(hm:m<=n):Own w base e enc sz (.slice (some ⟨g,0,none⟩) m cap) (xs.take m):=by
 obtain⟨hl,h0⟩:=h
 rcases h0 with⟨hv,hn⟩|⟨g',cap',cur,hv,hg,hh,hnc,hcm,hcs,ht⟩
 ·cases hv
 ·simp only[Value.slice.injEq,Option.some.injEq,Addr.mk.injEq,and_true,true_and]at hv;obtain⟨rfl,rfl,rfl⟩:=hv;have hlen:(xs.take m).length=m:=by rw[yz,yaw hm]
  have hc2:(cellsOf enc (xs.take m)).length=m*sz:=by rw[zm C,hlen]
  have e1:cellsOf enc xs=cellsOf enc (xs.take m)++cellsOf enc (xs.drop m):=by rw[<-zv,y9]
  have e2:cellsOf enc (xs.take m)=(cellsOf enc xs).take (m*sz):=by
   rw[e1,<-hc2,List.take_left]
  refine⟨by rw[zm C],.inr ⟨g,cap,cur,by rw[hlen],hg,hh,by rw[hlen];omega,hcm,hcs,?_⟩⟩
  rw[hlen,e2,<-ht,List.take_take,yaw (Nat.mul_le_mul_right sz hm)]
end
end
section
open Go Go.RowKit Go.OpenShut
theorem zpv (q : Nat) (w : World) : Sem.run ye (method 465 158 (.pointer (some ⟨q, 0, none⟩)) "Len") w = Sem.run ye (do
 let (xt,x)<-follow [⟨162,0,true⟩] 158 (.val (.pointer (some ⟨q,0,none⟩)))
 pure (94,<-receiverAt xt x false none)) w:=by kernel_rfl
theorem znU (q : Nat) (w : World) : Sem.run ye (method 465 158 (.pointer (some ⟨q, 0, none⟩)) "Swap") w = Sem.run ye (do
 let (xt,x)<-follow [⟨162,0,true⟩] 158 (.val (.pointer (some ⟨q,0,none⟩)))
 pure (313,<-receiverAt xt x false none)) w:=by kernel_rfl
theorem ziF (q : Nat) (w : World) (v : Value) (h : w.cell? ⟨q, 0, none⟩ = some v) : Sem.run ye (method 465 158 (.pointer (some ⟨q, 0, none⟩)) "Len") w = .ok (94, v) w := by
 have hadd:(⟨q,0,none⟩:Addr).add 0=⟨q,0,none⟩:=rfl;have u67:=fun w=>run_underlying (w:=w) Tryz.underlying162
 have u65:=fun w=>run_underlying (w:=w) Tryz.underlying160
 rw[zpv];simp[follow,receiverAt,Place.get,u67,u65,fieldPlace,loadVar,h,hadd,Tryz.isAgg160,Tryz.sizeOf160,asAddr]
theorem zfP (q : Nat) (w : World) (v : Value) (h : w.cell? ⟨q, 0, none⟩ = some v) : Sem.run ye (method 465 158 (.pointer (some ⟨q, 0, none⟩)) "Swap") w = .ok (313, v) w := by
 have hadd:(⟨q,0,none⟩:Addr).add 0=⟨q,0,none⟩:=rfl;have u67:=fun w=>run_underlying (w:=w) Tryz.underlying162
 have u65:=fun w=>run_underlying (w:=w) Tryz.underlying160
 rw[znU];simp[follow,receiverAt,Place.get,u67,u65,fieldPlace,loadVar,h,hadd,Tryz.isAgg160,Tryz.sizeOf160,asAddr]
theorem zpw (q : Nat) (w : World) : Sem.run ye (method 465 158 (.pointer (some ⟨q, 0, none⟩)) "Less") w = .ok (311, .pointer (some ⟨q, 0, none⟩)) w := by kernel_rfl
theorem zq5 (q : Nat) (w : World) : Sem.run ye (method 465 158 (.pointer (some ⟨q, 0, none⟩)) "Pop") w = .ok (312, .pointer (some ⟨q, 0, none⟩)) w := by kernel_rfl
theorem zeQ(p:Option Addr)(n c:Nat)(w:World):Calls ye 94 #[.slice p n c] w fun e w'=>e= .returned (.int .i64 (n:Int))/\w=w':=by
 go_enter Tryz.func94,Tryz.ntmps94
 go_wp2_with fail
 go_ret;exact⟨rfl,rfl⟩
theorem zn6{P:Program}{α:Type}{enc:α->List Value}{k:Nat}(C:Codec enc k)(mixed:P.follows .mixedOrders=true)(FG:P.funcs[313]? =some Tryz.f313)(aE:∀w,(isAgg 164).run P w= .ok true w)(zE:∀w,(Go.sizeOf 164).run P w= .ok k w)
 (t0:P.underlying 0=some (TypeDesc.tuple #[])) (a0:∀w,(isAgg 0).run P w= .ok false w) (z0:∀w,(Go.sizeOf 0).run P w= .ok 1 w) (v0:∀w,(zeroValue 0).run P w= .ok (Value.tuple #[]) w)
 (t3:P.underlying 3=some (TypeDesc.int IntKind.i64)) (a3:∀w,(isAgg 3).run P w= .ok false w) (z3:∀w,(Go.sizeOf 3).run P w= .ok 1 w) (v3:∀w,(zeroValue 3).run P w= .ok (Value.int IntKind.i64 0) w)
 (tS:P.underlying 160=some (TypeDesc.slice 164)) (aS:∀w,(isAgg 160).run P w= .ok false w) (zS:∀w,(Go.sizeOf 160).run P w= .ok 1 w) (vS:∀w,(zeroValue 160).run P w= .ok (Value.slice none 0 0) w)
 (xs:List α) (base g cap i j:Nat) (x y:α) (w:World) (hO:Own w base 164 enc k (.slice (some ⟨g,0,none⟩) xs.length cap) xs) (hi:xs[i]? =some x) (hj:xs[j]? =some y) (hl:xs.length<=9223372036854775807):
 Calls P 313 #[.slice (some ⟨g,0,none⟩) xs.length cap,.int .i64 (i:Int),.int .i64 (j:Int)] w fun e w'=>e= .returned (.tuple #[])/\Own w' base 164 enc k (.slice (some ⟨g,0,none⟩) xs.length cap) ((xs.set i y).set j x)/\w.grownBy w' (some g):=by
 obtain⟨s1,s2,o2,g2⟩:=Own.swapped C P hO.drewO hi hj;have l1:=Own.loadRow C P hO.drewO hi;have l2:=Own.loadRow C P hO.drewO hj;have n1:(enc x).length=k:=C.len x;have n2:(enc y).length=k:=C.len y;have hi1:=(yi.1 hi).1;have hj1:=(yi.1 hj).1;have HP:Hid (Own ((w.drew.setCells g (i*k) (enc y)).setCells g (j*k) (enc x)) base 164 enc k (.slice (some ⟨g,0,none⟩) xs.length cap) ((xs.set i y).set j x)/\w.grownBy ((w.drew.setCells g (i*k) (enc y)).setCells g (j*k) (enc x)) (some g)):=⟨o2,⟨g2.os,g2.tape,g2.output,g2.size,g2.block⟩⟩;obtain⟨n,hn⟩:∃n,xs.length=n:=⟨_,rfl⟩;rw[hn]at hl hi1 hj1;have HN:=yc hn;rw[hn];have i0:(0:Int)<=(i:Int):=yj _;have j0:(0:Int)<=(j:Int):=yj _;have i1:(i:Int)<(n:Int):=by omega
 have j1:(j:Int)<(n:Int):=by omega
 have ti:((i:Int)).toNat=i:=by omega
 have tj:((j:Int)).toNat=j:=by omega
 generalize enc x=cx at*
 generalize enc y=cy at*
 clear hO o2 g2 hi hj hn
 go_enter FG,Tryz.ntmps313
 go_wp2_with fail
 go_big_region_o
 go_wp2_with fail
 go_end0
 have h:=HP.out;rw[HN.out]at h;exact⟨rfl,h⟩
theorem ze1{α:Type}{enc:α->List Value}(C:Codec enc 7)(xs:List α)(base g cap i j:Nat)(x y:α)(w:World)(hO:Own w base 164 enc 7 (.slice (some ⟨g,0,none⟩) xs.length cap) xs)(hi:xs[i]? =some x)(hj:xs[j]? =some y)(hl:xs.length<=9223372036854775807):
 Calls ye 313 #[.slice (some ⟨g,0,none⟩) xs.length cap,.int .i64 (i:Int),.int .i64 (j:Int)] w fun e w'=>e= .returned (.tuple #[])/\Own w' base 164 enc 7 (.slice (some ⟨g,0,none⟩) xs.length cap) ((xs.set i y).set j x)/\w.grownBy w' (some g):=
 zn6 C (by kernel_rfl) Tryz.func313 Tryz.isAgg164 Tryz.sizeOf164 Tryz.underlying0 Tryz.isAgg0 Tryz.sizeOf0 Tryz.zeroValue0 Tryz.underlying3 Tryz.isAgg3 Tryz.sizeOf3 Tryz.zeroValue3 Tryz.underlying160 Tryz.isAgg160 Tryz.sizeOf160 Tryz.zeroValue160 xs base g cap i j x y w hO hi hj hl
abbrev Tok.val(t:Tok):Value:= .agg #[.int .i64 t.kind,.int .i64 t.n,.string t.s,.int .i64 t.pos]
abbrev Tok.obj(t:Tok):Obj:= .cells #[.int .i64 t.kind,.int .i64 t.n,.string t.s,.int .i64 t.pos] 116
def TokAt(W:World)(g:Nat)(t:Tok):Prop:=W.heap[g]? =some (.cells #[.int .i64 t.kind,.int .i64 t.n,.string t.s,.int .i64 t.pos] 116 (0,0))
theorem TokAt.lt{W:World}{g:Nat}{t:Tok}(h:TokAt W g t):g<W.heap.size:=(yl.1 h).1
theorem TokAt.cell{W:World}{g:Nat}{t:Tok}(h:TokAt W g t)(j:Nat){u:Value}(hu:(zhK t)[j]? =some u):W.cell? ⟨g,j,none⟩=some u:=by
 unfold TokAt at h;rw[cell_of_row W g j _ _ _ h,<-yK];exact hu
theorem TokAt.frozen{W:World}{g:Nat}{t:Tok}(h:TokAt W g t)(j:Nat):W.frozen? ⟨g,j,none⟩=false:=by
 unfold TokAt at h;simp[World.frozen?,h]
theorem TokAt.keep{W W':World}{g:Nat}{t:Tok}(h:TokAt W g t)(hk:W'.heap[g]? =W.heap[g]?):TokAt W' g t:=hk.trans h
theorem TokAt.stored{W:World}{g:Nat}{t:Tok}(h:TokAt W g t)(q:Tok):TokAt ((((W.setCell ⟨g,0,none⟩ (.int .i64 q.kind)).setCell ⟨g,1,none⟩ (.int .i64 q.n)).setCell ⟨g,2,none⟩ (.string q.s)).setCell ⟨g,3,none⟩ (.int .i64 q.pos)) g q:=by
 unfold TokAt at h⊢;simp[World.setCell,yC,h]
theorem zrd{α:Type}{enc:α->List Value}{sz B:Nat}{w:World}{v:Value}{xs:List α}(h:Rd w B enc sz v xs):∃p cap,v= .slice p xs.length cap/\xs.length<=cap/\cap<=9223372036854775807:=by
 obtain⟨p,cap,he,h1,h2,_⟩:=h;exact⟨p,cap,he,h1,h2⟩
def Tok.zero:Tok:=⟨0,0,⟨#[]⟩,0⟩
def RdrAt(W:World)(g:Nat)(v:Value)(en pa:Nat):Prop:=W.heap[g]? =some (.cells #[v,.int .i64 en,.int .i64 pa] 113 (0,0))
theorem RdrAt.lt{W:World}{g en pa:Nat}{v:Value}(h:RdrAt W g v en pa):g<W.heap.size:=(yl.1 h).1
theorem RdrAt.cell{W:World}{g en pa:Nat}{v:Value}(h:RdrAt W g v en pa)(j:Nat){u:Value}(hu:[v,Value.int .i64 en,.int .i64 pa][j]? =some u):W.cell? ⟨g,j,none⟩=some u:=by
 unfold RdrAt at h;rw[cell_of_row W g j _ _ _ h,<-yK];exact hu
theorem RdrAt.frozen{W:World}{g en pa:Nat}{v:Value}(h:RdrAt W g v en pa)(j:Nat):W.frozen? ⟨g,j,none⟩=false:=by
 unfold RdrAt at h;simp[World.frozen?,h]
theorem RdrAt.keep{W W':World}{g en pa:Nat}{v:Value}(h:RdrAt W g v en pa)(hk:W'.heap[g]? =W.heap[g]?):RdrAt W' g v en pa:=hk.trans h
theorem RdrAt.set0{W:World}{g en pa:Nat}{v:Value}(h:RdrAt W g v en pa)(u:Value):RdrAt (W.setCell ⟨g,0,none⟩ u) g u en pa:=by
 unfold RdrAt at h⊢;simp[World.setCell,yC,h]
theorem RdrAt.set2{W:World}{g en pa:Nat}{v:Value}(h:RdrAt W g v en pa)(k:Nat):RdrAt (W.setCell ⟨g,2,none⟩ (.int .i64 k)) g v en k:=by
 unfold RdrAt at h⊢;simp[World.setCell,yC,h]
structure RdS(W:World)(g:Nat)(ts:List Tok)(en pa:Nat):Prop where
 ex:∃p n c,RdrAt W g (.slice p n c) en pa/\Rd W g zhK 4 (.slice p n c) ts
theorem RdS.lt{W:World}{g en pa:Nat}{ts:List Tok}(h:RdS W g ts en pa):g<W.heap.size:=by
 obtain⟨p,n,c,h1,_⟩:=h.ex;exact h1.lt
theorem zoL{B:Nat}{w w':World}{row:Option Nat}(h:w.grownBy w' row)(hb:B<=w.heap.size)(hr:∀k,row=some k->B<=k):Below B w w':=(Below.refl B w).grown h hb hr
theorem RdS.kept{W W':World}{g en pa:Nat}{ts:List Tok}{row:Option Nat}(h:RdS W g ts en pa)(hg:W.grownBy W' row)(hr:∀k,row=some k->g<k):RdS W' g ts en pa:=by
 have hl:=h.lt;obtain⟨p,n,c,h1,h2⟩:=h.ex;exact⟨p,n,c,h1.keep (hg.block g hl (fun e=>by have:=hr g e.symm;omega)),h2.below (zoL hg (by omega) (fun k e=>by have:=hr k e;omega)) (yd _)⟩
theorem RdS.len{W:World}{g en pa:Nat}{ts:List Tok}(h:RdS W g ts en pa):∃p c,RdrAt W g (.slice p ts.length c) en pa/\Rd W g zhK 4 (.slice p ts.length c) ts/\ts.length<=9223372036854775807:=by
 obtain⟨p,n,c,h1,h2⟩:=h.ex;have hl:=zi h2;obtain⟨p',c',hv,h3,h4⟩:=zrd h2;simp only[Value.slice.injEq]at hv;obtain⟨rfl,rfl,rfl⟩:=hv;exact⟨p,c,h1,h2,by omega⟩
theorem VAt.keep{W W':World}{g:Nat}{r:RV}(h:VAt W g r)(hk:W'.heap[g]? =W.heap[g]?):VAt W' g r:=hk.trans h
theorem _root_.Go.RowKit.Below.gbr{w w':World}(h:Below w.heap.size w w')(row:Option Nat):w.grownBy w' row:=⟨h.os,h.tape,h.output,h.size,fun k hk _=>h.block k hk⟩
theorem GrL.other{w w':World}{base g:Nat}{v:Value}{l:List JV}(h:GrL w base v l)(hg:w.grownBy w' (some g))(hb:g<base):GrL w' base v l:=
 h.out (fun k h1 h2=>hg.block k h2 (fun e=>by cases e;omega)) hg.size
theorem GrL.own{w:World}{base:Nat}{v:Value}{l:List JV}(h:GrL w base v l):∃p n c,v= .slice p n c/\n=l.length/\∀k,v.ownBlock=some k->base<=k/\k<w.heap.size:=by
 obtain⟨rs,h1,h2,_⟩:=h.ex;obtain⟨p,c,hv,_,_⟩:=h1.len;exact⟨p,_,c,hv,by rw[h2],h1.lt⟩
end
end Go.Proofs.YtemofofnkchmeaaGreatDoor
