import Derived.Test.YtemofofnkchmeaaGreatDoorL18
import Derived.Test.YtemofofnkchmeaaGreatDoorL30
set_option linter.unusedSimpArgs false
set_option linter.unusedVariables false
set_option maxRecDepth 200000
set_option maxHeartbeats 8000000
namespace Go.Proofs.YtemofofnkchmeaaGreatDoor
open _root_.Go.RowKit.Below renaming refl->yh
open _root_.Go.Lib renaming hid->yc
open _root_.Nat renaming le_refl->yd
open _root_.Go.Proofs.Tryz renaming prog->ye
section
open Go Go.RowKit Go.OpenShut
theorem znD(v:JV)(rv:RV)(nm s:ByteArray)(g:Nat)(w:World)(B:Nat)(hBw:B<=w.heap.size)(ht:TreeOf w B v rv)(ot:v.Ok)(hg:w.cell? ⟨g,0,none⟩=some (.string nm))
 (hct:zf v<=100000) (hsz:zr v<=4000000000) (hs:s.size<=1000000) (hall:AllAt w) (hmax:MaxAt w):
 Calls ye 77 #[rv.val,.string s,.pointer (some ⟨g,0,none⟩)] w fun e w'=>e= .returned (.bool (zel s.data.toList (zbC v nm)))/\Below w.heap.size w w':=by
 obtain⟨W0,hW0⟩:∃W0,w.alloc rv.kobj=W0:=⟨_,rfl⟩;have hA0:KAt W0 w.heap.size rv:=by rw[<-hW0];exact za rfl
 have hB0:Below w.heap.size w W0:=by rw[<-hW0];exact(yh _ _).alloc (yd _) _
 have hw0:=hB0.size;have hBw0:B<=W0.heap.size:=Nat.le_trans hBw hw0;have hg0:=zc hB0 (zbD hg).2 hg
 have HT:Hid (Calls ye 29 #[rv.val,.string nm] W0 fun e w'=>∃p c,e= .returned (.slice p (zbC v nm).length c)/\Rd w' w'.heap.size zg 1 (.slice p (zbC v nm).length c) (zbC v nm)/\Below W0.heap.size W0 w'):=by
  refine(zlp v rv nm W0 B hBw0 (ht.under (hB0.mono hBw) (yd _)) ot hct (hall.below hB0)).mono ?_;rintro e w1 ⟨u,rfl,ho,hb⟩;obtain⟨a,cap,rfl,_⟩:=ho.len;exact⟨_,_,rfl,ho.rd zn,hb⟩
 have HM:Hid (∀W p c,Below W0.heap.size W0 W->Rd W W.heap.size zg 1 (.slice p (zbC v nm).length c) (zbC v nm)->Calls ye 78 #[.string s,.slice p (zbC v nm).length c] W fun e w'=>e= .returned (.bool (zel s.data.toList (zbC v nm)))/\Below W.heap.size W w'):=by
  intro W p c hW hr;refine znP W s p _ c _ hs hr (by have:=zii v nm;omega) (fun x hx=>by have:=zls hx;omega) ((hmax.below hB0).below hW)
 obtain⟨L,hL⟩:∃L,(zbC v nm).length=L:=⟨_,rfl⟩;rw[hL]at HT HM;obtain⟨X,hX⟩:∃X,zel s.data.toList (zbC v nm)=X:=⟨_,rfl⟩;rw[hX]at HM⊢;obtain⟨k,n,s0,pl,nl,cl,pm,nm',cm⟩:=rv;dsimp only[RV.val,RV.kobj]at*;have HB0:=yc hB0;clear hB0 ht ot hX hL hall hmax
 go_enter Tryz.func77,Tryz.ntmps77
 go_upto_region 1 with fail
 try rw[hW0]
 clear hW0;obtain⟨a0,a1,a2,a3,a4⟩:=hA0.cells5;have hz0:=hA0.lt;clear hA0
 go_wp2_with (first
  |(go_at_call 29;refine HT.out.mono ?_;rintro e w1 ⟨p1,c1,rfl,hr1,hb1⟩;have HR1:=yc hr1;clear hr1)
  |(go_at_call 78;refine(HM.out _ _ _ hb1 HR1.out).mono ?_;rintro e w2 ⟨rfl,hb2⟩))
 go_ret;exact⟨rfl,HB0.out.trans ((hb1.trans (hb2.mono hb1.size)).mono hw0)⟩
theorem znC(q rv:RV)(nm:ByteArray)(Hd:Bool)(g g2:Nat)(w:World)(hk:KAt w g rv)(h2:w.cell? ⟨g2,0,none⟩=some (.string nm))
 (HH:∀W,Below w.heap.size w W->Calls ye 33 #[q.val,rv.val] W fun e w'=>e= .returned (.bool Hd)/\Below W.heap.size W w'):
 Calls ye 75 #[q.val,.pointer (some ⟨g,0,none⟩),.pointer (some ⟨g2,0,none⟩)] w fun e w'=>e= .returned (.bool (Hd !=decide (nm=zch)))/\Below w.heap.size w w':=by
 obtain⟨W0,hW0⟩:∃W0,w.alloc q.obj=W0:=⟨_,rfl⟩;have hA0:VAt W0 w.heap.size q:=by rw[<-hW0];exact za rfl
 have hB0:Below w.heap.size w W0:=by rw[<-hW0];exact(yh _ _).alloc (yd _) _
 have hw0:=hB0.size;have hk0:=hk.under hB0 hk.lt;have hg0:=zc hB0 (zbD h2).2 h2;have hz2:=(zbD hg0).2;have HH0:Hid (∀W,Below W0.heap.size W0 W->Calls ye 33 #[q.val,rv.val] W fun e w'=>e= .returned (.bool Hd)/\Below W.heap.size W w'):=fun W hW=>HH W (hB0.trans (hW.mono hw0))
 have hq:(nm.toList==[65,78,68])=decide (nm=zch):=by rw[<-zF];rfl
 obtain⟨A,hA⟩:∃A,decide (nm=zch)=A:=⟨_,rfl⟩;rw[hA]at hq⊢;obtain⟨k,n,s,pl,nl,cl,pm,nm',cm⟩:=q;obtain⟨vk,vn,vs,vpl,vnl,vcl,vpm,vnm,vcm⟩:=rv;dsimp only[RV.val,RV.obj]at*;have HB0:=yc hB0;clear hB0 hA HH hk h2;cases Hd<;>cases A
 all_goals
  go_enter Tryz.func75,Tryz.ntmps75
  go_upto_region 1 with fail
  try rw[hW0]
  clear hW0;obtain⟨a0,a1,a2,a3,a4⟩:=hA0.cells5;obtain⟨b0,b1,b2,b3,b4⟩:=hk0.cells5;dsimp only at b0 b1 b2 b3 b4;clear hA0 hk0;have hb00:Below W0.heap.size W0 W0.drew:=(yh _ _).drew
  go_region_with (go_at_call 33;(with_reducible refine(HH0.out _ hb00).mono ?_);rintro e w1 ⟨rfl,hb1'⟩;(have hb1:=hb00.trans hb1');(have z0:=zc hb1 hz2 hg0))
  all_goals go_wp2_with fail
  all_goals go_ret
  all_goals exact⟨rfl,HB0.out.trans (hb1.mono hw0)⟩
theorem zmh(w:World)(p:Option Addr)(n c g g2:Nat)(rs:List RV)(bs:List Bool)(hbl:bs.length=rs.length)(hv:Rd w w.heap.size zbc 5 (.slice p n c) rs)(hlen:rs.length<=1759218604390)
 (HP:∀(i:Nat) x b,rs[i]? =some x->bs[i]? =some b->∀W,Below w.heap.size w W->Calls ye 75 #[x.val,.pointer (some ⟨g,0,none⟩),.pointer (some ⟨g2,0,none⟩)] W fun e w'=>e= .returned (.bool b)/\Below W.heap.size W w'):
 Calls ye 116 #[.slice p n c,.func (.func 75) #[] #[.pointer (some ⟨g,0,none⟩),.pointer (some ⟨g2,0,none⟩)]] w fun e w'=>e= .returned (.int .i64 (zbt (bs.findIdx? id)))/\Below w.heap.size w w':=by
 have hn:=zi hv;subst hn;have HV:=yc hv;have HPB:=yc HP;clear hv HP
 go_enter Tryz.func116,Tryz.ntmps116
 go_wp2_with fail
 go_loopw [8] (fun i wr=>∃k:Nat,k<=rs.length/\i= .int .i64 k/\Hid (∀(j:Nat) y,j<k->bs[j]? =some y->id y=false)/\Below w.heap.size w wr) (fun i _=>rs.length-(intOf i).toNat)
 case atStart=>exact⟨0,Nat.zero_le _,rfl,fun j y h=>by omega,yh _ _⟩
 case round=>
  obtain⟨k,hk,rfl,hno,hbr⟩:=hrel;by_cases hlt:k<rs.length
  ·obtain⟨x,hx⟩:∃x,rs[k]? =some x:=⟨_,List.getElem?_eq_getElem hlt⟩;obtain⟨b1,o1,rfl,hb1,hc1⟩:=zq (HV.out.below hbr (yd _)) hx;have f0:=hc1 0 _ rfl;have f1:=hc1 1 _ rfl;have f2:=hc1 2 _ rfl;have f3:=hc1 3 _ rfl;have f4:=hc1 4 _ rfl;rw[Nat.add_zero]at f0;obtain⟨b,hbx⟩:∃b,bs[k]? =some b:=⟨_,List.getElem?_eq_getElem (by omega)⟩
   have HX:=yc hbx;have HBR:=yc hbr;have HQ:Hid (∀W,Below w.heap.size w W->Calls ye 75 #[x.val,.pointer (some ⟨g,0,none⟩),.pointer (some ⟨g2,0,none⟩)] W fun e w'=>e= .returned (.bool b)/\Below W.heap.size W w'):=HPB.out k x b hx hbx
   cases hnb:b
   all_goals
    rw[hnb]at HQ HX;have HNO:=yc hno.out;subst hnb;clear hx hc1 hbr hbx hno
    go_wp2_with (go_at_call 75;refine(HQ.out _ HBR.out).mono ?_;rintro e w1 ⟨rfl,hb1'⟩)
    first
     | (go_roundw
        case rel=>
         refine⟨k+1,by omega,by go_num,?_,HBR.out.trans (hb1'.mono HBR.out.size)⟩
         intro j y hj hy;by_cases e:j=k
         ·subst e;have h2:=HX.out;rw[hy]at h2;cases h2
          rfl
         ·exact HNO.out j y (by omega) hy
        case measure=>simp[intOf];omega)
     | (go_ret
        have HF:=zfk (p:=id) HX.out rfl HNO.out;exact⟨zcD (by rw[HF];rfl),HBR.out.trans (hb1'.mono HBR.out.size)⟩)
  ·obtain rfl:k=rs.length:=by omega
   have HF:=yc (zeL (p:=id) (l:=bs) (fun j y hy=>hno.out j y (by have:=(List.getElem?_eq_some_iff.1 hy).1;omega) hy))
   go_wp2_with fail
   go_ret;exact⟨zcD (by rw[HF.out];rfl),hbr⟩
theorem zjl(w:World)(p:Option Addr)(n c g g2:Nat)(rs:List RV)(bs:List Bool)(hbl:bs.length=rs.length)(hv:Rd w w.heap.size zbc 5 (.slice p n c) rs)(hlen:rs.length<=1759218604390)
 (HP:∀(i:Nat) x b,rs[i]? =some x->bs[i]? =some b->∀W,Below w.heap.size w W->Calls ye 75 #[x.val,.pointer (some ⟨g,0,none⟩),.pointer (some ⟨g2,0,none⟩)] W fun e w'=>e= .returned (.bool b)/\Below W.heap.size W w'):
 Calls ye 74 #[.slice p n c,.func (.func 75) #[] #[.pointer (some ⟨g,0,none⟩),.pointer (some ⟨g2,0,none⟩)]] w fun e w'=>e= .returned (.bool (bs.any id))/\Below w.heap.size w w':=by
 have HC:=yc (zmh w p n c g g2 rs bs hbl hv hlen HP);have HT:=yc ((List.findIdx?_isSome (xs:=bs) (p:=id)).symm);clear hv HP hlen
 generalize bs.findIdx? id=o at HC HT
 cases o with
 | none =>
   have hd:decide ((0:Int)<=zbt none)=false:=by decide
   go_enter Tryz.func74,Tryz.ntmps74
   go_wp2_with (go_at_call 116;refine HC.out.mono ?_;rintro e w1 ⟨rfl,hb1⟩)
   go_ret;exact⟨zK (by rw[HT.out];rfl),hb1⟩
 | some i =>
   have hd:decide ((0:Int)<=zbt (some i))=true:=by simp[zbt]
   go_enter Tryz.func74,Tryz.ntmps74
   go_wp2_with (go_at_call 116;refine HC.out.mono ?_;rintro e w1 ⟨rfl,hb1⟩)
   go_ret;exact⟨zK (by rw[HT.out];simp),hb1⟩
end
end Go.Proofs.YtemofofnkchmeaaGreatDoor
