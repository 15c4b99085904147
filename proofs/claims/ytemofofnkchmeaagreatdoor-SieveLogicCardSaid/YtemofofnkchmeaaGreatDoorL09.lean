import Derived.Test.YtemofofnkchmeaaGreatDoorL07
import Derived.BigQuiet
import Derived.Deep.QuietTactic
import Derived.Test.YtemofofnkchmeaaGreatDoorL00
set_option linter.unusedSimpArgs false
set_option linter.unusedVariables false
set_option maxRecDepth 200000
set_option maxHeartbeats 8000000
namespace Go.Proofs.YtemofofnkchmeaaGreatDoor
open _root_.Array renaming length_toList->yH
open _root_.Go.RowKit.Below renaming refl->yh
open _root_.Bool renaming and_eq_true->yO,and_false->ybf,not_false->ybo,not_true->ybr,true_and->ya9
open _root_.Int renaming natCast_nonneg->yj
open _root_.Go.Lib renaming compareBytes->yZ,extract_data->ya6,hid->yc,run_eql_slice_nil->ybg,trimS->yby
open _root_.List renaming all_cons->ybs,all_eq_true->yah,dropWhile_cons->yaI,drop_succ_cons->yaJ,drop_zero->yaY,eq_nil_of_length_eq_zero->yx,getElem?_eq_getElem->yf,length_drop->yF,mem_of_getElem?->ym,replicate->ybp,take_left->ya5,take_of_length_le->yq
open _root_.Nat renaming le_refl->yd
open _root_.Go.Proofs.Tryz renaming prog->ye
section
open Go Go.RowKit Go.OpenShut
theorem zd2{s:ByteArray}{k:Nat}(h:k<s.size):s.data.toList[k]? =some s[k]:=by simp[h,ByteArray.getElem_eq_getElem_data]
def zix(ns:List Int):Array Value:=(ns.map (Value.int .i64)).toArray
def HdAt(W:World)(g:Nat)(ns:List Int):Prop:=W.heap[g]? =some (.cells (zix ns) 266 (0,0))
theorem HdAt.cell{W:World}{g:Nat}{ns:List Int}(h:HdAt W g ns){j:Nat}{x:Int}(hx:ns[j]? =some x):W.cell? ⟨g,j,none⟩=some (.int .i64 x):=by
 unfold HdAt at h;rw[cell_of_row W g j _ _ _ h];unfold zix;simp[hx]
theorem HdAt.lt{W:World}{g:Nat}{ns:List Int}(h:HdAt W g ns):g<W.heap.size:=(Array.getElem?_eq_some_iff.1 h).1
theorem HdAt.frozen{W:World}{g:Nat}{ns:List Int}(h:HdAt W g ns)(j:Nat):W.frozen? ⟨g,j,none⟩=false:=by
 unfold HdAt at h;simp[World.frozen?,h]
theorem HdAt.set{W:World}{g:Nat}{ns:List Int}(h:HdAt W g ns)(j:Nat)(x:Int):HdAt (W.setCell ⟨g,j,none⟩ (.int .i64 x)) g (ns.set j x):=by
 unfold HdAt at h⊢;simp[World.setCell,Array.getElem?_modify,h,zix,List.map_set]
theorem HdAt.keep{W W':World}{g:Nat}{ns:List Int}(h:HdAt W g ns)(hb:W'.heap[g]? =W.heap[g]?):HdAt W' g ns:=hb.trans h
structure HdS(w:World)(l:List UInt8)(i:Nat)(W:World):Prop where
 nums:HdAt W (w.heap.size+1) (zbz l i).2
 zero:HdAt W w.heap.size [0,0,0,0,0,0]
 below:Below w.heap.size w W
theorem HdS.drewN{w W:World}{l:List UInt8}{i:Nat}(h:HdS w l i W)(n:Nat):HdS w l i (W.drewN n):=⟨h.nums,h.zero,bdn h.below n⟩
theorem zo1:∀i:Fin 19,∀f,formL[i.1]? =some f->f≠48->zw f=false:=by
 have h:∀f∈formL,f≠48->zw f=false:=by decide
 exact fun i f hf hn=>h f (ym hf) hn
theorem znB{i:Nat}(hi:i<19){f c:UInt8}(hf:formL[i]? =some f):zeg f c= !((zw c !=decide (f=48))||(!zw c&&decide (c≠f))):=by
 unfold zeg;by_cases h:f=48
 ·rw[if_pos h,decide_eq_true h];cases hd:zw c with
  |true=>rfl
  |false=>rfl
 ·rw[if_neg h,decide_eq_false h];by_cases hc:c=f
  ·have hd:=zo1 ⟨i,hi⟩ f hf h;rw[hc,hd];simp
  ·rw[decide_eq_false hc,decide_eq_true hc];cases zw c<;>rfl
theorem Below.six{B:Nat}{w W:World}{g:Nat}(h:Below B w W)(hg:B<=g)(a b c d x y:Value):Below B w ((((((W.setCell ⟨g,0,none⟩ a).setCell ⟨g,1,none⟩ b).setCell ⟨g,2,none⟩ c).setCell ⟨g,3,none⟩ d).setCell ⟨g,4,none⟩ x).setCell ⟨g,5,none⟩ y):=
 (((((h.setCell (p:=⟨g,0,none⟩) hg _).setCell (p:=⟨g,1,none⟩) hg _).setCell (p:=⟨g,2,none⟩) hg _).setCell (p:=⟨g,3,none⟩) hg _).setCell (p:=⟨g,4,none⟩) hg _).setCell (p:=⟨g,5,none⟩) hg _
def zd4(l:List UInt8)(e:Ending):Prop:=if zci l=true then e= .returned (.tuple #[.agg #[.int .i64 (zo l 0 4),.int .i64 (zo l 5 2),.int .i64 (zo l 8 2),.int .i64 (zo l 11 2),.int .i64 (zo l 14 2),.int .i64 (zo l 17 2)],.bool true])else∃a b c d x y:Int,e= .returned (.tuple #[.agg #[.int .i64 a,.int .i64 b,.int .i64 c,.int .i64 d,.int .i64 x,.int .i64 y],.bool false])
theorem six{ns:List Int}(h:ns.length=6):∃a b c d x y,ns=[a,b,c,d,x,y]:=by
 match ns,h with
 |[a,b,c,d,x,y],_=>exact⟨a,b,c,d,x,y,rfl⟩
theorem zo6(s:ByteArray)(w:World)(hs:s.size<=maxLen):Calls ye 201 #[.string s] w fun e w'=>zd4 s.data.toList e/\Below w.heap.size w w':=by
 have hsz:s.data.toList.length=s.size:=by rw[yH];rfl
 unfold maxLen at hs;obtain⟨W0,hW0⟩:∃W0,(w.alloc (.cells #[.int .i64 0,.int .i64 0,.int .i64 0,.int .i64 0,.int .i64 0,.int .i64 0] 266)).alloc (.cells #[.int .i64 0,.int .i64 0,.int .i64 0,.int .i64 0,.int .i64 0,.int .i64 0] 266)=W0:=⟨_,rfl⟩
 have hS0:HdS w s.data.toList 0 W0:=by
  rw[<-hW0];exact⟨za (by simp),zb (by simp) (za rfl),zM w _ _⟩
 have HW:=yc hW0;have HS0:=yc hS0;have HGE:Hid (∀k,(h:k<s.size)->s.data.toList[k]? =some s[k]):=fun k h=>zd2 h
 have HSZ:=yc hsz;have s0:(0:Int)<=(s.size:Int):=yj _;clear hW0 hS0 hsz;by_cases h19:s.size<19
 ·have q1:decide ((s.size:Int)<19)=true:=decide_eq_true (by omega)
  have HNO:Hid (zci s.data.toList=false):=zo5 (by rw[HSZ.out];exact h19)
  have c0:=HS0.out.nums.cell (j:=0) rfl;have c1:=HS0.out.nums.cell (j:=1) rfl;have c2:=HS0.out.nums.cell (j:=2) rfl;have c3:=HS0.out.nums.cell (j:=3) rfl;have c4:=HS0.out.nums.cell (j:=4) rfl;have c5:=HS0.out.nums.cell (j:=5) rfl;have z0:=HS0.out.zero.cell (j:=0) rfl;have z1:=HS0.out.zero.cell (j:=1) rfl;have z2:=HS0.out.zero.cell (j:=2) rfl;have z3:=HS0.out.zero.cell (j:=3) rfl;have z4:=HS0.out.zero.cell (j:=4) rfl;have z5:=HS0.out.zero.cell (j:=5) rfl;have y:=HS0.out.zero.frozen
  go_enter Tryz.func201,Tryz.ntmps201
  go_upto_region 2 with fail
  rw[HW.out];clear HW
  go_wp2_with fail
  refine bodyPost_ret (v:= .tuple #[.agg #[.int .i64 0,.int .i64 0,.int .i64 0,.int .i64 0,.int .i64 0,.int .i64 0],.bool false]) (by simp[results,Tryz.results201,go_sem,z0,z1,z2,z3,z4,z5]) rfl ⟨?_,Below.six HS0.out.below (yd _) _ _ _ _ _ _⟩
  unfold zd4;rw[if_neg (by rw[HNO.out];decide)]
  exact⟨_,_,_,_,_,_,rfl⟩
 ·have q1:decide ((s.size:Int)<19)=false:=decide_eq_false (by omega)
  have hlen:19<=s.data.toList.length:=by rw[HSZ.out];omega
  have HL:=yc hlen;have h19':(19:Int)<=(s.size:Int):=by omega
  have hw0:=HS0.out.below.size;have hw1:=HS0.out.nums.lt;clear hlen
  go_enter Tryz.func201,Tryz.ntmps201
  go_upto_region 2 with fail
  rw[HW.out];clear HW
  go_wp2_with fail
  go_loopw [5,12] (fun a i wr=>∃k:Nat,k<=19/\i= .int .i64 (k:Int)/\a= .int .i64 ((atN k:Nat):Int)/\Hid (HdI s.data.toList k/\HdS w s.data.toList k wr)) (fun _ i _=>19-(intOf i).toNat)
  case atStart=>exact⟨0,by omega,rfl,rfl,HdI.start _,HS0.out⟩
  case round=>
   obtain⟨k,hk,rfl,rfl,hH⟩:=hrel;have HI:=yc hH.out.1;have HS:=yc hH.out.2;have hk0:(0:Int)<=(k:Int):=yj _;clear hH;by_cases hlt:k<19
   ·have hk19:(k:Int)<19:=by omega
    have hks:k<s.size:=by omega
    have hks':(k:Int)<(s.size:Int):=by omega
    obtain⟨f,hf⟩:=zj1 ⟨k,hlt⟩;dsimp only at hf;have hg:=HGE.out k hks;obtain⟨c,hc⟩:∃c,s[k]=c:=⟨_,rfl⟩;rw[hc]at hg;have HF:=yc hf;have HC:=yc hg
    have hfb:({data:=#[48,48,48,48,45,48,48,45,48,48,84,48,48,58,48,48,58,48,48]}:ByteArray)[k]'hlt=f:=by
     have h1:formL[k]? =some (({data:=#[48,48,48,48,45,48,48,45,48,48,84,48,48,58,48,48,58,48,48]}:ByteArray)[k]'hlt):=zd2 (s:={data:=#[48,48,48,48,45,48,48,45,48,48,84,48,48,58,48,48,58,48,48]}) hlt;rw[hf]at h1;exact(Option.some.inj h1).symm
    have ha5:=(zjN ⟨k,hlt⟩).1;dsimp only at ha5;have HA1:=yc (zjO hf);obtain⟨d,hd⟩:∃d,zw c=d:=⟨_,rfl⟩;have HDG:Hid (zw c=(decide (48<=c.toNat)&&decide (c.toNat<=57))):=rfl;have HD:=yc hd;obtain⟨z,hz⟩:∃z,atN k=z:=⟨_,rfl⟩;rw[hz]at ha5;have hz0:(0:Int)<=(z:Int):=yj _;have hz5:(z:Int)<6:=by omega
    rw[hz];have HZ:=yc hz;clear hg hf hd hz
    go_upto_region 8 with fail
    go_cut [7]from 15 to 24 (fun v wq=>v= .bool d/\wq=wr)
    case first=>
     obtain⟨x,hx⟩:∃b,decide ((48:Int)<=((c.toNat:Nat):Int))=b:=⟨_,rfl⟩;obtain⟨y,hy⟩:∃b,decide (((c.toNat:Nat):Int)<=57)=b:=⟨_,rfl⟩
     have HXY:Hid (d=(x&&y)):=by
      unfold Hid;rw[<-HD.out,HDG.out,<-hx,<-hy]
      congr 1
      ·exact decide_eq_decide.2 (by omega)
      ·exact decide_eq_decide.2 (by omega)
     cases x<;>cases y
     all_goals
      go_wp2_with fail
      go_meet
      exact⟨by rw[HXY.out];rfl,rfl⟩
    case rest=>
    obtain⟨rfl,hwc⟩:=hcut;obtain rfl:wr=wc:=hwc.symm;obtain⟨fb,hfb2⟩:∃b,(((f.toNat:Nat):Int)==48)=b:=⟨_,rfl⟩;obtain⟨cf,hcf⟩:∃b,(((c.toNat:Nat):Int) !=((f.toNat:Nat):Int))=b:=⟨_,rfl⟩
    have HFB:Hid (decide (f=48)=fb):=by
     unfold Hid;rw[<-hfb2];by_cases h:f=48
     ·rw[decide_eq_true h,h];rfl
     ·have h2:¬f.toNat=48:=fun e=>h (UInt8.toNat_inj.1 e)
      rw[decide_eq_false h];simp;omega
    have HCF:Hid (decide (c≠f)=cf):=by
     unfold Hid;rw[<-hcf];by_cases h:c=f
     ·rw[h];simp
     ·have h2:¬c.toNat=f.toNat:=fun e=>h (UInt8.toNat_inj.1 e)
      rw[decide_eq_true h];simp;omega
    have hcf2:(((c.toNat:Nat):Int)==((f.toNat:Nat):Int))= !cf:=by
     rw[<-hcf];unfold bne;simp
    have HPO:Hid (zeg f c= !((d !=fb)||(!d&&cf))):=by
     unfold Hid;rw[znB hlt HF.out,HD.out,HFB.out,HCF.out]
    obtain⟨bad,hbad⟩:∃b,((d !=fb)||(!d&&cf))=b:=⟨_,rfl⟩
    rw[hbad]at HPO;have HBD:=yc hbad;clear hbad
    go_upto_region 9 with fail
    go_cut [41]from 25 to 41 (fun v wq=>v= .bool bad/\∃q,wq=wr.drewN q)
    case first=>
     cases d<;>cases fb<;>cases cf
     all_goals
      simp only[ybo,ybr]at hcf2
      go_wp2_with fail
      go_quiet (fail)
      go_wp2_with fail
      go_meet
      exact⟨by rw[<-HBD.out];rfl,_,rfl⟩
    case rest=>
    obtain⟨rfl,q,hwc⟩:=hcut;obtain⟨W9,hW9⟩:∃W,wr.drewN q=W:=⟨_,rfl⟩;rw[hW9]at hwc;obtain rfl:W9=wc:=hwc.symm;have HS9:Hid (HdS w s.data.toList k W9):=by rw[<-hW9];exact HS.out.drewN q
    clear hW9 HS hfb2 hcf hcf2;obtain⟨a0,a1,a2,a3,a4,a5,hns⟩:=six HI.out.len;have hN:=HS9.out.nums;have hZe:=HS9.out.zero;cases bad
    ·have HIS:=yc (HI.out.step hlt HF.out HC.out (by rw[HPO.out];rfl))
     have HST:=yc (zg0 HF.out HC.out);have hat:(zbz s.data.toList k).1=z:=HI.out.at'.trans HZ.out;have HAT:=yc hat;clear hat;cases d
     ·have hfb:fb=false:=by
       have h:=HBD.out;cases fb
       ·rfl
       ·cases h
      have hne:f≠48:=by
       have h:=HFB.out;rw[hfb]at h;exact of_decide_eq_false h
      have HNE:=yc hne;have HAS:Hid (atN (k+1)=z+1):=by unfold Hid;rw[HA1.out,if_neg hne,HZ.out]
      clear hN hZe hns hfb hne
      go_wp2_with fail
      go_roundw
      case rel=>
       refine⟨k+1,by omega,by go_num,by rw[HAS.out];go_num,HIS.out,⟨?_,HS9.out.zero,HS9.out.below⟩⟩
       rw[HST.out];unfold zfm;rw[if_neg HNE.out];exact HS9.out.nums
      case measure=>simp[intOf];omega
     ·have hfb:fb=true:=by
       have h:=HBD.out;cases fb
       ·cases h
       ·rfl
      have hne:f=48:=by
       have h:=HFB.out;rw[hfb]at h;exact of_decide_eq_true h
      have HNE:=yc hne;have HAS:Hid (atN (k+1)=z):=by unfold Hid;rw[HA1.out,if_pos hne,HZ.out];rfl
      obtain⟨hb0,hb1⟩:=HI.out.bound hlt;rw[HZ.out]at hb0 hb1
      have hgx:(zbz s.data.toList k).2[z]? =some ((zbz s.data.toList k).2.getD z 0):=by
       rw[List.getD_eq_getElem?_getD,yf (by rw[HI.out.len];omega)]
       rfl
      have cz:=hN.cell hgx;have hfz:=hN.frozen z;obtain⟨n,hn⟩:∃n,(zbz s.data.toList k).2.getD z 0=n:=⟨_,rfl⟩;rw[hn]at cz hb0 hb1;have HNN:=yc hn;have hdd:=HD.out;unfold zw at hdd;simp only[yO,decide_eq_true_eq]at hdd
      have hE:n*10+(((c.toNat:Nat):Int)-48) % 256=zcO n c:=by
       unfold zcO;omega
      have HE:=yc hE;have hlw:=hN.lt;clear hN hZe hns hfb hne hgx hn hdd hE
      go_upto_region 13 with fail
      go_region
      go_wp2_with fail
      go_roundw
      case rel=>
       refine⟨k+1,by omega,by go_num,by rw[HAS.out],HIS.out,?_⟩
       have hset:=HS9.out.nums.set z (zcO n c);have hg:=zz W9 (w.heap.size+1) z (.int .i64 (zcO n c));have hzz:HdAt (W9.setCell ⟨w.heap.size+1,z,none⟩ (.int .i64 (zcO n c))) w.heap.size [0,0,0,0,0,0]:=HS9.out.zero.keep (hg.block _ (by omega) (fun e=>by injection e with e;omega))
       have hbb:=Below.setCell HS9.out.below (p:=⟨w.heap.size+1,z,none⟩) (Nat.le_succ _) (.int .i64 (zcO n c));rw[HE.out];refine⟨?_,hzz,hbb.drew⟩;rw[HST.out];unfold zfm;rw[if_pos HNE.out,HAT.out,HNN.out];exact hset
      case measure=>simp[intOf];omega
    ·have HNO:Hid (zci s.data.toList=false):=hd_no HF.out HC.out (by rw[HPO.out];rfl)
     rw[hns]at hN;have c0:=hN.cell (j:=0) rfl;have c1:=hN.cell (j:=1) rfl;have c2:=hN.cell (j:=2) rfl;have c3:=hN.cell (j:=3) rfl;have c4:=hN.cell (j:=4) rfl;have c5:=hN.cell (j:=5) rfl;have z0:=hZe.cell (j:=0) rfl;have z1:=hZe.cell (j:=1) rfl;have z2:=hZe.cell (j:=2) rfl;have z3:=hZe.cell (j:=3) rfl;have z4:=hZe.cell (j:=4) rfl;have z5:=hZe.cell (j:=5) rfl;have y:=hZe.frozen;have hlw:=hN.lt;clear hN hZe hns
     go_wp2_with fail
     refine bodyPost_ret (v:= .tuple #[.agg #[.int .i64 a0,.int .i64 a1,.int .i64 a2,.int .i64 a3,.int .i64 a4,.int .i64 a5],.bool false]) (by simp[results,Tryz.results201,go_sem,z0,z1,z2,z3,z4,z5]) rfl ⟨?_,Below.six HS9.out.below (yd _) _ _ _ _ _ _⟩
     unfold zd4;rw[if_neg (by rw[HNO.out];decide)]
     exact⟨_,_,_,_,_,_,rfl⟩
   ·obtain rfl:k=19:=by omega
    have HYES:Hid (zci s.data.toList=true):=HI.out.fin HL.out;have hN:=HS.out.nums;have hZe:=HS.out.zero;rw[zme HL.out]at hN;obtain⟨m0,hm0⟩:∃n,zo s.data.toList 0 4=n:=⟨_,rfl⟩;obtain⟨m1,hm1⟩:∃n,zo s.data.toList 5 2=n:=⟨_,rfl⟩;obtain⟨m2,hm2⟩:∃n,zo s.data.toList 8 2=n:=⟨_,rfl⟩;obtain⟨m3,hm3⟩:∃n,zo s.data.toList 11 2=n:=⟨_,rfl⟩;obtain⟨m4,hm4⟩:∃n,zo s.data.toList 14 2=n:=⟨_,rfl⟩;obtain⟨m5,hm5⟩:∃n,zo s.data.toList 17 2=n:=⟨_,rfl⟩;rw[hm0,hm1,hm2,hm3,hm4,hm5]at hN;have HMM:=yc (And.intro hm0 (And.intro hm1 (And.intro hm2 (And.intro hm3 (And.intro hm4 hm5)))));have c0:=hN.cell (j:=0) rfl;have c1:=hN.cell (j:=1) rfl;have c2:=hN.cell (j:=2) rfl;have c3:=hN.cell (j:=3) rfl;have c4:=hN.cell (j:=4) rfl;have c5:=hN.cell (j:=5) rfl;have z0:=hZe.cell (j:=0) rfl;have z1:=hZe.cell (j:=1) rfl;have z2:=hZe.cell (j:=2) rfl;have z3:=hZe.cell (j:=3) rfl;have z4:=hZe.cell (j:=4) rfl;have z5:=hZe.cell (j:=5) rfl;have y:=hZe.frozen;clear hN hZe hm0 hm1 hm2 hm3 hm4 hm5
    go_wp2_with fail
    refine bodyPost_ret (v:= .tuple #[.agg #[.int .i64 m0,.int .i64 m1,.int .i64 m2,.int .i64 m3,.int .i64 m4,.int .i64 m5],.bool true]) (by simp[results,Tryz.results201,go_sem,z0,z1,z2,z3,z4,z5]) rfl ⟨?_,Below.six HS.out.below (yd _) _ _ _ _ _ _⟩
    unfold zd4;obtain⟨g0,g1,g2,g3,g4,g5⟩:=HMM.out;rw[if_pos HYES.out,g0,g1,g2,g3,g4,g5]
def digsB:ByteArray:=⟨#[48,49,50,51,52,53,54,55,56,57]⟩
theorem zjo(c:UInt8):digsB.data.toList.contains c=zw c:=by
 have h:∀n:Fin 256,(digsB.data.toList.contains (UInt8.ofNat n.1))=zw (UInt8.ofNat n.1):=by decide+kernel
 have h2:=h ⟨c.toNat,c.toNat_lt⟩;simpa using h2
def m_all(l:List UInt8)(p:UInt8->Bool):Prop:=∀x∈l,p x=true
theorem zmW(l cs:List UInt8):(yby l cs=[])↔l.all (cs.contains ·)=true:=by
 have hd:∀m:List UInt8,m.dropWhile (cs.contains ·)=[]↔m.all (cs.contains ·)=true:=by
  intro m
  induction m with
  |nil=>simp
  | cons a m ih =>
    rw[yaI,ybs];cases h:cs.contains a
    ·simp
    ·simp only[if_true,ya9];exact ih
 have hsub:∀m:List UInt8,m.all (cs.contains ·)=true->(m.reverse.dropWhile (cs.contains ·)).reverse=[]:=by
  intro m hm;have:m.reverse.all (cs.contains ·)=true:=by rw[List.all_reverse];exact hm
  rw[(hd _).2 this]
  rfl
 unfold yby Lib.trimLeftS Lib.trimRightS;rw[hd]
 constructor
 ·intro h;rw[List.all_reverse]at h
  have h2:m_all l.reverse (cs.contains ·):=by
   intro x hx;by_cases hx2:x∈l.reverse.dropWhile (cs.contains ·)
   ·exact yah.1 h x hx2
   ·have h3:=List.takeWhile_append_dropWhile (p:=(cs.contains ·)) (l:=l.reverse)
    rw[<-h3]at hx
    rcases List.mem_append.1 hx with h4|h4
    ·exact yah.1 List.all_takeWhile x h4
    ·exact absurd h4 hx2
  rw[yah];intro x hx;exact h2 x (List.mem_reverse.2 hx)
 ·intro h;rw[hsub l h]
  rfl
theorem zow(s:ByteArray)(w:World)(hs:s.size<=9223372036854775807):Calls ye 229 #[.string s,.string digsB] w fun e w'=>∃T:ByteArray,e= .returned (.string T)/\T.toList.isEmpty=s.data.toList.all zw/\Below w.heap.size w w':=by
 refine(Any.strings_Trim_laid zlG (by kernel_rfl) s digsB w hs (by decide) (fun j b h=> ?_)).mono (fun e w' h=> ?_)
 ·have hall:digsB.data.toList.all (fun b=>decide (b.toNat<128))=true:=by decide+kernel
  exact of_decide_eq_true (yah.1 hall b (ym h))
 ·refine⟨_,h.1,?_,h.2⟩;rw[ByteArray.toList_eq];have e:(fun c=>digsB.data.toList.contains c)=zw:=funext zjo
  have h2:=zmW s.data.toList digsB.data.toList;rw[show(s.data.toList.all (digsB.data.toList.contains ·))=s.data.toList.all zw from congrArg _ e]at h2
  cases ha:s.data.toList.all zw with
  |true=>rw[h2.2 ha];rfl
  | false =>
    cases ht:yby s.data.toList digsB.data.toList with
    |nil=>rw[h2.1 ht]at ha;cases ha
    |cons a r=>rfl
theorem zp2(s:ByteArray)(w:World)(hs:s.size<=maxLen):Calls ye 202 #[.string s] w fun e w'=>e= .returned (.bool (zes s.data.toList))/\Below w.heap.size w w':=by
 have hsz:s.data.toList.length=s.size:=by rw[yH];rfl
 unfold maxLen at hs;have s0:(0:Int)<=(s.size:Int):=yj _;obtain⟨bz,hbz⟩:∃b,(s.toList==[90])=b:=⟨_,rfl⟩
 have HBZ:Hid (decide (s.data.toList=[90])=bz):=by
  unfold Hid;rw[<-hbz,ByteArray.toList_eq];by_cases h:s.data.toList=[90]
  ·rw[decide_eq_true h,h];rfl
  ·rw[decide_eq_false h];simpa using h
 have HTL:Hid (zes s.data.toList=(decide (s.data.toList=[90])||(decide (3<=s.data.toList.length)&&(decide (s.data.toList.length<=11)&&(decide (s.data.toList[0]? =some 46)&&(decide (s.data.toList[s.data.toList.length-1]? =some 90)&&(decide (s.data.toList[s.data.toList.length-2]? ≠some 48)&&((s.data.toList.drop 1).take (s.data.toList.length-2)).all zw))))))):=rfl
 rw[HBZ.out,hsz]at HTL;have HGE:Hid (∀k,(h:k<s.size)->s.data.toList[k]? =some s[k]):=fun k h=>zd2 h
 obtain⟨R,hR⟩:∃R,zes s.data.toList=R:=⟨_,rfl⟩;rw[hR]at HTL;rw[hR];clear hR;cases bz with
 | true =>
   have HRR:Hid (R=true):=by unfold Hid;rw[HTL.out];rfl
   rw[HRR.out];clear hsz
   go_enter Tryz.func202,Tryz.ntmps202
   go_wp2_with fail
   go_ret;exact⟨rfl,yh _ _⟩
 | false =>
   by_cases h3:s.size<3
   ·have q:decide ((s.size:Int)-2<1)=true:=decide_eq_true (by omega)
    have q':(s.size:Int)-2<1:=by omega
    have HRR:Hid (R=false):=by unfold Hid;rw[HTL.out,decide_eq_false (p:=3<=s.size) (by omega)];rfl
    rw[HRR.out];clear hsz
    go_enter Tryz.func202,Tryz.ntmps202
    go_wp2_with fail
    go_ret;exact⟨rfl,yh _ _⟩
   ·obtain⟨K,hK⟩:∃K,s.size=K+2:=⟨s.size-2,by omega⟩
    have hK1:1<=K:=by omega
    have HK:=yc hK;have hKs:(s.size:Int)-2=(K:Int):=by omega
    have b0:0<s.size:=by omega
    have bk:K<s.size:=by omega
    have bz':K+1<s.size:=by omega
    have b0':(0:Int)<(s.size:Int):=by omega
    have bk':(K:Int)<(s.size:Int):=by omega
    have bz2:(K:Int)+1<(s.size:Int):=by omega
    have bz3:(K:Int)+1<=(s.size:Int):=by omega
    have hK0:(1:Int)<=(K:Int):=by omega
    have hK00:(0:Int)<=(K:Int):=by omega
    have q1:decide ((K:Int)<1)=false:=decide_eq_false (by omega)
    obtain⟨e2,he2⟩:∃b,decide ((9:Int)<(K:Int))=b:=⟨_,rfl⟩;have g0:=HGE.out 0 b0;have gk:=HGE.out K bk;have gz:=HGE.out (K+1) bz';obtain⟨c0,hc0⟩:∃c,s[0]=c:=⟨_,rfl⟩;obtain⟨ck,hck⟩:∃c,s[K]=c:=⟨_,rfl⟩;obtain⟨cz,hcz⟩:∃c,s[K+1]=c:=⟨_,rfl⟩;rw[hc0]at g0;rw[hck]at gk;rw[hcz]at gz
    have hdn:∀(c:UInt8) (k:UInt8),(((c.toNat:Nat):Int)==((k.toNat:Nat):Int))=decide (c=k):=fun c k=>by
     by_cases h:c=k
     ·rw[decide_eq_true h,h];simp
     ·rw[decide_eq_false h];have h2:¬c.toNat=k.toNat:=fun e=>h (UInt8.toNat_inj.1 e)
      simp;omega
    obtain⟨x0,hx0⟩:∃b,(((c0.toNat:Nat):Int)==46)=b:=⟨_,rfl⟩;obtain⟨xz,hxz⟩:∃b,(((cz.toNat:Nat):Int)==90)=b:=⟨_,rfl⟩;obtain⟨xk,hxk⟩:∃b,(((ck.toNat:Nat):Int)==48)=b:=⟨_,rfl⟩;have hx0n:(((c0.toNat:Nat):Int) !=46)= !x0:=by unfold bne;rw[hx0]
    have hxzn:(((cz.toNat:Nat):Int) !=90)= !xz:=by unfold bne;rw[hxz]
    have HX0:Hid (decide (c0=46)=x0):=by unfold Hid;rw[<-hx0];exact(hdn c0 46).symm
    have HXZ:Hid (decide (cz=90)=xz):=by unfold Hid;rw[<-hxz];exact(hdn cz 90).symm
    have HXK:Hid (decide (ck=48)=xk):=by unfold Hid;rw[<-hxk];exact(hdn ck 48).symm
    have HTR:Hid (∀W,Calls ye 229 #[.string (s.extract 1 (K+1)),.string digsB] W fun e w'=>∃T:ByteArray,e= .returned (.string T)/\T.toList.isEmpty=(s.extract 1 (K+1)).data.toList.all zw/\Below W.heap.size W w'):=fun W=>zow _ W (by rw[<-zdA,ya6];simp;omega)
    rw[ya6]at HTR
    have HR2:Hid (R=(!(e2||(!x0||(!xz||xk)))&&((s.data.toList.drop 1).take K).all zw)):=by
     unfold Hid;rw[HTL.out,hK,show K+2-1=K+1 by omega,show K+2-2=K by omega,g0,gk,gz,decide_eq_true (p:=3<=K+2) (by omega)]
     have e:decide (K+2<=11)= !e2:=by
      rw[<-he2];by_cases h:9<K
      ·rw[decide_eq_false (by omega),decide_eq_true (by omega)];rfl
      ·rw[decide_eq_true (by omega),decide_eq_false (by omega)];rfl
     have e0:decide (some c0=some 46)=x0:=by rw[<-HX0.out];simp
     have ez:decide (some cz=some 90)=xz:=by rw[<-HXZ.out];simp
     have ek:decide (some ck≠some 48)= !xk:=by rw[<-HXK.out];simp
     rw[e,e0,ez,ek];cases e2<;>cases x0<;>cases xz<;>cases xk<;>simp
    rw[show K+1-1=K by omega]at HTR
    obtain⟨dg,hdg⟩:∃b,((s.data.toList.drop 1).take K).all zw=b:=⟨_,rfl⟩;rw[hdg]at HTR HR2;obtain⟨bad,hbad⟩:∃b,(e2||(!x0||(!xz||xk)))=b:=⟨_,rfl⟩
    rw[hbad]at HR2;have HBD:=yc hbad;unfold digsB at HTR;clear hbad hdg hdn hsz hK h3 g0 gk gz HTL
    go_enter Tryz.func202,Tryz.ntmps202
    go_upto_region 4 with fail
    try rw[hKs]
    go_cut [32]from 9 to 32 (fun v wr=>v= .bool bad/\wr=w)
    case first=>
     cases e2<;>cases x0<;>cases xz<;>cases xk
     all_goals
      simp only[ybo,ybr]at hx0n hxzn
      go_wp2_with fail
      go_meet
      exact⟨by rw[<-HBD.out];rfl,rfl⟩
    case rest=>
    obtain⟨rfl,hwc⟩:=hcut;obtain rfl:w=wc:=hwc.symm;cases bad with
    | true =>
      have HRR:Hid (R=false):=by unfold Hid;rw[HR2.out];rfl
      go_wp2_with fail
      rw[HRR.out];go_ret;exact⟨rfl,yh _ _⟩
    | false =>
      have HRR:Hid (R=dg):=by unfold Hid;rw[HR2.out];rfl
      go_wp2_with (first|(go_at_call 229;refine(HTR.out _).mono ?_;rintro e w1 ⟨T,rfl,hT,hb1⟩)|fail)
      rw[HRR.out];go_ret;exact⟨rfl,hb1⟩
theorem zlU:∀(k:Nat) (l:List UInt8),l.length=k->l.all zw=true->ziL l<10^k
 | 0, l, hk, _ => by
   obtain rfl:=yx hk
   decide
 | k + 1, l, hk, h => by
   have hne:l≠[]:=fun e=>by rw[e]at hk;cases hk
   obtain⟨r,b,rfl⟩:∃r b,l=r++[b]:=⟨l.dropLast,l.getLast hne,(List.dropLast_concat_getLast hne).symm⟩;rw[List.all_append,yO]at h;have hb:zw b=true:=by simpa using h.2
   unfold zw at hb;simp only[yO,decide_eq_true_eq]at hb;have ih:=zlU k r (by simp at hk;exact hk) h.1
   rw[zoC,Int.pow_succ];unfold zcO;omega
theorem zd7{l:List UInt8}{i n:Nat}(h:((l.drop i).take n).all zw=true):0<=zo l i n/\zo l i n<10^n:=by
 refine⟨zlt h,?_⟩;have h1:=zlU _ _ rfl h;have h2:((l.drop i).take n).length<=n:=List.length_take_le _ _;have h3:(10:Nat)^((l.drop i).take n).length<=10^n:=Nat.pow_le_pow_right (by decide) h2
 have h4:(((10:Nat)^((l.drop i).take n).length:Nat):Int)<=((10^n:Nat):Int):=by omega
 have h5:((10:Int)^((l.drop i).take n).length)<=10^n:=by simpa using h4
 exact Int.lt_of_lt_of_le h1 h5
theorem zqR{l:List UInt8}(h:zci l=true):19<=l.length/\(0<=zo l 0 4/\zo l 0 4<=9999)/\(0<=zo l 5 2/\zo l 5 2<=99)/\(0<=zo l 8 2/\zo l 8 2<=99)/\(0<=zo l 11 2/\zo l 11 2<=99)/\(0<=zo l 14 2/\zo l 14 2<=99)/\(0<=zo l 17 2/\zo l 17 2<=99):=by
 have hl:19<=l.length:=by
  unfold zci at h;rw[yO]at h;exact of_decide_eq_true h.1
 have hp:=zmf hl;rw[h]at hp;have hp:=hp.symm;simp only[yO]at hp;obtain⟨_,⟨a,b,c⟩,d,e,f⟩:=hp;have p4:(10:Int)^4=10000:=by decide
 have p2:(10:Int)^2=100:=by decide
 have h1:=zd7 a;have h2:=zd7 b;have h3:=zd7 c;have h4:=zd7 d;have h5:=zd7 e;have h6:=zd7 f;omega
theorem zkP{y m d D:Int}(h:zef y m d=some D):-800000<=D/\D<=4000000:=by
 unfold zef at h
 split at h
 ·rename_i hc;have h1:=zgh hc.1 (show y<=10000 by omega)
  have h2:=zeq y (m.toNat-1);have h3:=zgr y m;have e7:zbW 1970=719528:=by decide
  rw[e7]at h;have:=Option.some.inj h;omega
 ·cases h
theorem zbp(w:World)(a b c d x y:Int):HdAt (w.alloc (.cells #[.int .i64 a,.int .i64 b,.int .i64 c,.int .i64 d,.int .i64 x,.int .i64 y] 266)) w.heap.size [a,b,c,d,x,y]:=za rfl
def zen(o:Option Int):Value:=match o with|some n=> .tuple #[.int .i64 n,.bool true]|none=> .tuple #[.int .i64 0,.bool false]
theorem zff(s:ByteArray)(w:World)(hs:s.size<=maxLen):Calls ye 173 #[.string s] w fun e w'=>e= .returned (zen (zbm s.data.toList))/\Below w.heap.size w w':=by
 have hsz:s.data.toList.length=s.size:=by rw[yH];rfl
 have HHD:Hid (∀W,Calls ye 201 #[.string s] W fun e w'=>zd4 s.data.toList e/\Below W.heap.size W w'):=fun W=>zo6 s W hs
 have HSF:Hid (zbm s.data.toList=if zci s.data.toList&&(zes (s.data.toList.drop 19)&&(decide (zo s.data.toList 11 2<=23)&&(decide (zo s.data.toList 14 2<=59)&&decide (zo s.data.toList 17 2<=59))))then(zef (zo s.data.toList 0 4) (zo s.data.toList 5 2) (zo s.data.toList 8 2)).map (fun D=>((D*24+zo s.data.toList 11 2)*60+zo s.data.toList 14 2)*60+zo s.data.toList 17 2)else none):=rfl
 have HTL:Hid (19<=s.size->∀W,Calls ye 202 #[.string (s.extract 19 s.size)] W fun e w'=>e= .returned (.bool (zes (s.data.toList.drop 19)))/\Below W.heap.size W w'):=fun h W=>(zp2 (s.extract 19 s.size) W (by rw[<-zdA,ya6];simp;omega)).mono (fun e w' h=>by
  rw[ya6,yq (by rw[yF];omega)]at h
  exact h)
 obtain⟨R,hR⟩:∃R,zbm s.data.toList=R:=⟨_,rfl⟩;rw[hR]at HSF;rw[hR];clear hR;unfold maxLen at hs;have s0:(0:Int)<=(s.size:Int):=yj _;cases hok:zci s.data.toList with
 | false =>
   have HRR:Hid (R=none):=by unfold Hid;rw[HSF.out,hok];rfl
   have HNO:=yc hok;clear hok hsz
   go_enter Tryz.func173,Tryz.ntmps173
   go_wp2_with (first|(go_at_call 201;refine(HHD.out _).mono ?_;rintro e w1 ⟨hh,hb1⟩;unfold zd4 at hh;rw[if_neg (by rw[HNO.out];decide)]at hh;obtain⟨a,b,c,d,x,y,rfl⟩:=hh)|fail)
   rw[HRR.out];refine bodyPost_ret (v:= .tuple #[.int .i64 0,.bool false]) (by simp[results,Tryz.results173,go_sem]) rfl ⟨rfl,hb1.alloc hb1.size _⟩
 | true =>
   obtain⟨hl,⟨y0,y1⟩,⟨m0,m1⟩,⟨d0,d1⟩,⟨h0,h1⟩,⟨i0,i1⟩,⟨n0,n1⟩⟩:=zqR hok;have h19:19<=s.size:=by omega
   have HT2:=yc (HTL.out h19);have h19':(19:Int)<=(s.size:Int):=by omega
   have HDA:Hid (∀W,Calls ye 203 #[.int .i64 (zo s.data.toList 0 4),.int .i64 (zo s.data.toList 5 2),.int .i64 (zo s.data.toList 8 2)] W fun e w'=>e= .returned (znm (zef (zo s.data.toList 0 4) (zo s.data.toList 5 2) (zo s.data.toList 8 2)))/\W=w'):=fun W=>zoV _ _ _ W y0 y1 m0 m1 d0 d1
   have HH2:Hid (∀W,Calls ye 201 #[.string s] W fun e w'=>e= .returned (.tuple #[.agg #[.int .i64 (zo s.data.toList 0 4),.int .i64 (zo s.data.toList 5 2),.int .i64 (zo s.data.toList 8 2),.int .i64 (zo s.data.toList 11 2),.int .i64 (zo s.data.toList 14 2),.int .i64 (zo s.data.toList 17 2)],.bool true])/\Below W.heap.size W w'):=fun W=>(HHD.out W).mono (fun e w' h=>by
    obtain⟨h2,h3⟩:=h;unfold zd4 at h2;rw[if_pos hok]at h2;exact⟨h2,h3⟩)
   have HDB:Hid (∀D,zef (zo s.data.toList 0 4) (zo s.data.toList 5 2) (zo s.data.toList 8 2)=some D-> -800000<=D/\D<=4000000):=fun D h=>zkP h
   rw[hok]at HSF;clear hok HHD HTL hl hsz;obtain⟨Y,hY⟩:∃n,zo s.data.toList 0 4=n:=⟨_,rfl⟩;obtain⟨M,hM⟩:∃n,zo s.data.toList 5 2=n:=⟨_,rfl⟩;obtain⟨D,hD⟩:∃n,zo s.data.toList 8 2=n:=⟨_,rfl⟩;obtain⟨H,hH⟩:∃n,zo s.data.toList 11 2=n:=⟨_,rfl⟩;obtain⟨I,hI⟩:∃n,zo s.data.toList 14 2=n:=⟨_,rfl⟩;obtain⟨C,hC⟩:∃n,zo s.data.toList 17 2=n:=⟨_,rfl⟩;obtain⟨tl,htl⟩:∃b,zes (s.data.toList.drop 19)=b:=⟨_,rfl⟩;obtain⟨o,ho⟩:∃o,zef Y M D=o:=⟨_,rfl⟩;rw[hY,hM,hD]at HDA HSF HDB HH2;rw[hH,hI,hC]at HSF HH2;rw[ho]at HDA HSF HDB;rw[htl]at HSF HT2;rw[hH]at h0 h1;rw[hI]at i0 i1;rw[hC]at n0 n1;clear hY hM hD hH hI hC htl ho y0 y1 m0 m1 d0 d1;obtain⟨a3,ha3⟩:∃b,decide ((23:Int)<H)=b:=⟨_,rfl⟩;obtain⟨a4,ha4⟩:∃b,decide ((59:Int)<I)=b:=⟨_,rfl⟩;obtain⟨a5,ha5⟩:∃b,decide ((59:Int)<C)=b:=⟨_,rfl⟩
   have HSF2:Hid (R=if(tl&&(!a3&&(!a4&& !a5)))then o.map (fun D=>((D*24+H)*60+I)*60+C)else none):=by
    unfold Hid;rw[HSF.out,ya9,<-ha3,<-ha4,<-ha5]
    have e:∀n k:Int,decide (n<=k)= !decide (k<n):=fun n k=>by
     by_cases h:n<=k
     ·rw[decide_eq_true h,decide_eq_false (by omega)];rfl
     ·rw[decide_eq_false h,decide_eq_true (by omega)];rfl
    rw[e H 23,e I 59,e C 59]
   clear HSF;cases hall:(tl&&(!a3&&(!a4&& !a5)))with
   | false =>
     have HRR:Hid (R=none):=by unfold Hid;rw[HSF2.out,hall];rfl
     cases tl<;>cases a3<;>cases a4<;>cases a5<;>simp only[Bool.and_true,ybf,ya9,Bool.false_and,ybr,ybo,Bool.and_self,reduceCtorEq]at hall
     all_goals
      go_enter Tryz.func173,Tryz.ntmps173
      go_wp2_with (first|(go_at_call 201;refine(HH2.out _).mono ?_;rintro e w1 ⟨rfl,hb1⟩)|(go_at_call 202;refine(HT2.out _).mono ?_;rintro e w2 ⟨rfl,hb2⟩;(have g3:w2.cell? ⟨w1.heap.size,3,none⟩=some (.int .i64 H):=zc hb2 (by simp) ((zbp _ _ _ _ _ _ _).cell rfl));(have g4:w2.cell? ⟨w1.heap.size,4,none⟩=some (.int .i64 I):=zc hb2 (by simp) ((zbp _ _ _ _ _ _ _).cell rfl));(have g5:w2.cell? ⟨w1.heap.size,5,none⟩=some (.int .i64 C):=zc hb2 (by simp) ((zbp _ _ _ _ _ _ _).cell rfl)))|fail)
      rw[HRR.out];refine bodyPost_ret (v:= .tuple #[.int .i64 0,.bool false]) (by simp[results,Tryz.results173,go_sem]) rfl ⟨rfl,(hb1.alloc hb1.size _).trans (hb2.mono (by simp;have:=hb1.size;omega))⟩
   | true =>
     cases tl<;>cases a3<;>cases a4<;>cases a5<;>simp only[Bool.and_true,ybf,ya9,Bool.false_and,ybr,ybo,Bool.and_self,reduceCtorEq]at hall
     have l3:=of_decide_eq_false ha3;have l4:=of_decide_eq_false ha4;have l5:=of_decide_eq_false ha5;cases o with
     | none =>
       have HRR:Hid (R=none):=by unfold Hid;rw[HSF2.out];rfl
       have HDN:Hid (∀W,Calls ye 203 #[.int .i64 Y,.int .i64 M,.int .i64 D] W fun e w'=>e= .returned (.tuple #[.int .i64 0,.bool false])/\W=w'):=HDA.out
       clear HDA HDB HSF2
       go_enter Tryz.func173,Tryz.ntmps173
       go_wp2_with (first|(go_at_call 201;refine(HH2.out _).mono ?_;rintro e w1 ⟨rfl,hb1⟩)|(go_at_call 202;refine(HT2.out _).mono ?_;rintro e w2 ⟨rfl,hb2⟩;(have g0:w2.cell? ⟨w1.heap.size,0,none⟩=some (.int .i64 Y):=zc hb2 (by simp) ((zbp _ _ _ _ _ _ _).cell rfl));(have g1:w2.cell? ⟨w1.heap.size,1,none⟩=some (.int .i64 M):=zc hb2 (by simp) ((zbp _ _ _ _ _ _ _).cell rfl));(have g2:w2.cell? ⟨w1.heap.size,2,none⟩=some (.int .i64 D):=zc hb2 (by simp) ((zbp _ _ _ _ _ _ _).cell rfl));(have g3:w2.cell? ⟨w1.heap.size,3,none⟩=some (.int .i64 H):=zc hb2 (by simp) ((zbp _ _ _ _ _ _ _).cell rfl));(have g4:w2.cell? ⟨w1.heap.size,4,none⟩=some (.int .i64 I):=zc hb2 (by simp) ((zbp _ _ _ _ _ _ _).cell rfl));(have g5:w2.cell? ⟨w1.heap.size,5,none⟩=some (.int .i64 C):=zc hb2 (by simp) ((zbp _ _ _ _ _ _ _).cell rfl)))|(go_at_call 203;refine(HDN.out _).mono ?_;rintro e w3 ⟨rfl,rfl⟩)|fail)
       rw[HRR.out];refine bodyPost_ret (v:= .tuple #[.int .i64 0,.bool false]) (by simp[results,Tryz.results173,go_sem]) rfl ⟨rfl,(hb1.alloc hb1.size _).trans (hb2.mono (by simp;have:=hb1.size;omega))⟩
     | some N =>
       obtain⟨N0,N1⟩:=HDB.out N rfl;have HRR:Hid (R=some (((N*24+H)*60+I)*60+C)):=by unfold Hid;rw[HSF2.out];rfl
       have HDN:Hid (∀W,Calls ye 203 #[.int .i64 Y,.int .i64 M,.int .i64 D] W fun e w'=>e= .returned (.tuple #[.int .i64 N,.bool true])/\W=w'):=HDA.out
       clear HDA HDB HSF2
       go_enter Tryz.func173,Tryz.ntmps173
       go_wp2_with (first|(go_at_call 201;refine(HH2.out _).mono ?_;rintro e w1 ⟨rfl,hb1⟩)|(go_at_call 202;refine(HT2.out _).mono ?_;rintro e w2 ⟨rfl,hb2⟩;(have g0:w2.cell? ⟨w1.heap.size,0,none⟩=some (.int .i64 Y):=zc hb2 (by simp) ((zbp _ _ _ _ _ _ _).cell rfl));(have g1:w2.cell? ⟨w1.heap.size,1,none⟩=some (.int .i64 M):=zc hb2 (by simp) ((zbp _ _ _ _ _ _ _).cell rfl));(have g2:w2.cell? ⟨w1.heap.size,2,none⟩=some (.int .i64 D):=zc hb2 (by simp) ((zbp _ _ _ _ _ _ _).cell rfl));(have g3:w2.cell? ⟨w1.heap.size,3,none⟩=some (.int .i64 H):=zc hb2 (by simp) ((zbp _ _ _ _ _ _ _).cell rfl));(have g4:w2.cell? ⟨w1.heap.size,4,none⟩=some (.int .i64 I):=zc hb2 (by simp) ((zbp _ _ _ _ _ _ _).cell rfl));(have g5:w2.cell? ⟨w1.heap.size,5,none⟩=some (.int .i64 C):=zc hb2 (by simp) ((zbp _ _ _ _ _ _ _).cell rfl)))|(go_at_call 203;refine(HDN.out _).mono ?_;rintro e w3 ⟨rfl,rfl⟩)|fail)
       rw[HRR.out];refine bodyPost_ret (v:= .tuple #[.int .i64 (((N*24+H)*60+I)*60+C),.bool true]) (by simp[results,Tryz.results173,go_sem]) rfl ⟨rfl,(hb1.alloc hb1.size _).trans (hb2.mono (by simp;have:=hb1.size;omega))⟩
theorem zrj{t:List UInt8}(h:zes t=true):t=[90]\/∃D,t=46::(D++[90])/\D≠[]/\D.all zw=true/\D.length<=9:=by
 unfold zes at h;simp only[Bool.or_eq_true,yO,decide_eq_true_eq]at h
 rcases h with h|⟨h1,h2,h3,h4,_,h6⟩
 ·exact .inl h
 ·obtain⟨c,r,rfl,hr⟩:=zW (k:=2) (l:=t) (by omega)
  have hne:r≠[]:=fun e=>by rw[e]at hr;simp at hr
  obtain⟨D,z,rfl⟩:∃D z,r=D++[z]:=⟨r.dropLast,r.getLast hne,(List.dropLast_concat_getLast hne).symm⟩;simp only[List.length_append,List.length_cons,List.length_nil]at hr h1 h2 h4 h6;have hc:c=46:=by simpa using h3
  have hz:z=90:=by
   rw[show D.length+(0+1)+1-1=(D.length+0)+1 by omega,List.getElem?_cons_succ,List.getElem?_append_right (by omega),show D.length-D.length=0 by omega]at h4
   simpa using h4
  rw[yaJ,yaY,show D.length+(0+1)+1-2=D.length by omega,ya5]at h6
  subst hc;subst hz;refine .inr ⟨D,rfl,fun e=> ?_,h6,by omega⟩
  rw[e]at hr;simp at hr
theorem zqN{c:UInt8}(h:zw c=true):([46,90]:List UInt8).contains c=false:=by
 cases hc:([46,90]:List UInt8).contains c with
 |false=>rfl
 | true =>
   have:c∈([46,90]:List UInt8):=List.contains_iff_mem.1 hc;simp at this
   rcases this with rfl|rfl
   ·cases h
   ·cases h
theorem zhJ{l:List UInt8}(hd:l≠[])(h:l.all zw=true)(r:List UInt8):(l++r).dropWhile (([46,90]:List UInt8).contains ·)=l++r:=by
 cases l with
 |nil=>exact absurd rfl hd
 | cons a m =>
   rw[ybs,yO]at h;rw[List.cons_append,yaI,if_neg (by rw[zqN h.1];decide)]
theorem zox{D:List UInt8}(hd:D≠[])(h:D.all zw=true):yby (46::(D++[90])) [46,90]=D:=by
 unfold yby Lib.trimLeftS Lib.trimRightS;have e1:(46::(D++[90])).reverse=90::(D.reverse++[46]):=by simp
 have e2:(90::(D.reverse++[46])).dropWhile (([46,90]:List UInt8).contains ·)=D.reverse++[46]:=by
  rw[yaI,if_pos (by decide)]
  exact zhJ (by simpa using hd) (by rw[List.all_reverse];exact h) _
 rw[e1,e2,List.reverse_append,List.reverse_reverse]
 show(46::D).dropWhile _=D
 rw[yaI,if_pos (by decide)]
 have:=zhJ hd h [];rw[List.append_nil]at this;exact this
theorem zrU:∀f∈formL,zeg f 46=false:=by decide
theorem zo4{l:List UInt8}(h:zci l=true):(l.take 19).count 46=0:=by
 rw[List.count_eq_zero];intro hm;obtain⟨i,hi,he⟩:=List.mem_iff_getElem.1 hm;rw[List.length_take]at hi;have hil:i<19:=by omega
 have hl:l[i]? =some 46:=by
  rw[List.getElem_take]at he;rw[<-he];exact yf _
 obtain⟨f,hf⟩:=zj1 ⟨i,hil⟩;unfold zci at h;rw[yO]at h;have hz:(formL.zip l)[i]? =some (f,46):=by rw[List.getElem?_zip_eq_some];exact⟨hf,hl⟩
 have h2:=yah.1 h.2 _ (ym hz);dsimp only at h2;rw[zrU f (ym hf)]at h2;cases h2
theorem zns{D:List UInt8}(h:D.all zw=true):D.count 46=0:=by
 rw[List.count_eq_zero];intro hm;have:=yah.1 h _ hm;cases this
theorem zpE{l:List UInt8}(hh:zci l=true)(ht:zes (l.drop 19)=true):yby (l.drop 19) [46,90]=(l.drop 20).take (l.length-21)/\(11:Int)-(l.length-19:Nat)+(l.count 46:Nat)=((10-(l.length-21):Nat):Int)/\20<=l.length/\l.length<=30:=by
 have hc:=zo4 hh
 have hs:l.count 46=(l.drop 19).count 46:=by
  conv=>lhs;rw[<-List.take_append_drop 19 l]
  rw[List.count_append,hc,Nat.zero_add]
 have hdr:l.drop 20=(l.drop 19).drop 1:=by rw[List.drop_drop]
 have hlen:(l.drop 19).length=l.length-19:=yF;rw[hs,hdr]
 rcases zrj ht with h|⟨D,h,h1,h2,h3⟩
 ·rw[h]at hlen⊢;have:l.length=20:=by simp at hlen;omega
  rw[this];exact⟨by decide,by decide,by omega,by omega⟩
 ·rw[h]at hlen⊢;have hl:l.length=21+D.length:=by simp at hlen;omega
  have hn:1<=D.length:=by
   cases D with
   |nil=>exact absurd rfl h1
   |cons a r=>simp
  refine⟨?_,?_,by omega,by omega⟩
  ·rw[zox h1 h2,hl,yaJ,yaY,show 21+D.length-21=D.length by omega,ya5]
  ·rw[List.count_cons,List.count_append,zns h2,hl]
   show(11:Int)-((21+D.length-19:Nat):Int)+1=_
   omega
theorem zld(c:UInt8)(n:Nat):Lib.repeatL [c] n=ybp n c:=by
 induction n with
 |zero=>rfl
 |succ n ih=>rw[List.replicate_succ,<-ih];rfl
theorem zkk(s:ByteArray)(w:World)(hh:zci s.data.toList=true)(ht:zes (s.data.toList.drop 19)=true):Calls ye 232 #[.string s] w fun e w'=>e= .returned (.string ⟨(zcq s.data.toList).toArray⟩)/\Below w.heap.size w w':=by
 obtain⟨h1,h2,h3,h4⟩:=zpE hh ht;have hsz:s.data.toList.length=s.size:=by rw[yH];rfl
 rw[hsz]at h1 h2 h3 h4;have h19:19<=s.size:=by omega
 have h19':(19:Int)<=(s.size:Int):=by omega
 have HTR:Hid (∀W,Calls ye 229 #[.string (s.extract 19 s.size),.string ⟨#[46,90]⟩] W fun e w'=>e= .returned (.string ⟨((s.data.toList.drop 20).take (s.size-21)).toArray⟩)/\Below W.heap.size W w'):=fun W=>
  (Any.strings_Trim_laid zlG (by kernel_rfl) (s.extract 19 s.size) ⟨#[46,90]⟩ W (by rw[<-zdA,ya6];simp;omega) (by decide) (fun j b h=>by
   have hall:([46,90]:List UInt8).all (fun b=>decide (b.toNat<128))=true:=by decide
   exact of_decide_eq_true (yah.1 hall b (ym h)))).mono (fun e w' h=>by
    rw[ya6,yq (by rw[yF,hsz];omega)]at h
    refine⟨h.1.trans ?_,h.2⟩;rw[<-h1])
 have HCO:Hid (∀W,Calls ye 256 #[.string s,.string ⟨#[46]⟩] W fun e w'=>e= .returned (.int .i64 ((s.data.toList.count 46:Nat):Int))/\W=w'):=fun W=>(strings_Count_one s 46 W).mono (fun e w' h=>⟨h.1,h.2.symm⟩)
 have HRP:Hid (∀W,Calls ye 255 #[.string ⟨#[48]⟩,.int .i64 ((10-(s.size-21):Nat):Int)] W fun e w'=>e= .returned (.string ⟨(ybp (10-(s.size-21)) 48).toArray⟩)/\Below W.heap.size W w'):=fun W=>(strings_Repeat ⟨#[48]⟩ _ W (by omega) (by show 1*_<=_;omega)).mono (fun e w' h=>⟨h.1.trans (by rw[show(⟨#[48]⟩:ByteArray).data.toList=[48]from rfl,zld]),h.2⟩)
 have HPF:Hid ((⟨(zcq s.data.toList).toArray⟩:ByteArray)=⟨((s.data.toList.drop 20).take (s.size-21)).toArray⟩++⟨(ybp (10-(s.size-21)) 48).toArray⟩):=by
  unfold Hid zcq;rw[hsz];apply ByteArray.ext;simp
 obtain⟨c,hc⟩:∃c:Nat,s.data.toList.count 46=c:=⟨_,rfl⟩;obtain⟨T,hT⟩:∃T:ByteArray,⟨((s.data.toList.drop 20).take (s.size-21)).toArray⟩=T:=⟨_,rfl⟩;obtain⟨Q,hQ⟩:∃Q:ByteArray,⟨(ybp (10-(s.size-21)) 48).toArray⟩=Q:=⟨_,rfl⟩;have hTs:T.size<=10:=by rw[<-hT,<-zdA];simp;try omega
 have hQs:Q.size<=10:=by rw[<-hQ,<-zdA];simp;try omega
 rw[hT]at HTR HPF;rw[hQ]at HRP HPF;rw[hc]at HCO h2;have HN:=yc h2;have hcb:(c:Int)<=1000:=by omega
 have hc0:(0:Int)<=(c:Int):=yj _
 have hw:IntKind.i64.wrap (IntKind.i64.wrap (11-((s.size-19:Nat):Int))+(c:Int))=((10-(s.size-21):Nat):Int):=by
  rw[<-h2];have b:((s.size-19:Nat):Int)<=11:=by omega
  have b0:(0:Int)<=((s.size-19:Nat):Int):=yj _
  generalize((s.size-19:Nat):Int)=n at b b0
  rw[IntKind.wrap_i64 (11-n),IntKind.wrap_i64];omega
 rw[<-hw]at HRP;clear hT hQ hc h1 h2 hsz hh ht hw HN
 go_enter Tryz.func232,Tryz.ntmps232
 go_upto_region 1 with fail
 go_region_with
  (first
   |(go_at_call 229;refine(HTR.out _).mono ?_;rintro e w1 ⟨rfl,hb1⟩)
   |(go_at_call 256;refine(HCO.out _).mono ?_;rintro e w2 ⟨rfl,rfl⟩)
   |(go_at_call 255;refine(HRP.out _).mono ?_;rintro e w3 ⟨rfl,hb3⟩)
   |fail)
 all_goals
  first
   |go_ret
   |(go_wp2_with fail;go_ret)
  refine⟨by rw[HPF.out];rfl,?_⟩
  first
   |exact(((yh _ _).drew).trans (hb1.mono (yd _))).trans (hb3.mono hb1.size)
   |exact(hb1.trans (hb3.mono hb1.size))
   |(trace_state;fail)
theorem zhb(a b:ByteArray)(W:World):Calls ye 43 #[.string a,.string b] W fun e w'=>e= .returned (.int .i64 (yZ a.data.toList b.data.toList))/\W=w':=(strings_Compare a b W).mono (fun e w' h=>⟨h.1,h.2.symm⟩)
theorem zi7(s t:ByteArray)(w:World)(hs:s.size<=maxLen)(ht:t.size<=maxLen):Calls ye 204 #[.string s,.string t] w fun e w'=>e= .returned (.int .i64 (zc5 s.data.toList t.data.toList))/\Below w.heap.size w w':=by
 have HSA:Hid (∀W,Calls ye 173 #[.string s] W fun e w'=>e= .returned (zen (zbm s.data.toList))/\Below W.heap.size W w'):=fun W=>zff s W hs
 have HSB:Hid (∀W,Calls ye 173 #[.string t] W fun e w'=>e= .returned (zen (zbm t.data.toList))/\Below W.heap.size W w'):=fun W=>zff t W ht
 have HCM:Hid (∀W,Calls ye 43 #[.string s,.string t] W fun e w'=>e= .returned (.int .i64 (yZ s.data.toList t.data.toList))/\W=w'):=fun W=>zhb s t W
 have HR:Hid (zc5 s.data.toList t.data.toList=match zbm s.data.toList,zbm t.data.toList with
  |none,none=>Go.Lib.compareBytes s.data.toList t.data.toList
  |none,some _=> -1
  |some _,none=>1
  |some x,some y=>if x<y then-1 else if y<x then 1 else Go.Lib.compareBytes (zcq s.data.toList) (zcq t.data.toList)):=rfl
 obtain⟨R,hR⟩:∃R,zc5 s.data.toList t.data.toList=R:=⟨_,rfl⟩;rw[hR]at HR;rw[hR];clear hR;have HPA:Hid (∀x,zbm s.data.toList=some x->∀W,Calls ye 232 #[.string s] W fun e w'=>e= .returned (.string ⟨(zcq s.data.toList).toArray⟩)/\Below W.heap.size W w'):=fun x h W=>zkk s W (zgR h).1 (zgR h).2
 have HPB:Hid (∀x,zbm t.data.toList=some x->∀W,Calls ye 232 #[.string t] W fun e w'=>e= .returned (.string ⟨(zcq t.data.toList).toArray⟩)/\Below W.heap.size W w'):=fun x h W=>zkk t W (zgR h).1 (zgR h).2
 have HCP:Hid (∀W,Calls ye 43 #[.string ⟨(zcq s.data.toList).toArray⟩,.string ⟨(zcq t.data.toList).toArray⟩] W fun e w'=>e= .returned (.int .i64 (yZ (zcq s.data.toList) (zcq t.data.toList)))/\W=w'):=fun W=>zhb _ _ W
 obtain⟨PA,hPA⟩:∃P:ByteArray,⟨(zcq s.data.toList).toArray⟩=P:=⟨_,rfl⟩;obtain⟨PB,hPB⟩:∃P:ByteArray,⟨(zcq t.data.toList).toArray⟩=P:=⟨_,rfl⟩;obtain⟨cp,hcp⟩:∃n,Go.Lib.compareBytes (zcq s.data.toList) (zcq t.data.toList)=n:=⟨_,rfl⟩;obtain⟨cm,hcm⟩:∃n,Go.Lib.compareBytes s.data.toList t.data.toList=n:=⟨_,rfl⟩;rw[hPA]at HPA HCP;rw[hPB]at HPB HCP;rw[hcp]at HCP HR;rw[hcm]at HCM HR;obtain⟨oa,hoa⟩:∃o,zbm s.data.toList=o:=⟨_,rfl⟩;obtain⟨ob,hob⟩:∃o,zbm t.data.toList=o:=⟨_,rfl⟩;rw[hoa]at HSA HPA HR;rw[hob]at HSB HPB HR;clear hPA hPB hcp hcm hoa hob hs ht;cases oa with
 | none => cases ob with
   | none =>
     have HRR:Hid (R=cm):=HR.out;clear HR HPA HPB HCP;unfold zen at HSA HSB
     go_enter Tryz.func204,Tryz.ntmps204
     go_wp2_with (first|(go_at_call 173;with_reducible refine(HSA.out _).mono ?_;rintro e w1 ⟨rfl,hb1⟩)|(go_at_call 173;with_reducible refine(HSB.out _).mono ?_;rintro e w2 ⟨rfl,hb2⟩)|(go_at_call 43;refine(HCM.out _).mono ?_;rintro e w3 ⟨rfl,rfl⟩)|fail)
     rw[HRR.out];go_ret;exact⟨rfl,hb1.trans (hb2.mono hb1.size)⟩
   | some y =>
     have HRR:Hid (R= -1):=HR.out;clear HR HPA HPB HCP HCM;unfold zen at HSA HSB
     go_enter Tryz.func204,Tryz.ntmps204
     go_wp2_with (first|(go_at_call 173;with_reducible refine(HSA.out _).mono ?_;rintro e w1 ⟨rfl,hb1⟩)|(go_at_call 173;with_reducible refine(HSB.out _).mono ?_;rintro e w2 ⟨rfl,hb2⟩)|fail)
     rw[HRR.out];go_ret;exact⟨rfl,hb1.trans (hb2.mono hb1.size)⟩
 | some x => cases ob with
   | none =>
     have HRR:Hid (R=1):=HR.out;clear HR HPA HPB HCP HCM;unfold zen at HSA HSB
     go_enter Tryz.func204,Tryz.ntmps204
     go_wp2_with (first|(go_at_call 173;with_reducible refine(HSA.out _).mono ?_;rintro e w1 ⟨rfl,hb1⟩)|(go_at_call 173;with_reducible refine(HSB.out _).mono ?_;rintro e w2 ⟨rfl,hb2⟩)|fail)
     rw[HRR.out];go_ret;exact⟨rfl,hb1.trans (hb2.mono hb1.size)⟩
   | some y =>
     have HQA:=yc (HPA.out x rfl);have HQB:=yc (HPB.out y rfl);clear HPA HPB HCM;unfold zen at HSA HSB;by_cases hxy:x<y
     ·have HRR:Hid (R= -1):=HR.out.trans (if_pos hxy);have q1:decide (x<y)=true:=decide_eq_true hxy;clear HR HCP HQA HQB
      go_enter Tryz.func204,Tryz.ntmps204
      go_wp2_with (first|(go_at_call 173;with_reducible refine(HSA.out _).mono ?_;rintro e w1 ⟨rfl,hb1⟩)|(go_at_call 173;with_reducible refine(HSB.out _).mono ?_;rintro e w2 ⟨rfl,hb2⟩)|fail)
      rw[HRR.out];go_ret;exact⟨rfl,hb1.trans (hb2.mono hb1.size)⟩
     ·have q1:decide (x<y)=false:=decide_eq_false hxy;by_cases hyx:y<x
      ·have HRR:Hid (R=1):=HR.out.trans ((if_neg hxy).trans (if_pos hyx));have q2:decide (y<x)=true:=decide_eq_true hyx;clear HR HCP HQA HQB
       go_enter Tryz.func204,Tryz.ntmps204
       go_wp2_with (first|(go_at_call 173;with_reducible refine(HSA.out _).mono ?_;rintro e w1 ⟨rfl,hb1⟩)|(go_at_call 173;with_reducible refine(HSB.out _).mono ?_;rintro e w2 ⟨rfl,hb2⟩)|fail)
       rw[HRR.out];go_ret;exact⟨rfl,hb1.trans (hb2.mono hb1.size)⟩
      ·have HRR:Hid (R=cp):=HR.out.trans ((if_neg hxy).trans (if_neg hyx));have q2:decide (y<x)=false:=decide_eq_false hyx;clear HR
       go_enter Tryz.func204,Tryz.ntmps204
       go_wp2_with (first|(go_at_call 173;with_reducible refine(HSA.out _).mono ?_;rintro e w1 ⟨rfl,hb1⟩)|(go_at_call 173;with_reducible refine(HSB.out _).mono ?_;rintro e w2 ⟨rfl,hb2⟩)|(go_at_call 232;with_reducible refine(HQA.out _).mono ?_;rintro e w3 ⟨rfl,hb3⟩)|(go_at_call 232;with_reducible refine(HQB.out _).mono ?_;rintro e w4 ⟨rfl,hb4⟩)|(go_at_call 43;refine(HCP.out _).mono ?_;rintro e w5 ⟨rfl,rfl⟩)|fail)
       rw[HRR.out];go_ret;have h12:=hb1.trans (hb2.mono hb1.size);have h123:=h12.trans (hb3.mono h12.size);exact⟨rfl,h123.trans (hb4.mono h123.size)⟩
def letters:List Nat:=[105,73,115,108,116,119,110,112,122,98]
theorem TreeOf.head{w:World}{B:Nat}{t:JV}{r:RV}(h:TreeOf w B t r):t.k=r.k/\t.n=r.n/\t.s=r.s:=by
 cases h with
 |mk hl el hcl hm em hcn hcm=>exact⟨rfl,rfl,rfl⟩
theorem JV.Ok.at_l{t:JV}(h:t.Ok){i:Nat}{x:JV}(hx:t.l[i]? =some x):x.Ok:=by
 cases h with
 |mk _ _ _ _ _ cl _ _=>exact cl i x hx
theorem JV.Ok.s_le{t:JV}(h:t.Ok):t.s.size<=140737488351232/\t.l.length<=1759218604390:=by
 cases h with
 |mk _ _ hs hl _ _ _ _=>exact⟨hs,hl⟩
end
section
open Go.RowKit Go.OpenShut
theorem ziA(W:World):Below W.heap.size W W.drew/\∀b o,b<W.heap.size->World.cell? W.drew ⟨b,o,none⟩=W.cell? ⟨b,o,none⟩:=KB.drew W
theorem kt_da(W:World)(x:Obj):Below W.heap.size W (W.alloc x).drew/\∀b o,b<W.heap.size->World.cell? (W.alloc x).drew ⟨b,o,none⟩=W.cell? ⟨b,o,none⟩:=(KB.mk ((yh _ _).alloc (yd _) x).drew:KB W.heap.size W (W.alloc x).drew)
theorem ziB{W W':World}(h:KB W.heap.size W W'):Below W.heap.size W W'/\∀b o,b<W.heap.size->World.cell? W' ⟨b,o,none⟩=W.cell? ⟨b,o,none⟩:=h
theorem zph{W W':World}(h:KB W.heap.size W W')(x:Obj):Below W.heap.size W (W'.alloc x)/\∀b o,b<W.heap.size->World.cell? (W'.alloc x) ⟨b,o,none⟩=W.cell? ⟨b,o,none⟩:=h.step ((yh _ _).alloc (yd _) _)
end
section
open Go.RowKit
theorem zhG{α:Type}{enc:α->List Value}(C:Codec enc 6)(w:World)(p:Option Addr)(n c:Nat)(xs:List α)(hv:Rd w w.heap.size enc 6 (.slice p n c) xs)(hsz:xs.length*96<=140737488355328):
 Calls ye 52 #[.slice p n c] w fun e w'=>∃p' c',e= .returned (.slice p' n c')/\(p=none↔p'=none)/\Own w' w.heap.size 62 enc 6 (.slice p' n c') xs/\Below w.heap.size w w':=by
 have hn:n=xs.length:=by
  obtain⟨_,_,e,_⟩:=hv;simp only[Value.slice.injEq]at e;exact e.2.1
 subst hn;have HS:=yc hsz;have HV:=yc hv;cases p with
 | none =>
   have h0:xs.length=0/\c=0:=by
    obtain⟨p',cap,he,hlc,hcm,hp0,hp⟩:=hv;simp only[Value.slice.injEq]at he;obtain⟨rfl,h1,rfl⟩:=he;have:=hp0 rfl;omega
   obtain⟨h0,rfl⟩:=h0;obtain rfl:=yx h0;have hnil:∀W,(Go.binOp .eql 37 (.slice none 0 0) (.slice none 0 0)).run ye W= .ok (.bool true) W:=fun W=>ybg W 37 62 none 0 0 0 0 Tryz.underlying37
   clear hv
   go_enter Tryz.func52,Tryz.ntmps52
   go_wp2
   go_ret;exact⟨none,0,rfl,by simp,Own.nil w _ _,yh _ _⟩
 | some a =>
   have hnil:∀W,(Go.binOp .eql 37 (.slice (some a) xs.length c) (.slice none 0 0)).run ye W= .ok (.bool false) W:=fun W=>ybg W 37 62 (some a) xs.length c 0 0 Tryz.underlying37
   have hO:Own (w.alloc (.cells #[] 62)) w.heap.size 62 enc 6 (.slice (some ⟨w.heap.size,0,none⟩) 0 0) ([]:List α):=Own.made (yd _);have hB0:Below w.heap.size w (w.alloc (.cells #[] 62)):=(yh _ _).alloc (yd _) _;have HR:=yc (HV.out.below hB0 (yd _));clear hv
   go_enter Tryz.func52,Tryz.ntmps52
   go_wp2_with (at_builtin;refine zk slO C (w.alloc (.cells #[] 62)) rfl (.tmp 5) (.tmp 6) rfl (v:= .slice (some ⟨w.heap.size,0,none⟩) 0 0) rfl rfl hO HR.out (by have:=HS.out;simp;unfold maxLen;omega) (by have:=HS.out;simp;omega) (by simp) ?_;intro v1 w1 ho1 hg1 hat1)
   have hb1:Below w.heap.size w w1:=Below.appended hB0 hg1 hO (by simp)
   rw[List.nil_append]at ho1;obtain⟨p1,c1,rfl,_,_⟩:=ho1.len
   have hp1:p1≠none:=by
    rintro rfl
    rcases hat1 with h|h<;>simp[Value.ownBlock]at h
   go_ret;refine⟨p1,c1,rfl,⟨(fun h=>by cases h),(fun h=>absurd h hp1)⟩,ho1,hb1⟩
end
end Go.Proofs.YtemofofnkchmeaaGreatDoor
