import Derived.Test.YtemofofnkchmeaaGreatDoorL09
import Derived.Test.YtemofofnkchmeaaGreatDoorL10
import Derived.Laws.IdiomStrings
import Derived.Test.YtemofofnkchmeaaGreatDoorL04
import Derived.Test.YtemofofnkchmeaaGreatDoorL07
import Derived.Test.YtemofofnkchmeaaGreatDoorL01
import Derived.Test.YtemofofnkchmeaaGreatDoorL00
import Derived.Test.YtemofofnkchmeaaGreatDoorL05
set_option linter.unusedSimpArgs false
set_option linter.unusedVariables false
set_option maxRecDepth 200000
set_option maxHeartbeats 8000000
namespace Go.Proofs.YtemofofnkchmeaaGreatDoor
open _root_.Array renaming getElem?_eq_some_iff->yl,getElem?_toList->yK
open _root_.Go.RowKit.Below renaming refl->yh
open _root_.Int renaming natCast_nonneg->yj
open _root_.Go.Lib renaming hid->yc
open _root_.List renaming append_nil->yau,filter_cons->ya7,getElem?_cons_succ->yR,getElem?_eq_getElem->yf,length_append->yp,length_cons->yB,length_map->yy,length_take->yz,mem_cons->yA,not_mem_nil->y5,take_of_length_le->yq,take_succ_cons->yI
open _root_.Nat renaming add_zero->yw,le_refl->yd,le_trans->yg,lt_of_succ_lt->ybe,zero_le->yu
open _root_.Go.Proofs.Tryz renaming prog->ye
section
open Go Go.RowKit Go.OpenShut
theorem zog(c:UInt8)(w:World):Calls ye 210 #[.int .u8 c.toNat] w fun e w'=>e= .returned (.int .u8 (zdJ c).toNat)/\w=w':=by
 have hc:=c.toNat_lt
 have hF:(zdJ c).toNat=if 65<=c.toNat/\c.toNat<=90 then c.toNat+32 else c.toNat:=by
  unfold zdJ;have h1:(65<=c/\c<=90)↔(65<=c.toNat/\c.toNat<=90):=by rw[UInt8.le_iff_toNat_le,UInt8.le_iff_toNat_le];rfl
  by_cases h:65<=c.toNat/\c.toNat<=90
  ·rw[if_pos (h1.2 h),if_pos h,UInt8.toNat_add]
   show(c.toNat+32) % 256=_
   omega
  ·rw[if_neg (fun e=>h (h1.1 e)),if_neg h]
 obtain⟨n,hn⟩:∃n,c.toNat=n:=⟨_,rfl⟩;obtain⟨R,hR⟩:∃n,(zdJ c).toNat=n:=⟨_,rfl⟩;rw[hn]at hF hc;rw[hn,hR];rw[hR]at hF;have HF:=yc hF;clear hF hR hn;have hc':(n:Int)<256:=by omega
 have n0:(0:Int)<=(n:Int):=yj _;by_cases h1:65<=n
 ·have q1:decide ((65:Int)<=(n:Int))=true:=decide_eq_true (by omega)
  by_cases h2:n<=90
  ·have q2:decide ((n:Int)<=90)=true:=decide_eq_true (by omega)
   have HR:Hid (R=n+32):=by unfold Hid;rw[HF.out,if_pos ⟨h1,h2⟩]
   have h2':(n:Int)<=90:=by omega
   go_enter Tryz.func210,Tryz.ntmps210
   go_wp2_with fail
   rw[HR.out];go_ret;exact⟨by simp,rfl⟩
  ·have q2:decide ((n:Int)<=90)=false:=decide_eq_false (by omega)
   have HR:Hid (R=n):=by unfold Hid;rw[HF.out,if_neg (fun e=>h2 e.2)]
   go_enter Tryz.func210,Tryz.ntmps210
   go_wp2_with fail
   rw[HR.out];go_ret;exact⟨rfl,rfl⟩
 ·have q1:decide ((65:Int)<=(n:Int))=false:=decide_eq_false (by omega)
  have HR:Hid (R=n):=by unfold Hid;rw[HF.out,if_neg (fun e=>h1 e.1)]
  go_enter Tryz.func210,Tryz.ntmps210
  go_wp2_with fail
  rw[HR.out];go_ret;exact⟨rfl,rfl⟩
def zjE(l:List UInt8):List Value:=l.map (fun b=>Value.int .u8 b.toNat)
def BtAt(W:World)(g:Nat)(l:List UInt8):Prop:=∃cs:Array Value,W.heap[g]? =some (.cells cs 5 (cs.size,cs.size+1))/\cs.toList.take l.length=zjE l/\l.length<=cs.size
theorem BtAt.lt{W:World}{g:Nat}{l:List UInt8}(h:BtAt W g l):g<W.heap.size:=by
 obtain⟨cs,h1,_⟩:=h;exact(yl.1 h1).1
theorem BtAt.cell{W:World}{g:Nat}{l:List UInt8}(h:BtAt W g l){j:Nat}(hj:j<l.length):W.cell? ⟨g,j,none⟩=some (.int .u8 (l[j].toNat:Int)):=by
 obtain⟨cs,h1,h2,h3⟩:=h;rw[cell_of_row W g j _ _ _ h1];have h4:=congrArg (fun x=>x[j]?) h2
 simp only[List.getElem?_take,if_pos hj]at h4;rw[<-yK,h4];unfold zjE;rw[List.getElem?_map,yf hj]
 rfl
theorem BtAt.frozen{W:World}{g:Nat}{l:List UInt8}(h:BtAt W g l){j:Nat}(hj:j<l.length):W.frozen? ⟨g,j,none⟩=false:=by
 obtain⟨cs,h1,h2,h3⟩:=h;simp[World.frozen?,h1];omega
theorem BtAt.set{W:World}{g:Nat}{l:List UInt8}(h:BtAt W g l){j:Nat}(hj:j<l.length)(c:UInt8):BtAt (W.setCell ⟨g,j,none⟩ (.int .u8 c.toNat)) g (l.set j c):=by
 obtain⟨cs,h1,h2,h3⟩:=h;refine⟨cs.setIfInBounds j (.int .u8 c.toNat),?_,?_,by simpa using h3⟩
 ·simp[World.setCell,Array.getElem?_modify,h1]
  try omega
 ·rw[List.length_set,Array.toList_setIfInBounds,List.take_set,h2];unfold zjE;rw[List.map_set]
theorem BtAt.fresh(w:World)(s:ByteArray)(n:Nat):BtAt (w.alloc (.cells (bytesRow s n) 5 ((bytesRow s n).size,(bytesRow s n).size+1))) w.heap.size s.data.toList:=by
 refine⟨bytesRow s n,za rfl,?_,?_⟩
 ·unfold bytesRow zjE;rw[Array.toList_append,Array.toList_map,List.take_left' (by simp)]
 ·unfold bytesRow;simp
theorem BtAt.back{W:World}{g:Nat}{l:List UInt8}(h:BtAt W g l){n:Nat}(hn:n=l.length)(c:Nat):(convert 258 9 (.slice (some ⟨g,0,none⟩) n c)).run ye W= .ok (.string (zy l)) W:=by
 subst hn;refine run_convert_bytes_back W _ _ _ _ c l Tryz.underlying258 Tryz.underlying5 Tryz.underlying9 (fun j hj=> ?_)
 have e:(⟨g,0,none⟩:Addr).add j=⟨g,j,none⟩:=by simp[Addr.add];try(intro h;exact h.symm)
 rw[e];exact h.cell hj
def zcK(l:List UInt8)(k:Nat):List UInt8:=zN (l.take k)++l.drop k
theorem znA(l:List UInt8)(k:Nat):(zcK l k).length=l.length:=by unfold zcK zN;rw[yp,yy,yz,List.length_drop];omega
theorem znz{l:List UInt8}{k:Nat}(h:k<l.length):(zcK l k)[k]? =some l[k]:=by
 unfold zcK zN;rw[List.getElem?_append_right (by rw[yy,yz];omega),yy,yz,show k-min k l.length=0 by omega,List.getElem?_drop]
 simp[yf h]
theorem zmd{l:List UInt8}{k:Nat}(h:k<l.length):zcK l (k+1)=(zcK l k).set k (zdJ l[k]):=by
 unfold zcK zN;have hlen:(List.map zdJ (l.take k)).length=k:=by rw[yy,yz];omega
 rw[List.set_append_right _ _ (by omega),hlen,Nat.sub_self,List.take_succ_eq_append_getElem h,List.map_append,List.append_assoc,List.drop_eq_getElem_cons h]
 rfl
theorem zny(l:List UInt8):zcK l l.length=zN l:=by unfold zcK;rw[List.take_length,List.drop_length,yau]
theorem zfN(s:ByteArray)(w:World)(hs:s.size<=maxLen):Calls ye 179 #[.string s] w fun e w'=>e= .returned (.string (zy (zN s.data.toList)))/\Below w.heap.size w w':=by
 have hsz:s.data.toList.length=s.size:=by rw[Array.length_toList];rfl
 unfold maxLen at hs;have hconv:=run_bytes_of_string (P:=ye) w 9 258 5 s Tryz.underlying9 Tryz.underlying258 Tryz.underlying5;have hF:=BtAt.fresh w s (grownCap w s.size 0 5);have hB:Below w.heap.size w (w.alloc (.cells (bytesRow s (grownCap w s.size 0 5)) 5 ((bytesRow s (grownCap w s.size 0 5)).size,(bytesRow s (grownCap w s.size 0 5)).size+1))):=(yh _ _).alloc (yd _) _;obtain⟨K,hK⟩:∃K,grownCap w s.size 0 5=K:=⟨_,rfl⟩;rw[hK]at hconv hF hB;obtain⟨C,hC⟩:∃C,bytesRow s K=C:=⟨_,rfl⟩;rw[hC]at hconv hF hB;have HF:=yc hF;have HB:=yc hB;have HSZ:=yc hsz;have s0:(0:Int)<=(s.size:Int):=yj _;clear hF hB hK hC hsz
 go_enter Tryz.func179,Tryz.ntmps179
 go_upto_region 2 with fail
 obtain⟨W1,hW1⟩:∃W1,(w.alloc (.cells C 5 (C.size,C.size+1)))=W1:=⟨_,rfl⟩;rw[hW1]at HF HB
 try rw[hW1]
 clear hconv
 go_wp2_with fail
 have HF1:Hid (BtAt W1.drew w.heap.size s.data.toList):=HF.out;have HB1:Hid (Below w.heap.size w W1.drew):=HB.out.drew;clear HF HB;have hw1:w.heap.size<W1.drew.heap.size:=HF1.out.lt;obtain⟨W2,hW2⟩:∃W2,W1.drew=W2:=⟨_,rfl⟩;rw[hW2]at HF1 HB1 hw1;rw[hW2];clear hW2 hW1 W1 hw1
 go_loopw [10] (fun i wr=>∃k:Nat,k<=s.size/\i= .int .i64 (k:Int)/\Hid (BtAt wr w.heap.size (zcK s.data.toList k))/\Hid (Below w.heap.size w wr)) (fun i _=>s.size-(intOf i).toNat)
 case atStart=>
  refine⟨0,by omega,rfl,?_,HB1.out⟩
  have e:zcK s.data.toList 0=s.data.toList:=by unfold zcK zN;simp
  rw[e];exact HF1.out
 case round=>
  obtain⟨k,hk,rfl,hbt,hbl⟩:=hrel;have hk0:(0:Int)<=(k:Int):=yj _;by_cases hlt:k<s.size
  ·have hks:(k:Int)<(s.size:Int):=by omega
   have q1:decide ((k:Int)<(s.size:Int))=true:=decide_eq_true hks;have hlt':k<s.data.toList.length:=by rw[HSZ.out];exact hlt
   have hj:k<(zcK s.data.toList k).length:=by rw[znA];exact hlt'
   have hcl:=hbt.out.cell hj
   have hgx:(zcK s.data.toList k)[k]=s.data.toList[k]:=by
    have h1:=znz hlt';rw[yf hj]at h1;exact Option.some.inj h1
   have hst:=hbt.out.set hj (zdJ s.data.toList[k]);rw[<-zmd hlt']at hst;rw[hgx]at hcl;have hfz:=hbt.out.frozen hj;have hwl:=hbt.out.lt;obtain⟨c,hc⟩:∃c,s.data.toList[k]=c:=⟨_,rfl⟩;rw[hc]at hcl hst;have HST:=yc hst;have HSM:Hid (∀W,Calls ye 210 #[.int .u8 c.toNat] W fun e w'=>e= .returned (.int .u8 (zdJ c).toNat)/\W=w'):=fun W=>zog c W
   have hsb:=(zdJ c).toNat_lt;obtain⟨d,hd⟩:∃d,(zdJ c).toNat=d:=⟨_,rfl⟩;rw[hd]at HST HSM hsb;have hd256:(d:Int)<256:=by omega
   have hd0:(0:Int)<=(d:Int):=yj _;clear hst hc hgx hj hlt' hd hsb
   go_wp2_with (first|(go_at_call 210;refine(HSM.out _).mono ?_;rintro e w1 ⟨rfl,rfl⟩)|fail)
   go_roundw
   case rel=>
    refine⟨k+1,by omega,by go_num,HST.out,hbl.out.setCell (p:=⟨w.heap.size,k,none⟩) (yd _) _⟩
   case measure=>simp[intOf];omega
  ·obtain rfl:k=s.size:=by omega
   have q1:decide ((s.size:Int)<(s.size:Int))=false:=decide_eq_false (by omega)
   have e:zcK s.data.toList s.size=zN s.data.toList:=by rw[<-HSZ.out];exact zny _
   rw[e]at hbt;have hback:=hbt.out.back (n:=s.size) (by unfold zN;rw[yy,HSZ.out]) K
   go_wp2_with fail
   go_ret;exact⟨rfl,hbl.out⟩
theorem znv(s t:ByteArray)(w:World)(hs:s.size<=maxLen)(ht:t.size<=maxLen):Calls ye 316 #[.string s,.string t] w fun e w'=>e= .returned (.int .i64 (Go.Lib.compareBytes (zN s.data.toList) (zN t.data.toList)))/\Below w.heap.size w w':=by
 have HA:Hid (∀W,Calls ye 179 #[.string s] W fun e w'=>e= .returned (.string (zy (zN s.data.toList)))/\Below W.heap.size W w'):=fun W=>zfN s W hs
 have HB:Hid (∀W,Calls ye 179 #[.string t] W fun e w'=>e= .returned (.string (zy (zN t.data.toList)))/\Below W.heap.size W w'):=fun W=>zfN t W ht
 have HC:Hid (∀W,Calls ye 43 #[.string (zy (zN s.data.toList)),.string (zy (zN t.data.toList))] W fun e w'=>e= .returned (.int .i64 (Go.Lib.compareBytes (zN s.data.toList) (zN t.data.toList)))/\W=w'):=fun W=>zhb _ _ W
 obtain⟨X,hX⟩:∃X,zy (zN s.data.toList)=X:=⟨_,rfl⟩;obtain⟨Y,hY⟩:∃X,zy (zN t.data.toList)=X:=⟨_,rfl⟩;obtain⟨R,hR⟩:∃X,Go.Lib.compareBytes (zN s.data.toList) (zN t.data.toList)=X:=⟨_,rfl⟩;rw[hX]at HA HC;rw[hY]at HB HC;rw[hR]at HC;rw[hR];clear hX hY hR hs ht
 go_enter Tryz.func316,Tryz.ntmps316
 go_wp2_with (first|(go_at_call 179;with_reducible refine(HA.out _).mono ?_;rintro e w1 ⟨rfl,hb1⟩)|(go_at_call 179;with_reducible refine(HB.out _).mono ?_;rintro e w2 ⟨rfl,hb2⟩)|(go_at_call 43;refine(HC.out _).mono ?_;rintro e w3 ⟨rfl,rfl⟩)|fail)
 go_ret;exact⟨rfl,hb1.trans (hb2.mono hb1.size)⟩
end
section
open Go.RowKit Go.OpenShut
def BoxAt(W:World)(g:Nat)(r:RB):Prop:=W.heap[g]? =some (.cells #[.slice r.po r.no r.co,.slice r.pt r.nt r.ct,.int .i64 r.sq,.int .i64 r.fl,.int .i64 r.kp] 40 (0,0))
theorem BoxAt.cell{W:World}{g:Nat}{r:RB}(h:BoxAt W g r)(j:Nat){u:Value}(hu:(encB r)[j]? =some u):W.cell? ⟨g,j,none⟩=some u:=by
 unfold BoxAt at h;rw[cell_of_row W g j _ _ _ h,<-yK];exact hu
theorem BoxAt.cells5{W:World}{g:Nat}{r:RB}(h:BoxAt W g r):W.cell? ⟨g,0,none⟩=some (.slice r.po r.no r.co)/\W.cell? ⟨g,1,none⟩=some (.slice r.pt r.nt r.ct)/\W.cell? ⟨g,2,none⟩=some (.int .i64 r.sq)/\W.cell? ⟨g,3,none⟩=some (.int .i64 r.fl)/\W.cell? ⟨g,4,none⟩=some (.int .i64 r.kp):=⟨h.cell 0 rfl,h.cell 1 rfl,h.cell 2 rfl,h.cell 3 rfl,h.cell 4 rfl⟩
theorem BoxAt.frozen{W:World}{g:Nat}{r:RB}(h:BoxAt W g r)(j:Nat):W.frozen? ⟨g,j,none⟩=false:=by
 unfold BoxAt at h;simp[World.frozen?,h]
theorem BoxAt.under{W W':World}{g B:Nat}{r:RB}(h:BoxAt W g r)(hb:Below B W W')(hg:g<B):BoxAt W' g r:=(hb.block g hg).trans h
theorem BoxAt.lt{W:World}{g:Nat}{r:RB}(h:BoxAt W g r):g<W.heap.size:=(yl.1 h).1
def zg(s:ByteArray):List Value:=[.string s]
theorem zn:Codec zg 1:=⟨fun _=>rfl,fun x u hu=>by
 simp only[zg,yA,y5,or_false]at hu;subst hu;rfl,by decide⟩
theorem slS:SlT ye 42 9 1 16:=SlT.mk (z:= .string ByteArray.empty) Tryz.underlying42 (by kernel_rfl) rfl
end
section
open Go Go.RowKit Go.OpenShut
theorem TreeOf.kk{w:World}{B:Nat}{t:JV}{r:RV}(h:TreeOf w B t r):r.k=t.k/\r.s=t.s:=by cases h;exact⟨rfl,rfl⟩
theorem zfZ(t:JV)(name:ByteArray):zj t name=if((t.get name).getD JV.zero).k=4 then[((t.get name).getD JV.zero).s]else[]:=by
 unfold zj;cases t.get name with
 |none=>exact(if_neg (by decide)).symm
 |some x=>rfl
def TlOf(w:World)(B:Nat)(v:Value)(l:List JV):Prop:=∃rs,Rd w B zbc 5 v rs/\l.length=rs.length/\∀(i:Nat) (t:JV) (q:RV),l[i]? =some t->rs[i]? =some q->TreeOf w B t q
theorem TlOf.under{w w':World}{B B':Nat}{v:Value}{l:List JV}(h:TlOf w B v l)(hb:Below B w w')(hB:B<=B'):TlOf w' B' v l:=by
 obtain⟨rs,h1,h2,h3⟩:=h;exact⟨rs,h1.below hb hB,h2,fun i t q a b=>(h3 i t q a b).under hb hB⟩
theorem TlOf.nil(w:World)(B:Nat):TlOf w B (.slice none 0 0) []:=⟨[],Rd.nil w B,rfl,fun i t q a _=>by simp at a⟩
theorem TreeOf.tl{w:World}{B:Nat}{t:JV}{r:RV}(h:TreeOf w B t r):TlOf w B (.slice r.pl r.nl r.cl) t.l:=by
 cases h with
 |mk hl el cl hm em cn cm=>exact⟨_,hl,el,cl⟩
def inJ(t:JV)(name:ByteArray):List JV:=match t.get name with|some x=>if x.k=5 then x.l else[]|none=>[]
theorem zrN(t:JV)(name:ByteArray):inJ t name=if((t.get name).getD JV.zero).k=5 then((t.get name).getD JV.zero).l else[]:=by
 unfold inJ;cases t.get name with
 |none=>exact(if_neg (by decide)).symm
 |some x=>rfl
theorem zcR(t:JV)(r:RV)(name:ByteArray)(w:World)(B:Nat)(hBw:B<=w.heap.size)(ht:TreeOf w B t r)(ot:t.Ok):
 Calls ye 67 #[r.val,.string name] w (zD w 9 zg 1 (zj t name)):=by
 obtain⟨W0,hW0⟩:∃W0,w.alloc r.obj=W0:=⟨_,rfl⟩;have hA0:VAt W0 w.heap.size r:=by rw[<-hW0];exact za rfl
 have hB0:Below w.heap.size w W0:=by rw[<-hW0];exact(yh _ _).alloc (yd _) _
 have HC:Hid (Calls ye 62 #[r.val,.string name] W0 (zV W0 B (t.get name))):=zT t r name W0 B (yg hBw hB0.size) (ht.under (hB0.mono hBw) (yd _)) ot;have HTX:=yc (zfZ t name);obtain⟨R,hR⟩:∃R,zj t name=R:=⟨_,rfl⟩;rw[hR]at HTX;rw[hR];obtain⟨k,n,s,pl,nl,cl,pm,nm,cm⟩:=r;dsimp only[RV.val,RV.obj]at*;have HW:=yc hW0;have HB0:=yc hB0;clear hW0 hB0 ht ot hR
 go_enter Tryz.func67,Tryz.ntmps67
 go_upto_region 1 with fail
 rw[HW.out];clear HW;obtain⟨a0,a1,a2,a3,a4⟩:=hA0.cells5
 go_upto_region 2 with(go_at_call 62;refine HC.out.mono ?_;rintro e w1 ⟨rv,bb,rfl,hbb,ht1,hb1⟩;obtain⟨rk,rn,rS,rpl,rnl,rcl,rpm,rnm,rcm⟩:=rv)
 obtain⟨hkk,hss⟩:=ht1.kk;dsimp only at hkk hss;have hz1:=hb1.size;have hb2:Below W0.heap.size W0 (w1.alloc (.cells #[.int .i64 rk,.int .i64 rn,.string rS,.slice rpl rnl rcl,.slice rpm rnm rcm] 25)):=hb1.alloc hz1 _;have hv2:VAt (w1.alloc (.cells #[.int .i64 rk,.int .i64 rn,.string rS,.slice rpl rnl rcl,.slice rpm rnm rcm] 25)) w1.heap.size ⟨rk,rn,rS,rpl,rnl,rcl,rpm,rnm,rcm⟩:=za rfl;obtain⟨g,hg⟩:∃g,w1.heap.size=g:=⟨_,rfl⟩;obtain⟨W2,hW2⟩:∃W,w1.alloc (.cells #[.int .i64 rk,.int .i64 rn,.string rS,.slice rpl rnl rcl,.slice rpm rnm rcm] 25)=W:=⟨_,rfl⟩;rw[hW2]at hb2 hv2;rw[hg]at hv2
 try rw[hW2]
 try rw[hg]
 obtain⟨v0,v1,v2,v3,v4⟩:=hv2.cells5;dsimp only at v0 v1 v2 v3 v4;have hbw:=HB0.out.trans (hb2.mono HB0.out.size);have HX:=yc hbw;clear hW2 hg hb1 ht1 hb2 hv2 hz1 hbw;by_cases hk4:rk=4
 ·subst hk4;have HR:Hid (R=[rS]):=by unfold Hid;rw[HTX.out,<-hkk,if_pos rfl,hss]
  clear hkk hss
  go_wp2_with fail
  rw[HR.out];go_ret;exact⟨_,rfl,Own.block zn (za rfl) rfl rfl HX.out.size (show 1<=maxLen by decide),HX.out.alloc HX.out.size _⟩
 ·have q1:(rk==4)=false:=by simpa using hk4
  have q2:(rk !=4)=true:=by simpa using hk4
  have HR:Hid (R=[]):=by unfold Hid;rw[HTX.out,<-hkk,if_neg hk4]
  clear hkk hss
  go_wp2_with fail
  rw[HR.out];go_ret;exact⟨_,rfl,Own.nil _ _ _,HX.out⟩
theorem znG(t:JV)(r:RV)(name:ByteArray)(w:World)(B:Nat)(hBw:B<=w.heap.size)(ht:TreeOf w B t r)(ot:t.Ok):
 Calls ye 68 #[r.val,.string name] w fun e w'=>∃v,e= .returned v/\TlOf w' B v (inJ t name)/\Below w.heap.size w w':=by
 obtain⟨W0,hW0⟩:∃W0,w.alloc r.obj=W0:=⟨_,rfl⟩;have hA0:VAt W0 w.heap.size r:=by rw[<-hW0];exact za rfl
 have hB0:Below w.heap.size w W0:=by rw[<-hW0];exact(yh _ _).alloc (yd _) _
 have HC:Hid (Calls ye 62 #[r.val,.string name] W0 (zV W0 B (t.get name))):=zT t r name W0 B (yg hBw hB0.size) (ht.under (hB0.mono hBw) (yd _)) ot;have HTX:=yc (zrN t name);obtain⟨R,hR⟩:∃R,inJ t name=R:=⟨_,rfl⟩;rw[hR]at HTX;rw[hR];obtain⟨k,n,s,pl,nl,cl,pm,nm,cm⟩:=r;dsimp only[RV.val,RV.obj]at*;have HW:=yc hW0;have HB0:=yc hB0;clear hW0 hB0 ht ot hR
 go_enter Tryz.func68,Tryz.ntmps68
 go_upto_region 1 with fail
 rw[HW.out];clear HW;obtain⟨a0,a1,a2,a3,a4⟩:=hA0.cells5
 go_upto_region 2 with(go_at_call 62;refine HC.out.mono ?_;rintro e w1 ⟨rv,bb,rfl,hbb,ht1,hb1⟩;obtain⟨rk,rn,rS,rpl,rnl,rcl,rpm,rnm,rcm⟩:=rv)
 obtain⟨hkk,hss⟩:=ht1.kk;dsimp only at hkk hss;have hz1:=hb1.size;have hb2:Below W0.heap.size W0 (w1.alloc (.cells #[.int .i64 rk,.int .i64 rn,.string rS,.slice rpl rnl rcl,.slice rpm rnm rcm] 25)):=hb1.alloc hz1 _;have hv2:VAt (w1.alloc (.cells #[.int .i64 rk,.int .i64 rn,.string rS,.slice rpl rnl rcl,.slice rpm rnm rcm] 25)) w1.heap.size ⟨rk,rn,rS,rpl,rnl,rcl,rpm,rnm,rcm⟩:=za rfl;have ht2:=(ht1.tl).under ((yh B w1).alloc (yg (yg hBw HB0.out.size) hz1) (.cells #[.int .i64 rk,.int .i64 rn,.string rS,.slice rpl rnl rcl,.slice rpm rnm rcm] 25)) (yd _);dsimp only at ht2;obtain⟨g,hg⟩:∃g,w1.heap.size=g:=⟨_,rfl⟩;obtain⟨W2,hW2⟩:∃W,w1.alloc (.cells #[.int .i64 rk,.int .i64 rn,.string rS,.slice rpl rnl rcl,.slice rpm rnm rcm] 25)=W:=⟨_,rfl⟩;rw[hW2]at hb2 hv2 ht2;rw[hg]at hv2
 try rw[hW2]
 try rw[hg]
 obtain⟨v0,v1,v2,v3,v4⟩:=hv2.cells5;dsimp only at v0 v1 v2 v3 v4;have hbw:=HB0.out.trans (hb2.mono HB0.out.size);have HX:=yc hbw;have HL:=yc ht2;clear hW2 hg hb1 ht1 hb2 hv2 hz1 hbw ht2;by_cases hk4:rk=5
 ·subst hk4;have HR:Hid (R=((t.get name).getD JV.zero).l):=by unfold Hid;rw[HTX.out,<-hkk,if_pos rfl]
  clear hkk hss
  go_wp2_with fail
  rw[HR.out];go_ret;exact⟨_,rfl,HL.out,HX.out⟩
 ·have q1:(rk==5)=false:=by simpa using hk4
  have q2:(rk !=5)=true:=by simpa using hk4
  have HR:Hid (R=[]):=by unfold Hid;rw[HTX.out,<-hkk,if_neg hk4]
  clear hkk hss
  go_wp2_with fail
  rw[HR.out];go_ret;exact⟨_,rfl,TlOf.nil _ _,HX.out⟩
def inB(l:List ByteArray)(x:ByteArray):Bool:=l.any (fun y=>decide (y=x))
theorem inB_iff{l:List ByteArray}{x:ByteArray}:inB l x=true↔x∈l:=by
 unfold inB;rw[List.any_eq_true]
 constructor
 ·rintro⟨y,hy,h⟩;have:y=x:=of_decide_eq_true h;subst this;exact hy
 ·intro h;exact⟨x,h,decide_eq_true rfl⟩
theorem zjn(l:List ByteArray)(x:ByteArray):Lib.containsS l x=inB l x:=by
 have h:=Lib.containsS_iff l x;cases hx:inB l x with
 |true=>exact h.2 (inB_iff.1 hx)
 | false =>
   cases hc:Lib.containsS l x with
   |false=>rfl
   | true =>
     have h2:=inB_iff.2 (h.1 hc);rw[hx]at h2;cases h2
theorem zdb{w:World}{B:Nat}{p:Option Addr}{n c:Nat}{l:List ByteArray}(hr:Rd w B zg 1 (.slice p n c) l)(hn:l.length<=1000000)(x:ByteArray):Calls ye 111 #[.slice p n c,.string x] w fun e w'=>e= .returned (.bool (inB l x))/\w'=w:=by
 have hnl:=zi hr;by_cases h0:0<l.length
 ·obtain⟨x0,hx0⟩:∃x,l[0]? =some x:=⟨_,yf h0⟩;obtain⟨b1,o1,rfl,hb1,_⟩:=zq hr hx0;refine(slices_Contains_string b1 o1 n c l x w (by omega) (by omega) (fun j hj=> ?_)).mono (fun e w' h=>⟨?_,h.2⟩)
  ·obtain⟨y,hy⟩:∃y,l[j]? =some y:=⟨_,yf hj⟩;obtain⟨b2,o2,he,_,hc2⟩:=zq hr hy;injection he with he
   injection he with h1 h2
   subst h1 h2;have h3:=hc2 0 _ rfl;rw[yw,Nat.mul_one]at h3;rw[h3,List.getD_eq_getElem?_getD,hy]
   rfl
  ·rw[h.1,yq (by omega),zjn]
 ·have:l=[]:=List.eq_nil_of_length_eq_zero (by omega)
  subst this;simp only[List.length_nil]at hnl;subst hnl;refine(slices_Contains_string_empty p c x w).mono (fun e w' h=>⟨?_,h.2⟩)
  rw[h.1]
  rfl
def zgu(kind:ByteArray)(c:JV):Bool:=decide (kind.size=0)||decide (zj c zL=[kind])
def zcU(cs:List JV)(kind:ByteArray):List ByteArray:=(cs.filter (zgu kind)).flatMap (fun c=>zj c zdW)
theorem ze0(t:JV)(kind:ByteArray):zbP t kind=zcU (inJ t zee) kind:=by
 unfold zbP zcU inJ;cases t.get zee with
 |none=>rfl
 | some x =>
   dsimp only;by_cases h:x.k=5
   ·rw[if_pos h,if_pos h];rfl
   ·rw[if_neg h,if_neg h];rfl
theorem zb4(t:JV)(name:ByteArray):(zj t name).length<=1:=by rw[zfZ];split<;>simp
theorem zlb{cs:List JV}{kind:ByteArray}{k:Nat}{c:JV}(h:cs[k]? =some c):zcU (cs.take (k+1)) kind=zcU (cs.take k) kind++(if zgu kind c then zj c zdW else[]):=by
 unfold zcU;rw[List.take_add_one,h,Option.toList_some,List.filter_append,List.flatMap_append]
 congr 1
 cases hp:zgu kind c
 ·rw[ya7,hp];rfl
 ·rw[ya7,hp];simp
theorem zhW(cs:List JV)(kind:ByteArray):(zcU cs kind).length<=cs.length:=by
 unfold zcU
 induction cs with
 |nil=>simp
 | cons a r ih =>
   rw[ya7]
   split
   ·rw[List.flatMap_cons,yp,yB];have:=zb4 a zdW;omega
   ·rw[yB];omega
theorem zp7(c:JV)(name x:ByteArray):inB (zj c name) x=decide (zj c name=[x]):=by
 rw[zfZ];unfold inB
 split
 ·simp
 ·simp
theorem JV.Ok.get{t x:JV}{name:ByteArray}(h:t.Ok)(hx:t.get name=some x):x.Ok:=by
 unfold JV.get at hx;cases hp:t.place name with
 |none=>rw[hp]at hx;cases hx
 | some i =>
   obtain⟨p,h1,_,h3⟩:=zi3 hp;have e:t.get name=some p.2:=h3;unfold JV.get at e;rw[hx]at e;injection e with e
   subst e;cases h with
   |mk _ _ _ _ _ _ _ cm=>exact cm i p h1
theorem zj6{t:JV}{name:ByteArray}(h:t.Ok):(inJ t name).length<=1759218604390/\∀(i:Nat) (x:JV),(inJ t name)[i]? =some x->x.Ok:=by
 unfold inJ;cases hx:t.get name with
 |none=>exact⟨by simp,fun i x a=>by simp at a⟩
 | some v =>
   dsimp only;have hv:=h.get hx
   split
   ·exact⟨hv.s_le.2,fun i x a=>hv.at_l a⟩
   ·exact⟨by simp,fun i x a=>by simp at a⟩
theorem zi2(t:JV)(r:RV)(kind:ByteArray)(w:World)(B:Nat)(hBw:B<=w.heap.size)(ht:TreeOf w B t r)(ot:t.Ok)(hk:kind.size<=maxLen):
 Calls ye 64 #[r.val,.string kind] w (zD w 9 zg 1 (zbP t kind)):=by
 obtain⟨W0,hW0⟩:∃W0,w.alloc r.obj=W0:=⟨_,rfl⟩;have hA0:VAt W0 w.heap.size r:=by rw[<-hW0];exact za rfl
 have hB0:Below w.heap.size w W0:=by rw[<-hW0];exact(yh _ _).alloc (yd _) _
 have HC:Hid (Calls ye 68 #[r.val,.string zee] W0 fun e w'=>∃v,e= .returned v/\TlOf w' B v (inJ t zee)/\Below W0.heap.size W0 w'):=znG t r zee W0 B (yg hBw hB0.size) (ht.under (hB0.mono hBw) (yd _)) ot
 obtain⟨hcl,hco⟩:=zj6 (name:=zee) ot;rw[ze0];obtain⟨cs,hcs⟩:∃cs,inJ t zee=cs:=⟨_,rfl⟩;rw[hcs]at HC hcl hco;rw[hcs];unfold zee at HC;obtain⟨k,n,s,pl,nl,cl,pm,nm,cm⟩:=r;dsimp only[RV.val,RV.obj]at*;have HW:=yc hW0;have HB0:=yc hB0;have HCO:=yc hco;have hbz:=hB0.size;clear hW0 hB0 ht ot hcs hco;obtain⟨kz,hkz⟩:∃b,(kind.toList==[])=b:=⟨_,rfl⟩
 have HKZ:Hid (decide (kind.size=0)=kz):=by
  unfold Hid;rw[<-hkz,ByteArray.toList_eq,<-zdA];cases kind.data.toList with
  |nil=>rfl
  |cons a r=>rfl
 have hw0:=HB0.out.size
 go_enter Tryz.func64,Tryz.ntmps64
 go_upto_region 2 with fail
 rw[HW.out];clear HW;obtain⟨a0,a1,a2,a3,a4⟩:=hA0.cells5
 go_wp2_with (go_at_call 68;refine HC.out.mono ?_;rintro e w1 ⟨v9,rfl,⟨rs,hr,hlen,htl⟩,hb1⟩;obtain⟨p9,n9,c9,rfl⟩:∃p n c,v9=Value.slice p n c:=by(obtain⟨p,c,h,_⟩:=hr;exact⟨p,_,c,h⟩))
 have hn9:=zi hr;have HN:Hid (cs.length=n9):=by unfold Hid;omega
 have hno:n9<=1759218604390:=by omega
 have HTL:=yc htl;have HRD:=yc hr;have hrl:rs.length=n9:=hn9.symm;have hbw1:=HB0.out.trans (hb1.mono hbz);have HBW:=yc hbw1;have hw1:=hbw1.size;have hBw1:B<=w1.heap.size:=yg hBw hw1;clear hr htl hb1 hbw1 hn9 hlen hcl a0 a1 a2 a3 a4 hA0 HC HB0 hbz
 go_loopw [5,11] (fun u i wr=>∃j:Nat,j<=n9/\i= .int .i64 (j:Int)/\Hid (Own wr w1.heap.size 9 zg 1 u (zcU (cs.take j) kind)/\Below w1.heap.size w1 wr)) (fun _ i _=>n9-(intOf i).toNat)
 case atStart=>exact⟨0,by omega,rfl,by rw[List.take_zero];exact Own.nil _ _ _,yh _ _⟩
 case round=>
  obtain⟨j,hj,rfl,hH⟩:=hrel;obtain⟨hO,hbr⟩:=hH.out;clear hH;by_cases hlt:j<n9
  ·obtain⟨y,hy⟩:∃y,cs[j]? =some y:=⟨_,yf (by have:=HN.out;omega)⟩
   obtain⟨⟨xk,xn,xs,xpl,xnl,xcl,xpm,xnm,xcm⟩,hx⟩:∃x,rs[j]? =some x:=⟨_,yf (by omega)⟩
   have hyok:=HCO.out j y hy;have hty:=HTL.out j y _ hy hx;have HPS:=yc (zlb (kind:=kind) hy);have hpl:(zcU (cs.take j) kind).length<=j:=yg (zhW _ _) (List.length_take_le _ _);obtain⟨b1,o1,rfl,hb1,hc1⟩:=zq (HRD.out.below (hbr.mono hBw1) (yd _)) hx;have f0:=hc1 0 _ rfl;have f1:=hc1 1 _ rfl;have f2:=hc1 2 _ rfl;have f3:=hc1 3 _ rfl;have f4:=hc1 4 _ rfl;rw[yw]at f0;dsimp only at f0 f1 f2 f3 f4;have hj0:(0:Int)<=(j:Int):=yj _;have hj1:(j:Int)<(n9:Int):=by omega
   have hb2:Below w1.heap.size w1 (wr.alloc (.cells #[.int .i64 xk,.int .i64 xn,.string xs,.slice xpl xnl xcl,.slice xpm xnm xcm] 25)):=hbr.alloc hbr.size _;have hO1:=hO.alloc (.cells #[.int .i64 xk,.int .i64 xn,.string xs,.slice xpl xnl xcl,.slice xpm xnm xcm] 25);have hTy:TreeOf (wr.alloc (.cells #[.int .i64 xk,.int .i64 xn,.string xs,.slice xpl xnl xcl,.slice xpm xnm xcm] 25)) B y ⟨xk,xn,xs,xpl,xnl,xcl,xpm,xnm,xcm⟩:=hty.under (hb2.mono hBw1) (yd _);have hV1:VAt (wr.alloc (.cells #[.int .i64 xk,.int .i64 xn,.string xs,.slice xpl xnl xcl,.slice xpm xnm xcm] 25)) wr.heap.size ⟨xk,xn,xs,xpl,xnl,xcl,xpm,xnm,xcm⟩:=za rfl;obtain⟨L,hL⟩:∃L,zcU (cs.take j) kind=L:=⟨_,rfl⟩;obtain⟨LK,hLK⟩:∃L,zj y zL=L:=⟨_,rfl⟩;obtain⟨LV,hLV⟩:∃L,zj y zdW=L:=⟨_,rfl⟩;have hk1:=zb4 y zL;have hv1:=zb4 y zdW;have hin:=zp7 y zL kind;have hpo:zgu kind y=(kz||decide (LK=[kind])):=by unfold zgu;rw[HKZ.out,hLK]
   rw[hLK]at hk1 hin;rw[hLV]at hv1 HPS;rw[hL]at hO1 hpl HPS;have HLN:Hid (L.length+LV.length<=maxLen/\(L.length+LV.length)*16<=140737488355328):=⟨by unfold maxLen;omega,by omega⟩
   have HTK:Hid (∀W,Below w1.heap.size (wr.alloc (.cells #[.int .i64 xk,.int .i64 xn,.string xs,.slice xpl xnl xcl,.slice xpm xnm xcm] 25)) W->(wr.alloc (.cells #[.int .i64 xk,.int .i64 xn,.string xs,.slice xpl xnl xcl,.slice xpm xnm xcm] 25)).heap.size<=W.heap.size->Calls ye 67 #[.agg #[.int .i64 xk,.int .i64 xn,.string xs,.slice xpl xnl xcl,.slice xpm xnm xcm],.string zL] W (zD W 9 zg 1 LK)):=fun W hW hs=>by
    have h:=zcR y ⟨xk,xn,xs,xpl,xnl,xcl,xpm,xnm,xcm⟩ zL W B (yg hBw1 (yg hb2.size hs)) (hTy.under (hW.mono hBw1) (yd _)) hyok;rw[hLK]at h;exact h
   have HTV:Hid (∀W,Below w1.heap.size (wr.alloc (.cells #[.int .i64 xk,.int .i64 xn,.string xs,.slice xpl xnl xcl,.slice xpm xnm xcm] 25)) W->(wr.alloc (.cells #[.int .i64 xk,.int .i64 xn,.string xs,.slice xpl xnl xcl,.slice xpm xnm xcm] 25)).heap.size<=W.heap.size->Calls ye 67 #[.agg #[.int .i64 xk,.int .i64 xn,.string xs,.slice xpl xnl xcl,.slice xpm xnm xcm],.string zdW] W (zD W 9 zg 1 LV)):=fun W hW hs=>by
    have h:=zcR y ⟨xk,xn,xs,xpl,xnl,xcl,xpm,xnm,xcm⟩ zdW W B (yg hBw1 (yg hb2.size hs)) (hTy.under (hW.mono hBw1) (yd _)) hyok;rw[hLV]at h;exact h
   obtain⟨d,hd⟩:∃d,inB LK kind=d:=⟨_,rfl⟩;have HCT:Hid (∀p n c W,Rd W W.heap.size zg 1 (.slice p n c) LK->Calls ye 111 #[.slice p n c,.string kind] W fun e w'=>e= .returned (.bool d)/\W=w'):=fun p n c W h=>(zdb h (by omega) kind).mono (fun e w' h=>⟨by rw[h.1,hd],h.2.symm⟩)
   rw[hd]at hin;rw[<-hin]at hpo;have HPO:=yc hpo;have HO1:=yc hO1;have HB2:=yc hb2;have hz1:w1.heap.size<=(wr.alloc (.cells #[.int .i64 xk,.int .i64 xn,.string xs,.slice xpl xnl xcl,.slice xpm xnm xcm] 25)).heap.size:=hb2.size;unfold zL at HTK;unfold zdW at HTV;clear hpo hin hd hL hLK hLV hTy hO hbr hc1 hx hy hty hyok hO1 hb2;cases kz with
   | true =>
     go_upto_region 5 with fail
     obtain⟨W1,hW1⟩:∃W,wr.alloc (.cells #[.int .i64 xk,.int .i64 xn,.string xs,.slice xpl xnl xcl,.slice xpm xnm xcm] 25)=W:=⟨_,rfl⟩;obtain⟨g7,hg7⟩:∃g,wr.heap.size=g:=⟨_,rfl⟩;rw[hW1]at HTK HTV HO1 HB2 hz1;rw[hW1,hg7]at hV1
     try rw[hW1]
     try rw[hg7]
     clear hW1 hg7;obtain⟨e0,e1,e2,e3,e4⟩:=hV1.cells5;dsimp only at e0 e1 e2 e3 e4;have HTV1:=yc (HTV.out W1 (yh _ _) (yd _))
     go_wp2_with (first
      |(go_at_call 67;(with_reducible refine HTV1.out.mono ?_);rintro e w2 ⟨u2,rfl,ho2,hb2⟩;(have ho3:=HO1.out.below hb2 (yd _));(have hz2:w1.heap.size<=w2.heap.size:=yg hz1 hb2.size))
      |(at_builtin;refine zk slS zn w2 rfl (.tmp 23) (.tmp 25) rfl (v:=u5) rfl rfl ho3 (ho2.rd zn) HLN.out.1 HLN.out.2 (by omega) ?_;intro v8 w8 ho8 hg8 hat8)
      |fail)
     go_roundw
     case rel=>
      refine⟨j+1,by omega,by go_num,?_,Below.appended (HB2.out.trans (hb2.mono hz1)) hg8 ho3 hz2⟩
      rw[HPS.out,if_pos (by rw[HPO.out];rfl)]
      exact ho8
     case measure=>simp[intOf];omega
   | false =>
     cases d with
     | true =>
       go_upto_region 5 with fail
       obtain⟨W1,hW1⟩:∃W,wr.alloc (.cells #[.int .i64 xk,.int .i64 xn,.string xs,.slice xpl xnl xcl,.slice xpm xnm xcm] 25)=W:=⟨_,rfl⟩;obtain⟨g7,hg7⟩:∃g,wr.heap.size=g:=⟨_,rfl⟩;rw[hW1]at HTK HTV HO1 HB2 hz1;rw[hW1,hg7]at hV1
       try rw[hW1]
       try rw[hg7]
       clear hW1 hg7;have hV1l:=hV1.lt;obtain⟨e0,e1,e2,e3,e4⟩:=hV1.cells5;dsimp only at e0 e1 e2 e3 e4;have HTK1:=yc (HTK.out W1 (yh _ _) (yd _))
       go_wp2_with (first
        |(go_at_call 67;(with_reducible refine HTK1.out.mono ?_);rintro e w2 ⟨u2,rfl,ho2,hb2⟩;(have ho3:=HO1.out.below hb2 (yd _));(have hz2:W1.heap.size<=w2.heap.size:=hb2.size);obtain⟨p2,n2,c2,rfl⟩:∃p n c,u2=Value.slice p n c:=by(obtain⟨p,c,hv,_,_⟩:=ho2.len;exact⟨p,_,c,hv⟩))
        |(go_at_call 111;refine(HCT.out _ _ _ _ (ho2.rd zn)).mono ?_;rintro e w3 ⟨rfl,rfl⟩;(have hV2:=hV1.under hb2 hV1l);(obtain⟨g0,g1,g2,g3,g4⟩:=hV2.cells5);dsimp only at g0 g1 g2 g3 g4)
        |(go_at_call 67;(have HV2:=HTV.out w2 (hb2.mono hz1) hz2);(with_reducible refine HV2.mono ?_);rintro e w4 ⟨u4,rfl,ho4,hb4⟩;(have ho5:=ho3.below hb4 (yd _));(have hz4:w2.heap.size<=w4.heap.size:=hb4.size))
        |(at_builtin;refine zk slS zn w4 rfl (.tmp 23) (.tmp 25) rfl (v:=u5) rfl rfl ho5 (ho4.rd zn) HLN.out.1 HLN.out.2 (by omega) ?_;intro v8 w8 ho8 hg8 hat8)
        |fail)
       go_roundw
       case rel=>
        have hbb:=HB2.out.trans (hb2.mono hz1);refine⟨j+1,by omega,by go_num,?_,Below.appended (hbb.trans (hb4.mono (yg hz1 hz2))) hg8 ho5 (by omega)⟩
        rw[HPS.out,if_pos (by rw[HPO.out];rfl)]
        exact ho8
       case measure=>simp[intOf];omega
     | false =>
       go_upto_region 5 with fail
       obtain⟨W1,hW1⟩:∃W,wr.alloc (.cells #[.int .i64 xk,.int .i64 xn,.string xs,.slice xpl xnl xcl,.slice xpm xnm xcm] 25)=W:=⟨_,rfl⟩;obtain⟨g7,hg7⟩:∃g,wr.heap.size=g:=⟨_,rfl⟩;rw[hW1]at HTK HTV HO1 HB2 hz1;rw[hW1,hg7]at hV1
       try rw[hW1]
       try rw[hg7]
       clear hW1 hg7;obtain⟨e0,e1,e2,e3,e4⟩:=hV1.cells5;dsimp only at e0 e1 e2 e3 e4;have HTK1:=yc (HTK.out W1 (yh _ _) (yd _))
       go_wp2_with (first
        |(go_at_call 67;(with_reducible refine HTK1.out.mono ?_);rintro e w2 ⟨u2,rfl,ho2,hb2⟩;(have ho3:=HO1.out.below hb2 (yd _));(have hz2:W1.heap.size<=w2.heap.size:=hb2.size);obtain⟨p2,n2,c2,rfl⟩:∃p n c,u2=Value.slice p n c:=by(obtain⟨p,c,hv,_,_⟩:=ho2.len;exact⟨p,_,c,hv⟩))
        |(go_at_call 111;refine(HCT.out _ _ _ _ (ho2.rd zn)).mono ?_;rintro e w3 ⟨rfl,rfl⟩)
        |fail)
       go_roundw
       case rel=>
        refine⟨j+1,by omega,by go_num,?_,HB2.out.trans (hb2.mono hz1)⟩
        rw[HPS.out,if_neg (by rw[HPO.out];decide),yau]
        exact ho3
       case measure=>simp[intOf];omega
  ·obtain rfl:j=n9:=by omega
   have hta:cs.take j=cs:=yq (by have:=HN.out;omega)
   rw[hta]at hO;have HX:=yc (And.intro (hO.mono hw1) (HBW.out.trans (hbr.mono hw1)));clear hO hbr hta
   go_wp2_with fail
   go_ret;exact⟨_,rfl,HX.out.1,HX.out.2⟩
def zba(t:JV):JV:=(t.get zh).getD JV.zero
theorem zhm{t:JV}(h:t.Ok):(zba t).Ok:=by
 unfold zba;cases hx:t.get zh with
 |none=>exact .mk (by decide) (by decide) (by decide) (by decide) (by decide) (fun i x h=>by simp at h) (fun i p h=>by simp at h) (fun i p h=>by simp at h)
 |some x=>exact h.get hx
theorem zhT(t:JV)(r:RV)(p:ByteArray)(hp:p=zbg\/p=zcj\/p=zbO)(w:World)(B:Nat)(hBw:B<=w.heap.size)(ht:TreeOf w B t r)(ot:t.Ok):
 Calls ye 29 #[r.val,.string p] w (zD w 9 zg 1 (zbP (zba t) (p.extract 5 p.size))):=by
 obtain⟨W0,hW0⟩:∃W0,w.alloc r.obj=W0:=⟨_,rfl⟩;have hA0:VAt W0 w.heap.size r:=by rw[<-hW0];exact za rfl
 have hB0:Below w.heap.size w W0:=by rw[<-hW0];exact(yh _ _).alloc (yd _) _
 have HC:Hid (Calls ye 62 #[r.val,.string zh] W0 (zV W0 B (t.get zh))):=zT t r zh W0 B (yg hBw hB0.size) (ht.under (hB0.mono hBw) (yd _)) ot;have hno:(zba t).Ok:=zhm ot;obtain⟨L,hL⟩:∃L,zbP (zba t) (p.extract 5 p.size)=L:=⟨_,rfl⟩
 have HP:Hid (∀(q:RV) (W:World),B<=W.heap.size->TreeOf W B (zba t) q->Calls ye 64 #[q.val,.string (p.extract 5 p.size)] W (zD W 9 zg 1 L)):=fun q W hB hq=>by
  rw[<-hL];exact zi2 (zba t) q _ W B hB hq hno (by rcases hp with rfl|rfl|rfl<;>decide+kernel)
 rw[hL];obtain⟨k,n,s,pl,nl,cl,pm,nm,cm⟩:=r;dsimp only[RV.val,RV.obj]at*;have HW:=yc hW0;have HB0:=yc hB0;have hw0:=hB0.size;unfold zh at HC;clear hW0 hB0 ht ot hL hno
 rcases hp with rfl|rfl|rfl
 all_goals
  try unfold zbg at*
  try unfold zcj at*
  try unfold zbO at*
  go_enter Tryz.func29,Tryz.ntmps29
  go_upto_region 1 with fail
  rw[HW.out];clear HW;obtain⟨a0,a1,a2,a3,a4⟩:=hA0.cells5
  go_upto_region 3 with(go_at_call 62;refine HC.out.mono ?_;rintro e w1 ⟨rv,bb,rfl,hbb,ht1,hb1⟩;obtain⟨rk,rn,rS,rpl,rnl,rcl,rpm,rnm,rcm⟩:=rv)
  have hz1:=hb1.size;have hb2:Below W0.heap.size W0 (w1.alloc (.cells #[.int .i64 rk,.int .i64 rn,.string rS,.slice rpl rnl rcl,.slice rpm rnm rcm] 25)):=hb1.alloc hz1 _;have hv2:VAt (w1.alloc (.cells #[.int .i64 rk,.int .i64 rn,.string rS,.slice rpl rnl rcl,.slice rpm rnm rcm] 25)) w1.heap.size ⟨rk,rn,rS,rpl,rnl,rcl,rpm,rnm,rcm⟩:=za rfl;have ht2:=ht1.under ((yh B w1).alloc (yg (yg hBw hw0) hz1) (.cells #[.int .i64 rk,.int .i64 rn,.string rS,.slice rpl rnl rcl,.slice rpm rnm rcm] 25)) (yd _);obtain⟨g,hg⟩:∃g,w1.heap.size=g:=⟨_,rfl⟩;obtain⟨W2,hW2⟩:∃W,w1.alloc (.cells #[.int .i64 rk,.int .i64 rn,.string rS,.slice rpl rnl rcl,.slice rpm rnm rcm] 25)=W:=⟨_,rfl⟩;rw[hW2]at hb2 hv2 ht2;rw[hg]at hv2
  try rw[hW2]
  try rw[hg]
  obtain⟨v0,v1,v2,v3,v4⟩:=hv2.cells5;dsimp only at v0 v1 v2 v3 v4;have hbw:=HB0.out.trans (hb2.mono hw0);have HX:=yc hbw;have hw2:=hbw.size;have HP1:Hid (∀W:World,Below W2.heap.size W2 W->Calls ye 64 _ W (zD W 9 zg 1 L)):=fun W hW=>HP.out ⟨rk,rn,rS,rpl,rnl,rcl,rpm,rnm,rcm⟩ W (yg (yg hBw hw2) hW.size) (ht2.under (hW.mono (yg hBw hw2)) (yd _))
  dsimp only[RV.val]at HP1;clear hW2 hg hb1 ht1 hb2 hv2 hz1 hbw ht2 HP
  go_upto_region 9 with fail
  go_region_with (first
   |(go_at_call 64;refine(HP1.out _ (by first|exact yh _ _|exact(yh _ _).drew|exact bdn (yh _ _) _)).mono ?_;rintro e w3 ⟨u3,rfl,ho3,hb3⟩)
   |fail)
  all_goals
   first
    |go_ret
    |(go_wp2_with fail;go_ret)
   first
    |exact⟨u3,rfl,ho3.mono hw2,HX.out.drew.trans (hb3.mono hw2)⟩
    |exact⟨u3,rfl,ho3.mono hw2,HX.out.trans (hb3.mono hw2)⟩
    |exact⟨u3,rfl,ho3.mono hw2,(bdn HX.out _).trans (hb3.mono hw2)⟩
end
section
open Go.RowKit Go.OpenShut
mutual
def zf:JV->Nat
 | .mk _ _ _ l m=>1+zH l+z8 m
def zH:List JV->Nat
 |[]=>0
 |t::l=>zf t+zH l
def z8:List (ByteArray×JV)->Nat
 |[]=>0
 |(_,t)::m=>zf t+z8 m
end
theorem zkM{l:List JV}{j:Nat}{t:JV}(h:l[j]? =some t):zH (l.take (j+1))=zH (l.take j)+zf t:=by
 induction l generalizing j with
 |nil=>simp at h
 | cons a l ih =>
   cases j with
   | zero =>
     simp at h;subst h;simp[zH]
   | succ j =>
     rw[yR]at h;rw[yI,yI];unfold zH;rw[ih h];omega
theorem zkO{m:List (ByteArray×JV)}{j:Nat}{p:ByteArray×JV}(h:m[j]? =some p):z8 (m.take (j+1))=z8 (m.take j)+zf p.2:=by
 induction m generalizing j with
 |nil=>simp at h
 | cons a m ih =>
   obtain⟨a,b⟩:=a;cases j with
   | zero =>
     simp at h;subst h;simp[z8]
   | succ j =>
     rw[yR]at h;rw[yI,yI];unfold z8;rw[ih h];omega
def zg7(w:World)(t:JV)(e:Ending)(w':World):Prop:=e= .returned (.int .i64 (IntKind.i64.wrap (zf t)))/\Below w.heap.size w w'
theorem zji(a b c:Int)(h:a+b=c):wrap64 (IntKind.i64.wrap a+wrap64 b)=IntKind.i64.wrap c:=by
 subst h;rw[IntKind.wrap_i64,IntKind.wrap_i64];unfold wrap64;omega
theorem zl7(N:Nat):∀(t:JV) (r:RV) (w:World),SizeOf.sizeOf t<=N->TreeOf w w.heap.size t r->t.Ok->
 Calls ye 12 #[r.val] w (zg7 w t):=by
 induction N with
 |zero=>intro t r w hN;cases t;simp at hN
 | succ N ih =>
   intro t r w hN ht ot;cases ht with
   | @mk _ l m rs rms hl el hcl hm em hcn hcm=>
   obtain⟨k,n,s,pl,nl,cl,pm,nm,cm⟩:=r;cases ot with
   |mk _ _ _ bl bm okl oks okm=>
   dsimp only[RV.val]at*;have eL:=zi hl;have eM:=zi hm
   have HT:Hid (∀(i:Nat) t q,l[i]? =some t->rs[i]? =some q->∀W,Below w.heap.size w W->Calls ye 12 #[q.val] W (zg7 W t)):=
    fun i t q h1 h2 W hb=>ih t q W (by have:=JV.lt_l (k:=k) (n:=n) (s:=s) (m:=m) h1;omega) ((hcl i t q h1 h2).under hb hb.size) (okl i t h1)
   have HS:Hid (∀(i:Nat) p q,m[i]? =some p->rms[i]? =some q->∀W,Below w.heap.size w W->Calls ye 12 #[q.v.val] W (zg7 W p.2)):=
    fun i p q h1 h2 W hb=>ih p.2 q.v W (by have:=JV.lt_m (k:=k) (n:=n) (s:=s) (l:=l) h1;omega) ((hcm i p q h1 h2).under hb hb.size) (okm i p h1)
   have HL:=yc hl;have HM:=yc hm;have E1:Hid (l.length=nl/\rs.length=nl):=⟨by omega,by omega⟩
   have E2:Hid (m.length=nm/\rms.length=nm):=⟨by omega,by omega⟩
   have hnl:nl<=1759218604390:=by omega
   have hnm:nm<=1466015503658:=by omega
   have hA0:VAt (w.alloc (.cells #[.int .i64 k,.int .i64 n,.string s,.slice pl nl cl,.slice pm nm cm] 25)) w.heap.size ⟨k,n,s,pl,nl,cl,pm,nm,cm⟩:=za rfl;have hB0:Below w.heap.size w (w.alloc (.cells #[.int .i64 k,.int .i64 n,.string s,.slice pl nl cl,.slice pm nm cm] 25)):=(yh _ _).alloc (yd _) _;clear ih hcl hcn hcm hl hm okl oks okm el em bl bm eL eM hN
   go_enter Tryz.func12,Tryz.ntmps12
   go_upto_region 1 with fail
   obtain⟨W0,hW0⟩:∃W0,(w.alloc (.cells #[.int .i64 k,.int .i64 n,.string s,.slice pl nl cl,.slice pm nm cm] 25))=W0:=⟨_,rfl⟩;rw[hW0]at hA0 hB0⊢;clear hW0;have hz:=hA0.lt;have c3:=hA0.cell 3 rfl;have c4:=hA0.cell 4 rfl;dsimp only at c3 c4;clear hA0
   go_wp2_with fail
   go_loopw [3,11] (fun a i wr=>∃(g:Int) (j:Nat),j<=nl/\a= .int .i64 g/\i= .int .i64 j/\Hid (g=IntKind.i64.wrap ((1+zH (l.take j):Nat):Int))/\Below W0.heap.size W0 wr) (fun _ i _=>nl-(intOf i).toNat)
   case atStart=>exact⟨1,0,yu _,rfl,rfl,by unfold Hid;simp[zH];decide,yh _ _⟩
   case round=>
    obtain⟨g,j,hj,rfl,rfl,hg,hbr⟩:=hrel;have hbw:Below w.heap.size w wr:=hB0.trans (hbr.mono hB0.size);by_cases hlt:j<nl
    ·obtain⟨tx,htx⟩:∃x,l[j]? =some x:=⟨_,yf (by have:=E1.out;omega)⟩
     obtain⟨x,hx⟩:∃x,rs[j]? =some x:=⟨_,yf (by have:=E1.out;omega)⟩
     obtain⟨b1,o1,rfl,hb1,hc1⟩:=zq (HL.out.below hbw (yd _)) hx;have f0:=hc1 0 _ rfl;have f1:=hc1 1 _ rfl;have f2:=hc1 2 _ rfl;have f3:=hc1 3 _ rfl;have f4:=hc1 4 _ rfl;rw[yw]at f0;have HC:=yc (HT.out j tx x htx hx);have HTX:=yc (zkM htx);have hk0:(0:Int)<=(j:Int):=yj _;have hk1:(j:Int)<(nl:Int):=by omega
     have HBR:=yc hbr;have hbx:Below w.heap.size w (wr.alloc (.cells #[.int .i64 x.k,.int .i64 x.n,.string x.s,.slice x.pl x.nl x.cl,.slice x.pm x.nm x.cm] 25)):=hbw.alloc hbw.size _;have HBX:=yc hbx;clear hc1 htx hx hbr hbx
     go_wp2_with (go_at_call 12;refine(HC.out _ HBX.out).mono ?_;rintro e w1 ⟨rfl,hb1'⟩)
     go_roundw
     case rel=>
      refine⟨_,j+1,by omega,rfl,by go_num,?_,(HBR.out.alloc HBR.out.size _).trans (hb1'.mono (by have:=HBR.out.size;simp;omega))⟩
      unfold Hid;rw[HTX.out,hg.out];exact zji _ _ _ (by omega)
     case measure=>simp[intOf];omega
    ·obtain rfl:j=nl:=by omega
     have c4:=zc hbr hz c4;have hsz:W0.heap.size<=wr.heap.size:=hbr.size
     have hg2:Hid (g=IntKind.i64.wrap ((1+zH l:Nat):Int)):=by
      have h:=hg.out;rw[yq (by have:=E1.out;omega)]at h
      exact h
     clear HT HL E1 hbr hg c3;obtain⟨wo,rfl⟩:∃wo:World,wo=wr:=⟨_,rfl⟩
     go_wp2_with fail
     go_loopw [3,23] (fun a i wr=>∃(g:Int) (j:Nat),j<=nm/\a= .int .i64 g/\i= .int .i64 j/\Hid (g=IntKind.i64.wrap ((1+zH l+z8 (m.take j):Nat):Int))/\Below wo.heap.size wo wr) (fun _ i _=>nm-(intOf i).toNat)
     case atStart=>exact⟨g,0,yu _,rfl,rfl,by unfold Hid;simpa[z8]using hg2.out,yh _ _⟩
     case round=>
      obtain⟨g,j,hj,rfl,rfl,hg,hbr⟩:=hrel;have hbw2:Below w.heap.size w wr:=hbw.trans (hbr.mono (by omega))
      by_cases hlt:j<nm
      ·obtain⟨tx,htx⟩:∃x,m[j]? =some x:=⟨_,yf (by have:=E2.out;omega)⟩
       obtain⟨x,hx⟩:∃x,rms[j]? =some x:=⟨_,yf (by have:=E2.out;omega)⟩
       obtain⟨b1,o1,rfl,hb1,hc1⟩:=zq (HM.out.below hbw2 (yd _)) hx;have f0:=hc1 0 _ rfl;have f1:=hc1 1 _ rfl;have f2:=hc1 2 _ rfl;have f3:=hc1 3 _ rfl;have f4:=hc1 4 _ rfl;have f5:=hc1 5 _ rfl;rw[yw]at f0;have HC:=yc (HS.out j tx x htx hx);have HTX:=yc (zkO htx);have hk0:(0:Int)<=(j:Int):=yj _;have hk1:(j:Int)<(nm:Int):=by omega
       have HBR:=yc hbr;have hbx:Below w.heap.size w (wr.alloc (.cells #[.string x.name,.int .i64 x.v.k,.int .i64 x.v.n,.string x.v.s,.slice x.v.pl x.v.nl x.v.cl,.slice x.v.pm x.v.nm x.v.cm] 35)):=hbw2.alloc hbw2.size _;have HBX:=yc hbx;clear hc1 htx hx hbr hbx
       go_wp2_with (go_at_call 12;refine(HC.out _ HBX.out).mono ?_;rintro e w1 ⟨rfl,hb1'⟩)
       go_roundw
       case rel=>
        refine⟨_,j+1,by omega,rfl,by go_num,?_,(HBR.out.alloc HBR.out.size _).trans (hb1'.mono (by have:=HBR.out.size;simp;omega))⟩
        unfold Hid;rw[HTX.out,hg.out];exact zji _ _ _ (by omega)
       case measure=>simp[intOf];omega
      ·obtain rfl:j=nm:=by omega
       go_wp2_with fail
       go_ret;refine⟨?_,hbw2⟩;have h:=hg.out;rw[yq (by have:=E2.out;omega)]at h
       show Ending.returned (.int .i64 g)=_
       rw[h];unfold zf
       rfl
end
section
open Go Go.RowKit Go.OpenShut
theorem zF(p:ByteArray)(l:List UInt8):decide (p=⟨l.toArray⟩)=(p.toList==l):=by
 rw[ByteArray.toList_eq];by_cases h:p.data.toList=l
 ·rw[decide_eq_true (ByteArray.ext (Array.toList_inj.1 (by simpa using h)))]
  simpa using h
 ·rw[decide_eq_false (fun e=>h (by rw[e]))]
  simpa using h
theorem znl(p:ByteArray):zby p=((p.toList==[99,114,101,97,116,101,100])||(p.toList==[117,112,100,97,116,101,100])):=by
 unfold zby;rw[<-zF,<-zF]
 rfl
theorem ziR(p:ByteArray)(dn:Bool)(w:World):Calls ye 317 #[.agg #[.string p,.bool dn]] w fun e w'=>e= .returned (.bool (zby p))/\Below w.heap.size w w':=by
 rw[znl];obtain⟨x,hx⟩:∃b,(p.toList==[99,114,101,97,116,101,100])=b:=⟨_,rfl⟩;obtain⟨y,hy⟩:∃b,(p.toList==[117,112,100,97,116,101,100])=b:=⟨_,rfl⟩;have HB:=yc ((yh w.heap.size w).alloc (yd _) (.cells #[.string p,.bool dn] 218));obtain⟨R,hR⟩:∃R,((p.toList==[99,114,101,97,116,101,100])||(p.toList==[117,112,100,97,116,101,100]))=R:=⟨_,rfl⟩
 rw[hR];rw[hx,hy]at hR;have c0:(w.alloc (.cells #[.string p,.bool dn] 218)).cell? ⟨w.heap.size,0,none⟩=some (.string p):=(cell_of_row _ w.heap.size 0 _ _ _ (za rfl)).trans rfl;have HR:=yc hR;clear hR;cases x<;>cases y
 all_goals
  go_enter Tryz.func317,Tryz.ntmps317
  go_wp2_with fail
  rw[<-HR.out];go_ret;exact⟨rfl,HB.out⟩
def zca(t:JV)(p:ByteArray):ByteArray:=if zby p then zeo t p else zgP t p
theorem zoi(t:JV)(p:ByteArray):zeo t p=if((t.get p).getD JV.zero).k=4 then((t.get p).getD JV.zero).s else⟨#[]⟩:=by
 unfold zeo;rw[zfZ]
 split<;>rfl
theorem zlC(p:ByteArray)(dn:Bool)(hp:zby p=true\/p=zbg\/p=zcj\/p=zbO)(t:JV)(r:RV)(w:World)(B:Nat)(hBw:B<=w.heap.size)(ht:TreeOf w B t r)(ot:t.Ok):
 Calls ye 318 #[.agg #[.string p,.bool dn],r.val] w fun e w'=>e= .returned (.string (zca t p))/\Below w.heap.size w w':=by
 obtain⟨W0,hW0⟩:∃W0,(w.alloc (.cells #[.string p,.bool dn] 218)).alloc r.obj=W0:=⟨_,rfl⟩;have hC0:W0.heap[w.heap.size]? =some (.cells #[.string p,.bool dn] 218 (0,0)):=by rw[<-hW0];exact zb (by simp) (za rfl)
 have hA0:VAt W0 (w.heap.size+1) r:=by rw[<-hW0];exact za (by simp)
 have hB0:Below w.heap.size w W0:=by rw[<-hW0];exact zM w _ _
 have hc0:W0.cell? ⟨w.heap.size,0,none⟩=some (.string p):=(cell_of_row _ w.heap.size 0 _ _ _ hC0).trans rfl;have hc1:W0.cell? ⟨w.heap.size,1,none⟩=some (.bool dn):=(cell_of_row _ w.heap.size 1 _ _ _ hC0).trans rfl;have hl0:=hA0.lt;have HDT:Hid (∀W,Calls ye 317 #[.agg #[.string p,.bool dn]] W fun e w'=>e= .returned (.bool (zby p))/\Below W.heap.size W w'):=fun W=>ziR p dn W
 have ht0:TreeOf W0 B t r:=ht.under (hB0.mono hBw) (yd _);have hw0:=hB0.size;have HC:Hid (∀W,Below W0.heap.size W0 W->Calls ye 62 #[r.val,.string p] W (zV W B (t.get p))):=fun W hW=>zT t r p W B (yg (yg hBw hw0) hW.size) (ht0.under (hW.mono (yg hBw hw0)) (yd _)) ot
 have HT:Hid (zby p=false->∀W,Below W0.heap.size W0 W->Calls ye 29 #[r.val,.string p] W (zD W 9 zg 1 (zbP (zba t) (p.extract 5 p.size)))):=fun hd W hW=>zhT t r p (by rcases hp with h|h;(rw[hd]at h;cases h);exact h) W B (yg (yg hBw hw0) hW.size) (ht0.under (hW.mono (yg hBw hw0)) (yd _)) ot
 have HK:Hid (zca t p=if zby p then(if((t.get p).getD JV.zero).k=4 then((t.get p).getD JV.zero).s else⟨#[]⟩)else(zbP (zba t) (p.extract 5 p.size)).headD ⟨#[]⟩):=by
  unfold Hid zca;rw[zoi]
  rfl
 obtain⟨R,hR⟩:∃R,zca t p=R:=⟨_,rfl⟩;rw[hR]at HK;rw[hR];obtain⟨L,hL⟩:∃L,zbP (zba t) (p.extract 5 p.size)=L:=⟨_,rfl⟩;rw[hL]at HT HK;obtain⟨k,n,s,pl,nl,cl,pm,nm,cm⟩:=r;dsimp only[RV.val,RV.obj]at*;have HW:=yc hW0;have HB0:=yc hB0;clear hW0 hB0 ht ot hL hR hC0 hp ht0;cases hd:zby p with
 | true =>
   rw[hd]at HDT HK;clear HT
   go_enter Tryz.func318,Tryz.ntmps318
   go_upto_region 1 with fail
   rw[HW.out];clear HW;obtain⟨a0,a1,a2,a3,a4⟩:=hA0.cells5
   go_upto_region 2 with(go_at_call 317;refine(HDT.out _).mono ?_;rintro e w1 ⟨rfl,hb1⟩)
   have hA1:=hA0.under hb1 hl0;have hd0:=zc hb1 (ybe hl0) hc0;have hd1:=zc hb1 (ybe hl0) hc1;obtain⟨d0,d1,d2,d3,d4⟩:=hA1.cells5;have HC1:=yc (HC.out w1 hb1);have hz1:=hb1.size;clear HC hA1 hA0 hc0 hc1
   go_upto_region 3 with(go_at_call 62;refine HC1.out.mono ?_;rintro e w2 ⟨rv,bb,rfl,hbb,ht1,hb2⟩;obtain⟨rk,rn,rS,rpl,rnl,rcl,rpm,rnm,rcm⟩:=rv)
   obtain⟨hkk,hss⟩:=ht1.kk;dsimp only at hkk hss;have hb12:=hb1.trans (hb2.mono hz1);have hz2:=hb12.size;have hb3:Below W0.heap.size W0 (w2.alloc (.cells #[.int .i64 rk,.int .i64 rn,.string rS,.slice rpl rnl rcl,.slice rpm rnm rcm] 25)):=hb12.alloc hz2 _;have hv2:VAt (w2.alloc (.cells #[.int .i64 rk,.int .i64 rn,.string rS,.slice rpl rnl rcl,.slice rpm rnm rcm] 25)) w2.heap.size ⟨rk,rn,rS,rpl,rnl,rcl,rpm,rnm,rcm⟩:=za rfl;obtain⟨g,hg⟩:∃g,w2.heap.size=g:=⟨_,rfl⟩;obtain⟨W2,hW2⟩:∃W,w2.alloc (.cells #[.int .i64 rk,.int .i64 rn,.string rS,.slice rpl rnl rcl,.slice rpm rnm rcm] 25)=W:=⟨_,rfl⟩;rw[hW2]at hb3 hv2;rw[hg]at hv2
   try rw[hW2]
   try rw[hg]
   obtain⟨v0,v1,v2,v3,v4⟩:=hv2.cells5;dsimp only at v0 v1 v2 v3 v4;have HX:=yc (HB0.out.trans (hb3.mono hw0));clear hW2 hg hb1 ht1 hb2 hb3 hb12 hv2 hz1 hz2 HC1;by_cases hk4:rk=4
   ·subst hk4;have HR:Hid (R=rS):=by unfold Hid;rw[HK.out,if_pos trivial,<-hkk,if_pos rfl,hss]
    clear hkk hss
    go_wp2_with fail
    rw[HR.out];go_ret;exact⟨rfl,HX.out⟩
   ·have q1:(rk==4)=false:=by simpa using hk4
    have HR:Hid (R=⟨#[]⟩):=by unfold Hid;rw[HK.out,if_pos trivial,<-hkk,if_neg hk4]
    clear hkk hss
    go_wp2_with fail
    rw[HR.out];go_ret;exact⟨rfl,HX.out⟩
 | false =>
   rw[hd]at HDT HK;clear HC
   go_enter Tryz.func318,Tryz.ntmps318
   go_upto_region 1 with fail
   rw[HW.out];clear HW;obtain⟨a0,a1,a2,a3,a4⟩:=hA0.cells5
   go_upto_region 6 with(go_at_call 317;refine(HDT.out _).mono ?_;rintro e w1 ⟨rfl,hb1⟩)
   have hA1:=hA0.under hb1 hl0;have hd0:=zc hb1 (ybe hl0) hc0;have hd1:=zc hb1 (ybe hl0) hc1;obtain⟨d0,d1,d2,d3,d4⟩:=hA1.cells5;have HT1:=yc (HT.out hd w1 hb1);have hz1:=hb1.size;clear HT hA1 hA0 hc0 hc1;cases L with
   | nil =>
     have HR:Hid (R=⟨#[]⟩):=by unfold Hid;rw[HK.out];rfl
     go_wp2_with (go_at_call 29;refine HT1.out.mono ?_;rintro e w2 ⟨u2,rfl,ho2,hb2⟩;(obtain⟨p2,n2,c2,rfl⟩:∃p n c,u2=Value.slice p n c:=by(obtain⟨p,c,hv,_,_⟩:=ho2.len;exact⟨p,_,c,hv⟩));(obtain rfl:n2=0:=zi (ho2.rd zn)))
     rw[HR.out];go_ret;exact⟨rfl,HB0.out.trans ((hb1.trans (hb2.mono hz1)).mono hw0)⟩
   | cons x rest =>
     have HR:Hid (R=x):=by unfold Hid;rw[HK.out];rfl
     go_wp2_with (go_at_call 29;refine HT1.out.mono ?_;rintro e w2 ⟨u2,rfl,ho2,hb2⟩;(obtain⟨p2,n2,c2,rfl⟩:∃p n c,u2=Value.slice p n c:=by(obtain⟨p,c,hv,_,_⟩:=ho2.len;exact⟨p,_,c,hv⟩));(have hn2:n2=rest.length+1:=zi (ho2.rd zn));(have hn3:(0:Int)<(n2:Int):=by omega);(obtain⟨b2,o2,rfl,_,hc2⟩:=zq (k:=0) (x:=x) (ho2.rd zn) rfl);(have hcl:w2.cell? ⟨b2,o2,none⟩=some (.string x):=by simpa using hc2 0 _ rfl);clear hn2)
     rw[HR.out];go_ret;exact⟨rfl,HB0.out.trans ((hb1.trans (hb2.mono hz1)).mono hw0)⟩
end
section
open Go.RowKit Go.OpenShut
structure Pa where
 id:ByteArray
 was:Bool
 isb:Bool
 last:Int
deriving DecidableEq
def zcB(p:Pa):List Value:=[.string p.id,.bool p.was,.bool p.isb,.int .i64 p.last]
theorem codecP:Codec zcB 4:=⟨fun _=>rfl,fun x u hu=>by
 simp only[zcB,yA,y5,or_false]at hu
 rcases hu with rfl|rfl|rfl|rfl<;>rfl,by decide⟩
def Pa.eqv(a b:Pa):Bool:=a.id.toList==b.id.toList&&a.was==b.was&&a.isb==b.isb&&a.last==b.last
theorem zqi{α:Type}{enc:α->List Value}{sz n cap k B:Nat}{w:World}{p:Option Addr}{xs:List α}(h:Rd w B enc sz (.slice p n cap) xs){x:α}(hx:xs[k]? =some x):
 ∃b o,p=some ⟨b,o,none⟩/\b<B/\∀j u,(enc x)[j]? =some u->w.cell? ⟨b,o+k*sz+j,none⟩=some u:=by
 obtain⟨p',cap',he,h1,h2,h3,h4⟩:=h;simp only[Value.slice.injEq]at he;obtain⟨rfl,rfl,rfl⟩:=he;have hk:=(List.getElem?_eq_some_iff.1 hx).1;cases p with
 |none=>have:=h3 rfl;omega
 | some a =>
   obtain⟨b,o,rfl,hb,hr⟩:=h4 a rfl (by omega)
   exact⟨b,o,rfl,hb,hr k x hx⟩
theorem zfq{α:Type}{enc:α->List Value}{sz B:Nat}{w:World}{v:Value}{xs:List α}(h:Rd w B enc sz v xs):∃p cap,v= .slice p xs.length cap/\xs.length<=cap/\cap<=9223372036854775807:=by
 obtain⟨p,cap,he,h1,h2,_⟩:=h;exact⟨p,cap,he,h1,h2⟩
theorem znu{α:Type}[DecidableEq α]{l m:List α}{k:Nat}{x y:α}(hx:l[k]? =some x)(hy:m[k]? =some y)(h:x≠y):decide (l=m)=false:=by
 rw[decide_eq_false_iff_not];rintro rfl;rw[hx]at hy;exact h (by simpa using hy)
end
section
open Go Go.RowKit Go.ChangeShapes Go.WideShapes Go.Deep
structure RO where
 k:Int
 id:ByteArray
 v:RV
abbrev RO.val(r:RO):Value:= .agg #[.int .i64 r.k,.string r.id,.int .i64 r.v.k,.int .i64 r.v.n,.string r.v.s,.slice r.v.pl r.v.nl r.v.cl,.slice r.v.pm r.v.nm r.v.cm]
abbrev RO.obj(r:RO):Obj:= .cells #[.int .i64 r.k,.string r.id,.int .i64 r.v.k,.int .i64 r.v.n,.string r.v.s,.slice r.v.pl r.v.nl r.v.cl,.slice r.v.pm r.v.nm r.v.cm] 78
def zeU(r:RO):List Value:= .int .i64 r.k:: .string r.id::zbc r.v
theorem zlz:Codec zeU 7:=⟨fun _=>rfl,fun x u hu=>by
 simp only[zeU,zbc,yA,y5,or_false]at hu
 rcases hu with rfl|rfl|rfl|rfl|rfl|rfl|rfl<;>rfl,by decide⟩
def zlV(r:RO)(t:JV):Prop:=r.id.size<=140737488351232/\t.Ok
section
variable {H:Type} {enc:TypeId×Value->H} {W:World} {base b0:Nat} {spare:Nat->Bool} {held:Bool}
end
end
end Go.Proofs.YtemofofnkchmeaaGreatDoor
