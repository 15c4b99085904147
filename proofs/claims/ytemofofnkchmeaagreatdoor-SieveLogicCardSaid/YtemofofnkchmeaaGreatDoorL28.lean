import Derived.Test.YtemofofnkchmeaaGreatDoorL27
import Derived.Test.YtemofofnkchmeaaGreatDoorL24
import Derived.Test.YtemofofnkchmeaaGreatDoorL11
import Derived.Deep.LoopGhost
import Derived.Defers
import Derived.Recover
set_option linter.unusedSimpArgs false
set_option linter.unusedVariables false
set_option maxRecDepth 200000
set_option maxHeartbeats 8000000
namespace Go.Proofs.YtemofofnkchmeaaGreatDoor
open _root_.Array renaming getElem?_eq_some_iff->yl
open _root_.Go.RowKit.Below renaming refl->yh,setCell->yE
open _root_.Int renaming natCast_nonneg->yj
open _root_.Go.Lib renaming hid->yc
open _root_.List renaming drop_eq_getElem_cons->yU,drop_eq_nil_of_le->yaK,getD_eq_getElem?_getD->yJ,getElem?_eq_getElem->yf,getElem?_set->yae,length_map->yy,length_set->yaj,length_take->yz,map_append->yao,mem_cons->yA,mem_of_getElem?->ym,take_of_length_le->yq
open _root_.Nat renaming add_zero->yw,le_refl->yd,le_trans->yg,lt_of_lt_of_le->yL,zero_le->yu
open _root_.Go.Proofs.Tryz renaming prog->ye
section
open Go Go.RowKit Go.OpenShut
structure Two(q g:Nat)(w w':World):Prop where
 os:w'.os=w.os
 tape:w'.tape=w.tape
 output:w'.output=w.output
 size:w.heap.size<=w'.heap.size
 block:∀k,k<w.heap.size->k≠q->k≠g->w'.heap[k]? =w.heap[k]?
theorem Two.refl(q g:Nat)(w:World):Two q g w w:=⟨rfl,rfl,rfl,yd _,fun _ _ _ _=>rfl⟩
theorem Two.trans{q g:Nat}{a b c:World}(h:Two q g a b)(k:Two q g b c):Two q g a c:=
 ⟨k.os.trans h.os,k.tape.trans h.tape,k.output.trans h.output,yg h.size k.size,fun i hi h1 h2=>(k.block i (yL hi h.size) h1 h2).trans (h.block i hi h1 h2)⟩
theorem Two.ofG{q g:Nat}{a b:World}(h:a.grownBy b (some g)):Two q g a b:=⟨h.os,h.tape,h.output,h.size,fun k hk _ h2=>h.block k hk (fun e=>h2 (Option.some.inj e))⟩
theorem Two.ofQ{q g:Nat}{a b:World}(h:a.grownBy b (some q)):Two q g a b:=⟨h.os,h.tape,h.output,h.size,fun k hk h1 _=>h.block k hk (fun e=>h1 (Option.some.inj e))⟩
theorem Two.ofB{q g:Nat}{a b:World}(h:Below a.heap.size a b):Two q g a b:=⟨h.os,h.tape,h.output,h.size,fun k hk _ _=>h.block k hk⟩
theorem Two.below{q g base:Nat}{a b:World}(h:Two q g a b)(hq:base<=q)(hg:base<=g)(hs:base<=a.heap.size):Below base a b:=⟨h.os,h.tape,h.output,h.size,fun k hk=>h.block k (yL hk hs) (by omega) (by omega)⟩
def ziz(rs:List RM)(x:Nat):Value:= .agg #[.string (rs.getD x dRM).name,.int .i64 (rs.getD x dRM).v.k,.int .i64 (rs.getD x dRM).v.n,.string (rs.getD x dRM).v.s,.slice (rs.getD x dRM).v.pl (rs.getD x dRM).v.nl (rs.getD x dRM).v.cl,.slice (rs.getD x dRM).v.pm (rs.getD x dRM).v.nm (rs.getD x dRM).v.cm,.int .i64 (x:Int)]
theorem zpK(rs:List RM)(pc:Option Addr)(nc cc base q g cap m:Nat)(ys:List Nat)(w:World)(hm:ys.length=m+1)(hq:QAt w base q g cap rs pc nc cc ys):
 Calls ye 312 #[.pointer (some ⟨q,0,none⟩)] w fun e w'=>e= .returned (.iface 164 (ziz rs (fN ys m)))/\QAt w' base q g cap rs pc nc cc (ys.take m)/\Two q g w w':=by
 have hi:ys[m]? =some (fN ys m):=zcl (by omega)
 obtain⟨r1,hr1⟩:∃r,rs.getD (fN ys m) dRM=r:=⟨_,rfl⟩;obtain⟨f0,f1,f2,f3,f4,f5,f6⟩:=zkm hq.own hi hr1;have HV:Hid (ziz rs (fN ys m)= .agg #[.string r1.name,.int .i64 r1.v.k,.int .i64 r1.v.n,.string r1.v.s,.slice r1.v.pl r1.v.nl r1.v.cl,.slice r1.v.pm r1.v.nm r1.v.cm,.int .i64 ((fN ys m:Nat):Int)]):=by unfold Hid ziz;rw[hr1]
 have hq0:=hq.q0;have hgl:=hq.glo;have hql:q<w.heap.size:=(yl.1 hq.cell).1;have hxl:=hq.xlen;unfold maxLen at hxl;rw[hm]at hq0 hxl;obtain⟨hxl1,hxl2⟩:=hxl;obtain⟨x,hx⟩:∃x,fN ys m=x:=⟨_,rfl⟩;obtain⟨V,hV⟩:∃V,ziz rs (fN ys m)=V:=⟨_,rfl⟩;rw[hV]at HV;rw[hx]at f6 HV;rw[hV];have hcell:=hq.cell;rw[hm]at hcell;obtain⟨M,hM⟩:∃M,m+1=M:=⟨_,rfl⟩;rw[hM]at hq0 hxl1 hcell;have hMe:(M:Int)-1=(m:Int):=by omega
 have m0:(0:Int)<=(m:Int):=yj _;have m1:(m:Int)<(M:Int):=by omega
 have tm:((m:Int)).toNat=m:=by omega
 have hmM:m<=M:=by omega
 have hfz:w.frozen? ⟨q,0,none⟩=false:=by simp[World.frozen?,hcell]
 have hqg:q≠w.heap.size:=by omega
 have HQ:=yc hq;have HC:=yc hcell;have HM:=yc hm;have HMM:=yc hM;have MB:(M:Int)<=9223372036854775807:=by omega
 obtain⟨n1,⟨k,n,s,pl,nl,cl,pm,nm,cm⟩⟩:=r1;dsimp only at f0 f1 f2 f3 f4 f5 HV;clear hq hm hi hr1 hx hV hcell hM
 go_enter Tryz.func312,Tryz.ntmps312
 go_wp2_with fail
 go_ret;have hq:=HQ.out;have hlt:(ys.take m).length=m:=by rw[yz,HM.out];omega
 have hgq:w.grownBy (w.setCell ⟨q,0,none⟩ (.slice (some ⟨g,0,none⟩) m cap)) (some q):=⟨rfl,rfl,rfl,by simp[World.setCell],fun k _ hk=>heap_setCell_other w ⟨q,0,none⟩ k _ (fun e=>hk (by simp[e]))⟩
 have ho:Own w base 164 (zeJ rs) 7 (.slice (some ⟨g,0,none⟩) m cap) (ys.take m):=hq.own.firstN (zdH rs) m (by rw[HM.out];omega)
 have ho2:=(ho.kept hgq (.inr (fun e=>hq.ne (Option.some.inj e).symm))).alloc (.cells #[.string n1,.int .i64 k,.int .i64 n,.string s,.slice pl nl cl,.slice pm nm cm,.int .i64 (x:Int)] 164)
 refine⟨by rw[HV.out];rfl,⟨?_,by rw[hlt];exact ho2,hq.ne,hq.lo,fun y hy=>hq.bnd y (List.mem_of_mem_take hy)⟩,(Two.ofQ hgq).trans (Two.ofB ((yh _ _).alloc (yd _) _))⟩
 rw[hlt];exact zb (by simp[World.setCell];exact hql) (heap_setCell_same w q 0 _ _ _ HC.out)
theorem zqP{us:List Nat}{m i:Nat}(h:i<m):fN (us.take m) i=fN us i:=by
 unfold fN;rw[yJ,yJ,List.getElem?_take,if_pos h]
theorem zhM{xs:List Nat}{i j v:Nat}(h:j≠i):fN (xs.set i v) j=fN xs j:=by
 unfold fN;rw[yJ,yJ,yae,if_neg (fun e=>h e.symm)]
theorem zrc(cs:List CmpD)(os:List (ByteArray×JV))(rs:List RM)(pc:Option Addr)(nc cc base B q g cap m:Nat)(xs:List Nat)(w:World)(env:QEnv w B cs os rs pc nc cc)(hB:B<=base)(hx:xs.length<=1000000000000)(hm:xs.length=m+1)(hq:QAt w base q g cap rs pc nc cc xs)(hh:HeapF (ltQ cs os) (fN xs) (m+1) 0):
 Calls ye 95 #[.iface 158 (.pointer (some ⟨q,0,none⟩))] w fun e w'=>∃ys,e= .returned (.iface 164 (ziz rs (fN xs 0)))/\(fN xs 0::ys).Perm xs/\ys.length=m/\HeapF (ltQ cs os) (fN ys) m 0/\QAt w' base q g cap rs pc nc cc ys/\Two q g w w':=by
 have hxl:=hq.xlen;unfold maxLen at hxl;have h0:=zcl (ys:=xs) (j:=0) (by omega)
 have hmx:=zcl (ys:=xs) (j:=m) (by omega)
 have hml:=ziF q w _ hq.q0;have hms:=zfP q w _ hq.q0;have hmp : ∀ w, Sem.run ye (method 465 158 (.pointer (some ⟨q, 0, none⟩)) "Pop") w = .ok (312, .pointer (some ⟨q, 0, none⟩)) w := zq5 q;have HL:=yc (zeQ (some ⟨g,0,none⟩) xs.length cap w);have HSW:Hid (Calls ye 313 #[.slice (some ⟨g,0,none⟩) xs.length cap,.int .i64 0,.int .i64 (m:Int)] w fun e w'=>e= .returned (.tuple #[])/\Own w' base 164 (zeJ rs) 7 (.slice (some ⟨g,0,none⟩) xs.length cap) ((xs.set 0 (fN xs m)).set m (fN xs 0))/\w.grownBy w' (some g)):=ze1 (zdH rs) xs base g cap 0 m _ _ w hq.own h0 hmx (by omega)
 obtain⟨zs,hzs⟩:∃zs,(xs.set 0 (fN xs m)).set m (fN xs 0)=zs:=⟨_,rfl⟩;have hzl:zs.length=xs.length:=by rw[<-hzs];simp only[yaj]
 have hzp:zs.Perm xs:=by rw[<-hzs,zgC xs h0 hmx];exact zih
 have hzm:zs[m]? =some (fN xs 0):=by rw[<-hzs,yae,if_pos rfl,if_pos (by simp only[yaj];omega)]
 have hze:HeapEx (ltQ cs os) (fN zs) m 0 0:=by
  refine⟨fun p c _ hp hc hcl=> ?_,fun p c _ hp _ _=>by unfold z7 at hp;omega,yd _⟩
  have hpc:p<c:=by unfold z7 at hc;omega
  rw[<-hzs,zhM (by omega),zhM (by omega),zhM (by omega),zhM (by omega)]
  exact hh p c (yu _) hc (by omega)
 rw[hzs]at HSW;have HENV:Hid (∀W,w.grownBy W (some g)->QEnv W B cs os rs pc nc cc):=fun W hg=>env.below (hq.keep hg hB)
 have HD:Hid (∀W,QAt W base q g cap rs pc nc cc zs->w.grownBy W (some g)->Calls ye 159 #[.iface 158 (.pointer (some ⟨q,0,none⟩)),.int .i64 0,.int .i64 (m:Int)] W fun e w'=>∃b ys,e= .returned (.bool b)/\ys.length=zs.length/\ys.Perm zs/\(∀j,m<=j->ys[j]? =zs[j]?)/\HeapF (ltQ cs os) (fN ys) m 0/\QAt w' base q g cap rs pc nc cc ys/\W.grownBy w' (some g)):=fun W hqa hg=>
  zjW cs os rs pc nc cc base B q g cap 0 m 0 zs W (HENV.out W hg) hB (by omega) (by omega) (by omega) ⟨rfl,List.Perm.refl _,fun _ _=>rfl,hze,hqa,World.grownBy.refl W _⟩
 have HQ:=yc hq;have HZL:=yc hzl;have HZP:=yc hzp;have HZM:=yc hzm;have HXM:=yc hm;obtain⟨M,hM⟩:∃M,xs.length=M:=⟨_,rfl⟩;rw[hM]at hml hms HL HSW hx;have hMe:(M:Int)-1=(m:Int):=by omega
 have m0:(0:Int)<=(m:Int):=yj _;have mb:(M:Int)<=1000000000000:=by omega
 have HMM:=yc hM;clear hq hzs hzl hzp hzm hze hh env hm hM hxl h0 hmx
 go_enter Tryz.func95,Tryz.ntmps95
 go_upto_region 3 with(first
  |(go_at_call 94;(with_reducible refine HL.out.mono ?_);rintro e w1 ⟨rfl,rfl⟩)
  |(go_at_call 313;(with_reducible refine HSW.out.mono ?_);rintro e w2 ⟨rfl,ho2,hg2⟩)
  |fail)
 have hq2:=HQ.out.turned hg2 HZL.out (by rw[HMM.out];exact ho2) (fun y hy=>HQ.out.bnd y (HZP.out.mem_iff.1 hy))
 have HD2:=yc (HD.out w2 hq2 hg2);have HG2:=yc hg2;clear hq2 ho2 hg2 hml hms
 go_upto_region 4 with(first
  |(go_at_call 159;(with_reducible refine HD2.out.mono ?_);rintro e w3 ⟨b,us,rfl,hu1,hu2,hu3,hu4,hu5,hu6⟩)
  |fail)
 have hul:us.length=m+1:=hu1.trans (HZL.out.trans HXM.out);have HP:=yc (zpK rs pc nc cc base q g cap m us w3 hul hu5);have hum:us[m]? =some (fN xs 0):=(hu3 m (yd _)).trans HZM.out
 have hfm:fN us m=fN xs 0:=by
  have h1:=zcl (ys:=us) (j:=m) (by omega)
  rw[hum]at h1;exact(Option.some.inj h1).symm
 rw[hfm]at HP
 have HF:Hid ((fN xs 0::us.take m).Perm xs/\(us.take m).length=m/\HeapF (ltQ cs os) (fN (us.take m)) m 0):=by
  refine⟨?_,by rw[yz,hul];omega,hu4.congr (fun i hi=>(zqP hi).symm) (yd _)⟩
  have e1:us=us.take m++[fN xs 0]:=by
   conv=>lhs;rw[<-List.take_append_drop m us]
   congr 1
   have h2:m<us.length:=by omega
   rw[yU h2,yaK (by omega)]
   rw[yf h2]at hum;rw[Option.some.inj hum]
  have h3:(fN xs 0::us.take m).Perm us:=by
   conv=>rhs;rw[e1]
   exact(List.perm_append_singleton _ _).symm
  exact h3.trans (hu2.trans HZP.out)
 have HG3:=yc (zfl HG2.out hu6);clear hu1 hu2 hu3 hu4 hu5 hu6 hul hum hfm
 go_wp2_with (first|(go_at_call 312;(with_reducible refine HP.out.mono ?_);rintro e w4 ⟨rfl,hq4,ht4⟩)|fail)
 go_ret;exact⟨us.take m,rfl,HF.out.1,HF.out.2.1,HF.out.2.2,hq4,(Two.ofG HG3.out).trans ht4⟩
def CmpAt(W:World)(g:Nat)(p:ByteArray)(d:Bool):Prop:=W.heap[g]? =some (.cells #[.string p,.bool d] 218 (0,0))
theorem CmpAt.c0{W:World}{g:Nat}{p:ByteArray}{d:Bool}(h:CmpAt W g p d):W.cell? ⟨g,0,none⟩=some (.string p):=(cell_of_row _ g 0 _ _ _ h).trans rfl
theorem CmpAt.c1{W:World}{g:Nat}{p:ByteArray}{d:Bool}(h:CmpAt W g p d):W.cell? ⟨g,1,none⟩=some (.bool d):=(cell_of_row _ g 1 _ _ _ h).trans rfl
theorem CmpAt.fz{W:World}{g:Nat}{p:ByteArray}{d:Bool}(h:CmpAt W g p d)(j:Nat):W.frozen? ⟨g,j,none⟩=false:=by unfold CmpAt at h;simp[World.frozen?,h]
theorem CmpAt.lt{W:World}{g:Nat}{p:ByteArray}{d:Bool}(h:CmpAt W g p d):g<W.heap.size:=(yl.1 h).1
theorem CmpAt.under{W W':World}{g B:Nat}{p:ByteArray}{d:Bool}(h:CmpAt W g p d)(hb:Below B W W')(hg:g<B):CmpAt W' g p d:=(hb.block g hg).trans h
theorem CmpAt.keep{W W':World}{g:Nat}{p:ByteArray}{d:Bool}(h:CmpAt W g p d)(hb:W'.heap[g]? =W.heap[g]?):CmpAt W' g p d:=hb.trans h
theorem CmpAt.set0{W:World}{g:Nat}{p:ByteArray}{d:Bool}(h:CmpAt W g p d)(s:ByteArray):CmpAt (W.setCell ⟨g,0,none⟩ (.string s)) g s d:=heap_setCell_same W g 0 _ _ _ h
theorem CmpAt.set1{W:World}{g:Nat}{p:ByteArray}{d:Bool}(h:CmpAt W g p d)(b:Bool):CmpAt (W.setCell ⟨g,1,none⟩ (.bool b)) g p b:=heap_setCell_same W g 1 _ _ _ h
theorem CmpAt.other{W:World}{g g':Nat}{p:ByteArray}{d:Bool}(h:CmpAt W g p d)(hne:g≠g')(o:Nat)(v:Value):CmpAt (W.setCell ⟨g',o,none⟩ v) g p d:=(heap_setCell_other W ⟨g',o,none⟩ g v hne).trans h
structure RkS(w W:World)(g2 gc gm:Nat)(m:List (ByteArray×JV))(j:Nat)(p:ByteArray)(d:Bool):Prop where
 mp:∃l:List ByteArray,(∀x,x∈l↔x∈(m.take j).map (·.1))/\MapF W ye 9 gm j (knF l)
 cp:CmpAt W gc p d
 rs:CmpAt W g2 ⟨#[]⟩ false
 below:Below w.heap.size w W
theorem RkS.grown{w W W':World}{g2 gc gm:Nat}{m:List (ByteArray×JV)}{j:Nat}{p:ByteArray}{d:Bool}(h:RkS w W g2 gc gm m j p d)(hb:Below W.heap.size W W'):RkS w W' g2 gc gm m j p d:=by
 obtain⟨l,h1,h2⟩:=h.mp;exact⟨⟨l,h1,h2.below hb h2.lt⟩,h.cp.under hb h.cp.lt,h.rs.under hb h.rs.lt,h.below.trans (hb.mono h.below.size)⟩
theorem RkS.set0{w W:World}{g2 gc gm:Nat}{m:List (ByteArray×JV)}{j:Nat}{p:ByteArray}{d:Bool}(h:RkS w W g2 gc gm m j p d)(n2c:g2≠gc)(ncm:gc≠gm)(hw:w.heap.size<=gc)(s:ByteArray):RkS w (W.setCell ⟨gc,0,none⟩ (.string s)) g2 gc gm m j s d:=by
 obtain⟨l,h1,h2⟩:=h.mp;exact⟨⟨l,h1,h2.of_block (heap_setCell_other W ⟨gc,0,none⟩ gm _ (fun e=>ncm e.symm))⟩,h.cp.set0 s,h.rs.other n2c 0 _,yE h.below (p:=⟨gc,0,none⟩) hw _⟩
theorem RkS.set1{w W:World}{g2 gc gm:Nat}{m:List (ByteArray×JV)}{j:Nat}{p:ByteArray}{d:Bool}(h:RkS w W g2 gc gm m j p d)(n2c:g2≠gc)(ncm:gc≠gm)(hw:w.heap.size<=gc)(b:Bool):RkS w (W.setCell ⟨gc,1,none⟩ (.bool b)) g2 gc gm m j p b:=by
 obtain⟨l,h1,h2⟩:=h.mp;exact⟨⟨l,h1,h2.of_block (heap_setCell_other W ⟨gc,1,none⟩ gm _ (fun e=>ncm e.symm))⟩,h.cp.set1 b,h.rs.other n2c 1 _,yE h.below (p:=⟨gc,1,none⟩) hw _⟩
theorem RkS.known{w W W':World}{g2 gc gm:Nat}{m:List (ByteArray×JV)}{j:Nat}{p:ByteArray}{d:Bool}(h:RkS w W g2 gc gm m j p d)(n2m:g2≠gm)(ncm:gc≠gm)(hw:w.heap.size<=gm){kl:List ByteArray}{x:ByteArray×JV}(hkl:∀y,y∈kl↔y∈(m.take j).map (·.1))(hx:m[j]? =some x)(hM:MapF W' ye 9 gm (j+1) (fun u=>if u=x.1.data.toList then some (.bool true)else knF kl u))(hG:W.grownBy W' (some gm)):RkS w W' g2 gc gm m (j+1) p d:=by
 refine⟨⟨x.1::kl,fun y=> ?_,by rw[zpg];exact hM⟩,h.cp.keep (hG.block gc h.cp.lt (fun e=>ncm (Option.some.inj e))),h.rs.keep (hG.block g2 h.rs.lt (fun e=>n2m (Option.some.inj e))),h.below.grown hG h.below.size (fun k e=>by cases e;exact hw)⟩
 rw[zbu hx,yao,List.mem_append,yA,hkl];simp;exact Or.comm
theorem TreeOf.n_eq{w:World}{B:Nat}{t:JV}{r:RV}(h:TreeOf w B t r):r.n=t.n:=by cases h;rfl
theorem zlE{l:List ByteArray}{n:ByteArray}(h:n∈l):knF l n.data.toList=some (.bool true):=by
 unfold knF;rw[if_pos (List.mem_map_of_mem h)]
def zjx(w:World)(t:JV)(e:Ending)(w':World):Prop:=∃p d,e= .returned (.tuple #[.agg #[.string p,.bool d],.int .i64 (zb0 t)])/\Hid (zb0 t=0->zc7 t=⟨p,d⟩)/\Below w.heap.size w w'
theorem zhL{a:ByteArray}{l:List UInt8}{b:Bool}(h:(a.toList==l)=b):decide (a=⟨l.toArray⟩)=b:=by
 rw[<-h,ByteArray.toList_eq];by_cases e:a=⟨l.toArray⟩
 ·rw[decide_eq_true e,e];simp
 ·rw[decide_eq_false e];have h2:a.data.toList≠l:=fun e2=>e (ByteArray.ext (by rw[<-e2]))
  simpa using h2
theorem zmE(t:JV)(r:RV)(w:World)(B:Nat)(hBw:B<=w.heap.size)(ht:TreeOf w B t r)(ot:t.Ok):
 Calls ye 158 #[r.val] w (zjx w t):=by
 obtain⟨W0,hW0⟩:∃W0,((w.alloc r.obj).alloc (.cells #[.string ⟨#[]⟩,.bool false] 218)).alloc (.cells #[.string ⟨#[]⟩,.bool false] 218)=W0:=⟨_,rfl⟩;have hA0:VAt W0 w.heap.size r:=by rw[<-hW0];exact zb (by simp;omega) (zb (by simp) (za rfl))
 have hR0:CmpAt W0 (w.heap.size+1) ⟨#[]⟩ false:=by rw[<-hW0];exact zb (by simp) (za (by simp))
 have hC0:CmpAt W0 (w.heap.size+2) ⟨#[]⟩ false:=by rw[<-hW0];exact za (by simp)
 have hB0:Below w.heap.size w W0:=by rw[<-hW0];exact(zM w _ _).alloc (by simp;omega) _
 have hz0:W0.heap.size=w.heap.size+3:=by rw[<-hW0];simp
 have hM0:MapF (W0.alloc (.map #[] 0)) ye 9 (w.heap.size+3) 0 (knF []):=by rw[<-hz0];exact MapF.made W0 _ _
 have hS0:RkS w (W0.alloc (.map #[] 0)) (w.heap.size+1) (w.heap.size+2) (w.heap.size+3) t.m 0 ⟨#[]⟩ false:=⟨⟨[],fun x=>by simp,hM0⟩,zb (by omega) hC0,zb (by omega) hR0,hB0.alloc (by omega) _⟩
 obtain⟨g2,hg2e⟩:∃g,w.heap.size+1=g:=⟨_,rfl⟩;obtain⟨gc,hgce⟩:∃g,g2+1=g:=⟨_,rfl⟩;obtain⟨gm,hgme⟩:∃g,gc+1=g:=⟨_,rfl⟩;have e2:w.heap.size+2=gc:=by omega
 have e3:w.heap.size+3=gm:=by omega
 rw[hg2e,e2,e3]at hS0;rw[hg2e]at hR0;rw[e2]at hC0;rw[e3]at hz0;have hwg:w.heap.size<=g2:=by omega
 have hwc:w.heap.size<=gc:=by omega
 have hwm:w.heap.size<=gm:=by omega
 have n2c:g2≠gc:=by omega
 have n2m:g2≠gm:=by omega
 have ncm:gc≠gm:=by omega
 have HT:=yc ht;have HO:=yc ot;have HW:=yc hW0;have HB0:=yc hB0;have HS0:=yc hS0;have hkk:=ht.kk.1;obtain⟨k,n,s,pl,nl,cl,pm,nm,cm⟩:=r;dsimp only[RV.val,RV.obj]at*;have r0:=hR0.c0;have r1:=hR0.c1;have y0:=hR0.fz 0;have y1:=hR0.fz 1;have cc0:=hC0.c0;have cc1:=hC0.c1;have hg1:w.heap.size<W0.heap.size:=by omega
 have HR0:=yc hR0;clear hW0 hB0 hS0 hM0 ht ot hR0 hC0 e2 e3;by_cases hk6:k=6
 case neg=>
  have q1:(k==6)=false:=by simpa using hk6
  have q2:(k !=6)=true:=by simpa using hk6
  have HE:Hid (zb0 t=1):=znY (by rw[<-hkk];exact hk6)
  clear HS0 hz0 hkk hk6
  go_enter Tryz.func158,Tryz.ntmps158
  go_upto_region 2 with fail
  rw[HW.out];clear HW;obtain⟨a0,a1,a2,a3,a4⟩:=hA0.cells5
  go_wp2_with fail
  refine bodyPost_ret (v:= .tuple #[.agg #[.string ⟨#[]⟩,.bool false],.int .i64 1]) (by simp[results,Tryz.results158,go_sem,r0,r1,y0,y1]) rfl ⟨⟨#[]⟩,false,by rw[HE.out],yc (fun h=>by rw[HE.out]at h;cases h),?_⟩
  exact(yE (yE HB0.out (p:=⟨g2,0,none⟩) hwg _) (p:=⟨g2,1,none⟩) hwg _)
 case pos=>
  subst hk6;have htk:t.k=6:=hkk.symm;have HTK:=yc htk;clear hkk htk
  go_enter Tryz.func158,Tryz.ntmps158
  go_upto_region 2 with fail
  rw[HW.out];clear HW;obtain⟨a0,a1,a2,a3,a4⟩:=hA0.cells5;have hmm:= @run_makeMap ye
  go_upto_region 6 with fail
  clear hmm;obtain⟨W1,hW1⟩:∃W,W0.alloc (.map #[] 0)=W:=⟨_,rfl⟩;rw[hW1]at HS0
  try rw[hW1]
  try rw[hz0]
  have hA1:VAt W1 w.heap.size ⟨6,n,s,pl,nl,cl,pm,nm,cm⟩:=by rw[<-hW1];exact zb hg1 hA0
  clear hW1 hA0 a0 a1 a2 a3 a4 r0 r1 y0 y1 cc0 cc1;have a4:=hA1.cell 4 rfl;dsimp only at a4;have hHT:=HT.out
  generalize hr:(⟨6,n,s,pl,nl,cl,pm,nm,cm⟩:RV)=r at hHT
  cases hHT with
  | @mk _ l m rs rms hl el hcl hm em hcn hcm=>
  subst hr;dsimp only[JV.m,JV.k]at*;have HM:=yc hm;have hnm:=zi hm;have HCN:=yc hcn;have HKT:Hid (∀(i:Nat) (p:ByteArray×JV) (q:RM),m[i]? =some p->rms[i]? =some q->q.v.k=p.2.k/\q.v.s=p.2.s/\q.v.n=p.2.n):=fun i p q h1 h2=>⟨(hcm i p q h1 h2).kk.1,(hcm i p q h1 h2).kk.2,(hcm i p q h1 h2).n_eq⟩
  have HNS:Hid (∀(i:Nat) (p:ByteArray×JV),m[i]? =some p->p.1.size<=maxLen):=fun i p h=>by
   have h9:=HO.out;cases h9 with
   |mk _ _ _ _ _ _ cs _=>exact yg (cs i p h) (by unfold maxLen;omega)
  have hml:m.length=nm:=by omega
  have HML:=yc hml
  have hnmb:nm<=1466015503658:=by
   have h9:=HO.out;cases h9 with
   |mk _ _ _ _ hm9 _ _ _=>omega
  have nb:(nm:Int)<=1466015503658:=by omega
  have HTJ:Hid (∀v,zb0 (JV.mk 6 n s l m)=v->zb0 (JV.mk 6 n s l m)=v):=fun _ h=>h
  obtain⟨E,hE⟩:∃E,zb0 (JV.mk 6 n s l m)=E:=⟨_,rfl⟩;have HE:=yc hE;obtain⟨C,hC⟩:∃C,zc7 (JV.mk 6 n s l m)=C:=⟨_,rfl⟩;have HC:=yc hC
  have HRT:Hid (∀e w',(∃p d,e= .returned (.tuple #[.agg #[.string p,.bool d],.int .i64 E])/\Hid (E=0->C=⟨p,d⟩)/\Below w.heap.size w w')->zjx w (JV.mk 6 n s l m) e w'):=fun e w' h=>by
   unfold zjx;rw[hE,hC];exact h
  clear hE hC hml hnm hm el em hl hcl hcn hcm HTK HTJ HT;have HTM:Hid ((JV.mk 6 n s l m).k=6/\(JV.mk 6 n s l m).m=m):=⟨rfl,rfl⟩
  go_wp2_with fail
  clear hA1 a4
  go_loopw [6,19] (fun s6 i wr=>∃(j:Nat) (p:ByteArray) (d sup:Bool),j<=nm/\s6= .bool sup/\i= .int .i64 (j:Int)/\Hid (RkS w wr g2 gc gm m j p d/\PSt m j p d sup)) (fun _ i _=>nm-(intOf i).toNat)
  case atStart=>exact⟨0,⟨#[]⟩,false,true,by omega,rfl,rfl,HS0.out,PSt.start m⟩
  case round=>
   obtain⟨j,p,d,sup,hj,rfl,rfl,hS⟩:=hrel;have hj0:(0:Int)<=(j:Int):=yj _;by_cases hlt:j<nm
   ·have hj1:(j:Int)<(nm:Int):=by omega
    obtain⟨x,hx⟩:∃x,m[j]? =some x:=⟨_,yf (by have:=HML.out;omega)⟩
    have hmr:=HM.out.below (hS.out.1.below.mono hBw) (yd _);obtain⟨q,hq⟩:∃q,rms[j]? =some q:=⟨_,yf (by have:=zi hmr;omega)⟩
    obtain⟨b1,o1,rfl,hb1,hc1⟩:=zq hmr hq;have hname:=HCN.out j x q hx hq;obtain⟨hk1,hs1,hn1⟩:=HKT.out j x q hx hq;have hns:=HNS.out j x hx;obtain⟨nq,⟨vk,vn,vs,vpl,vnl,vcl,vpm,vnm,vcm⟩⟩:=q;dsimp only at hname hk1 hs1 hn1;have f0:=hc1 0 _ rfl;have f1:=hc1 1 _ rfl;have f2:=hc1 2 _ rfl;have f3:=hc1 3 _ rfl;have f4:=hc1 4 _ rfl;have f5:=hc1 5 _ rfl;rw[yw]at f0;dsimp only at f0 f1 f2 f3 f4 f5;rw[hname]at hns;have HX:=yc hx;have HNM:=yc hname;have HVV:=yc (And.intro hk1 (And.intro hs1 hn1));have HNZ:=yc hns;have HSA:=yc (hS.out.1.grown ((yh wr.heap.size wr).alloc (yd _) (.cells #[.string nq,.int .i64 vk,.int .i64 vn,.string vs,.slice vpl vnl vcl,.slice vpm vnm vcm] 35)));have HPS:=yc hS.out.2;have hmt:(wr.alloc (.cells #[.string nq,.int .i64 vk,.int .i64 vn,.string vs,.slice vpl vnl vcl,.slice vpm vnm vcm] 35)).heap[wr.heap.size]? =some (.cells #[.string nq,.int .i64 vk,.int .i64 vn,.string vs,.slice vpl vnl vcl,.slice vpm vnm vcm] 35):=za rfl;have hgmr:gm<wr.heap.size:=by obtain⟨lq,_,hlq⟩:=hS.out.1.mp;exact hlq.lt
    have hgcr:gc<wr.heap.size:=hS.out.1.cp.lt;clear hname hk1 hs1 hn1
    go_upto_region 9 with fail
    obtain⟨g8,hg8⟩:∃g,wr.heap.size=g:=⟨_,rfl⟩;obtain⟨W3,hW3⟩:∃W,wr.alloc (.cells #[.string nq,.int .i64 vk,.int .i64 vn,.string vs,.slice vpl vnl vcl,.slice vpm vnm vcm] 35)=W:=⟨_,rfl⟩;rw[hW3,hg8]at hmt;rw[hW3]at HSA;rw[hg8]at hgmr hgcr
    try rw[hW3]
    try rw[hg8]
    clear hW3 hg8 hmr hq hc1 hns hx f0 f1 f2 f3 f4 f5 hS hb1;have a0:W3.cell? ⟨g8,0,none⟩=some (.string nq):=(cell_of_row _ g8 0 _ _ _ hmt).trans rfl;obtain⟨kl,hkl,hMF⟩:=HSA.out.mp;have HMF:=yc hMF;have hmlt:=hMF.lt;obtain⟨sn,hsn⟩:∃b,inS kl nq=b:=⟨_,rfl⟩
    have hlk:(knF kl nq.data.toList).getD (.bool false)= .bool sn:=by
     cases sn with
     |true=>rw[zlE (inS_iff.1 hsn)];rfl
     |false=>rw[zlD (inS_no.1 hsn)];rfl
    have HLK:=yc hlk
    have HSN:Hid (inS ((m.take j).map (fun x=>x.1)) nq=sn):=by
     unfold Hid;cases sn with
     |true=>exact inS_iff.2 ((hkl _).1 (inS_iff.1 hsn))
     |false=>exact inS_no.2 (fun h=>inS_no.1 hsn ((hkl _).2 h))
    have HKL:=yc hkl;have hjb:j<=1466015503658:=by omega
    clear hlk hsn hkl hMF
    go_upto_region 10 with(at_lookup;refine zdx _ rfl _ _ _ rfl 9 4 Tryz.underlying9 Tryz.underlying238 (Tryz.zeroValue4 _) _ _ (knF kl) rfl HMF.out nq rfl HNZ.out (v:= .bool sn) HLK.out ?_;go_frame)
    go_upto_region 11 with(at_mapUpdate;refine zfu _ rfl _ _ _ _ rfl 9 4 Tryz.underlying9 Tryz.underlying238 _ _ _ rfl HMF.out (by unfold maxLen;omega) nq rfl HNZ.out (.bool true) rfl ?_;intro w4 hM4 hG4;go_frame)
    have HS4:=yc (HSA.out.known n2m ncm hwm HKL.out HX.out (by rw[HNM.out];exact hM4) hG4)
    have hmt4:w4.heap[g8]? =some (.cells #[.string nq,.int .i64 vk,.int .i64 vn,.string vs,.slice vpl vnl vcl,.slice vpm vnm vcm] 35):=(hG4.block g8 (yl.1 hmt).1 (fun e=>by have:=Option.some.inj e;omega)).trans hmt
    have a0':w4.cell? ⟨g8,0,none⟩=some (.string nq):=(cell_of_row _ g8 0 _ _ _ hmt4).trans rfl;have a1':w4.cell? ⟨g8,1,none⟩=some (.int .i64 vk):=(cell_of_row _ g8 1 _ _ _ hmt4).trans rfl;have a2':w4.cell? ⟨g8,2,none⟩=some (.int .i64 vn):=(cell_of_row _ g8 2 _ _ _ hmt4).trans rfl;have a3':w4.cell? ⟨g8,3,none⟩=some (.string vs):=(cell_of_row _ g8 3 _ _ _ hmt4).trans rfl;have c0:=HS4.out.cp.c0;have c1:=HS4.out.cp.c1;have x0:=HS4.out.cp.fz 0;have x1:=HS4.out.cp.fz 1;have r0:=HS4.out.rs.c0;have r1:=HS4.out.rs.c1;have y0:=HS4.out.rs.fz 0;have y1:=HS4.out.rs.fz 1;have HB4:=yc HS4.out.below;clear hM4 hG4 hmt hmt4 a0 HSA hmlt;obtain⟨e1,he1⟩:∃b,(nq.toList==[112,114,111,112,101,114,116,121])=b:=⟨_,rfl⟩;obtain⟨e2,he2⟩:∃b,(nq.toList==[105,115,65,115,99,101,110,100,105,110,103])=b:=⟨_,rfl⟩;obtain⟨e3,he3⟩:∃b,(nq.toList==[99,111,108,108,97,116,105,111,110])=b:=⟨_,rfl⟩;obtain⟨s1,hs1⟩:∃b,(vs.toList==[105,59,97,115,99,105,105,45,99,97,115,101,109,97,112])=b:=⟨_,rfl⟩;obtain⟨f4,hf4⟩:∃b,(vk==4)=b:=⟨_,rfl⟩;obtain⟨f2,hf2⟩:∃b,(vk==2)=b:=⟨_,rfl⟩;obtain⟨z,hz⟩:∃b,(vn==0)=b:=⟨_,rfl⟩;have HE1':Hid (decide (x.1=propN)=e1):=by rw[HNM.out];exact zhL he1
    have HE2':Hid (decide (x.1=zd1)=e2):=by rw[HNM.out];exact zhL he2
    have HE3':Hid (decide (x.1=zc8)=e3):=by rw[HNM.out];exact zhL he3
    have HS1':Hid (decide (x.2.s=zgi)=s1):=by rw[<-HVV.out.2.1];exact zhL hs1
    have HF4:Hid (decide (x.2.k=4)=f4):=by rw[<-HVV.out.1,<-hf4];unfold Hid;by_cases h:vk=4<;>simp[h]
    have HF2:Hid (decide (x.2.k=2)=f2):=by rw[<-HVV.out.1,<-hf2];unfold Hid;by_cases h:vk=2<;>simp[h]
    have HZ':Hid (decide (x.2.n=0)=z):=by rw[<-HVV.out.2.2,<-hz];unfold Hid;by_cases h:vn=0<;>simp[h]
    have HSE:Hid (sn=false->x.1∉(m.take j).map (·.1)):=fun h=>by rw[HNM.out];exact inS_no.1 (HSN.out.trans h)
    have HSY:Hid (sn=true->x.1∈(m.take j).map (·.1)):=fun h=>by rw[HNM.out];exact inS_iff.1 (HSN.out.trans h)
    have HVS:Hid (vs=x.2.s):=HVV.out.2.1;cases e1 with
    | true =>
      have HN1:Hid (x.1=propN):=yc (of_decide_eq_true HE1'.out);clear he2 he3;cases sn with
      | true =>
        have HE1:Hid (E=1):=HE.out.symm.trans (zdz (by rw[HTM.out.2];exact zc9 HX.out (.inr (HSY.out rfl))))
        clear HMF HLK HKL HPS
        go_wp2_with fail
        refine bodyPost_ret (v:= .tuple #[.agg #[.string vs,.bool d],.int .i64 1]) (by simp[results,Tryz.results158,go_sem,r0,r1,y0,y1,c0,c1,x0,x1,n2c,ncm,n2m]) rfl (HRT.out _ _ ⟨vs,d,by rw[HE1.out],yc (fun h=>by rw[HE1.out]at h;cases h),?_⟩)
        exact yE (yE (yE HB4.out (p:=⟨gc,0,none⟩) hwc _) (p:=⟨g2,0,none⟩) hwg _) (p:=⟨g2,1,none⟩) hwg _
      | false =>
        cases f4 with
        | true =>
          have HP2:Hid (PSt m (j+1) vs d sup):=(by rw[HVS.out];exact HPS.out.prop HX.out HN1.out (of_decide_eq_true HF4.out) (HSE.out rfl))
          have HS5:=yc (HS4.out.set0 n2c ncm hwc vs);clear HMF HLK HKL HPS
          go_wp2_with fail
          go_roundw
          case rel=>exact⟨j+1,_,_,_,by omega,rfl,by go_num,HS5.out,HP2.out⟩
          case measure=>simp[intOf];omega
        | false =>
          have HE1:Hid (E=1):=HE.out.symm.trans (zdz (by rw[HTM.out.2];exact zc9 HX.out (.inl ((znS HN1.out).trans HF4.out))))
          clear HMF HLK HKL HPS
          go_wp2_with fail
          refine bodyPost_ret (v:= .tuple #[.agg #[.string vs,.bool d],.int .i64 1]) (by simp[results,Tryz.results158,go_sem,r0,r1,y0,y1,c0,c1,x0,x1,n2c,ncm,n2m]) rfl (HRT.out _ _ ⟨vs,d,by rw[HE1.out],yc (fun h=>by rw[HE1.out]at h;cases h),?_⟩)
          exact yE (yE (yE HB4.out (p:=⟨gc,0,none⟩) hwc _) (p:=⟨g2,0,none⟩) hwg _) (p:=⟨g2,1,none⟩) hwg _
    | false =>
      have HN1:Hid (x.1≠propN):=of_decide_eq_false HE1'.out;cases e2 with
      | true =>
        have HN2:Hid (x.1=zd1):=yc (of_decide_eq_true HE2'.out);clear he3;cases sn with
        | true =>
          have HE1:Hid (E=1):=HE.out.symm.trans (zdz (by rw[HTM.out.2];exact zc9 HX.out (.inr (HSY.out rfl))))
          clear HMF HLK HKL HPS
          go_wp2_with fail
          refine bodyPost_ret (v:= .tuple #[.agg #[.string p,.bool z],.int .i64 1]) (by simp[results,Tryz.results158,go_sem,r0,r1,y0,y1,c0,c1,x0,x1,n2c,ncm,n2m]) rfl (HRT.out _ _ ⟨p,z,by rw[HE1.out],yc (fun h=>by rw[HE1.out]at h;cases h),?_⟩)
          exact yE (yE (yE HB4.out (p:=⟨gc,1,none⟩) hwc _) (p:=⟨g2,0,none⟩) hwg _) (p:=⟨g2,1,none⟩) hwg _
        | false =>
          cases f2 with
          | true =>
            have HP2:Hid (PSt m (j+1) p z sup):=(by rw[<-HZ'.out];exact HPS.out.asc HX.out HN2.out (of_decide_eq_true HF2.out) (HSE.out rfl))
            have HS5:=yc (HS4.out.set1 n2c ncm hwc z);clear HMF HLK HKL HPS
            go_wp2_with fail
            go_roundw
            case rel=>exact⟨j+1,_,_,_,by omega,rfl,by go_num,HS5.out,HP2.out⟩
            case measure=>simp[intOf];omega
          | false =>
            have HE1:Hid (E=1):=HE.out.symm.trans (zdz (by rw[HTM.out.2];exact zc9 HX.out (.inl ((zpq HN2.out).trans HF2.out))))
            clear HMF HLK HKL HPS
            go_wp2_with fail
            refine bodyPost_ret (v:= .tuple #[.agg #[.string p,.bool z],.int .i64 1]) (by simp[results,Tryz.results158,go_sem,r0,r1,y0,y1,c0,c1,x0,x1,n2c,ncm,n2m]) rfl (HRT.out _ _ ⟨p,z,by rw[HE1.out],yc (fun h=>by rw[HE1.out]at h;cases h),?_⟩)
            exact yE (yE (yE HB4.out (p:=⟨gc,1,none⟩) hwc _) (p:=⟨g2,0,none⟩) hwg _) (p:=⟨g2,1,none⟩) hwg _
      | false =>
        have HN2:Hid (x.1≠zd1):=of_decide_eq_false HE2'.out;cases e3 with
        | true =>
          have HN3:Hid (x.1=zc8):=yc (of_decide_eq_true HE3'.out);cases sn with
          | true =>
            have HE1:Hid (E=1):=HE.out.symm.trans (zdz (by rw[HTM.out.2];exact zc9 HX.out (.inr (HSY.out rfl))))
            clear HMF HLK HKL HPS
            go_wp2_with fail
            refine bodyPost_ret (v:= .tuple #[.agg #[.string p,.bool d],.int .i64 1]) (by simp[results,Tryz.results158,go_sem,r0,r1,y0,y1,c0,c1,x0,x1,n2c,ncm,n2m]) rfl (HRT.out _ _ ⟨p,d,by rw[HE1.out],yc (fun h=>by rw[HE1.out]at h;cases h),?_⟩)
            exact yE (yE HB4.out (p:=⟨g2,0,none⟩) hwg _) (p:=⟨g2,1,none⟩) hwg _
          | false =>
            cases f4 with
            | true =>
              have HP2:Hid (PSt m (j+1) p d s1):=(by rw[<-HS1'.out];exact HPS.out.coll HX.out HN3.out (of_decide_eq_true HF4.out) (HSE.out rfl))
              have HS5:=yc (HS4.out);clear HMF HLK HKL HPS
              go_wp2_with fail
              go_roundw
              case rel=>exact⟨j+1,_,_,_,by omega,rfl,by go_num,HS5.out,HP2.out⟩
              case measure=>simp[intOf];omega
            | false =>
              have HE1:Hid (E=1):=HE.out.symm.trans (zdz (by rw[HTM.out.2];exact zc9 HX.out (.inl ((znQ HN3.out).trans HF4.out))))
              clear HMF HLK HKL HPS
              go_wp2_with fail
              refine bodyPost_ret (v:= .tuple #[.agg #[.string p,.bool d],.int .i64 1]) (by simp[results,Tryz.results158,go_sem,r0,r1,y0,y1,c0,c1,x0,x1,n2c,ncm,n2m]) rfl (HRT.out _ _ ⟨p,d,by rw[HE1.out],yc (fun h=>by rw[HE1.out]at h;cases h),?_⟩)
              exact yE (yE HB4.out (p:=⟨g2,0,none⟩) hwg _) (p:=⟨g2,1,none⟩) hwg _
        | false =>
          have HN3:Hid (x.1≠zc8):=of_decide_eq_false HE3'.out;have HE1:Hid (E=1):=HE.out.symm.trans (zdz (by rw[HTM.out.2];exact zc9 HX.out (.inl (znR HN1.out HN2.out HN3.out))))
          clear HMF HLK HKL HPS
          go_wp2_with fail
          refine bodyPost_ret (v:= .tuple #[.agg #[.string p,.bool d],.int .i64 1]) (by simp[results,Tryz.results158,go_sem,r0,r1,y0,y1,c0,c1,x0,x1,n2c,ncm,n2m]) rfl (HRT.out _ _ ⟨p,d,by rw[HE1.out],yc (fun h=>by rw[HE1.out]at h;cases h),?_⟩)
          exact yE (yE HB4.out (p:=⟨g2,0,none⟩) hwg _) (p:=⟨g2,1,none⟩) hwg _
   ·obtain rfl:j=nm:=by omega
    have HPS:=yc hS.out.2;have HS4:=yc hS.out.1;obtain⟨kl,hkl,hMF⟩:=hS.out.1.mp;have HMF:=yc hMF;have HTK:Hid (m.take j=m):=yq (by have:=HML.out;omega)
    obtain⟨sn,hsn⟩:∃b,inS kl propN=b:=⟨_,rfl⟩
    have hlk:(knF kl propN.data.toList).getD (.bool false)= .bool sn:=by
     cases sn with
     |true=>rw[zlE (inS_iff.1 hsn)];rfl
     |false=>rw[zlD (inS_no.1 hsn)];rfl
    have HLK:=yc hlk
    have HSN:Hid (inS (m.map (fun x=>x.1)) propN=sn):=by
     have h1:=hkl propN;rw[HTK.out]at h1;unfold Hid;cases sn with
     |true=>exact inS_iff.2 (h1.1 (inS_iff.1 hsn))
     |false=>exact inS_no.2 (fun h=>inS_no.1 hsn (h1.2 h))
    have HDN:Hid (E=(if sn then(if sup&&zdc p then 0 else 210)else 1)/\(sn=true->C=⟨p,d⟩)):=by
     have h1:=PSt.done (v:=JV.mk 6 n s l m) HTM.out.1 (p:=p) (d:=d) (sup:=sup) (by rw[HTM.out.2,HML.out];exact HPS.out)
     rw[HTM.out.2,HSN.out,HE.out,HC.out]at h1;exact h1
    have c0:=HS4.out.cp.c0;have c1:=HS4.out.cp.c1;have r0:=HS4.out.rs.c0;have r1:=HS4.out.rs.c1;have y0:=HS4.out.rs.fz 0;have y1:=HS4.out.rs.fz 1;have HB4:=yc HS4.out.below;have hjb:j<=1466015503658:=by omega
    clear hlk hsn hkl hMF hS
    go_upto_region 25 with fail
    cases sn with
    | false =>
      have HE1:Hid (E=1):=HDN.out.1
      go_wp2_with (at_lookup;refine zdx _ rfl _ _ _ rfl 9 4 Tryz.underlying9 Tryz.underlying238 (Tryz.zeroValue4 _) _ _ (knF kl) rfl HMF.out propN rfl (by decide) (v:= .bool false) HLK.out ?_;go_frame)
      refine bodyPost_ret (v:= .tuple #[.agg #[.string p,.bool d],.int .i64 1]) (by simp[results,Tryz.results158,go_sem,r0,r1,y0,y1,c0,c1,n2c,ncm,n2m]) rfl (HRT.out _ _ ⟨p,d,by rw[HE1.out],yc (fun h=>by rw[HE1.out]at h;cases h),?_⟩)
      exact yE (yE HB4.out (p:=⟨g2,0,none⟩) hwg _) (p:=⟨g2,1,none⟩) hwg _
    | true =>
      cases sup with
      | false =>
        have HE1:Hid (E=210):=HDN.out.1
        go_wp2_with (at_lookup;refine zdx _ rfl _ _ _ rfl 9 4 Tryz.underlying9 Tryz.underlying238 (Tryz.zeroValue4 _) _ _ (knF kl) rfl HMF.out propN rfl (by decide) (v:= .bool true) HLK.out ?_;go_frame)
        refine bodyPost_ret (v:= .tuple #[.agg #[.string p,.bool d],.int .i64 210]) (by simp[results,Tryz.results158,go_sem,r0,r1,y0,y1,c0,c1,n2c,ncm,n2m]) rfl (HRT.out _ _ ⟨p,d,by rw[HE1.out],yc (fun h=>by rw[HE1.out]at h;cases h),?_⟩)
        exact yE (yE HB4.out (p:=⟨g2,0,none⟩) hwg _) (p:=⟨g2,1,none⟩) hwg _
      | true =>
        obtain⟨po,hpo⟩:∃b,zdc p=b:=⟨_,rfl⟩
        have HDN2:Hid (E=(if po then 0 else 210)/\C=⟨p,d⟩):=by
         have h:=HDN.out;rw[hpo]at h;exact⟨h.1.trans (by cases po<;>rfl),h.2 rfl⟩
        have HPO:=yc hpo;clear hpo
        go_upto_region 27 with(at_lookup;refine zdx _ rfl _ _ _ rfl 9 4 Tryz.underlying9 Tryz.underlying238 (Tryz.zeroValue4 _) _ _ (knF kl) rfl HMF.out propN rfl (by decide) (v:= .bool true) HLK.out ?_;go_frame)
        have hrd:Rd (wr.alloc (.cells #[.string createdN,.string zG,.string zbg,.string zcj,.string zbO] 9)) (wr.heap.size+1) zg 1 (.slice (some ⟨wr.heap.size,0,none⟩) 5 5) [createdN,zG,zbg,zcj,zbO]:=Rd.block (xs:=[createdN,zG,zbg,zcj,zbO]) zn (za rfl) rfl (by omega) (show 5<=maxLen by decide)
        have hin:inB [createdN,zG,zbg,zcj,zbO] p=po:=by
         rw[<-HPO.out];unfold inB zdc;simp only[List.any_cons,List.any_nil,Bool.or_false];have hs:∀a b:ByteArray,decide (a=b)=decide (b=a):=fun a b=>decide_eq_decide.2 ⟨fun h=>h.symm,fun h=>h.symm⟩
         rw[hs createdN,hs zG,hs zbg,hs zcj,hs zbO]
        have hct:=zdb hrd (by decide) p
        rw[hin]at hct;have HCT:=yc hct;have HB5:=yc (HB4.out.alloc HB4.out.size (.cells #[.string createdN,.string zG,.string zbg,.string zcj,.string zbO] 9));unfold createdN zG zbg zcj zbO at HCT;have c0':=(HS4.out.cp.under ((yh wr.heap.size wr).alloc (yd _) (.cells #[.string createdN,.string zG,.string zbg,.string zcj,.string zbO] 9)) HS4.out.cp.lt).c0;have r0':=(HS4.out.rs.under ((yh wr.heap.size wr).alloc (yd _) (.cells #[.string createdN,.string zG,.string zbg,.string zcj,.string zbO] 9)) HS4.out.rs.lt).c0;have r1':=(HS4.out.rs.under ((yh wr.heap.size wr).alloc (yd _) (.cells #[.string createdN,.string zG,.string zbg,.string zcj,.string zbO] 9)) HS4.out.rs.lt).c1;have hlg:=HS4.out.rs.lt;have hlc:=HS4.out.cp.lt;unfold createdN zG zbg zcj zbO at c0' r0' r1';clear hrd hin hct;cases po with
        | true =>
          go_wp2_with (go_at_call 111;(with_reducible refine HCT.out.mono ?_);rintro e w5 ⟨rfl,rfl⟩)
          refine bodyPost_ret (v:= .tuple #[.agg #[.string p,.bool d],.int .i64 0]) (by simp[results,Tryz.results158,go_sem,r0,r1,y0,y1,c0,c1,n2c,ncm,n2m,r0',r1',c0',hlg,hlc]) rfl (HRT.out _ _ ⟨p,d,by rw[HDN2.out.1];rfl,yc (fun _=>HDN2.out.2),?_⟩)
          exact(yE (yE HB4.out (p:=⟨g2,0,none⟩) hwg (.string p)) (p:=⟨g2,1,none⟩) hwg (.bool d)).alloc (by have:=HB4.out.size;simp[World.setCell];omega) _
        | false =>
          have HE1:Hid (E=210):=HDN2.out.1
          go_wp2_with (go_at_call 111;(with_reducible refine HCT.out.mono ?_);rintro e w5 ⟨rfl,rfl⟩)
          refine bodyPost_ret (v:= .tuple #[.agg #[.string p,.bool d],.int .i64 210]) (by simp[results,Tryz.results158,go_sem,r0,r1,y0,y1,c0,c1,n2c,ncm,n2m,r0',r1',c0',hlg,hlc]) rfl (HRT.out _ _ ⟨p,d,by rw[HE1.out],yc (fun h=>by rw[HE1.out]at h;cases h),?_⟩)
          exact(yE (yE HB4.out (p:=⟨g2,0,none⟩) hwg (.string p)) (p:=⟨g2,1,none⟩) hwg (.bool d)).alloc (by have:=HB4.out.size;simp[World.setCell];omega) _
theorem zrO:(ye.info? 218).map (fun i=>(i.zero,i.size,i.bytes))=some (some (.agg #[.string ByteArray.empty,.bool false]),2,24):=by kernel_rfl
theorem slCm:SlT ye 155 218 2 24:=SlT.mk Tryz.underlying155 zrO rfl
theorem zq8(v:JV):zb0 v=0\/zb0 v=1\/zb0 v=210:=by
 unfold zb0
 repeat' split
 all_goals first|exact .inl rfl|exact .inr (.inl rfl)|exact .inr (.inr rfl)
theorem zms{l:List JV}{j:Nat}{x:JV}(h:l[j]? =some x):zdN (l.drop j)=if zb0 x≠0 then zb0 x else zdN (l.drop (j+1)):=by
 obtain⟨h1,h2⟩:=List.getElem?_eq_some_iff.1 h;rw[yU h1,h2]
 rfl
theorem zmQ{t:JV}(h:t.k=1):zcN t=0/\zbB t=[]:=by
 unfold zbB zcN;rw[if_pos h,if_neg (by rw[h];decide)]
 exact⟨rfl,rfl⟩
theorem zmP{t:JV}(h1:t.k≠1)(h:t.k≠5):zcN t=1/\zbB t=[]:=by
 unfold zbB zcN;rw[if_neg h1,if_pos h,if_neg (fun e=>h e.1)]
 exact⟨rfl,rfl⟩
theorem zib{t:JV}(h:t.k=5)(hl:4<t.l.length):zcN t=210/\zbB t=[]:=by
 have h1:zcN t=210:=by
  unfold zcN;rw[if_neg (by rw[h];decide),if_neg (by simp[h]),if_pos hl]
 unfold zbB;rw[h1,if_neg (by simp)]
 exact⟨rfl,rfl⟩
theorem zia{t:JV}(h:t.k=5)(hl:¬4<t.l.length):zcN t=zdN t.l:=by
 unfold zcN;rw[if_neg (by rw[h];decide),if_neg (by simp[h]),if_neg hl]
theorem zh9{t:JV}(h:t.k=5)(he:zcN t=0):zbB t=t.l.map zc7:=if_pos ⟨h,he⟩
theorem zoh{t:JV}(he:zcN t≠0):zbB t=[]:=if_neg (fun e=>he e.2)
def zjv(w:World)(t:JV)(e:Ending)(w':World):Prop:=∃u,e= .returned (.tuple #[u,.int .i64 (zcN t)])/\Own w' w.heap.size 218 zfJ 2 u (zbB t)/\Below w.heap.size w w'
theorem zle(t:JV)(r:RV)(w:World)(B:Nat)(hBw:B<=w.heap.size)(ht:TreeOf w B t r)(ot:t.Ok):
 Calls ye 92 #[r.val] w (zjv w t):=by
 obtain⟨W0,hW0⟩:∃W0,w.alloc r.obj=W0:=⟨_,rfl⟩;have hA0:VAt W0 w.heap.size r:=by rw[<-hW0];exact za rfl
 have hB0:Below w.heap.size w W0:=by rw[<-hW0];exact(yh _ _).alloc (yd _) _
 have hkk:=ht.kk.1;cases ht with
 | @mk _ l m rs rms hl el hcl hm em hcn hcm=>
 obtain⟨k,n,s,pl,nl,cl,pm,nm,cm⟩:=r;dsimp only[RV.val,RV.obj]at*;have HW:=yc hW0;have HB0:=yc hB0;have HL:=yc hl;have hnl:=zi hl;have HCL:=yc hcl;have HOK:Hid (∀(i:Nat) x,l[i]? =some x->x.Ok):=fun i x hx=>by cases ot with|mk _ _ _ _ _ c _ _=>exact c i x hx
 have hll:l.length=nl:=by omega
 have HLL:=yc hll;obtain⟨E,hE⟩:∃E,zcN (JV.mk k n s l m)=E:=⟨_,rfl⟩;obtain⟨C,hC⟩:∃C,zbB (JV.mk k n s l m)=C:=⟨_,rfl⟩;have HE:=yc hE;have HC:=yc hC
 have HRT:Hid (∀e w',(∃u,e= .returned (.tuple #[u,.int .i64 E])/\Own w' w.heap.size 218 zfJ 2 u C/\Below w.heap.size w w')->zjv w (JV.mk k n s l m) e w'):=fun e w' h=>by
  unfold zjv;rw[hE,hC];exact h
 have hw0:=hB0.size;have hnl0:(0:Int)<=(nl:Int):=yj _;clear hW0 hB0 hE hC hl el hcl hm em hcn hcm hnl hll hkk ot;by_cases hk1:k=1
 ·have hs:=zmQ (t:=JV.mk k n s l m) hk1;subst hk1;have HE1:Hid (E=0/\C=[]):=⟨HE.out.symm.trans hs.1,HC.out.symm.trans hs.2⟩;clear hs
  go_enter Tryz.func92,Tryz.ntmps92
  go_upto_region 1 with fail
  rw[HW.out];clear HW;obtain⟨a0,a1,a2,a3,a4⟩:=hA0.cells5
  go_wp2_with fail
  refine bodyPost_ret (v:= .tuple #[.slice none 0 0,.int .i64 0]) (by simp[results,Tryz.results92,go_sem]) rfl (HRT.out _ _ ⟨.slice none 0 0,by rw[HE1.out.1],by rw[HE1.out.2];exact Own.nil _ _ _,HB0.out⟩)
 ·have q1:(k==1)=false:=by simpa using hk1
  by_cases hk5:k=5
  ·subst hk5;have HK5:Hid ((JV.mk 5 n s l m).k=5/\(JV.mk 5 n s l m).l=l):=⟨rfl,rfl⟩;by_cases hmany:4<nl
   ·have hs:=zib (t:=JV.mk 5 n s l m) rfl (by rw[HK5.out.2,HLL.out];exact hmany)
    have HE1:Hid (E=210/\C=[]):=⟨HE.out.symm.trans hs.1,HC.out.symm.trans hs.2⟩;have q2:decide ((4:Int)<(nl:Int))=true:=decide_eq_true (by omega)
    have q2':decide (4<nl)=true:=decide_eq_true hmany;clear hs
    go_enter Tryz.func92,Tryz.ntmps92
    go_upto_region 1 with fail
    rw[HW.out];clear HW;obtain⟨a0,a1,a2,a3,a4⟩:=hA0.cells5
    go_wp2_with fail
    refine bodyPost_ret (v:= .tuple #[.slice none 0 0,.int .i64 210]) (by simp[results,Tryz.results92,go_sem]) rfl (HRT.out _ _ ⟨.slice none 0 0,by rw[HE1.out.1],by rw[HE1.out.2];exact Own.nil _ _ _,HB0.out⟩)
   ·have q2:decide ((4:Int)<(nl:Int))=false:=decide_eq_false (by omega)
    have q2':decide (4<nl)=false:=decide_eq_false hmany;have hEL:E=zdN l:=HE.out.symm.trans (zia (t:=JV.mk 5 n s l m) rfl (by rw[HK5.out.2,HLL.out];exact hmany))
    have HEL:=yc hEL;have HC0:Hid (E=0->C=l.map zc7):=fun h=>HC.out.symm.trans (zh9 (t:=JV.mk 5 n s l m) rfl (HE.out.trans h))
    have HC1:Hid (E≠0->C=[]):=fun h=>HC.out.symm.trans (zoh (t:=JV.mk 5 n s l m) (by rw[HE.out];exact h))
    clear hEL
    go_enter Tryz.func92,Tryz.ntmps92
    go_upto_region 1 with fail
    rw[HW.out];clear HW;obtain⟨a0,a1,a2,a3,a4⟩:=hA0.cells5
    go_wp2_with fail
    go_loopw [4,22] (fun u i wr=>∃j:Nat,j<=nl/\i= .int .i64 (j:Int)/\Hid (Own wr w.heap.size 218 zfJ 2 u ((l.take j).map zc7)/\zdN (l.drop j)=E/\Below w.heap.size w wr)) (fun _ i _=>nl-(intOf i).toNat)
    case atStart=>exact⟨0,by omega,rfl,Own.nil _ _ _,HEL.out.symm,HB0.out⟩
    case round=>
     obtain⟨j,hj,rfl,hS⟩:=hrel;have hj0:(0:Int)<=(j:Int):=yj _;by_cases hlt:j<nl
     ·have hj1:(j:Int)<(nl:Int):=by omega
      obtain⟨x,hx⟩:∃x,l[j]? =some x:=⟨_,yf (by have:=HLL.out;omega)⟩
      have hbr:=hS.out.2.2;have hlr:=HL.out.below (hbr.mono hBw) (yd _);obtain⟨q,hq⟩:∃q,rs[j]? =some q:=⟨_,yf (by have:=zi hlr;omega)⟩
      obtain⟨b1,o1,rfl,hb1,hc1⟩:=zq hlr hq;have hxt:=(HCL.out j x q hx hq).under (hbr.mono hBw) (yd _);obtain⟨vk,vn,vs,vpl,vnl,vcl,vpm,vnm,vcm⟩:=q;have f0:=hc1 0 _ rfl;have f1:=hc1 1 _ rfl;have f2:=hc1 2 _ rfl;have f3:=hc1 3 _ rfl;have f4:=hc1 4 _ rfl;rw[yw]at f0;dsimp only at f0 f1 f2 f3 f4;have hwr:=hbr.size;have hbA:Below wr.heap.size wr (wr.alloc (.cells #[.int .i64 vk,.int .i64 vn,.string vs,.slice vpl vnl vcl,.slice vpm vnm vcm] 25)):=(yh _ _).alloc (yd _) _;have HRD:=yc (zmE x ⟨vk,vn,vs,vpl,vnl,vcl,vpm,vnm,vcm⟩ (wr.alloc (.cells #[.int .i64 vk,.int .i64 vn,.string vs,.slice vpl vnl vcl,.slice vpm vnm vcm] 25)) B (by simp;omega) (hxt.under (hbA.mono (yg hBw hwr)) (yd _)) (HOK.out j x hx))
      have hvt:(wr.alloc (.cells #[.int .i64 vk,.int .i64 vn,.string vs,.slice vpl vnl vcl,.slice vpm vnm vcm] 25)).heap[wr.heap.size]? =some (.cells #[.int .i64 vk,.int .i64 vn,.string vs,.slice vpl vnl vcl,.slice vpm vnm vcm] 25):=za rfl;have HSA:Hid (Own (wr.alloc (.cells #[.int .i64 vk,.int .i64 vn,.string vs,.slice vpl vnl vcl,.slice vpm vnm vcm] 25)) w.heap.size 218 zfJ 2 u4 ((l.take j).map zc7)):=hS.out.1.alloc _;have HX:=yc hx;have HLD:=yc ((zms hx).symm.trans hS.out.2.1);have HBA:=yc (hbr.trans (hbA.mono hwr))
      go_upto_region 12 with fail
      obtain⟨g6,hg6⟩:∃g,wr.heap.size=g:=⟨_,rfl⟩;obtain⟨W3,hW3⟩:∃W,wr.alloc (.cells #[.int .i64 vk,.int .i64 vn,.string vs,.slice vpl vnl vcl,.slice vpm vnm vcm] 25)=W:=⟨_,rfl⟩;rw[hW3,hg6]at hvt;rw[hW3]at HSA HRD HBA
      try rw[hW3]
      try rw[hg6]
      have a0':W3.cell? ⟨g6,0,none⟩=some (.int .i64 vk):=(cell_of_row _ g6 0 _ _ _ hvt).trans rfl;have a1':W3.cell? ⟨g6,1,none⟩=some (.int .i64 vn):=(cell_of_row _ g6 1 _ _ _ hvt).trans rfl;have a2':W3.cell? ⟨g6,2,none⟩=some (.string vs):=(cell_of_row _ g6 2 _ _ _ hvt).trans rfl;have a3':W3.cell? ⟨g6,3,none⟩=some (.slice vpl vnl vcl):=(cell_of_row _ g6 3 _ _ _ hvt).trans rfl;have a4':W3.cell? ⟨g6,4,none⟩=some (.slice vpm vnm vcm):=(cell_of_row _ g6 4 _ _ _ hvt).trans rfl;have hwf:=zq8 x;obtain⟨F,hF⟩:∃F,zb0 x=F:=⟨_,rfl⟩
      have HRD2:Hid (Calls ye 158 #[.agg #[.int .i64 vk,.int .i64 vn,.string vs,.slice vpl vnl vcl,.slice vpm vnm vcm]] W3 fun e w'=>∃p d,e= .returned (.tuple #[.agg #[.string p,.bool d],.int .i64 F])/\Hid (F=0->zc7 x=⟨p,d⟩)/\Below W3.heap.size W3 w'):=by
       have h:=HRD.out;unfold zjx at h;rw[hF]at h;exact h
      rw[hF]at hwf HLD;clear hW3 hg6 hvt hlr hq hc1 hxt f0 f1 f2 f3 f4 hbA hx hb1 hS HRD hF hbr;have hzz:=HBA.out.size
      go_upto_region 13 with(go_at_call 158;(with_reducible refine HRD2.out.mono ?_);rintro e w4 ⟨p,d,rfl,hpd,hb4⟩)
      have hz4:=hb4.size;have hc4:CmpAt (w4.alloc (.cells #[.string p,.bool d] 218)) w4.heap.size p d:=za rfl;have HB5:=yc (HBA.out.trans ((hb4.alloc hz4 (.cells #[.string p,.bool d] 218)).mono hzz));have HSB:=yc ((HSA.out.below hb4 (yd _)).alloc (.cells #[.string p,.bool d] 218));obtain⟨g7,hg7⟩:∃g,w4.heap.size=g:=⟨_,rfl⟩;obtain⟨W5,hW5⟩:∃W,w4.alloc (.cells #[.string p,.bool d] 218)=W:=⟨_,rfl⟩;rw[hW5,hg7]at hc4;rw[hW5]at HSB HB5
      try rw[hW5]
      try rw[hg7]
      have c0:=hc4.c0;have c1:=hc4.c1;clear hW5 hg7 hb4 hz4 hc4 a0' a1' a2' a3' a4' HSA HRD2;by_cases hF0:F=0
      ·subst hF0;have HPD:Hid (zc7 x=⟨p,d⟩):=hpd.out rfl;have HL2:Hid (zdN (l.drop (j+1))=E):=by have h:=HLD.out;rw[if_neg (by simp)]at h;exact h
       have hsz5:=HB5.out.size
       have HR5:Hid (Rd (W5.alloc (.cells #[.string p,.bool d] 218)) (W5.heap.size+1) zfJ 2 (.slice (some ⟨W5.heap.size,0,none⟩) 1 1) [zc7 x]):=by
        rw[HPD.out];exact Rd.one zjS (za rfl) rfl (by omega)
       have HO5:=yc (HSB.out.alloc (.cells #[.string p,.bool d] 218));have hnl4:nl<=4:=by omega
       have HLN:Hid (((l.take j).map zc7).length+[zc7 x].length<=maxLen/\(((l.take j).map zc7).length+[zc7 x].length)*24<=140737488355328):=by
        simp only[List.length_singleton,yy,yz];exact⟨by unfold maxLen;omega,by omega⟩
       clear hpd
       go_wp2_with (at_builtin;refine zk slCm zjS (W5.alloc (.cells #[.string p,.bool d] 218)) rfl (.tmp 34) (.tmp 36) rfl (v:=u4) rfl rfl HO5.out HR5.out HLN.out.1 HLN.out.2 (by simp;omega) ?_;intro v8 w8 ho8 hg8 hat8)
       go_roundw
       case rel=>
        refine⟨j+1,by omega,by go_num,?_,HL2.out,Below.appended (HB5.out.alloc hsz5 _) hg8 HO5.out (by simp;omega)⟩
        rw[zbu HX.out,yao,List.map_singleton];exact ho8
       case measure=>simp[intOf];omega
      ·have q5:(F !=0)=true:=by simpa using hF0
       have q6:(F==0)=false:=by simpa using hF0
       have HEF:Hid (E=F):=by have h:=HLD.out;rw[if_pos hF0]at h;exact h.symm
       have HCE:Hid (C=[]):=HC1.out (by rw[HEF.out];exact hF0)
       go_wp2_with fail
       refine bodyPost_ret (v:= .tuple #[.slice none 0 0,.int .i64 F]) (by simp[results,Tryz.results92,go_sem]) rfl (HRT.out _ _ ⟨.slice none 0 0,by rw[HEF.out],by rw[HCE.out];exact Own.nil _ _ _,HB5.out⟩)
     ·obtain rfl:j=nl:=by omega
      have HSS:=yc hS.out.1
      have HEZ:Hid (E=0):=by
       have h:=hS.out.2.1;rw[yaK (by have:=HLL.out;omega)]at h
       exact h.symm
      have HCC:Hid (C=(l.take j).map zc7):=by
       unfold Hid;rw[HC0.out HEZ.out,yq (by have:=HLL.out;omega)]
      have HBR:=yc hS.out.2.2;clear hS
      go_wp2_with fail
      refine bodyPost_ret (v:= .tuple #[u4,.int .i64 0]) (by simp[results,Tryz.results92,go_sem]) rfl (HRT.out _ _ ⟨u4,by rw[HEZ.out],by rw[HCC.out];exact HSS.out,HBR.out⟩)
  ·have q2:(k==5)=false:=by simpa using hk5
   have hs:=zmP (t:=JV.mk k n s l m) hk1 hk5;have HE1:Hid (E=1/\C=[]):=⟨HE.out.symm.trans hs.1,HC.out.symm.trans hs.2⟩;clear hs hk1 hk5
   go_enter Tryz.func92,Tryz.ntmps92
   go_upto_region 1 with fail
   rw[HW.out];clear HW;obtain⟨a0,a1,a2,a3,a4⟩:=hA0.cells5
   go_wp2_with fail
   refine bodyPost_ret (v:= .tuple #[.slice none 0 0,.int .i64 1]) (by simp[results,Tryz.results92,go_sem]) rfl (HRT.out _ _ ⟨.slice none 0 0,by rw[HE1.out.1],by rw[HE1.out.2];exact Own.nil _ _ _,HB0.out⟩)
theorem zpU(t:JV):(∀(i:Nat) c,(zbB t)[i]? =some c->zhw c.prop)/\(zbB t).length<=4:=by
 by_cases h:t.k=5/\zcN t=0
 ·rw[zh9 h.1 h.2]
  have hl:t.l.length<=4/\zdN t.l=0:=by
   by_cases hm:4<t.l.length
   ·have:=(zib h.1 hm).1;rw[h.2]at this;cases this
   ·exact⟨by omega,(zia h.1 hm).symm.trans h.2⟩
  have hall:∀(l:List JV),zdN l=0->∀x∈l,zb0 x=0:=by
   intro l
   induction l with
   |nil=>intro _ x hx;cases hx
   | cons a r ih =>
     intro h0 x hx;unfold zdN at h0;by_cases ha:zb0 a=0
     ·rw[if_neg (by simp[ha])]at h0
      rcases yA.1 hx with rfl|hx
      ·exact ha
      ·exact ih h0 x hx
     ·rw[if_pos ha]at h0;exact absurd h0 ha
  refine⟨fun i c hc=> ?_,by rw[yy];exact hl.1⟩
  rw[List.getElem?_map]at hc;obtain⟨x,hx,rfl⟩:=Option.map_eq_some_iff.1 hc;have h0:=hall _ hl.2 x (ym hx);unfold zb0 at h0;unfold zc7 zhw zby
  split at h0
  ·cases h0
  ·split at h0
   ·cases h0
   ·split at h0
    ·cases h0
    ·rename_i p hp;rw[hp];dsimp only
     have hpo:zdc p.s=true:=by
      cases hpo:zdc p.s with
      |true=>rfl
      |false=>rw[hpo]at h0;simp at h0
     unfold zdc at hpo;simp only[Bool.or_eq_true,decide_eq_true_eq]at hpo⊢
     rcases hpo with h|h|h|h|h
     ·exact .inl (.inl h)
     ·exact .inl (.inr h)
     ·exact .inr (.inl h)
     ·exact .inr (.inr (.inl h))
     ·exact .inr (.inr (.inr h))
 ·have h0:zbB t=[]:=if_neg h;rw[h0];exact⟨fun i c hc=>by simp at hc,yu _⟩
def NumBk(W:World)(ty:TypeId)(g:Nat)(n:Int):Prop:=W.heap[g]? =some (.cells #[.int .i64 n] ty (0,0))
section
variable {W W':World} {ty:TypeId} {g:Nat} {n:Int} (h:NumBk W ty g n)
include h
theorem NumBk.lt:g<W.heap.size:=(yl.1 h).1
theorem NumBk.cell:W.cell? ⟨g,0,none⟩=some (.int .i64 n):=by
 unfold NumBk at h;rw[cell_of_row W g 0 _ _ _ h]
 rfl
theorem NumBk.frozen:W.frozen? ⟨g,0,none⟩=false:=by
 unfold NumBk at h;simp[World.frozen?,h]
theorem NumBk.keep(hk:W'.heap[g]? =W.heap[g]?):NumBk W' ty g n:=hk.trans h
theorem NumBk.set(m:Int):NumBk (W.setCell ⟨g,0,none⟩ (.int .i64 m)) ty g m:=by
 unfold NumBk at h⊢;simp[World.setCell,Array.getElem?_modify,h]
end
end
section
open Go
def mt:ByteArray:=⟨#[]⟩
def tJ(x:ByteArray):JV:= .mk 4 0 x [] []
theorem zmn{k:Int}(h:(Lit.int .i64 k).wf=true){s:ByteArray}(hs:s.size<=140737488351232):(JV.mk k 0 s [] []).Ok:= .mk h (by decide) hs (by simp) (by simp) (fun i x hx=>by simp at hx) (fun i p hp=>by simp at hp) (fun i p hp=>by simp at hp)
theorem jvokL{l:List JV}(h:∀x∈l,x.Ok)(hl:l.length<=1000):(JV.mk 5 0 mt l []).Ok:= .mk (by decide) (by decide) (by decide) (by omega) (by simp) (fun i x hx=>h x (ym hx)) (fun i p hp=>by simp at hp) (fun i p hp=>by simp at hp)
theorem zqh{m:List (ByteArray×JV)}(h:∀p∈m,p.1.size<=1000/\p.2.Ok)(hl:m.length<=1000):(JV.mk 6 0 mt [] m).Ok:= .mk (by decide) (by decide) (by decide) (by simp) (by omega) (fun i x hx=>by simp at hx) (fun i p hp=>yg (h p (ym hp)).1 (by omega)) (fun i p hp=>(h p (ym hp)).2)
theorem zqk{x:ByteArray}(hs:x.size<=1000):(tJ x).Ok:=zmn (by decide) (by omega)
end
end Go.Proofs.YtemofofnkchmeaaGreatDoor
