import Derived.Test.YtemofofnkchmeaaGreatDoorL24
import Derived.Test.YtemofofnkchmeaaGreatDoorL13
import Derived.Test.YtemofofnkchmeaaGreatDoorL09
set_option linter.unusedSimpArgs false
set_option linter.unusedVariables false
set_option maxRecDepth 200000
set_option maxHeartbeats 8000000
namespace Go.Proofs.YtemofofnkchmeaaGreatDoor
open _root_.Array renaming getElem?_eq_some_iff->yl
open _root_.List renaming getElem?_eq_some_iff->yi,mem_of_getElem?->ym
open _root_.Nat renaming le_of_lt->yaL,le_trans->yg
section
open Go Go.RowKit Go.OpenShut
theorem zkm{rs:List RM}{w:World}{base g n cap i x:Nat}{xs:List Nat}(h:Own w base 164 (zeJ rs) 7 (.slice (some ⟨g,0,none⟩) n cap) xs)(hi:xs[i]? =some x){r:RM}(hr:rs.getD x dRM=r):
 w.cell? ⟨g,i*7,none⟩=some (.string r.name)/\w.cell? ⟨g,i*7+1,none⟩=some (.int .i64 r.v.k)/\w.cell? ⟨g,i*7+2,none⟩=some (.int .i64 r.v.n)/\w.cell? ⟨g,i*7+3,none⟩=some (.string r.v.s)/\w.cell? ⟨g,i*7+4,none⟩=some (.slice r.v.pl r.v.nl r.v.cl)/\w.cell? ⟨g,i*7+5,none⟩=some (.slice r.v.pm r.v.nm r.v.cm)/\w.cell? ⟨g,i*7+6,none⟩=some (.int .i64 (x:Int)):=by
 obtain⟨g',e1,hn,hb,hlt,hc,hf⟩:=Own.at (zdH rs) h hi;injection e1 with e1
 injection e1 with e1
 subst e1;subst hr;exact⟨hc 0 _ rfl,hc 1 _ rfl,hc 2 _ rfl,hc 3 _ rfl,hc 4 _ rfl,hc 5 _ rfl,hc 6 _ rfl⟩
def ItAt(W:World)(g:Nat)(r:RM)(a:Int):Prop:=W.heap[g]? =some (.cells #[.string r.name,.int .i64 r.v.k,.int .i64 r.v.n,.string r.v.s,.slice r.v.pl r.v.nl r.v.cl,.slice r.v.pm r.v.nm r.v.cm,.int .i64 a] 164 (0,0))
theorem ItAt.cell{W:World}{g:Nat}{r:RM}{a:Int}(h:ItAt W g r a)(j:Nat){v:Value}(hv:(#[.string r.name,.int .i64 r.v.k,.int .i64 r.v.n,.string r.v.s,.slice r.v.pl r.v.nl r.v.cl,.slice r.v.pm r.v.nm r.v.cm,.int .i64 a]:Array Value)[j]? =some v):W.cell? ⟨g,j,none⟩=some v:=(cell_of_row W g j _ _ _ h).trans hv
theorem ItAt.under{W W':World}{g B:Nat}{r:RM}{a:Int}(h:ItAt W g r a)(hb:Below B W W')(hg:g<B):ItAt W' g r a:=(hb.block g hg).trans h
theorem ItAt.lt{W:World}{g:Nat}{r:RM}{a:Int}(h:ItAt W g r a):g<W.heap.size:=(yl.1 h).1
theorem zpo(cs:List CmpD)(os:List (ByteArray×JV))(rs:List RM)(pc:Option Addr)(nc cc base B q g cap i j x y:Nat)(xs:List Nat)(w:World)(env:QEnv w B cs os rs pc nc cc)(hq:QAt w base q g cap rs pc nc cc xs)(hB:B<=base)(hi:xs[i]? =some x)(hj:xs[j]? =some y):
 Calls Tryz.prog 311 #[.pointer (some ⟨q,0,none⟩),.int .i64 (i:Int),.int .i64 (j:Int)] w fun e w'=>e= .returned (.bool (ltQ cs os x y))/\Below w.heap.size w w':=by
 have hx:x<rs.length:=hq.bnd x (ym hi);have hy:y<rs.length:=hq.bnd y (ym hj);obtain⟨r1,hr1⟩:∃r,rs.getD x dRM=r:=⟨_,rfl⟩;obtain⟨r2,hr2⟩:∃r,rs.getD y dRM=r:=⟨_,rfl⟩;obtain⟨f0,f1,f2,f3,f4,f5,f6⟩:=zkm hq.own hi hr1;obtain⟨e0,e1,e2,e3,e4,e5,e6⟩:=zkm hq.own hj hr2;have hq0:=hq.q0;have hq1:=hq.q1;have hgl:=hq.glo;have hql:q<w.heap.size:=(yl.1 hq.cell).1;have hil:=(yi.1 hi).1;have hjl:=(yi.1 hj).1;have hxl:=hq.xlen;unfold maxLen at hxl;obtain⟨m,hm⟩:∃m,xs.length=m:=⟨_,rfl⟩;rw[hm]at hq0 hil hjl hxl;obtain⟨hxl1,hxl2⟩:=hxl;have i0:(0:Int)<=(i:Int):=Int.natCast_nonneg _;have j0:(0:Int)<=(j:Int):=Int.natCast_nonneg _;have i1:(i:Int)<(m:Int):=by omega
 have j1:(j:Int)<(m:Int):=by omega
 have ti:((i:Int)).toNat=i:=by omega
 have tj:((j:Int)).toNat=j:=by omega
 have HENV:=Lib.hid env;have HQ:=Lib.hid hq;have HR1:=Lib.hid hr1;have HR2:=Lib.hid hr2
 have HA1:Hid (∀W,Below w.heap.size w W->Calls Tryz.prog 314 #[.slice pc nc cc,r1.val,r2.val] W fun e w'=>e= .returned (.bool (zdn cs (os.getD x dO) (os.getD y dO)))/\Below W.heap.size W w'):=fun W hW=>by
  have ew:=env.below (hW.mono (yg hB (yg hgl.1 (yaL hgl.2))));have o1:=ew.obj x hx;have o2:=ew.obj y hy;rw[hr1]at o1;rw[hr2]at o2;exact ziN cs ew.pok ew.few pc nc cc _ _ r1 r2 W B (yg (yg hB (yg hgl.1 (yaL hgl.2))) hW.size) ew.rd ⟨o1.1,o1.2.1⟩ o1.2.2 ⟨o2.1,o2.2.1⟩ o2.2.2
 have HA2:Hid (∀W,Below w.heap.size w W->Calls Tryz.prog 314 #[.slice pc nc cc,r2.val,r1.val] W fun e w'=>e= .returned (.bool (zdn cs (os.getD y dO) (os.getD x dO)))/\Below W.heap.size W w'):=fun W hW=>by
  have ew:=env.below (hW.mono (yg hB (yg hgl.1 (yaL hgl.2))));have o1:=ew.obj x hx;have o2:=ew.obj y hy;rw[hr1]at o1;rw[hr2]at o2;exact ziN cs ew.pok ew.few pc nc cc _ _ r2 r1 W B (yg (yg hB (yg hgl.1 (yaL hgl.2))) hW.size) ew.rd ⟨o2.1,o2.2.1⟩ o2.2.2 ⟨o1.1,o1.2.1⟩ o1.2.2
 have HLT:=Lib.hid (zpp cs os x y);obtain⟨R,hR⟩:∃R,ltQ cs os x y=R:=⟨_,rfl⟩;obtain⟨A1,hA1⟩:∃R,zdn cs (os.getD x dO) (os.getD y dO)=R:=⟨_,rfl⟩;obtain⟨A2,hA2⟩:∃R,zdn cs (os.getD y dO) (os.getD x dO)=R:=⟨_,rfl⟩;rw[hR]at HLT;rw[hR];rw[hA1]at HA1 HLT;rw[hA2]at HA2 HLT;clear hR hA1 hA2;obtain⟨n1,⟨k,n,s,pl,nl,cl,pm,nm,cm⟩⟩:=r1;obtain⟨n2,⟨qk,qn,qs,qpl,qnl,qcl,qpm,qnm,qcm⟩⟩:=r2;dsimp only at f0 f1 f2 f3 f4 f5 e0 e1 e2 e3 e4 e5;dsimp only[RM.val]at HA1 HA2;clear env hq hr1 hr2 hi hj hm
 go_enter Tryz.func311,Tryz.ntmps311
 go_upto_region 1 with fail
 go_cut [7,8]from 9 to 22 (fun s7 s8 w1=>∃gx gy,s7= .pointer (some ⟨gx,0,none⟩)/\s8= .pointer (some ⟨gy,0,none⟩)/\Hid (ItAt w1 gx ⟨n1,⟨k,n,s,pl,nl,cl,pm,nm,cm⟩⟩ (x:Int)/\ItAt w1 gy ⟨n2,⟨qk,qn,qs,qpl,qnl,qcl,qpm,qnm,qcm⟩⟩ (y:Int)/\Below w.heap.size w w1))
 case first=>
  go_region
  all_goals
   go_wp2_with fail
   go_meet
   refine⟨_,_,rfl,rfl,?_,?_,?_⟩
   ·first
     |exact za (by simp)
     |exact zb (by simp) (za rfl)
   ·first
     |exact za (by simp)
     |exact zb (by simp) (za rfl)
   ·exact(zM w _ _).drew
 case rest=>
 obtain⟨gx,gy,rfl,rfl,hX⟩:=hcut;obtain⟨ix,iy,hb1⟩:=hX.out;have a0:=ix.cell 0 rfl;have a1:=ix.cell 1 rfl;have a2:=ix.cell 2 rfl;have a3:=ix.cell 3 rfl;have a4:=ix.cell 4 rfl;have a5:=ix.cell 5 rfl;have a6:=ix.cell 6 rfl;have b0:=iy.cell 0 rfl;have b1:=iy.cell 1 rfl;have b2:=iy.cell 2 rfl;have b3:=iy.cell 3 rfl;have b4:=iy.cell 4 rfl;have b5:=iy.cell 5 rfl;have b6:=iy.cell 6 rfl;dsimp only at a0 a1 a2 a3 a4 a5 a6 b0 b1 b2 b3 b4 b5 b6;have p1:=zc hb1 hql hq1;have hz1:=hb1.size;clear f0 f1 f2 f3 f4 f5 f6 e0 e1 e2 e3 e4 e5 e6 hq0
 go_upto_region 2 with fail
 go_cut [31]from 23 to 31 (fun v w2=>v= .bool A1/\Hid (Below wc.heap.size wc w2))
 case first=>
  go_region_with (first
   |(go_at_call 314;(have HK1:=HA1.out wc.drew hb1.drew);(with_reducible refine HK1.mono ?_);rintro e w2 ⟨rfl,hb2⟩)
   |fail)
  all_goals
   first
    |go_meet
    |(go_wp2_with fail;go_meet)
   first
    |exact⟨rfl,hb2⟩
    |exact⟨rfl,(Below.refl _ _).drew.trans hb2⟩
    |exact⟨rfl,(bdn (Below.refl _ _) _).trans hb2⟩
 case rest=>
 obtain⟨rfl,hY⟩:=hcut;have hb2:=hY.out;have hbb:=hb1.trans (hb2.mono hz1);have hz2:=hb2.size;cases A1 with
 | true =>
   have HRR:Hid (R=true):=HLT.out;clear HLT HA1 HA2
   go_wp2_with fail
   rw[HRR.out];go_ret;exact⟨rfl,hbb⟩
 | false =>
   have hlx:=ix.lt;have hly:=iy.lt;have c0:=zc hb2 hlx a0;have c1:=zc hb2 hlx a1;have c2:=zc hb2 hlx a2;have c3:=zc hb2 hlx a3;have c4:=zc hb2 hlx a4;have c5:=zc hb2 hlx a5;have c6:=zc hb2 hlx a6;have d0:=zc hb2 hly b0;have d1:=zc hb2 hly b1;have d2:=zc hb2 hly b2;have d3:=zc hb2 hly b3;have d4:=zc hb2 hly b4;have d5:=zc hb2 hly b5;have d6:=zc hb2 hly b6;have p2:=zc hb2 (Nat.lt_of_lt_of_le hql hz1) p1;have hlx2:gx<wc.heap.size:=by omega
   have hly2:gy<wc.heap.size:=by omega
   have hqw:q<wc.heap.size:=by omega
   clear a0 a1 a2 a3 a4 a5 a6 b0 b1 b2 b3 b4 b5 b6 p1;obtain⟨z,hz⟩:∃b,decide ((x:Int)<(y:Int))=b:=⟨_,rfl⟩;rw[hz]at HLT;have hz':decide (x<y)=z:=by rw[<-hz];exact decide_eq_decide.2 (by omega)
   clear hz;have hcc:Hid (∀W',Below wc.heap.size wc W'->W'.cell? ⟨gx,6,none⟩=some (.int .i64 (x:Int))/\W'.cell? ⟨gy,6,none⟩=some (.int .i64 (y:Int))):=fun W' h=>⟨zc h hlx2 c6,zc h hly2 d6⟩
   cases A2 with
   | true =>
     have HRR:Hid (R=false):=HLT.out;clear HLT hz'
     go_upto_region 4 with fail
     first
      |(go_region_with (first
       |(go_at_call 314;(have HK1:=HA2.out wc.drew hbb.drew);(with_reducible refine HK1.mono ?_);rintro e w3 ⟨rfl,hb3⟩)
       |fail))
      |fail
     all_goals
      go_wp2_with fail
      go_ret;exact⟨by rw[HRR.out];rfl,hbb.drew.trans (hb3.mono (yg hz1 hz2))⟩
   | false =>
     have HRR:Hid (R=z):=HLT.out;clear HLT
     go_upto_region 4 with fail
     go_region_held3 (fun w'=>Below wc.heap.size wc w'/\∀b o,b<wc.heap.size->w'.cell? ⟨b,o,none⟩=wc.cell? ⟨b,o,none⟩)
      (first|with_reducible exact ziA wc|with_reducible exact ziB hbk)
      (first
       |(go_at_call 314;(have HK1:=HA2.out wc.drew hbb.drew);(with_reducible refine HK1.mono ?_);rintro e w3 ⟨rfl,hb3⟩;(have hbk:=KB.step (W:=wc) (KB.drew wc) hb3))
       |fail)
     all_goals
      go_wp2_with fail
      go_ret;exact⟨by rw[HRR.out];rfl,hbb.trans (hbk.1.mono (yg hz1 hz2))⟩
end
end Go.Proofs.YtemofofnkchmeaaGreatDoor
