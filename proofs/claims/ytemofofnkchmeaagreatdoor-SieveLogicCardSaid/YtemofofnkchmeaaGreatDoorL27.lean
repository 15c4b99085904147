import Derived.Test.YtemofofnkchmeaaGreatDoorL26
import Derived.Test.YtemofofnkchmeaaGreatDoorL24
import Derived.Test.YtemofofnkchmeaaGreatDoorL23
import Derived.Test.YtemofofnkchmeaaGreatDoorL20
import Derived.Maps.OwnIn
import Derived.RangeFuncBox
import Derived.Stop.RegionWithIn
import Derived.Test.YtemofofnkchmeaaGreatDoorL12
import Derived.Test.YtemofofnkchmeaaGreatDoorL09
import Derived.Shelf.SlSortCmp.NoneTotal
import Derived.Sort.OwnSorted
import Derived.Test.YtemofofnkchmeaaGreatDoorL06
import Derived.Test.YtemofofnkchmeaaGreatDoorL00
import Derived.Test.YtemofofnkchmeaaGreatDoorL22
set_option linter.unusedSimpArgs false
set_option linter.unusedVariables false
set_option maxRecDepth 200000
set_option maxHeartbeats 8000000
namespace Go.Proofs.YtemofofnkchmeaaGreatDoor
open _root_.Go.RowKit.Below renaming refl->yh
open _root_.Bool renaming eq_false_iff->ya2
open _root_.Int renaming natCast_nonneg->yj
open _root_.Go.Lib renaming compareBytes->yZ,hid->yc
open _root_.List renaming Perm->yaV,eq_nil_of_length_eq_zero->yx,find?_cons->yav,getElem?_eq_getElem->yf,getElem?_set->yae,length_append->yp,length_drop->yF,length_map->yy,length_set->yaj,map_cons->yaF,map_map->yak,map_reverse->yaN,mem_append->yT,mem_of_getElem?->ym,not_lt->ybk,reverse_reverse->yaz
open _root_.Nat renaming le_refl->yd
open _root_.Go.Proofs.Tryz renaming prog->ye
section
open Go Go.RowKit Go.OpenShut
def fN(ys:List Nat):Nat->Nat:=fun k=>ys.getD k 0
theorem zcl{ys:List Nat}{j:Nat}(h:j<ys.length):ys[j]? =some (fN ys j):=by
 unfold fN;rw[List.getD_eq_getElem?_getD,yf h]
 rfl
theorem zqO{ys:List Nat}{i j:Nat}(hi:i<ys.length)(hj:j<ys.length)(hne:i≠j):fN ((ys.set i (fN ys j)).set j (fN ys i))=zgS (fN ys) i j:=by
 rw[zgC ys (zcl hi) (zcl hj)];exact zop hne 0
theorem zkW{w w':World}{row:Option Nat}(h:Below w.heap.size w w'):w.grownBy w' row:=⟨h.os,h.tape,h.output,h.size,fun k hk _=>h.block k hk⟩
theorem ziC{lt:Nat->Nat->Bool}(L:LtOk lt)(a:Nat):lt a a=false:=by
 cases h:lt a a with
 |false=>rfl
 |true=>have:=L.asym _ _ h;rw[h]at this;cases this
structure DwS(cs:List CmpD)(os:List (ByteArray×JV))(rs:List RM)(pc:Option Addr)(nc cc base q g cap:Nat)(w:World)(xs:List Nat)(n k i:Nat)(ys:List Nat)(W:World):Prop where
 len:ys.length=xs.length
 perm:ys.Perm xs
 out:∀j,n<=j->ys[j]? =xs[j]?
 ex:HeapEx (ltQ cs os) (fN ys) n k i
 qa:QAt W base q g cap rs pc nc cc ys
 gr:w.grownBy W (some g)
theorem DwS.grown{cs:List CmpD}{os:List (ByteArray×JV)}{rs:List RM}{pc:Option Addr}{nc cc base q g cap:Nat}{w:World}{xs:List Nat}{n k i:Nat}{ys:List Nat}{W W':World}(h:DwS cs os rs pc nc cc base q g cap w xs n k i ys W)(hb:Below W.heap.size W W'):DwS cs os rs pc nc cc base q g cap w xs n k i ys W':=
 ⟨h.len,h.perm,h.out,h.ex,h.qa.grown hb,zfl h.gr (zkW hb)⟩
theorem DwS.swap{cs:List CmpD}{os:List (ByteArray×JV)}{rs:List RM}{pc:Option Addr}{nc cc base q g cap:Nat}{w:World}{xs:List Nat}{n k i j:Nat}{ys:List Nat}{W W':World}(h:DwS cs os rs pc nc cc base q g cap w xs n k i ys W)(hn:n<=xs.length)(hj:zd0 (ltQ cs os) (fN ys) n i j)(hl:ltQ cs os (fN ys j) (fN ys i)=true)
 (ho:Own W' base 164 (zeJ rs) 7 (.slice (some ⟨g,0,none⟩) ys.length cap) ((ys.set i (fN ys j)).set j (fN ys i))) (hg:W.grownBy W' (some g)):DwS cs os rs pc nc cc base q g cap w xs n k j ((ys.set i (fN ys j)).set j (fN ys i)) W':=by
 have hjn:=hj.2.1;have hij:i<j:=by have:=hj.1;unfold z7 at this;omega
 have hle:=h.len;have hi':i<ys.length:=by omega
 have hj':j<ys.length:=by omega
 have hp:((ys.set i (fN ys j)).set j (fN ys i)).Perm ys:=by
  rw[zgC ys (zcl hi') (zcl hj')];exact zih
 refine⟨by simp only[yaj];exact hle,hp.trans h.perm,fun t ht=> ?_,?_,?_,zfl h.gr hg⟩
 ·rw[yae,if_neg (by omega),yae,if_neg (by omega)]
  exact h.out t ht
 ·rw[zqO hi' hj' (by omega)]
  exact h.ex.swap (zhS cs os) hj hl
 ·exact h.qa.turned hg (by simp only[yaj]) ho (fun y hy=>h.qa.bnd y (hp.mem_iff.1 hy))
theorem zjW(cs:List CmpD)(os:List (ByteArray×JV))(rs:List RM)(pc:Option Addr)(nc cc base B q g cap i0 n k:Nat)(xs:List Nat)(w:World)(env:QEnv w B cs os rs pc nc cc)(hB:B<=base)(hn:n<=xs.length)(hi0:i0<=1000000000000)(hx:xs.length<=1000000000000)
 (h:DwS cs os rs pc nc cc base q g cap w xs n k i0 xs w):
 Calls ye 159 #[.iface 158 (.pointer (some ⟨q,0,none⟩)),.int .i64 (i0:Int),.int .i64 (n:Int)] w fun e w'=>∃b ys,e= .returned (.bool b)/\ys.length=xs.length/\ys.Perm xs/\(∀j,n<=j->ys[j]? =xs[j]?)/\HeapF (ltQ cs os) (fN ys) n k/\QAt w' base q g cap rs pc nc cc ys/\w.grownBy w' (some g):=by
 have HENV:Hid (∀W,w.grownBy W (some g)->QEnv W B cs os rs pc nc cc):=fun W hg=>env.below (h.qa.keep hg hB)
 have HL:Hid (∀(ys:List Nat) (W:World) (a b:Nat),QAt W base q g cap rs pc nc cc ys->w.grownBy W (some g)->a<ys.length->b<ys.length->Calls ye 311 #[.pointer (some ⟨q,0,none⟩),.int .i64 (a:Int),.int .i64 (b:Int)] W fun e w'=>e= .returned (.bool (ltQ cs os (fN ys a) (fN ys b)))/\Below W.heap.size W w'):=fun ys W a b hq hg ha hb=>
  zpo cs os rs pc nc cc base B q g cap a b _ _ ys W (HENV.out W hg) hq hB (zcl ha) (zcl hb)
 have HS0:=yc h;have LO:=yc (zhS cs os);have n0:(0:Int)<=(n:Int):=yj _;have hnb:n<=1000000000000:=by omega
 have nb:(n:Int)<=1000000000000:=by omega
 have hml : ∀ w, Sem.run ye (method 465 158 (.pointer (some ⟨q, 0, none⟩)) "Less") w = .ok (311, .pointer (some ⟨q, 0, none⟩)) w := zpw q;clear env h
 go_enter Tryz.func159,Tryz.ntmps159
 go_wp2_with fail
 go_loopw [7] (fun v wr=>∃i ys,v= .int .i64 ((i:Nat):Int)/\i<=1000000000000/\Hid (DwS cs os rs pc nc cc base q g cap w xs n k i ys wr)) (fun v _=>n-(intOf v).toNat)
 case atStart=>exact⟨i0,xs,rfl,hi0,HS0.out⟩
 case round=>
  obtain⟨i,ys,rfl,hib,hS⟩:=hrel;have hle:=hS.out.len;have i0':(0:Int)<=(i:Int):=yj _;have ib':(i:Int)<=1000000000000:=by omega
  obtain⟨J,hJ⟩:∃J:Nat,2*i+1=J:=⟨_,rfl⟩;have hJe:2*(i:Int)+1=(J:Int):=by omega
  have HJ:=yc hJ;have J0:(0:Int)<=(J:Int):=yj _;have Jb:(J:Int)<=2000000000001:=by omega
  have q2:decide ((J:Int)<0)=false:=decide_eq_false (by omega)
  have hiJ:i<J:=by omega
  clear hJ;by_cases hlt:J<n
  ·have q1:decide ((n:Int)<=(J:Int))=false:=decide_eq_false (by omega)
   have hgr:=hS.out.gr;have HLJ:=yc (HL.out ys wr (J+1) J hS.out.qa hgr);obtain⟨J2,hJ2⟩:∃J2:Nat,J+1=J2:=⟨_,rfl⟩;have hJ2e:(J:Int)+1=(J2:Int):=by omega
   rw[hJ2]at HLJ;have HJ2:=yc hJ2;have J20:(0:Int)<=(J2:Int):=yj _;have hJJ:J<J2:=by omega
   have hJ2l:J2<=2000000000002:=by omega
   clear hJ2;by_cases hl2:J2<n
   ·have q3:decide (J2<n)=true:=decide_eq_true hl2;have q3':decide ((J2:Int)<(n:Int))=true:=decide_eq_true (by omega)
    have hc:=yc (HLJ.out (by omega) (by omega))
    obtain⟨L,hL⟩:∃L,ltQ cs os (fN ys J2) (fN ys J)=L:=⟨_,rfl⟩;rw[hL]at hc;have HLL:=yc hL;clear hL;cases L
    ·have HM:Hid (zd0 (ltQ cs os) (fN ys) n i J):=⟨.inl (by have:=HJ.out;omega),hlt,fun c hc1 hc2=>by
      have h1:=HJ.out;have h2:=HJ2.out
      rcases hc1 with hc1|hc1
      ·obtain rfl:c=J:=by omega
       exact ziC LO.out _
      ·obtain rfl:c=J2:=by omega
       exact HLL.out⟩
     have hc2:=yc (HL.out ys);obtain⟨L2,hL2⟩:∃L,ltQ cs os (fN ys J) (fN ys i)=L:=⟨_,rfl⟩
     have HC2:Hid (∀W,Below wr.heap.size wr W->Calls ye 311 #[.pointer (some ⟨q,0,none⟩),.int .i64 (J:Int),.int .i64 (i:Int)] W fun e w'=>e= .returned (.bool L2)/\Below W.heap.size W w'):=fun W hW=>by
      rw[<-hL2];exact HL.out ys W J i (hS.out.qa.grown hW) (hS.out.grown hW).gr (by have:=HM.out.2.1;omega) (by have:=HM.out.2.1;omega)
     have HLL2:=yc hL2;clear hL2 hc2;cases L2
     ·obtain⟨b,hb⟩:∃b,decide (i0<i)=b:=⟨_,rfl⟩
      go_wp2_with (first|(go_at_call 311;(with_reducible refine hc.out.mono ?_);rintro e w2 ⟨rfl,hb2⟩)|(go_at_call 311;(with_reducible refine(HC2.out _ hb2).mono ?_);rintro e w4 ⟨rfl,hb4⟩)|fail)
      go_ret;have hD:=(hS.out.grown hb2).grown hb4;exact⟨b,ys,rfl,hD.len,hD.perm,hD.out,hD.ex.stop LO.out HM.out HLL2.out,hD.qa,hD.gr⟩
     ·go_upto_region 9 with(first|(go_at_call 311;(with_reducible refine hc.out.mono ?_);rintro e w2 ⟨rfl,hb2⟩)|(go_at_call 311;(with_reducible refine(HC2.out _ hb2).mono ?_);rintro e w4 ⟨rfl,hb4⟩)|fail)
      have hD:=(hS.out.grown hb2).grown hb4;have hsw:=zfP q w4 _ hD.qa.q0;have hxl:=hD.qa.xlen;unfold maxLen at hxl;have HC:=yc (ze1 (zdH rs) ys base g cap i J (fN ys i) (fN ys J) w4 hD.qa.own (zcl (by have:=HM.out.2.1;omega)) (zcl (by have:=HM.out.2.1;omega)) (by omega))
      rw[hle]at HC;have HDD:=yc hD;have hjn:=HM.out.2.1;clear hD hxl hb4 hb2
      go_wp2_with (first|(go_at_call 313;(with_reducible refine HC.out.mono ?_);rintro e w5 ⟨rfl,ho5,hg5⟩)|fail)
      go_roundw
      case rel=>exact⟨J,_,rfl,by omega,HDD.out.swap hn HM.out HLL2.out (by rw[hle];exact ho5) hg5⟩
      case measure=>simp[intOf];omega
    ·have HM:Hid (zd0 (ltQ cs os) (fN ys) n i J2):=⟨.inr (by have:=HJ.out;have:=HJ2.out;omega),hl2,fun c hc1 hc2=>by
      have h1:=HJ.out;have h2:=HJ2.out
      rcases hc1 with hc1|hc1
      ·obtain rfl:c=J:=by omega
       exact LO.out.asym _ _ HLL.out
      ·obtain rfl:c=J2:=by omega
       exact ziC LO.out _⟩
     have hc2:=yc (HL.out ys);obtain⟨L2,hL2⟩:∃L,ltQ cs os (fN ys J2) (fN ys i)=L:=⟨_,rfl⟩
     have HC2:Hid (∀W,Below wr.heap.size wr W->Calls ye 311 #[.pointer (some ⟨q,0,none⟩),.int .i64 (J2:Int),.int .i64 (i:Int)] W fun e w'=>e= .returned (.bool L2)/\Below W.heap.size W w'):=fun W hW=>by
      rw[<-hL2];exact HL.out ys W J2 i (hS.out.qa.grown hW) (hS.out.grown hW).gr (by have:=HM.out.2.1;omega) (by have:=HM.out.2.1;omega)
     have HLL2:=yc hL2;clear hL2 hc2;cases L2
     ·obtain⟨b,hb⟩:∃b,decide (i0<i)=b:=⟨_,rfl⟩
      go_wp2_with (first|(go_at_call 311;(with_reducible refine hc.out.mono ?_);rintro e w2 ⟨rfl,hb2⟩)|(go_at_call 311;(with_reducible refine(HC2.out _ hb2).mono ?_);rintro e w4 ⟨rfl,hb4⟩)|fail)
      go_ret;have hD:=(hS.out.grown hb2).grown hb4;exact⟨b,ys,rfl,hD.len,hD.perm,hD.out,hD.ex.stop LO.out HM.out HLL2.out,hD.qa,hD.gr⟩
     ·go_upto_region 9 with(first|(go_at_call 311;(with_reducible refine hc.out.mono ?_);rintro e w2 ⟨rfl,hb2⟩)|(go_at_call 311;(with_reducible refine(HC2.out _ hb2).mono ?_);rintro e w4 ⟨rfl,hb4⟩)|fail)
      have hD:=(hS.out.grown hb2).grown hb4;have hsw:=zfP q w4 _ hD.qa.q0;have hxl:=hD.qa.xlen;unfold maxLen at hxl;have HC:=yc (ze1 (zdH rs) ys base g cap i J2 (fN ys i) (fN ys J2) w4 hD.qa.own (zcl (by have:=HM.out.2.1;omega)) (zcl (by have:=HM.out.2.1;omega)) (by omega))
      rw[hle]at HC;have HDD:=yc hD;have hjn:=HM.out.2.1;clear hD hxl hb4 hb2
      go_wp2_with (first|(go_at_call 313;(with_reducible refine HC.out.mono ?_);rintro e w5 ⟨rfl,ho5,hg5⟩)|fail)
      go_roundw
      case rel=>exact⟨J2,_,rfl,by omega,HDD.out.swap hn HM.out HLL2.out (by rw[hle];exact ho5) hg5⟩
      case measure=>simp[intOf];omega
   ·have q3:decide (J2<n)=false:=decide_eq_false hl2;have q3':decide ((J2:Int)<(n:Int))=false:=decide_eq_false (by omega)
    have HM : Hid (zd0 (ltQ cs os) (fN ys) n i J) := ⟨.inl (by have := HJ.out; omega), hlt, fun c hc1 hc2 => by
              have h1:=HJ.out;have h2:=HJ2.out
              rcases hc1 with hc1|hc1
              ·obtain rfl:c=J:=by omega
               exact ziC LO.out _
              ·omega⟩
    have hc2:=yc (HL.out ys);obtain⟨L2,hL2⟩:∃L,ltQ cs os (fN ys J) (fN ys i)=L:=⟨_,rfl⟩
    have HC2:Hid (∀W,Below wr.heap.size wr W->Calls ye 311 #[.pointer (some ⟨q,0,none⟩),.int .i64 (J:Int),.int .i64 (i:Int)] W fun e w'=>e= .returned (.bool L2)/\Below W.heap.size W w'):=fun W hW=>by
     rw[<-hL2];exact HL.out ys W J i (hS.out.qa.grown hW) (hS.out.grown hW).gr (by have:=HM.out.2.1;omega) (by have:=HM.out.2.1;omega)
    have HLL2:=yc hL2;clear hL2 hc2;cases L2
    ·obtain⟨b,hb⟩:∃b,decide (i0<i)=b:=⟨_,rfl⟩
     go_wp2_with (first|(go_at_call 311;(with_reducible refine(HC2.out _ (yh wr.heap.size wr)).mono ?_);rintro e w4 ⟨rfl,hb4⟩)|fail)
     go_ret;have hD:=(hS.out.grown (yh wr.heap.size wr)).grown hb4;exact⟨b,ys,rfl,hD.len,hD.perm,hD.out,hD.ex.stop LO.out HM.out HLL2.out,hD.qa,hD.gr⟩
    ·go_upto_region 9 with(first|(go_at_call 311;(with_reducible refine(HC2.out _ (yh wr.heap.size wr)).mono ?_);rintro e w4 ⟨rfl,hb4⟩)|fail)
     have hD:=(hS.out.grown (yh wr.heap.size wr)).grown hb4;have hsw:=zfP q w4 _ hD.qa.q0;have hxl:=hD.qa.xlen;unfold maxLen at hxl;have HC:=yc (ze1 (zdH rs) ys base g cap i J (fN ys i) (fN ys J) w4 hD.qa.own (zcl (by have:=HM.out.2.1;omega)) (zcl (by have:=HM.out.2.1;omega)) (by omega))
     rw[hle]at HC;have HDD:=yc hD;have hjn:=HM.out.2.1;clear hD hxl hb4
     go_wp2_with (first|(go_at_call 313;(with_reducible refine HC.out.mono ?_);rintro e w5 ⟨rfl,ho5,hg5⟩)|fail)
     go_roundw
     case rel=>exact⟨J,_,rfl,by omega,HDD.out.swap hn HM.out HLL2.out (by rw[hle];exact ho5) hg5⟩
     case measure=>simp[intOf];omega
  ·have q1:decide ((n:Int)<=(J:Int))=true:=decide_eq_true (by omega)
   obtain⟨b,hb⟩:∃b,decide (i0<i)=b:=⟨_,rfl⟩
   go_wp2_with fail
   go_ret;exact⟨b,ys,rfl,hS.out.len,hS.out.perm,hS.out.out,hS.out.ex.leaf (by have:=HJ.out;omega),hS.out.qa,hS.out.gr⟩
theorem znH(q:Nat)(v:Value)(w:World)(hc:w.cell? ⟨q,0,none⟩=some (.slice none 0 0)):Calls ye 93 #[.iface 158 (.pointer (some ⟨q,0,none⟩))] w fun e w'=>e= .returned (.tuple #[])/\w=w':=by
 have hm:=ziF q w _ hc;have HL:=yc (zeQ none 0 0 w)
 go_enter Tryz.func93,Tryz.ntmps93
 go_upto_region 1 with(first|(go_at_call 94;(with_reducible refine HL.out.mono ?_);rintro e w1 ⟨rfl,rfl⟩)|fail)
 go_wp2_with fail
 go_loopw [3] (fun v wr=>v= .int .i64 (-1)/\w=wr) (fun _ _=>0)
 case atStart=>exact⟨rfl,rfl⟩
 case round=>
  obtain⟨rfl,rfl⟩:=hrel
  go_wp2_with fail
  go_end0
  exact⟨rfl,rfl⟩
theorem zpb(cs:List CmpD)(os:List (ByteArray×JV))(rs:List RM)(pc:Option Addr)(nc cc base B q g cap:Nat)(xs:List Nat)(w:World)(env:QEnv w B cs os rs pc nc cc)(hB:B<=base)(hx:xs.length<=1000000000000)(hq:QAt w base q g cap rs pc nc cc xs):
 Calls ye 93 #[.iface 158 (.pointer (some ⟨q,0,none⟩))] w fun e w'=>∃ys,e= .returned (.tuple #[])/\ys.length=xs.length/\ys.Perm xs/\HeapF (ltQ cs os) (fN ys) xs.length 0/\QAt w' base q g cap rs pc nc cc ys/\w.grownBy w' (some g):=by
 have HENV:Hid (∀W,w.grownBy W (some g)->QEnv W B cs os rs pc nc cc):=fun W hg=>env.below (hq.keep hg hB)
 obtain⟨n,hn⟩:∃n,xs.length=n:=⟨_,rfl⟩;have HN:=yc hn;have hm:=ziF q w _ hq.q0;have HL:=yc (zeQ (some ⟨g,0,none⟩) xs.length cap w);rw[hn]at hm HL hx;rw[hn];have HQ:=yc hq;have n0:(0:Int)<=(n:Int):=yj _;have nb:(n:Int)<=1000000000000:=by omega
 obtain⟨h,hh⟩:∃h:Nat,n/2=h:=⟨_,rfl⟩;have hhe:(n:Int)/2=(h:Int):=by omega
 have hhn:h<=n:=by omega
 have h0:(0:Int)<=(h:Int):=yj _;have hb:(h:Int)<=1000000000000:=by omega
 have HH:=yc hh;clear hn hh env hq
 go_enter Tryz.func93,Tryz.ntmps93
 go_upto_region 1 with(first|(go_at_call 94;(with_reducible refine HL.out.mono ?_);rintro e w1 ⟨rfl,rfl⟩)|fail)
 go_wp2_with fail
 go_loopw [3] (fun v wr=>∃(j:Nat) (ys:List Nat),v= .int .i64 ((j:Int)-1)/\j<=h/\Hid (ys.length=n/\ys.Perm xs/\HeapF (ltQ cs os) (fN ys) n j/\QAt wr base q g cap rs pc nc cc ys/\w.grownBy wr (some g))) (fun v _=>(intOf v+1).toNat)
 case atStart=>exact⟨h,xs,by go_num,yd _,HN.out,yaV.refl _,by rw[<-HH.out];exact HeapF.none,HQ.out,World.grownBy.refl w _⟩
 case round=>
  obtain⟨j,ys,rfl,hjh,hS⟩:=hrel;cases j with
  | zero =>
    obtain⟨hl,hp,hf,hqa,hgr⟩:=hS.out;have e:((0:Nat):Int)-1= -1:=rfl;rw[e];clear hl hp hf hqa hgr
    go_wp2_with fail
    go_end0
    obtain⟨hl,hp,hf,hqa,hgr⟩:=hS.out;exact⟨ys,rfl,hl,hp,hf,hqa,hgr⟩
  | succ j =>
    obtain⟨hl,hp,hf,hqa,hgr⟩:=hS.out;have e:((j+1:Nat):Int)-1=(j:Int):=by omega
    rw[e];have j0:(0:Int)<=(j:Int):=yj _;have jb:(j:Int)<=1000000000000:=by omega
    have q1:decide ((0:Int)<=(j:Int))=true:=decide_eq_true j0;have HD:=yc (zjW cs os rs pc nc cc base B q g cap j n j ys wr (HENV.out wr hgr) hB (by omega) (by omega) (by omega) ⟨rfl,yaV.refl _,fun _ _=>rfl,HeapEx.start hf,hqa,World.grownBy.refl wr _⟩)
    have HP:=yc hp;have HG:=yc hgr;have HYL:=yc hl;clear hl hp hf hqa hgr hS e
    go_wp2_with (first|(go_at_call 159;(with_reducible refine HD.out.mono ?_);rintro e w2 ⟨b,zs,rfl,hz1,hz2,hz3,hz4,hz5,hz6⟩)|fail)
    go_roundw
    case rel=>exact⟨j,zs,by first|rfl|(simp;done)|(congr 1;omega)|trivial,by omega,hz1.trans HYL.out,hz2.trans HP.out,hz4,hz5,zfl HG.out hz6⟩
    case measure=>(simp[intOf]<;>omega)
end
section
open Go.RowKit Go.Shelf
attribute [local go_sem] Oper.semAt_some
def plF(pre:List (Nat×ByteArray))(s:List UInt8):Option Value:=(pre.reverse.find? (fun p=>decide (s=p.2.data.toList))).map (fun p=> .int .i64 (p.1:Int))
theorem zpF(pre:List (Nat×ByteArray))(x:Nat×ByteArray)(s:List UInt8):plF (pre++[x]) s=if s=x.2.data.toList then some (.int .i64 (x.1:Int))else plF pre s:=by
 unfold plF;rw[List.reverse_append,List.reverse_singleton,List.singleton_append,yav];by_cases h:s=x.2.data.toList
 ·simp[h]
 ·simp[h]
theorem zfy{α:Type}(xs:List α):(zQ xs xs.length).reverse=xs.zipIdx.map fun p=>(p.2,p.1):=by
 unfold zQ;rw[List.take_of_length_le (by simp),<-yaN,yaz]
theorem zky(s:ByteArray):∀(l:List ByteArray) (k:Nat),(((l.zipIdx k).map fun p=>(p.2,p.1)).find? (fun p=>decide (s.data.toList=p.2.data.toList))).map (fun p=>Value.int .i64 (p.1:Int))=(l.findIdx? (fun x=>decide (s=x))).map (fun i=>Value.int .i64 ((k+i:Nat):Int))
 |[],k=>rfl
 | x :: l, k => by
   have ih:=zky s l (k+1);rw[List.zipIdx_cons,yaF,yav,List.findIdx?_cons];by_cases h:s=x
   ·subst h;simp
   ·have h2:¬s.data.toList=x.data.toList:=fun e=>h ((zfE _ _).1 e)
    simp only[h,h2,decide_false,Bool.false_eq_true,if_false];rw[ih,Option.map_map]
    congr 1
    funext i
    simp only[Function.comp_apply]
    congr 2
    omega
theorem zkE{α β:Type}(xs:List α)(g:α->β):(zQ xs xs.length).map (fun x=>(x.1,g x.2))=zQ (xs.map g) (xs.map g).length:=by
 rw[<-yaz ((zQ xs xs.length).map _),<-yaN,zfy,<-yaz (zQ (xs.map g) _),zfy,List.zipIdx_map,yak,yak]
 rfl
def plV(l:List ByteArray)(s:ByteArray):Option Value:=(l.findIdx? (fun x=>decide (s=x))).map (fun(i:Nat)=>Value.int .i64 (i:Int))
theorem zra(l:List ByteArray)(s:ByteArray):plF (zQ l l.length) s.data.toList=plV l s:=by
 unfold plF plV;rw[zfy,zky];simp only[Nat.zero_add]
def PlI(w:World)(v0:Value)(pre:List (Nat×OkS))(W:World):Prop:=
 (∃f,MapF W ye 9 w.heap.size pre.length f/\∀s,f s=plF (pre.map fun x=>(x.1,x.2.1)) s)/\Boxed W (w.heap.size+1) 82 (.map (some w.heap.size))/\Boxed W (w.heap.size+1+1) 42 v0/\Below w.heap.size w W
theorem PlI.own(w:World)(v0:Value)(B:Nat)(hB:w.heap.size<B):OwnFrom B (PlI w v0):=by
 rintro pre X Y row ⟨⟨f,h1,h2⟩,b1,b2,hb⟩ hg hr;refine⟨⟨f,h1.kept hg (fun e=>by have:=(hr _ e.symm).1;omega),h2⟩,boxed_own _ _ (fun(_:Unit)=>_) () X Y row b1 hg (fun r e=>(hr r e).2),boxed_own _ _ (fun(_:Unit)=>_) () X Y row b2 hg (fun r e=>(hr r e).2),?_⟩
 exact hb.grown hg hb.size (fun k e=>by have:=(hr k e).1;omega)
theorem zlc(w:World)(v0:Value)(xs:List OkS)(hv0:Rd w w.heap.size zjF 1 v0 xs)(hlen:xs.length<=1000000):
 Calls ye 40 #[v0] w fun e w'=>∃b f,e= .returned (.map (some b))/\w.heap.size<=b/\MapF w' ye 9 b xs.length f/\(∀s,f s.data.toList=plV (xs.map (·.1)) s)/\Below w.heap.size w w':=by
 refine(callsIn_wide (n:=6)).1 ?_;obtain⟨F,hFw,hF,hro⟩:∃F:Fence,F=Fence.wide/\(∀g,F.fn g)/\F.round=none:=⟨_,rfl,fun _=>trivial,rfl⟩
 obtain⟨n,hn,hn6⟩:∃n:Nat,6<=n/\6=n:=⟨6,by omega,rfl⟩
 rw[<-hFw];rw[hn6];have HF:=yc hFw;clear hFw hn6;have h1:1<=n:=by omega
 have hmm:∀(n:Int) (w:World),(Instr.makeMap 82 (some (.int .i64 n))).run ye w= .ok (.map (some w.heap.size)) (w.alloc (.map #[] 0)):=fun n w=>zgw Tryz.underlying82 n w
 refine callsIn_of_wp_marks Tryz.func40 rfl (hF _) ?_ hro;simp only[Tryz.ntmps40,List.size_toArray,List.length_cons,List.length_nil,Nat.reduceAdd,Nat.reduceSub,Array.replicate_succ,Array.replicate_zero,List.push_toArray,List.append_toArray,List.nil_append,List.cons_append];obtain⟨pa,ca,hve,_,_⟩:=zfq hv0;have HVE:=yc hve;have hsl:∃a len cap,v0= .slice a len cap:=⟨_,_,_,hve⟩;have HV:=yc hv0;have HS:=yc hsl;subst hve;clear hv0 hsl
 gi_wp2_with (gi_at_call 81;refine(zoK F (n-1) (hF _) hro _ _ HS.out).mono ?_;rintro e w' ⟨rfl,rfl⟩)
 obtain⟨W0,hW0⟩:∃W0,(((w.alloc (.map #[] 0)).alloc (.cells #[.map (some w.heap.size)] 82)).alloc (.cells #[.slice pa xs.length ca] 42))=W0:=⟨_,rfl⟩
 have hI0:PlI w (.slice pa xs.length ca) [] W0/\W0.heap.size=w.heap.size+3:=by
  rw[<-hW0];have bm:=(((MapF.made w ye 9).alloc (.cells #[.map (some w.heap.size)] 82)).alloc (.cells #[.slice pa xs.length ca] 42));have b1:=(Boxed.new (w.alloc (.map #[] 0)) 82 (.map (some w.heap.size))).alloc (.cells #[.slice pa xs.length ca] 42);have b2:=Boxed.new ((w.alloc (.map #[] 0)).alloc (.cells #[.map (some w.heap.size)] 82)) 42 (.slice pa xs.length ca);simp only[World.size_alloc]at b1 b2;exact⟨⟨⟨_,bm,fun s=>rfl⟩,b1,b2,(((yh _ w).alloc (yd _) _).alloc (by simp) _).alloc (by simp;omega) _⟩,by simp⟩
 rw[hW0];clear hW0;obtain⟨hI,hs0⟩:=hI0;have bS0:=hI.2.2.1
 refine wpIn_rangeFunc_ownH hro h1 (gf:=132) (lb:=#[.pointer (some ⟨w.heap.size+1+1,0,none⟩)]) rfl (hF _) (enters_of Tryz.func132 (by kernel_rfl) rfl)
  (zkD F (n-1) (hF _) hro (by omega) (w.heap.size+1+1) w.heap.size (.slice pa xs.length ca) xs (by omega) W0 (by omega) (by omega) bS0.cell (HV.out.below hI.2.2.2 (yd _))) Kq.trans (Kq.book (by omega) (by omega)) (yh _ _) (fun _=>rfl)
  (PlI w (.slice pa xs.length ca))
  (fun _ _ _=>False)
  (PlI.own w _ _ (by omega))
  (fun _ _ _ _ _ hs _ _=>hs)
  hI
  (fun x a' _=>a'={tmps:=#[.slice pa xs.length ca,undef,.map none,.pointer (some ⟨w.heap.size+1,0,none⟩),.int .i64 (x.1:Nat),.string x.2.1,.slice pa xs.length ca,.int .i64 (xs.length:Int),.map (some w.heap.size),.slice pa xs.length ca,.func (.func 132) #[] #[.pointer (some ⟨w.heap.size+1+1,0,none⟩)],.int .i64 (x.1:Nat),.string x.2.1,undef,undef,undef,undef],defers:=[]})
  (fun _ _ _ _ _ _ hs _ _=>hs)
  ?assign ?body ?done ?stop
 case assign=>
  rintro l pre x W K hi hK
  gi_wp2
  exact hK _ _ (KeepsFrom.refl _ _) (Kq.refl _ _ _) hi rfl
 case body=>
  rintro l pre x a' W hl-hi rfl hlt;obtain⟨⟨f,hm,hf⟩,b1,b2,hb⟩:=id hi;obtain⟨k,⟨s,hx⟩⟩:=x;have c1:=b1.cell;have HB:=yc hb;have HF2:=yc hf;have hn0:pre.length<maxLen:=by unfold maxLen;omega
  clear hi hb bS0 hI hf
  gi_wp2_with (gi_at_mapUpdate;refine zeR _ rfl _ _ _ _ rfl 9 2 Tryz.underlying9 Tryz.underlying82 _ _ f rfl hm hn0 s rfl hx (.int .i64 (k:Int)) rfl ?_;intro w2 hM2 hg2)
  have T:Trn w.heap.size w.heap.size W w2:=Trn.grown HB.out.size hg2 (fun r e=>⟨by cases e;exact yd _,fun o ho hk=>by
   cases e;obtain⟨es,c,hmo⟩:=hm.obj;rw[hmo]at ho;cases ho;exact hk rfl⟩)
  refine⟨T.from (by omega),⟨T.below,?_⟩,⟨_,by simpa using hM2,fun s'=> ?_⟩,T.boxed b1 (by decide),T.boxed b2 (by decide),HB.out.trans T.below⟩
  ·exact(T.boxed b2 (by decide)).trans b2.symm
  ·rw[List.map_append,List.map_singleton,zpF,HF2.out]
 case done=>
  rintro D ys W hD rfl hi hK;obtain⟨⟨f,hm,hf⟩,b1,b2,hb⟩:=hi;have c1:=b1.cell;rw[zcS _ _ (yd _)]at hm;have HM:=yc hm;have HB:=yc hb;have HFF:=yc hf;have HK:=yc hK;clear hm hb bS0 hI hK hf b2
  gi_wp2
  refine⟨by simp,.inl ⟨_,_,rfl,run_takeDeferred HK.out,?_⟩⟩
  refine⟨_,results_tmp rfl _ _ _,w.heap.size,f,rfl,yd _,?_,fun s=>by rw[HFF.out,zkE];exact zra _ s,?_⟩
  ·exact HM.out.of_block (World.putObj_heap_other (by have:=HM.out.lt;omega))
  ·exact HB.out.trans (belowK_b (w:=w) (yd _) W D _ _ (by omega) HK.out rfl rfl)
 case stop=>
  rintro D c pre W _ _ h _;exact h.elim
theorem zmw(w:World)(v:Value)(l:List ByteArray)(hv:Rd w w.heap.size zg 1 v l)(hlen:l.length<=1000000)(hs:∀s∈l,s.size<=maxLen):
 Calls ye 40 #[v] w fun e w'=>∃b f,e= .returned (.map (some b))/\w.heap.size<=b/\MapF w' ye 9 b l.length f/\(∀s,f s.data.toList=plV l s)/\Below w.heap.size w w':=by
 obtain⟨xs,hxs⟩:∃xs:List OkS,xs.map (·.1)=l:=⟨l.attach.map fun e=>⟨e.1,hs e.1 e.2⟩,by rw[yak];exact List.attach_map_subtype_val l⟩
 have hr':Rd w w.heap.size zjF 1 v xs:=by rw[<-hxs]at hv;exact Rd.of_image (enc:=zg) hv
 have hl:xs.length=l.length:=by rw[<-hxs];simp
 have h:=zlc w v xs hr' (by omega)
 rw[hxs,hl]at h;exact h
end
section
open Go.RowKit Go.OpenShut
noncomputable def zbZ(b:BoxD)(k:Int)(id:ByteArray)(v:JV):BoxD×Int:=if k=1 then zbF b id v else if k=2 then zcy b id else(b,81)
noncomputable def zR(b:BoxD)(k:Int)(id:ByteArray)(v:JV):BoxD:=if(zbZ b k id v).2=0 then(zbZ b k id v).1 else b
open Classical in
noncomputable def cnt(k:Int)(v:JV)(o:Option JV):Int:=
 if k=1 then(match o with|some u=>if SameT u v then 0 else 1|none=>1)else if k=2 then(match o with|some _=>1|none=>0)else 0
theorem zqt{l:List En}{floor keep:Int}{e:En}(hl:∀x∈l,x.ok)(he:e.ok)(hf:(Lit.int .i64 floor).wf=true):(Lit.int .i64 (zdB l floor keep e)).wf=true:=by
 unfold zdB
 split
 ·exact hf
 ·cases hx:(l++[e])[zbs l.length keep-1]? with
  |none=>decide
  | some x =>
    have hm:=ym hx
    rcases yT.1 hm with h|h
    ·exact(hl x h).1
    ·simp at h;subst h;exact he.1
theorem zip{b:BoxD}{os:Obs}{id:ByteArray}{what:Int}(ob:b.Ok)(hl:∀x∈b.trail,x.ok)(hs:b.seq<9007199254740991)(ht:b.trail.length<=1000)(hid:id.size<=140737488351232)(hw:(Lit.int .i64 what).wf=true)(h1:os.length<=1466015503658)
 (h2:∀p∈os,p.1.size<=140737488351232/\p.2.Ok):(zeG b os id what).Ok:=by
 have hsw:=zgE ob.seq;have hq:(Lit.int .i64 (b.seq+1)).wf=true:=zmZ (by omega) (by omega)
 have he:En.ok ⟨b.seq+1,id,what⟩:=⟨hq,(show id.size<=maxLen by unfold maxLen;omega),hw⟩
 refine⟨h1,h2,?_,hq,zqt hl he ob.floor,ob.keep⟩
 show((b.trail++[_]).drop _).length<=_
 rw[yF,yp];simp;omega
theorem zfA(b:BoxD)(os:Obs)(id:ByteArray)(what:Int):(zeG b os id what).trail.length<=b.trail.length+1:=by
 show((b.trail++[_]).drop _).length<=_
 rw[yF,yp];simp
theorem zoX{b:BoxD}{k:Int}{id:ByteArray}{v:JV}(ob:b.Ok)(hl:∀x∈b.trail,x.ok)(ho:b.objs.length<=1000)(ht:b.trail.length<=1000)(hid:id.size<=140737488351232)(ov:v.Ok):
 (zR b k id v).Ok/\(zR b k id v).objs.length<=b.objs.length+1/\(zR b k id v).trail.length<=b.trail.length+1:=by
 have base:b.Ok/\b.objs.length<=b.objs.length+1/\b.trail.length<=b.trail.length+1:=⟨ob,by omega,by omega⟩
 have hlow:=zlH b.objs id;unfold zR zbZ;by_cases k1:k=1
 ·subst k1;rw[if_pos rfl];unfold zbF;by_cases ha:zbj b.objs id=true
  ·rw[if_pos ha];by_cases hsm:SameT (zgt b.objs id) v
   ·rw[if_pos hsm];simp only[if_pos];exact base
   ·rw[if_neg hsm];by_cases hns:9007199254740991<=b.seq
    ·rw[if_pos hns];simp only[if_neg (show¬(180:Int)=0 by decide)]
     exact base
    ·rw[if_neg hns];simp only[if_pos];refine⟨zip ob hl (by omega) ht hid (by decide) (by simp;omega) (fun p hp=> ?_),?_,zfA _ _ _ _⟩
     ·rcases List.mem_or_eq_of_mem_set hp with h|rfl
      ·exact ob.each p h
      ·exact⟨hid,ov⟩
     ·show(b.objs.set _ _).length<=_
      simp
  ·rw[if_neg ha];by_cases ht2:ze4 b.trail id=true
   ·rw[if_pos ht2];simp only[if_neg (show¬(181:Int)=0 by decide)]
    exact base
   ·rw[if_neg ht2];by_cases hns:9007199254740991<=b.seq
    ·rw[if_pos hns];simp only[if_neg (show¬(180:Int)=0 by decide)]
     exact base
    ·rw[if_neg hns];simp only[if_pos];refine⟨zip ob hl (by omega) ht hid (by decide) (by simp;omega) (fun p hp=> ?_),?_,zfA _ _ _ _⟩
     ·rcases yT.1 hp with h|h
      ·exact ob.each p (List.mem_of_mem_take h)
      ·rcases List.mem_cons.1 h with rfl|h
       ·exact⟨hid,ov⟩
       ·exact ob.each p (List.mem_of_mem_drop h)
     ·show(b.objs.take _++_::b.objs.drop _).length<=_
      simp;omega
 ·rw[if_neg k1];by_cases k2:k=2
  ·subst k2;rw[if_pos rfl];unfold zcy;by_cases ha:zbj b.objs id=false
   ·rw[if_pos ha];simp only[if_neg (show¬(81:Int)=0 by decide)]
    exact base
   ·rw[if_neg ha];by_cases hns:9007199254740991<=b.seq
    ·rw[if_pos hns];simp only[if_neg (show¬(180:Int)=0 by decide)]
     exact base
    ·rw[if_neg hns];simp only[if_pos];refine⟨zip ob hl (by omega) ht hid (by decide) (by simp;omega) (fun p hp=> ?_),?_,zfA _ _ _ _⟩
     ·rcases yT.1 hp with h|h
      ·exact ob.each p (List.mem_of_mem_take h)
      ·exact ob.each p (List.mem_of_mem_drop h)
     ·show(b.objs.take _++b.objs.drop _).length<=_
      simp;omega
  ·rw[if_neg k2];simp only[if_neg (show¬(81:Int)=0 by decide)]
   exact base
theorem zkR{b:BoxD}{k:Int}{id:ByteArray}{v:JV}(ob:b.Ok)(hl:∀x∈b.trail,x.ok)(hid:id.size<=140737488351232):∀x∈(zR b k id v).trail,x.ok:=by
 have hsw:=zgE ob.seq
 have key:∀(os:Obs) (what:Int),(Lit.int .i64 what).wf=true->¬9007199254740991<=b.seq->∀x∈(zeG b os id what).trail,x.ok:=fun os what hw hs=>
  zjK hl ⟨zmZ (by show-9223372036854775808<=b.seq+1;omega) (by show b.seq+1<=_;omega),(show id.size<=maxLen by unfold maxLen;omega),hw⟩
 have act:(zbZ b k id v).2=0->∀x∈(zbZ b k id v).1.trail,x.ok:=by
  unfold zbZ zbF zcy;intro h;by_cases k1:k=1
  ·simp only[if_pos k1]at h⊢;by_cases ha:zbj b.objs id=true
   ·simp only[if_pos ha]at h⊢;by_cases hsm:SameT (zgt b.objs id) v
    ·simp only[if_pos hsm];exact hl
    ·simp only[if_neg hsm]at h⊢;by_cases hs:9007199254740991<=b.seq
     ·simp only[if_pos hs]at h;exact absurd h (by decide)
     ·simp only[if_neg hs];exact key _ _ (by decide) hs
   ·simp only[if_neg ha]at h⊢;by_cases ht:ze4 b.trail id=true
    ·simp only[if_pos ht]at h;exact absurd h (by decide)
    ·simp only[if_neg ht]at h⊢;by_cases hs:9007199254740991<=b.seq
     ·simp only[if_pos hs]at h;exact absurd h (by decide)
     ·simp only[if_neg hs];exact key _ _ (by decide) hs
  ·simp only[if_neg k1]at h⊢;by_cases k2:k=2
   ·simp only[if_pos k2]at h⊢;by_cases ha:zbj b.objs id=false
    ·simp only[if_pos ha]at h;exact absurd h (by decide)
    ·simp only[if_neg ha]at h⊢;by_cases hs:9007199254740991<=b.seq
     ·simp only[if_pos hs]at h;exact absurd h (by decide)
     ·simp only[if_neg hs];exact key _ _ (by decide) hs
   ·simp only[if_neg k2]at h;exact absurd h (by decide)
 unfold zR;by_cases h:(zbZ b k id v).2=0
 ·rw[if_pos h];exact act h
 ·rw[if_neg h];exact hl
theorem BoxAt.noStr{W:World}{g:Nat}{x:RB}(h:BoxAt W g x)(k:Nat)(s:ByteArray):W.cell? ⟨g,k,none⟩≠some (.string s):=by
 unfold BoxAt at h;rw[cell_of_row W g k _ _ _ h];intro e
 rcases k with _|_|_|_|_|k<;>simp at e
theorem Rd.unbox{α:Type}{enc:α->List Value}{sz:Nat}{w w':World}{B g:Nat}{v:Value}{xs:List α}{x:RB}(h:Rd w B enc sz v xs)(he:∀y,∃(j:Nat) (s:ByteArray),(enc y)[j]? =some (Value.string s))(hx:BoxAt w g x)(hg:w.grownBy w' (some g))(hB:B<=w.heap.size):Rd w' B enc sz v xs:=by
 obtain⟨p,cap,h1,h2,h3,h4,h5⟩:=h;refine⟨p,cap,h1,h2,h3,h4,fun a ha h0=> ?_⟩
 obtain⟨b,o,e,hb',hr⟩:=h5 a ha h0;refine⟨b,o,e,hb',fun i y hy j u hu=> ?_⟩
 have hne:b≠g:=by
  intro e;subst e;obtain⟨y,hy⟩:∃y,xs[0]? =some y:=⟨_,yf h0⟩;obtain⟨j,s,hj⟩:=he y;exact hx.noStr _ s (hr 0 y hy j _ hj)
 have hc:=hr i y hy j u hu;have hbl:=hg.block b (by omega) (by simpa using hne)
 unfold World.cell? at hc⊢;rw[hbl];exact hc
theorem strV(y:RV):∃(j:Nat) (s:ByteArray),(zbc y)[j]? =some (Value.string s):=⟨2,y.s,rfl⟩
theorem strM(y:RM):∃(j:Nat) (s:ByteArray),(zl y)[j]? =some (Value.string s):=⟨0,y.name,rfl⟩
theorem TreeOf.unbox{w w':World}{B g:Nat}{t:JV}{r:RV}{x:RB}(h:TreeOf w B t r)(hx:BoxAt w g x)(hg:w.grownBy w' (some g))(hB:B<=w.heap.size):TreeOf w' B t r:=by
 induction h with
 |mk hl el cl hm em cn cm ih1 ih2=>exact .mk (hl.unbox strV hx hg hB) el ih1 (hm.unbox strM hx hg hB) em cn ih2
theorem NewBox.unbox{W W':World}{base B g:Nat}{b:BoxD}{r x:RB}(h:NewBox W base B b r)(hx:BoxAt W g x)(hg:W.grownBy W' (Option.some g))(h1:(Value.slice r.po r.no r.co).ownBlock≠Option.some g)(h2:(Value.slice r.pt r.nt r.ct).ownBlock≠Option.some g)(hB:B<=W.heap.size):NewBox W' base B b r:=by
 obtain⟨ros,h3,h4⟩:=h.objs;refine⟨⟨ros,h3.keptR hg (fun k e e2=>by cases e2;exact h1 e),h4.len,h4.name,fun i p q hp hq=>(h4.val i p q hp hq).unbox hx hg hB⟩,h.trail.keptR hg (fun k e e2=>by cases e2;exact h2 e),h.ok,h.seq,h.floor,h.keep⟩
theorem strE(y:En):∃(j:Nat) (s:ByteArray),(zbh y)[j]? =some (Value.string s):=⟨1,y.id,rfl⟩
theorem BoxOf.unbox{W W':World}{g:Nat}{b:BoxD}{r x:RB}(h:BoxOf W W.heap.size b r)(hx:BoxAt W g x)(hg:W.grownBy W' (some g)):BoxOf W' W'.heap.size b r:=by
 have hz:=hg.size;obtain⟨ros,h3,h4⟩:=h.objs;refine⟨⟨ros,(h3.unbox strM hx hg (yd _)).mono hz,h4.len,h4.name,fun i p q hp hq=>((h4.val i p q hp hq).unbox hx hg (yd _)).mono hz⟩,rdE_iff.2 ⟨(rdE_iff.1 h.trail).1,((rdE_iff.1 h.trail).2.unbox strE hx hg (yd _)).mono hz⟩,h.seq,h.floor,h.keep⟩
structure DoS(w W:World)(r:RB)(o:RO)(x:RB):Prop where
 pre:PreS w W r o
 zero:BoxAt W (w.heap.size+1+1) RB.zero
 x:BoxAt W (w.heap.size+1+1+1) x
theorem DoS.go{w W W':World}{r:RB}{o:RO}{x:RB}(h:DoS w W r o x)(hb:Below W.heap.size W W'):DoS w W' r o x:=⟨h.pre.go hb,h.zero.under hb h.zero.lt,h.x.under hb h.x.lt⟩
theorem DoS.set{w W:World}{r:RB}{o:RO}{x:RB}(h:DoS w W r o x)(q:RB):DoS w (((((W.setCell ⟨(w.heap.size+1+1+1),0,none⟩ (.slice q.po q.no q.co)).setCell ⟨(w.heap.size+1+1+1),1,none⟩ (.slice q.pt q.nt q.ct)).setCell ⟨(w.heap.size+1+1+1),2,none⟩ (.int .i64 q.sq)).setCell ⟨(w.heap.size+1+1+1),3,none⟩ (.int .i64 q.fl)).setCell ⟨(w.heap.size+1+1+1),4,none⟩ (.int .i64 q.kp)) r o q:=by
 have hg:=zt W (w.heap.size+1+1+1) q;exact⟨h.pre.row hg (fun k e=>by cases e;omega),h.zero.kept hg (by omega),h.x.stored q⟩
theorem DoS.start(w:World)(r:RB)(o:RO):DoS w ((((w.alloc r.obj).alloc o.obj).alloc RB.zero.obj).alloc r.obj) r o r:=by
 refine⟨((PreS.start w r o).go (((yh _ _).alloc (yd _) _).alloc (by simp) _)),?_,?_⟩
 ·exact zb (by simp) (za (by simp))
 ·exact za (by simp)
def zgG(w:World)(d:BoxD)(e:Ending)(w':World):Prop:=∃q,e= .returned (RB.val q)/\BoxOf w' w'.heap.size d q/\Below w.heap.size w w'
noncomputable def zex(b:BoxD)(ops:List (RO×JV)):BoxD:=ops.foldl (fun d o=>zR d o.1.k o.1.id o.2) b
theorem zhY{b:BoxD}{ops:List (RO×JV)}{j:Nat}{o:RO×JV}(h:ops[j]? =some o):zex b (ops.take (j+1))=zR (zex b (ops.take j)) o.1.k o.1.id o.2:=by
 rw[List.take_add_one,h];simp[zex]
theorem zl8{b:BoxD}(k:Int)(id:ByteArray)(v:JV)(hr:ze6 b.objs):ze6 (zR b k id v).objs:=by
 unfold zR zbZ;by_cases k1:k=1
 ·subst k1;rw[if_pos rfl];unfold zbF;by_cases ha:zbj b.objs id=true
  ·rw[if_pos ha];by_cases hsm:SameT (zgt b.objs id) v
   ·rw[if_pos hsm];simp only[if_pos];exact hr
   ·rw[if_neg hsm];by_cases hns:9007199254740991<=b.seq
    ·rw[if_pos hns];simp only[if_neg (show¬(180:Int)=0 by decide)]
     exact hr
    ·rw[if_neg hns];simp only[if_pos];have e:b.objs.set (zx b.objs id) (id,v)=zdR b.objs id v:=by unfold zdR;rw[if_pos ha]
     rw[e];exact zfW hr id v
  ·rw[if_neg ha];by_cases ht2:ze4 b.trail id=true
   ·rw[if_pos ht2];simp only[if_neg (show¬(181:Int)=0 by decide)]
    exact hr
   ·rw[if_neg ht2];by_cases hns:9007199254740991<=b.seq
    ·rw[if_pos hns];simp only[if_neg (show¬(180:Int)=0 by decide)]
     exact hr
    ·rw[if_neg hns];simp only[if_pos];have e:b.objs.take (zx b.objs id)++(id,v)::b.objs.drop (zx b.objs id)=zdR b.objs id v:=by unfold zdR;rw[if_neg ha]
     rw[e];exact zfW hr id v
 ·rw[if_neg k1];by_cases k2:k=2
  ·subst k2;rw[if_pos rfl];unfold zcy;by_cases ha:zbj b.objs id=true
   ·rw[if_neg (show¬zbj b.objs id=false by rw[ha];decide)]
    by_cases hns:9007199254740991<=b.seq
    ·rw[if_pos hns];simp only[if_neg (show¬(180:Int)=0 by decide)]
     exact hr
    ·rw[if_neg hns];simp only[if_pos];have e:b.objs.take (zx b.objs id)++b.objs.drop (zx b.objs id+1)=zfF b.objs id:=by unfold zfF;rw[if_pos ha]
     rw[e];exact znq hr id
   ·rw[if_pos (show zbj b.objs id=false by simpa using ha)]
    simp only[if_neg (show¬(81:Int)=0 by decide)]
    exact hr
  ·rw[if_neg k2];simp only[if_neg (show¬(81:Int)=0 by decide)]
   exact hr
structure Good(d:BoxD)(a c:Nat):Prop where
 ok:d.Ok
 tr:∀x∈d.trail,x.ok
 rise:ze6 d.objs
 objs:d.objs.length<=a
 trail:d.trail.length<=c
theorem Good.does{d:BoxD}{a c:Nat}(h:Good d a c)(ha:a<=1000)(hc:c<=1000){o:RO}{t:JV}(ho:zlV o t):Good (zR d o.k o.id t) (a+1) (c+1):=by
 have h1:=zoX (k:=o.k) h.ok h.tr (by have:=h.objs;omega) (by have:=h.trail;omega) ho.1 ho.2
 exact⟨h1.1,zkR h.ok h.tr ho.1,zl8 _ _ _ h.rise,by have:=h.objs;omega,by have:=h.trail;omega⟩
theorem Good.play{b:BoxD}{a c:Nat}(h:Good b a c){ops:List (RO×JV)}(ho:∀o∈ops,zlV o.1 o.2)(ha:a+ops.length<=1000)(hc:c+ops.length<=1000):∀j,j<=ops.length->Good (zex b (ops.take j)) (a+j) (c+j)
 |0,_=>h
 | j + 1, hj => by
   have ih:=Good.play h ho ha hc j (by omega)
   obtain⟨o,hx⟩:∃x,ops[j]? =some x:=⟨_,yf (by omega)⟩
   rw[zhY hx];exact ih.does (by omega) (by omega) (ho o (ym hx))
structure PlS(w W:World)(q:RB):Prop where
 box:BoxAt W w.heap.size q
 zero:BoxAt W (w.heap.size+1) RB.zero
 below:Below w.heap.size w W
theorem PlS.go{w W W':World}{q:RB}(h:PlS w W q)(hb:Below W.heap.size W W'):PlS w W' q:=⟨h.box.under hb h.box.lt,h.zero.under hb h.zero.lt,h.below.trans (hb.mono h.below.size)⟩
theorem PlS.row{w W W':World}{q:RB}{g:Nat}(h:PlS w W q)(hg:W.grownBy W' (some g))(h1:w.heap.size+1<g):PlS w W' q:=⟨h.box.kept hg (by omega),h.zero.kept hg (by omega),h.below.grown hg h.below.size (fun k e=>by simp at e;omega)⟩
theorem PlS.set{w W:World}{q:RB}(h:PlS w W q)(p:RB):PlS w (((((W.setCell ⟨w.heap.size,0,none⟩ (.slice p.po p.no p.co)).setCell ⟨w.heap.size,1,none⟩ (.slice p.pt p.nt p.ct)).setCell ⟨w.heap.size,2,none⟩ (.int .i64 p.sq)).setCell ⟨w.heap.size,3,none⟩ (.int .i64 p.fl)).setCell ⟨w.heap.size,4,none⟩ (.int .i64 p.kp)) p:=by
 have hg:=zt W w.heap.size p;exact⟨h.box.stored p,h.zero.kept hg (by omega),h.below.grown hg h.below.size (fun k e=>by simp at e;omega)⟩
end
section
open Go Go.Shelf Go.RowKit Go.Lib Go.Sort
theorem ze8:∀ss:List (List UInt8),cellsOf zg (ss.map ofB)=ss.map encStr
 |[]=>rfl
 | s :: ss => by
   have:=ze8 ss;unfold cellsOf at this⊢;rw[yaF,List.flatMap_cons,this]
   rfl
theorem zeD(a b:List UInt8):(ltOf yZ a b=true)↔a<b:=by
 have h:=zkd (ofB a) (ofB b);unfold zA at h;unfold ltOf;rw[decide_eq_true_iff];simpa[ofB]using h
theorem zoQ:SWO (ltOf yZ) where
 irrefl x:=by
  rw[ya2];intro h;rw[zeD]at h;exact List.lt_irrefl x h
 trans x y z h1 h2:=by
  rw[zeD]at*;exact List.lt_trans h1 h2
 ntrans x y z h1 h2:=by
  rw[ya2,Ne,zeD]at*;exact ybk.2 (List.le_trans (ybk.1 h2) (ybk.1 h1))
theorem zl3(x y:List UInt8)(h1:ltOf yZ x y=false)(h2:ltOf yZ y x=false):x=y:=by
 rw[ya2,Ne,zeD]at h1 h2;exact List.le_antisymm (ybk.1 h2) (ybk.1 h1)
theorem zic(w:World)(base:Nat)(p:Option Addr)(n c:Nat)(ss:List ByteArray)(ho:Own w base 9 zg 1 (.slice p n c) ss)(hl:ss.length<4611686018427387904):
 Calls ye 42 #[.slice p n c,.func (.func 43) #[] #[]] w fun e w'=>e= .returned (.tuple #[])/\Own w' base 9 zg 1 (.slice p n c) (zb2 ss)/\w.grownBy w' (Value.slice p n c).ownBlock:=by
 have hrow:w.ownsRow base 9 1 (.slice p n c) ss.length (cellsOf zg ss):=ho
 have e0:(ss.map (·.data.toList)).map ofB=ss:=by
  rw[yak];have e:(ofB∘fun b:ByteArray=>b.data.toList)=id:=by funext b;exact znX b
  rw[e,List.map_id]
 have e1:cellsOf zg ss=(ss.map (·.data.toList)).map encStr:=by rw[<-ze8,e0]
 rcases hrow.2 with⟨hv,hn⟩|⟨g,cap,cur,hv,hbase,hb,h1,h2,h3,h4⟩
 ·simp only[Value.slice.injEq]at hv;obtain⟨rfl,rfl,rfl⟩:=hv;have:ss=[]:=yx hn;subst this;have hc:=AnyF.slices_SortFunc_none (P:=ye) (ρ:=zjd) {zh7 with} none 0 (.func (.func 43) #[] #[]) w
  change Calls ye 42 _ _ _ at hc;refine hc.mono fun e w' ⟨he,hw⟩=> ?_
  subst hw;have e:zb2 []=[]:=yx (zjc []);rw[e];exact⟨he,Own.nil _ _ _,World.grownBy.refl _ _⟩
 ·simp only[Value.slice.injEq]at hv;obtain⟨rfl,rfl,rfl⟩:=hv
  have hc:=Any.slices_SortFunc_total zh7 encStr (fun _=>rfl) yZ zoQ 43 #[] g 0 c (ss.map (·.data.toList)).toArray w (enters_of Tryz.func43 (by kernel_rfl) rfl)
   (CmpReads.lays fun m os dk _ x y=>(strings_Compare ⟨x.toArray⟩ ⟨y.toArray⟩ _).mono fun e w' ⟨he,hw⟩=>⟨by simpa using he,0,by rw[hw];rfl⟩)
   (holds_of_block hb (by rw[yy,<-e1];simpa using h4)) (Array.getElem?_eq_some_iff.1 hb).1 (by simpa using hl) zl3
  change Calls ye 42 _ _ _ at hc;rw[show(ss.map (·.data.toList)).toArray.size=ss.length by simp]at hc
  refine hc.mono fun e w' ⟨he,k,os,hw⟩=> ?_
  have hcmp:(fun x y:List UInt8=> !ltOf yZ y x)=fun x y=>decide (x<=y):=by
   funext x y
   by_cases h:y<x
   ·rw[(zeD y x).2 h];simp[List.not_le.2 h]
   ·have:ltOf yZ y x=false:=by rw[ya2,Ne,zeD];exact h
    rw[this];simp[ybk.1 h]
  rw[hcmp]at hw;simp only[List.toList_toArray]at hw;subst hw;refine⟨he,?_,grownBy_sorted _⟩;have:=ownsRow_sorted (base:=base) (n:=k) (os:=os) (ss:=ss.map (·.data.toList)) (ts:=(ss.map (·.data.toList)).mergeSort fun x y=>decide (x<=y)) (by simp) hbase hb (by simpa using h1) h2 h3
  rw[yy,<-ze8]at this;unfold Own;rw[zjc];exact this
end
end Go.Proofs.YtemofofnkchmeaaGreatDoor
