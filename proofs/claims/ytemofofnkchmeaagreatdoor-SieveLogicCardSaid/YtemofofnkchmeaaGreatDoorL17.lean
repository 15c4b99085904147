import Derived.Test.YtemofofnkchmeaaGreatDoorL04
import Derived.Test.YtemofofnkchmeaaGreatDoorL12
set_option linter.unusedSimpArgs false
set_option linter.unusedVariables false
set_option maxRecDepth 200000
set_option maxHeartbeats 8000000
namespace Go.Proofs.YtemofofnkchmeaaGreatDoor
open _root_.Int renaming natCast_nonneg->yj
open _root_.Go.Lib renaming hid->yc
open _root_.List renaming getElem?_cons_succ->yR,getElem?_cons_zero->yan,getElem?_eq_getElem->yf,take_length->yar,take_succ_cons->yI,take_zero->yM
open _root_.Nat renaming add_zero->yw,le_refl->yd,zero_le->yu
section
open Go Go.RowKit Go.OpenShut
theorem zpR{l:List JV}{j:Nat}{t:JV}(h:l[j]? =some t):zbN (l.take (j+1))=zbN (l.take j)+zr t:=by
 induction l generalizing j with
 |nil=>simp at h
 | cons a l ih =>
   cases j with
   | zero =>
     simp only[yan,Option.some.injEq]at h;subst h;simp[zbN]
   | succ j =>
     rw[yR]at h;rw[yI,yI];unfold zbN;rw[ih h];omega
theorem zpS{l:List (ByteArray×JV)}{j:Nat}{t:ByteArray×JV}(h:l[j]? =some t):zcg (l.take (j+1))=zcg (l.take j)+zr t.2:=by
 induction l generalizing j with
 |nil=>simp at h
 | cons a l ih =>
   obtain⟨a1,a2⟩:=a;cases j with
   | zero =>
     simp only[yan,Option.some.injEq]at h;subst h;simp[zcg]
   | succ j =>
     rw[yR]at h;rw[yI,yI];unfold zcg;rw[ih h];omega
theorem zmM(l:List JV)(j:Nat):zbN (l.take j)<=zbN l:=by
 induction l generalizing j with
 |nil=>simp
 | cons a l ih =>
   cases j with
   |zero=>rw[yM,zbN];exact yu _
   |succ j=>rw[yI,zbN,zbN];have:=ih j;omega
theorem zmN(l:List (ByteArray×JV))(j:Nat):zcg (l.take j)<=zcg l:=by
 induction l generalizing j with
 |nil=>simp
 | cons a l ih =>
   obtain⟨a1,a2⟩:=a;cases j with
   |zero=>rw[yM,zcg];exact yu _
   |succ j=>rw[yI,zcg,zcg];have:=ih j;omega
theorem zfX(N:Nat):∀(t:JV) (r:RV) (most:Nat) (w:World),SizeOf.sizeOf t<=N->most<=1000000->TreeOf w w.heap.size t r->t.Ok->
 Calls Tryz.prog 39 #[r.val,.int .i64 (most:Int)] w fun e w'=>∃c:Nat,e= .returned (.int .i64 (c:Int))/\(c<=most+140737488355328/\c<=zr t/\(c<=most->c=zr t))/\Below w.heap.size w w':=by
 induction N with
 |zero=>intro t r most w hN;cases t;simp at hN
 | succ N ih =>
   intro t r most w hN hmost ht ot;cases ht with
   | @mk _ l m rs rms hl el hcl hm em hcn hcm=>
   obtain⟨k,n,s,pl,nl,cl,pm,nm,cm⟩:=r;cases ot with
   |mk _ _ hss bl bm okl oks okm=>
   dsimp only[RV.val]at*;have eL:=zi hl;have eM:=zi hm
   have HT:Hid (∀(i:Nat) t q,l[i]? =some t->rs[i]? =some q->∀W,Below w.heap.size w W->∀(g:Nat) (k:Int),k=((most-g:Nat):Int)->Calls Tryz.prog 39 #[q.val,.int .i64 k] W fun e w'=>∃c:Nat,e= .returned (.int .i64 (c:Int))/\(c<=(most-g)+140737488355328/\c<=zr t/\(c<=most-g->c=zr t))/\Below W.heap.size W w'):=
    fun i t q h1 h2 W hb g k' hk=>by subst hk;exact ih t q (most-g) W (by have:=JV.lt_l (k:=k) (n:=n) (s:=s) (m:=m) h1;omega) (by omega) ((hcl i t q h1 h2).under hb hb.size) (okl i t h1)
   have HS:Hid (∀(i:Nat) p q,m[i]? =some p->rms[i]? =some q->∀W,Below w.heap.size w W->∀(g:Nat) (k:Int),k=((most-g:Nat):Int)->Calls Tryz.prog 39 #[q.v.val,.int .i64 k] W fun e w'=>∃c:Nat,e= .returned (.int .i64 (c:Int))/\(c<=(most-g)+140737488355328/\c<=zr p.2/\(c<=most-g->c=zr p.2))/\Below W.heap.size W w'):=
    fun i p q h1 h2 W hb g k' hk=>by subst hk;exact ih p.2 q.v (most-g) W (by have:=JV.lt_m (k:=k) (n:=n) (s:=s) (l:=l) h1;omega) (by omega) ((hcm i p q h1 h2).under hb hb.size) (okm i p h1)
   have HFT:Hid (zr (.mk k n s l m)=s.size+zbN l+zcg m):=by unfold Hid;rw[zr]
   have HL:=yc hl;have HM:=yc hm;have E1:Hid (l.length=nl/\rs.length=nl):=⟨by omega,by omega⟩
   have E2:Hid (m.length=nm/\rms.length=nm):=⟨by omega,by omega⟩
   have hnl:nl<=1759218604390:=by omega
   have hnm:nm<=1466015503658:=by omega
   have hst:s.size<=140737488355328:=by omega
   have hst0:(0:Int)<=((s.size:Nat):Int):=yj _;obtain⟨R,hR⟩:∃R,zr (.mk k n s l m)=R:=⟨_,rfl⟩;rw[hR]at HFT⊢;clear hR;have hA0:VAt (w.alloc (.cells #[.int .i64 k,.int .i64 n,.string s,.slice pl nl cl,.slice pm nm cm] 25)) w.heap.size ⟨k,n,s,pl,nl,cl,pm,nm,cm⟩:=za rfl;have hB0:Below w.heap.size w (w.alloc (.cells #[.int .i64 k,.int .i64 n,.string s,.slice pl nl cl,.slice pm nm cm] 25)):=(Below.refl _ _).alloc (yd _) _;clear ih hcl hcn hcm hl hm okl oks okm el em bl bm eL eM hN
   go_enter Tryz.func39,Tryz.ntmps39
   go_upto_region 1 with fail
   obtain⟨W0,hW0⟩:∃W0,(w.alloc (.cells #[.int .i64 k,.int .i64 n,.string s,.slice pl nl cl,.slice pm nm cm] 25))=W0:=⟨_,rfl⟩;rw[hW0]at hA0 hB0⊢;clear hW0;have hz:=hA0.lt;have c2:=hA0.cell 2 rfl;have c3:=hA0.cell 3 rfl;have c4:=hA0.cell 4 rfl;dsimp only at c2 c3 c4;clear hA0
   go_wp2_with fail
   go_loopw [5,6] (fun a i wr=>∃(g j:Nat),j<=nl/\g<=most+140737488355328/\Hid (g<=s.size+zbN (l.take j)/\(g<=most->g=s.size+zbN (l.take j)))/\a= .int .i64 (g:Int)/\i= .int .i64 j/\Below W0.heap.size W0 wr) (fun _ i _=>nl-(intOf i).toNat)
   case atStart=>exact⟨s.size,0,yu _,by omega,⟨by rw[yM];exact Nat.le_add_right _ _,fun _=>by(rw[yM,zbN];try omega)⟩,rfl,rfl,Below.refl _ _⟩
   case round=>
    obtain⟨g,j,hj,hgb,HG,rfl,rfl,hbr⟩:=hrel;have c3:=zc hbr hz c3;have hbw:Below w.heap.size w wr:=hB0.trans (hbr.mono hB0.size);obtain⟨wo,rfl⟩:∃wo:World,wo=wr:=⟨_,rfl⟩;have hg0:(0:Int)<=(g:Int):=yj _;by_cases hgo:j<nl/\g<=most
    ·obtain⟨hlt,hgm⟩:=hgo;obtain⟨tx,htx⟩:∃x,l[j]? =some x:=⟨_,yf (by have:=E1.out;omega)⟩
     obtain⟨x,hx⟩:∃x,rs[j]? =some x:=⟨_,yf (by have:=E1.out;omega)⟩
     obtain⟨b1,o1,rfl,hb1,hc1⟩:=zq (HL.out.below hbw (yd _)) hx;have f0:=hc1 0 _ rfl;have f1:=hc1 1 _ rfl;have f2:=hc1 2 _ rfl;have f3:=hc1 3 _ rfl;have f4:=hc1 4 _ rfl;rw[yw]at f0;have HC:=yc (HT.out j tx x htx hx);have hk0:(0:Int)<=(j:Int):=yj _;have hk1:(j:Int)<(nl:Int):=by omega
     have hgi:(g:Int)<=(most:Int):=by omega
     have hdg:decide ((g:Int)<=(most:Int))=true:=decide_eq_true hgi;have hzr:W0.heap.size<=wo.heap.size:=hbr.size;have HBR:=yc hbr;have HTK:=yc (zpR htx);clear hc1 htx hx hbr
     go_wp2_with (go_at_call 39;(with_reducible refine(HC.out _ hbw g _ ?num).mono ?_);(case num=>(first|omega|(rw[IntKind.wrap_i64];omega)));rintro e w1 ⟨c,rfl,⟨hc1',hc2',hc3'⟩,hb1'⟩;(have hcc:(0:Int)<=(c:Int):=yj _))
     go_roundw
     case rel=>
      obtain⟨hG1,hG2⟩:=HG.out;exact⟨g+c,j+1,by omega,by omega,⟨by rw[HTK.out];omega,fun h=>by rw[HTK.out,hG2 (by omega),hc3' (by omega)];omega⟩,by go_num,by go_num,HBR.out.trans (hb1'.mono (by omega))⟩
     case measure=>simp[intOf];omega
    ·have hz1:W0.heap.size<=wo.heap.size:=hbr.size;have c4:=zc hbr hz c4
     have HG1:Hid (g<=s.size+zbN l/\(g<=most->g=s.size+zbN l)):=by
      obtain⟨hG1,hG2⟩:=HG.out;have:=zmM l j;refine⟨by omega,fun h=> ?_⟩
      have hjn:j=nl:=by omega
      have hln:=E1.out.1;rw[hG2 h,hjn,<-hln,yar]
     clear HT HL E1 hbr HG;by_cases p1:j<nl
     all_goals (try(have hgm:¬g<=most:=fun h=>hgo ⟨p1,h⟩))
     all_goals (try(have hdg:decide ((g:Int)<=(most:Int))=false:=decide_eq_false (by omega)))
     all_goals clear hgo
     all_goals go_wp2_with fail
     all_goals clear c3
     all_goals (
     go_loopw [5,7] (fun a i wq=>∃(g j:Nat),j<=nm/\g<=most+140737488355328/\Hid (g<=s.size+zbN l+zcg (m.take j)/\(g<=most->g=s.size+zbN l+zcg (m.take j)))/\a= .int .i64 (g:Int)/\i= .int .i64 j/\Below wo.heap.size wo wq) (fun _ i _=>nm-(intOf i).toNat)
     case atStart=>exact⟨g,0,yu _,hgb,⟨by rw[yM,zcg];exact HG1.out.1,fun h=>by rw[yM,zcg];exact HG1.out.2 h⟩,rfl,rfl,Below.refl _ _⟩
     case round=>
      clear hgb hg0
      try clear hgm
      try clear hdg
      obtain⟨g,j,hj,hgb,HG,rfl,rfl,hbr⟩:=hrel;have hg0:(0:Int)<=(g:Int):=yj _;have hbw2:Below w.heap.size w wr:=hbw.trans (hbr.mono (by omega))
      have c4:=zc hbr (by omega) c4
      obtain⟨w3,rfl⟩:∃w3:World,w3=wr:=⟨_,rfl⟩;by_cases hgo:j<nm/\g<=most
      ·obtain⟨hlt,hgm⟩:=hgo;obtain⟨tx,htx⟩:∃x,m[j]? =some x:=⟨_,yf (by have:=E2.out;omega)⟩
       obtain⟨x,hx⟩:∃x,rms[j]? =some x:=⟨_,yf (by have:=E2.out;omega)⟩
       obtain⟨b1,o1,rfl,hb1,hc1⟩:=zq (HM.out.below hbw2 (yd _)) hx;have f0:=hc1 0 _ rfl;have f1:=hc1 1 _ rfl;have f2:=hc1 2 _ rfl;have f3:=hc1 3 _ rfl;have f4:=hc1 4 _ rfl;have f5:=hc1 5 _ rfl;rw[yw]at f0;have HC:=yc (HS.out j tx x htx hx);have hk0:(0:Int)<=(j:Int):=yj _;have hk1:(j:Int)<(nm:Int):=by omega
       have hgi:(g:Int)<=(most:Int):=by omega
       have hdg:decide ((g:Int)<=(most:Int))=true:=decide_eq_true hgi;have HBR:=yc hbr;have hzq:wo.heap.size<=w3.heap.size:=hbr.size;have HTK:=yc (zpS htx);clear hc1 htx hx hbr
       go_wp2_with (go_at_call 39;(with_reducible refine(HC.out _ hbw2 g _ ?num).mono ?_);(case num=>(first|omega|(rw[IntKind.wrap_i64];omega)));rintro e w1 ⟨c,rfl,⟨hc1',hc2',hc3'⟩,hb1'⟩;(have hcc:(0:Int)<=(c:Int):=yj _))
       go_roundw
       case rel=>
        obtain⟨hG1,hG2⟩:=HG.out;exact⟨g+c,j+1,by omega,by omega,⟨by rw[HTK.out];omega,fun h=>by rw[HTK.out,hG2 (by omega),hc3' (by omega)];omega⟩,by go_num,by go_num,HBR.out.trans (hb1'.mono (by omega))⟩
       case measure=>simp[intOf];omega
      ·have HG2:Hid (g<=R/\(g<=most->g=R)):=by
        obtain⟨hG1,hG2⟩:=HG.out;have:=zmN m j;unfold Hid;rw[HFT.out];refine⟨by omega,fun h=> ?_⟩
        have hjn:j=nm:=by omega
        have hln:=E2.out.1;rw[hG2 h,hjn,<-hln,yar]
       by_cases p1:j<nm
       all_goals (try(have hgm:¬g<=most:=fun h=>hgo ⟨p1,h⟩))
       all_goals (try(have hdg:decide ((g:Int)<=(most:Int))=false:=decide_eq_false (by omega)))
       all_goals clear hgo
       all_goals go_wp2_with fail
       all_goals go_ret
       all_goals exact⟨g,rfl,⟨hgb,HG2.out.1,HG2.out.2⟩,hbw2⟩)
end
end Go.Proofs.YtemofofnkchmeaaGreatDoor
