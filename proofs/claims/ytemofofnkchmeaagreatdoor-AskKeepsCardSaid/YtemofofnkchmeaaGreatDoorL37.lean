import Derived.Test.YtemofofnkchmeaaGreatDoorL34
import Derived.Test.YtemofofnkchmeaaGreatDoorL29
import Derived.Test.YtemofofnkchmeaaGreatDoorL36
import Derived.Deep.CutBlock
set_option linter.unusedSimpArgs false
set_option linter.unusedVariables false
set_option maxRecDepth 200000
set_option maxHeartbeats 8000000
namespace Go.Proofs.YtemofofnkchmeaaGreatDoor
open _root_.Array renaming getElem?_eq_some_iff->yl
open _root_.Go.RowKit.Below renaming refl->yh
open _root_.Go.Lib renaming hid->yc
open _root_.List renaming Pairwise->yaA,mem_cons->yA,nil_append->y6,not_mem_nil->y5
open _root_.Nat renaming le_refl->yd,le_trans->yg,zero_le->yu
open _root_.Go.Proofs.Tryz renaming prog->ye
section
open Go Go.RowKit Go.OpenShut
theorem KB.setBq{W W':World}(h:KB W.heap.size W W')(g:Nat)(q:RB)(hg:W.heap.size<=g):KB W.heap.size W (((((W'.setCell ⟨g,0,none⟩ (.slice q.po q.no q.co)).setCell ⟨g,1,none⟩ (.slice q.pt q.nt q.ct)).setCell ⟨g,2,none⟩ (.int .i64 q.sq)).setCell ⟨g,3,none⟩ (.int .i64 q.fl)).setCell ⟨g,4,none⟩ (.int .i64 q.kp)):=
 KB.mk (h.1.grown (zt W' g q) h.1.size (fun k e=>by simp at e;omega))
theorem zqY{W W':World}(h:KB W.heap.size W W')(g:Nat)(q:RB)(hg:W.heap.size<=g):Below W.heap.size W (((((W'.setCell ⟨g,0,none⟩ (.slice q.po q.no q.co)).setCell ⟨g,1,none⟩ (.slice q.pt q.nt q.ct)).setCell ⟨g,2,none⟩ (.int .i64 q.sq)).setCell ⟨g,3,none⟩ (.int .i64 q.fl)).setCell ⟨g,4,none⟩ (.int .i64 q.kp))/\∀b o,b<W.heap.size->World.cell? (((((W'.setCell ⟨g,0,none⟩ (.slice q.po q.no q.co)).setCell ⟨g,1,none⟩ (.slice q.pt q.nt q.ct)).setCell ⟨g,2,none⟩ (.int .i64 q.sq)).setCell ⟨g,3,none⟩ (.int .i64 q.fl)).setCell ⟨g,4,none⟩ (.int .i64 q.kp)) ⟨b,o,none⟩=W.cell? ⟨b,o,none⟩:=h.setBq g q hg
theorem znM{W W':World}(h:KB W.heap.size W W')(x y:Obj):Below W.heap.size W ((W'.alloc x).alloc y)/\∀b o,b<W.heap.size->World.cell? ((W'.alloc x).alloc y) ⟨b,o,none⟩=W.cell? ⟨b,o,none⟩:=h.step (((yh _ _).alloc (yd _) x).alloc (by simp) y)
def Ops3(W:World)(g:Nat)(r1 r2 r3:RV):Prop:=W.heap[g]? =some (.cells #[.int .i64 1,.string ⟨#[97]⟩,.int .i64 r1.k,.int .i64 r1.n,.string r1.s,.slice r1.pl r1.nl r1.cl,.slice r1.pm r1.nm r1.cm,.int .i64 1,.string ⟨#[98]⟩,.int .i64 r2.k,.int .i64 r2.n,.string r2.s,.slice r2.pl r2.nl r2.cl,.slice r2.pm r2.nm r2.cm,.int .i64 1,.string ⟨#[99]⟩,.int .i64 r3.k,.int .i64 r3.n,.string r3.s,.slice r3.pl r3.nl r3.cl,.slice r3.pm r3.nm r3.cm] 78 (0,0))
def Ops2(W:World)(g:Nat)(r4:RV):Prop:=W.heap[g]? =some (.cells #[.int .i64 1,.string ⟨#[98]⟩,.int .i64 r4.k,.int .i64 r4.n,.string r4.s,.slice r4.pl r4.nl r4.cl,.slice r4.pm r4.nm r4.cm,.int .i64 2,.string ⟨#[97]⟩,.int .i64 0,.int .i64 0,.string ⟨#[]⟩,.slice none 0 0,.slice none 0 0] 78 (0,0))
theorem zpI(W:World)(g:Nat)(r1 r2 r3:RV)(h:Ops3 W g r1 r2 r3)(h1:TreeOf W W.heap.size (zB dt1) r1)(h2:TreeOf W W.heap.size (zB dt2) r2)(h3:TreeOf W W.heap.size (zB dt3) r3):
 Calls ye 23 #[(zgs 0 9).val,.slice (some ⟨g,0,none⟩) 3 3] W (zgG W b23):=by
 have hg:g<W.heap.size:=(yl.1 h).1;have hr:Rd W W.heap.size zeU 7 (.slice (some ⟨g,0,none⟩) 3 3) ([(⟨1,qA,r1⟩,zB dt1),(⟨1,qB,r2⟩,zB dt2),(⟨1,qC,r3⟩,zB dt3)].map (·.1:RO×JV->RO)):=Rd.block (xs:=([⟨1,qA,r1⟩,⟨1,qB,r2⟩,⟨1,qC,r3⟩]:List RO)) zlz h rfl hg (show 3<=maxLen by decide)
 have hp:=zhX ⟨[],[],0,0,9⟩ (zgs 0 9) [(⟨1,qA,r1⟩,zB dt1),(⟨1,qB,r2⟩,zB dt2),(⟨1,qC,r3⟩,zB dt3)] _ W 0 0 (zq6 W _ 0 9) zo2 hr (fun o ho=>by
  simp only[yA,y5,or_false]at ho
  rcases ho with rfl|rfl|rfl
  ·exact⟨h1,by show qA.size<=_;decide,zd6 (by decide)⟩
  ·exact⟨h2,by show qB.size<=_;decide,zd6 (by decide)⟩
  ·exact⟨h3,by show qC.size<=_;decide,zd6 (by decide)⟩) (by simp) (by simp)
 rw[zpG]at hp;exact hp
theorem zo3:Good b23 3 3:=by
 refine⟨good23.1,fun x h=> ?_,?_,by decide,by decide⟩
 ·simp only[b23,yA,y5,or_false]at h
  rcases h with rfl|rfl|rfl<;>exact⟨by decide,by show ByteArray.size _<=_;decide,by decide⟩
 ·show yaA _ [(qA,zB dt1),(qB,zB dt2),(qC,zB dt3)]
  refine yaA.cons (fun y hy=> ?_) (yaA.cons (fun y hy=> ?_) (List.pairwise_singleton _ _))
  ·simp only[yA,y5,or_false]at hy
   rcases hy with rfl|rfl
   ·exact(show zA qA qB<0 by decide)
   ·exact(show zA qA qC<0 by decide)
  ·simp only[yA,y5,or_false]at hy
   rcases hy with rfl
   exact(show zA qB qC<0 by decide)
theorem zpJ(W:World)(g:Nat)(r4:RV)(q:RB)(hq:BoxOf W W.heap.size b23 q)(h:Ops2 W g r4)(h1:TreeOf W W.heap.size (zB dt4) r4):
 Calls ye 23 #[q.val,.slice (some ⟨g,0,none⟩) 2 2] W (zgG W c23):=by
 have hg:g<W.heap.size:=(yl.1 h).1;have hr:Rd W W.heap.size zeU 7 (.slice (some ⟨g,0,none⟩) 2 2) ([(⟨1,qB,r4⟩,zB dt4),(⟨2,qA,RV.zero⟩,zik)].map (·.1:RO×JV->RO)):=Rd.block (xs:=([⟨1,qB,r4⟩,⟨2,qA,RV.zero⟩]:List RO)) zlz h rfl hg (show 2<=maxLen by decide)
 have hp:=zhX b23 q [(⟨1,qB,r4⟩,zB dt4),(⟨2,qA,RV.zero⟩,zik)] _ W 3 3 hq zo3 hr (fun o ho=>by
  simp only[yA,y5,or_false]at ho
  rcases ho with rfl|rfl
  ·exact⟨h1,by show qB.size<=_;decide,zd6 (by decide)⟩
  ·exact⟨zeX _ _ 0 _,by show qA.size<=_;decide,zmn (by decide) (by decide)⟩) (by simp) (by simp)
 rw[zpH]at hp;exact hp
theorem zr7(w:World)(B:Nat)(u v:Value)(l:List ByteArray)(hu:Rd w B zg 1 u l)(hv:Rd w B zg 1 v l):Calls ye 25 #[u,v] w fun e w'=>e= .returned (.bool true)/\∃n,w'=w.drewN n:=(zga w B u v l l hu hv).mono (fun e w' h=>by rw[decide_eq_true rfl]at h;exact h)
theorem rdd23(W:World)(g h:Nat)(hab:W.heap[g]? =some (.cells #[.string ⟨#[97]⟩,.string ⟨#[98]⟩] 9 (0,0)))(had:W.heap[h]? =some (.cells #[.string ⟨#[98]⟩,.int .i64 0] 80 (0,0))):RdD W W.heap.size zjV ⟨some ⟨g,0,none⟩,2,2,some ⟨h,0,none⟩,1,1,2⟩:=
 ⟨Rd.block (xs:=[qA,qB]) zn hab rfl (yl.1 hab).1 (show 2<=maxLen by decide),Rd.block (xs:=[(qB,(0:Int))]) codecA had rfl (yl.1 had).1 (show 1<=maxLen by decide),rfl⟩
theorem zkA(w:World)(hall:AllAt w)(hmax:MaxAt w):Calls ye 16 #[] w fun e w'=>e= .returned (.bool true)/\Below w.heap.size w w':=by
 have HALL:Hid (∀W,Below w.heap.size w W->AllAt W/\MaxAt W):=fun W h=>⟨hall.below h,hmax.below h⟩
 clear hall hmax
 go_enter Tryz.func16,Tryz.ntmps16
 go_upto_region 2 with(first
  |(go_at_call 35;(with_reducible refine(zq7 0 9 _).mono ?_);rintro e w1 ⟨rfl,hb1⟩)
  |(go_at_call 36;(with_reducible refine(zfR ⟨#[50,48,48,49,45,48,49,45,48,49,84,48,48,58,48,48,58,48,48,90]⟩ _).mono ?_);rintro e w2 ⟨r1,rfl,ht1,hb2⟩)
  |(go_at_call 36;(with_reducible refine(zfR ⟨#[50,48,48,50,45,48,49,45,48,49,84,48,48,58,48,48,58,48,48,90]⟩ _).mono ?_);rintro e w3 ⟨r2,rfl,ht2,hb3⟩)
  |(go_at_call 36;(with_reducible refine(zfR ⟨#[50,48,48,51,45,48,49,45,48,49,84,48,48,58,48,48,58,48,48,90]⟩ _).mono ?_);rintro e w4 ⟨r3,rfl,ht3,hb4⟩)
  |(go_at_call 23;(have hba:=(yh w4.heap.size w4).alloc (yd _) (.cells #[.int .i64 1,.string ⟨#[97]⟩,.int .i64 r1.k,.int .i64 r1.n,.string r1.s,.slice r1.pl r1.nl r1.cl,.slice r1.pm r1.nm r1.cm,.int .i64 1,.string ⟨#[98]⟩,.int .i64 r2.k,.int .i64 r2.n,.string r2.s,.slice r2.pl r2.nl r2.cl,.slice r2.pm r2.nm r2.cm,.int .i64 1,.string ⟨#[99]⟩,.int .i64 r3.k,.int .i64 r3.n,.string r3.s,.slice r3.pl r3.nl r3.cl,.slice r3.pm r3.nm r3.cm] 78));refine(zpI (w4.alloc (.cells #[.int .i64 1,.string ⟨#[97]⟩,.int .i64 r1.k,.int .i64 r1.n,.string r1.s,.slice r1.pl r1.nl r1.cl,.slice r1.pm r1.nm r1.cm,.int .i64 1,.string ⟨#[98]⟩,.int .i64 r2.k,.int .i64 r2.n,.string r2.s,.slice r2.pl r2.nl r2.cl,.slice r2.pm r2.nm r2.cm,.int .i64 1,.string ⟨#[99]⟩,.int .i64 r3.k,.int .i64 r3.n,.string r3.s,.slice r3.pl r3.nl r3.cl,.slice r3.pm r3.nm r3.cm] 78)) w4.heap.size r1 r2 r3 (za rfl) ((ht1.under (hb3.trans (hb4.mono hb3.size)) (yg hb3.size hb4.size)).under hba hba.size) ((ht2.under hb4 hb4.size).under hba hba.size) (ht3.under hba hba.size)).mono ?_;rintro e w5 ⟨q,rfl,hq,hb5⟩))
 have hB5:Below w.heap.size w w5:=hb1.trans ((hb2.mono hb1.size).trans ((hb3.mono (yg hb1.size hb2.size)).trans ((hb4.mono (yg hb1.size (yg hb2.size hb3.size))).trans (((yh w4.heap.size w4).alloc (yd _) (.cells #[.int .i64 1,.string ⟨#[97]⟩,.int .i64 r1.k,.int .i64 r1.n,.string r1.s,.slice r1.pl r1.nl r1.cl,.slice r1.pm r1.nm r1.cm,.int .i64 1,.string ⟨#[98]⟩,.int .i64 r2.k,.int .i64 r2.n,.string r2.s,.slice r2.pl r2.nl r2.cl,.slice r2.pm r2.nm r2.cm,.int .i64 1,.string ⟨#[99]⟩,.int .i64 r3.k,.int .i64 r3.n,.string r3.s,.slice r3.pl r3.nl r3.cl,.slice r3.pm r3.nm r3.cm] 78)).mono (yg hb1.size (yg hb2.size (yg hb3.size hb4.size)))|>.trans (hb5.mono (yg hb1.size (yg hb2.size (yg hb3.size (yg hb4.size (by simp))))))))))
 obtain⟨po,no,co,pt,nt,ct,sq,fl,kp⟩:=q;obtain⟨gb,hgb⟩:∃g,w5.heap.size=g:=⟨_,rfl⟩;have hal:=(yh w5.heap.size w5).alloc (yd _) (.cells #[.slice po no co,.slice pt nt ct,.int .i64 sq,.int .i64 fl,.int .i64 kp] 40);have hX6:BoxAt (w5.alloc (.cells #[.slice po no co,.slice pt nt ct,.int .i64 sq,.int .i64 fl,.int .i64 kp] 40)) gb ⟨po,no,co,pt,nt,ct,sq,fl,kp⟩:=by rw[<-hgb];exact za rfl
 have hQ6:=hq.under hal hal.size;have hB6:=hB5.trans (hal.mono hB5.size);obtain⟨W6,hW6⟩:∃W,w5.alloc (.cells #[.slice po no co,.slice pt nt ct,.int .i64 sq,.int .i64 fl,.int .i64 kp] 40)=W:=⟨_,rfl⟩;dsimp only[RB.val]at*;rw[hW6]at hX6 hQ6 hB6
 try rw[hW6]
 try rw[hgb]
 clear hW6 hgb hal hB5 hq hb5 hb4 hb3 hb2 hb1 ht1 ht2 ht3;obtain⟨g6,hg6⟩:∃g,W6.heap.size=g:=⟨_,rfl⟩
 go_upto_region 4 with fail
 try rw[hg6]
 obtain⟨W7,hW7⟩:∃W,(((W6.alloc (.cells #[.int .i64 1,.int .i64 0,.string ⟨#[]⟩,.slice none 0 0,.slice none 0 0] 25)).alloc (.cells #[.string ⟨#[112,114,111,112,101,114,116,121]⟩,.int .i64 4,.int .i64 0,.string ⟨#[99,114,101,97,116,101,100]⟩,.slice none 0 0,.slice none 0 0] 35)).alloc (.cells #[.int .i64 6,.int .i64 0,.string ⟨#[]⟩,.slice none 0 0,.slice (some ⟨g6+1,0,none⟩) 1 1] 25)).alloc (.cells #[.int .i64 5,.int .i64 0,.string ⟨#[]⟩,.slice (some ⟨g6+1+1,0,none⟩) 1 1,.slice none 0 0] 25)=W:=⟨_,rfl⟩;have hN7:VAt W7 g6 ⟨1,0,⟨#[]⟩,none,0,0,none,0,0⟩:=by rw[<-hW7,<-hg6];exact zb (by first|(simp;done)|(simp;omega)) (zb (by first|(simp;done)|(simp;omega)) (zb (by simp) (za rfl)))
 have hM7:W7.heap[g6+1]? =some (.cells #[.string ⟨#[112,114,111,112,101,114,116,121]⟩,.int .i64 4,.int .i64 0,.string ⟨#[99,114,101,97,116,101,100]⟩,.slice none 0 0,.slice none 0 0] 35 (0,0)):=by rw[<-hW7,<-hg6];exact zb (by first|(simp;done)|(simp;omega)) (zb (by simp) (za (by simp)))
 have hV7:VAt W7 (g6+1+1) ⟨6,0,⟨#[]⟩,none,0,0,some ⟨g6+1,0,none⟩,1,1⟩:=by rw[<-hW7,<-hg6];exact zb (by simp) (za (by simp))
 have hL7:VAt W7 (g6+1+1+1) ⟨5,0,⟨#[]⟩,some ⟨g6+1+1,0,none⟩,1,1,none,0,0⟩:=by rw[<-hW7,<-hg6];exact za (by simp)
 have hbW7:Below W6.heap.size W6 W7:=by rw[<-hW7];exact(((((yh W6.heap.size W6).alloc (yd _) _).alloc (by simp) _).alloc (by first|(simp;done)|(simp;omega)) _).alloc (by first|(simp;done)|(simp;omega)) _)
 try rw[hW7]
 have hl7:=hL7.lt
 have hSO7:TreeOf W7 W7.heap.size so23 ⟨5,0,⟨#[]⟩,some ⟨g6+1+1,0,none⟩,1,1,none,0,0⟩:=znO ⟨[⟨6,0,⟨#[]⟩,none,0,0,some ⟨g6+1,0,none⟩,1,1⟩],Rd.one zb8 hV7 rfl (by omega),rfl,fun i t q h1 h2=>by
  cases i with
  |zero=>simp at h1 h2;subst h1 h2;exact zjM hM7 (by omega)
  |succ i=>simp at h1⟩
 have hBX7:=hX6.under hbW7 hX6.lt;have hQ7:=hQ6.under hbW7 hbW7.size;have hB7:=hB6.trans (hbW7.mono hB6.size);have hgbl:gb<g6:=by rw[<-hg6];exact hX6.lt
 have HVA:Hid (∀W,Below W7.heap.size W7 W->BoxAt W gb ⟨po,no,co,pt,nt,ct,sq,fl,kp⟩/\VAt W g6 ⟨1,0,⟨#[]⟩,none,0,0,none,0,0⟩/\VAt W (g6+1+1+1) ⟨5,0,⟨#[]⟩,some ⟨g6+1+1,0,none⟩,1,1,none,0,0⟩):=fun W h=>⟨hBX7.under h hBX7.lt,hN7.under h hN7.lt,hL7.under h hL7.lt⟩
 have HTR:Hid (∀W,Below W7.heap.size W7 W->BoxOf W W.heap.size b23 ⟨po,no,co,pt,nt,ct,sq,fl,kp⟩/\TreeOf W W.heap.size so23 ⟨5,0,⟨#[]⟩,some ⟨g6+1+1,0,none⟩,1,1,none,0,0⟩/\AllAt W/\MaxAt W):=fun W h=>⟨hQ7.under h h.size,hSO7.under h h.size,HALL.out W (hB7.trans (h.mono hB7.size))⟩
 have HB7:=yc hB7;have hBg:gb<W7.heap.size:=by omega
 have hBn:g6<W7.heap.size:=by omega
 obtain⟨a0,a1,a2,a3,a4⟩:=hBX7.cells5;obtain⟨n0,n1,n2,n3,n4⟩:=hN7.cells5;obtain⟨s0,s1,s2,s3,s4⟩:=hL7.cells5;dsimp only at a0 a1 a2 a3 a4 n0 n1 n2 n3 n4 s0 s1 s2 s3 s4;clear hW7 hg6 hN7 hM7 hV7 hL7 hbW7 hSO7 hBX7 hQ7 hB7 hX6 hQ6 hB6 HALL
 go_upto_region 5 with(go_at_call 22;refine(zeF b23 ⟨po,no,co,pt,nt,ct,sq,fl,kp⟩ nul23 so23 ⟨1,0,⟨#[]⟩,none,0,0,none,0,0⟩ ⟨5,0,⟨#[]⟩,some ⟨g6+1+1,0,none⟩,1,1,none,0,0⟩ W7 W7.heap.size (yd _) (HTR.out _ (yh _ _)).1 good23.1 (zeX _ _ 1 _) zkh (HTR.out _ (yh _ _)).2.1 zlS (by decide) vals23.1 (fun _=>rfl) (HTR.out _ (yh _ _)).2.2.1 (HTR.out _ (yh _ _)).2.2.2 (by decide)).mono ?_;rintro e w8 ⟨u,rfl,ho8,hb8⟩;rw[zr1]at ho8;obtain⟨pl,cl,hu,_,_⟩:=ho8.len;subst hu)
 have hk8:Below W7.heap.size W7 w8:=hb8;obtain⟨W8,hW8⟩:∃p:World,p=w8:=⟨_,rfl⟩;rw[<-hW8]at hk8 ho8⊢;have HO8:=yc ho8;have HK8:=yc hk8;have hva:=HVA.out W8 hk8;have ha8:=hva.1;have hn8:=hva.2.1;have hs8:=hva.2.2;have hBg8:gb<W8.heap.size:=ha8.lt;clear hW8 hb8 ho8 hk8 a0 a1 a2 a3 a4 n0 n1 n2 n3 n4 s0 s1 s2 s3 s4 hva;obtain⟨a0,a1,a2,a3,a4⟩:=ha8.cells5;dsimp only at a0 a1 a2 a3 a4;clear ha8 hn8 hs8;have HPL:Hid (∀W g r4,Below W8.heap.size W8 W->TreeOf W W.heap.size (zB dt4) r4->Ops2 W g r4->Calls ye 23 #[(RB.val ⟨po,no,co,pt,nt,ct,sq,fl,kp⟩),.slice (some ⟨g,0,none⟩) 2 2] W (zgG W c23)):=fun W g r4 hb ht ho=>zpJ W g r4 _ (HTR.out W (HK8.out.trans (hb.mono HK8.out.size))).1 ho ht
 have HZ1:Hid (BoxAt (W8.alloc (.cells #[.slice RB.zero.po RB.zero.no RB.zero.co,.slice RB.zero.pt RB.zero.nt RB.zero.ct,.int .i64 RB.zero.sq,.int .i64 RB.zero.fl,.int .i64 RB.zero.kp] 40)).drew W8.heap.size RB.zero):=za rfl;dsimp only[RB.zero]at HZ1;dsimp only[RB.val]at HPL
 go_cut [5]from 30 to 35 (fun v wr=>∃g q,v= .pointer (some ⟨g,0,none⟩)/\Hid (BoxAt wr g q/\BoxOf wr wr.heap.size c23 q/\Below W8.heap.size W8 wr))
 case first=>
  go_region_held3 (fun w'=>Below W8.heap.size W8 w'/\∀b o,b<W8.heap.size->w'.cell? ⟨b,o,none⟩=W8.cell? ⟨b,o,none⟩)
   (first|with_reducible exact ziA W8|with_reducible exact ziB hbk|with_reducible exact zph hbk _|with_reducible exact znM hbk _ _|with_reducible exact kt_da W8 _|(with_reducible refine zqY hbk _ _ ?_;first|exact yd _|(simp;omega)|omega))
   (first
    |(go_at_call 36;refine(zfR _ _).mono ?_;rintro e wN ⟨r4,rfl,ht4,hbN⟩;(have hbk:=KB.step (W:=W8) (by assumption) hbN);(have hsN:=(kbQ hbk).size);(have HT4:=yc ht4);(first|(have HZN:=yc (HZ1.out.under hbN HZ1.out.lt))|skip))
    |(go_at_call 23;refine(HPL.out _ _ r4 ?_ ?_ ?_).mono ?_;(first|exact(kbQ hbk).alloc (kbQ hbk).size _|exact((kbQ hbk).alloc (kbQ hbk).size _).alloc ((kbQ hbk).alloc (kbQ hbk).size _).size _);(first|exact HT4.out.under ((yh _ _).alloc (yd _) _) (by simp)|exact HT4.out.under (zM _ _ _) (zM _ _ _).size);(first|exact za rfl|exact zb (by simp) (za rfl)|exact za (by simp));rintro e w9 ⟨q9,rfl,hq9,hb9⟩;(have hbk:=KB.mk ((kbQ (KB.step (W:=W8) hbk (by first|exact(yh _ _).alloc (yd _) _|exact zM _ _ _))).trans (hb9.mono (kbQ (KB.step (W:=W8) hbk (by first|exact(yh _ _).alloc (yd _) _|exact zM _ _ _))).size)));(have HQ9:=yc hq9);(have hs9:=(kbQ hbk).size);(first|((have HZ9:=yc ((HZN.out.under ((yh _ _).alloc (yd _) (.cells #[.int .i64 1,.string ⟨#[98]⟩,.int .i64 r4.k,.int .i64 r4.n,.string r4.s,.slice r4.pl r4.nl r4.cl,.slice r4.pm r4.nm r4.cm,.int .i64 2,.string ⟨#[97]⟩,.int .i64 0,.int .i64 0,.string ⟨#[]⟩,.slice none 0 0,.slice none 0 0] 78)) HZN.out.lt).under hb9 (by have:=HZN.out.lt;simp;omega)));(obtain⟨z0,z1,z2,z3,z4⟩:=HZ9.out.cells5);(have y0:=HZ9.out.frozen 0);(have y1:=HZ9.out.frozen 1);(have y2:=HZ9.out.frozen 2);(have y3:=HZ9.out.frozen 3);(have y4:=HZ9.out.frozen 4);dsimp only[RB.zero]at z0 z1 z2 z3 z4)|((have HZ9:=yc ((show BoxAt ((wN.alloc (.cells #[.slice none 0 0,.slice none 0 0,.int .i64 0,.int .i64 0,.int .i64 0] 40)).alloc (.cells #[.int .i64 1,.string ⟨#[98]⟩,.int .i64 r4.k,.int .i64 r4.n,.string r4.s,.slice r4.pl r4.nl r4.cl,.slice r4.pm r4.nm r4.cm,.int .i64 2,.string ⟨#[97]⟩,.int .i64 0,.int .i64 0,.string ⟨#[]⟩,.slice none 0 0,.slice none 0 0] 78)) wN.heap.size RB.zero from zb (by simp) (za rfl)).under hb9 (by first|(simp;done)|(simp;omega))));(obtain⟨z0,z1,z2,z3,z4⟩:=HZ9.out.cells5);(have y0:=HZ9.out.frozen 0);(have y1:=HZ9.out.frozen 1);(have y2:=HZ9.out.frozen 2);(have y3:=HZ9.out.frozen 3);(have y4:=HZ9.out.frozen 4);dsimp only[RB.zero]at z0 z1 z2 z3 z4)|((have HZ9:=yc ((show BoxAt ((wN.alloc (.cells #[.int .i64 1,.string ⟨#[98]⟩,.int .i64 r4.k,.int .i64 r4.n,.string r4.s,.slice r4.pl r4.nl r4.cl,.slice r4.pm r4.nm r4.cm,.int .i64 2,.string ⟨#[97]⟩,.int .i64 0,.int .i64 0,.string ⟨#[]⟩,.slice none 0 0,.slice none 0 0] 78)).alloc (.cells #[.slice none 0 0,.slice none 0 0,.int .i64 0,.int .i64 0,.int .i64 0] 40)) (wN.heap.size+1) RB.zero from za (by simp)).under hb9 (by first|(simp;done)|(simp;omega))));(obtain⟨z0,z1,z2,z3,z4⟩:=HZ9.out.cells5);(have y0:=HZ9.out.frozen 0);(have y1:=HZ9.out.frozen 1);(have y2:=HZ9.out.frozen 2);(have y3:=HZ9.out.frozen 3);(have y4:=HZ9.out.frozen 4);dsimp only[RB.zero]at z0 z1 z2 z3 z4)|skip)))
  all_goals (
   go_wp2_with fail
   go_meet
   first
    | (have hz := HZ9
       exact⟨_,q9,rfl,hz.out.stored q9,HQ9.out.unbox hz.out (zt _ _ q9),(KB.setBq hbk _ _ (by first|exact yd _|omega|(simp;omega))).1⟩)
    |exact⟨_,q9,rfl,za rfl,HQ9.out.under ((yh _ _).alloc (yd _) _) (by simp),(KB.step (W:=W8) hbk ((yh _ _).alloc (yd _) _)).1⟩)
 case rest=>
 obtain⟨g5,q5,rfl,hx⟩:=hcut;obtain⟨qo,qn,qc,qt,qnt,qct,qs,qf,qk⟩:=q5;have HK9:Hid (Below W7.heap.size W7 wc):=HK8.out.trans (hx.out.2.2.mono HK8.out.size);have hva:=HVA.out wc HK9.out;have hn9:=hva.2.1;have hs9:=hva.2.2;have hx5:=hx.out.1;obtain⟨a0,a1,a2,a3,a4⟩:=hx5.cells5;obtain⟨n0,n1,n2,n3,n4⟩:=hn9.cells5;obtain⟨s0,s1,s2,s3,s4⟩:=hs9.cells5;dsimp only at a0 a1 a2 a3 a4 n0 n1 n2 n3 n4 s0 s1 s2 s3 s4;have HX5:=yc hx5;have HQ5:=yc hx.out.2.1;have HB9:=yc hx.out.2.2
 have HTR5:Hid (∀W,Below wc.heap.size wc W->BoxAt W g5 ⟨qo,qn,qc,qt,qnt,qct,qs,qf,qk⟩/\BoxOf W W.heap.size c23 ⟨qo,qn,qc,qt,qnt,qct,qs,qf,qk⟩/\TreeOf W W.heap.size so23 ⟨5,0,⟨#[]⟩,some ⟨g6+1+1,0,none⟩,1,1,none,0,0⟩/\AllAt W/\MaxAt W):=fun W h=>by
  have h9:=HK9.out.trans (h.mono HK9.out.size);have ht:=HTR.out W h9;exact⟨HX5.out.under h HX5.out.lt,HQ5.out.under h h.size,ht.2.1,ht.2.2.1,ht.2.2.2⟩
 have HCH:Hid (∀W most,Below wc.heap.size wc W->Calls ye 18 #[(RB.val ⟨qo,qn,qc,qt,qnt,qct,qs,qf,qk⟩),(RV.val ⟨1,0,⟨#[]⟩,none,0,0,none,0,0⟩),(RV.val ⟨5,0,⟨#[]⟩,some ⟨g6+1+1,0,none⟩,1,1,none,0,0⟩),.int .i64 3,.int .i64 most] W fun e w'=>DlRet W (zdD [qB,qC] c23 zec 3 most) e w'):=fun W most h=>by
  have ht:=HTR5.out W h;refine(zfi c23 ⟨qo,qn,qc,qt,qnt,qct,qs,qf,qk⟩ nul23 so23 ⟨1,0,⟨#[]⟩,none,0,0,none,0,0⟩ ⟨5,0,⟨#[]⟩,some ⟨g6+1+1,0,none⟩,1,1,none,0,0⟩ 3 most W ht.2.1 good23.2 (zeX _ _ 1 _) zkh ht.2.2.1 zlS (by decide) vals23.2 (fun _=>rfl) ht.2.2.2.1 ht.2.2.2.2 (by decide) (by decide) (by decide)).mono fun e w' h=> ?_
  obtain⟨ys,hys,hd⟩:=h;have he:=zrn (hys (by decide))
  subst he;rw[zr2]at hd;exact hd
 have hg5l:g5<wc.heap.size:=hx5.lt;have hg6l:g6<wc.heap.size:=hn9.lt;have hg9l:g6+1+1+1<wc.heap.size:=hs9.lt;dsimp only[RB.val,RV.val]at HCH;clear hva hn9 hs9 hx5 hx HPL HZ1
 go_upto_region 7 with(go_at_call 18;(with_reducible refine(HCH.out _ (-1) (yh _ _)).mono ?_);rintro e w10 hd;rw[zrx (-1) (by decide)]at hd;obtain⟨d1,rfl,hr1,hd1,ht1,_,hb10⟩:=hd;obtain⟨xr,nr,cr,xa,na,ca,tt⟩:=d1;(have HT1:=yc ht1);clear ht1)
 have hal:=(yh w10.heap.size w10).alloc (yd _) (.cells #[.slice xr nr cr,.slice xa na ca,.int .i64 tt] 45);obtain⟨g10,hg10⟩:∃g,w10.heap.size=g:=⟨_,rfl⟩;have hD10:DAt 45 (w10.alloc (.cells #[.slice xr nr cr,.slice xa na ca,.int .i64 tt] 45)) g10 ⟨xr,nr,cr,xa,na,ca,tt⟩:=by rw[<-hg10];exact za rfl
 have hRD:RdD (w10.alloc (.cells #[.slice xr nr cr,.slice xa na ca,.int .i64 tt] 45)) (w10.alloc (.cells #[.slice xr nr cr,.slice xa na ca,.int .i64 tt] 45)).heap.size zjV ⟨xr,nr,cr,xa,na,ca,tt⟩:=⟨(hr1.rd zn).below hal hal.size,(hd1.rd codecA).below hal hal.size,HT1.out⟩;have hBc:Below wc.heap.size wc (w10.alloc (.cells #[.slice xr nr cr,.slice xa na ca,.int .i64 tt] 45)):=hb10.trans (hal.mono hb10.size);obtain⟨W10,hW10⟩:∃W,w10.alloc (.cells #[.slice xr nr cr,.slice xa na ca,.int .i64 tt] 45)=W:=⟨_,rfl⟩;rw[hW10]at hD10 hRD hBc
 try rw[hW10]
 try rw[hg10]
 have HD10:=yc hD10;have HRD10:=yc hRD;have HBc:=yc hBc;have hva:=HVA.out W10 (HK9.out.trans (hBc.mono HK9.out.size));have hx5:=(HTR5.out W10 hBc).1;have hn9:=hva.2.1;have hs9:=hva.2.2;clear a0 a1 a2 a3 a4 n0 n1 n2 n3 n4 s0 s1 s2 s3 s4 hW10 hg10 hal hr1 hd1 hb10 hD10 hRD hva hg5l hg6l hg9l;obtain⟨a0,a1,a2,a3,a4⟩:=hx5.cells5;obtain⟨n0,n1,n2,n3,n4⟩:=hn9.cells5;obtain⟨s0,s1,s2,s3,s4⟩:=hs9.cells5;dsimp only at a0 a1 a2 a3 a4 n0 n1 n2 n3 n4 s0 s1 s2 s3 s4;clear hx5 hn9 hs9 hBc
 go_upto_region 8 with(go_at_call 18;(with_reducible refine(HCH.out _ 2 HBc.out).mono ?_);rintro e w11 hd;rw[zkz]at hd;obtain⟨d2,rfl,_,_,ht2,_,hb11⟩:=hd;obtain⟨yr,mr,er,ya,ma,ea,tu⟩:=d2;clear ht2)
 have hal:=(yh w11.heap.size w11).alloc (yd _) (.cells #[.slice yr mr er,.slice ya ma ea,.int .i64 tu] 45);have hB11:Below W10.heap.size W10 (w11.alloc (.cells #[.slice yr mr er,.slice ya ma ea,.int .i64 tu] 45)):=hb11.trans (hal.mono hb11.size);obtain⟨W11,hW11⟩:∃W,w11.alloc (.cells #[.slice yr mr er,.slice ya ma ea,.int .i64 tu] 45)=W:=⟨_,rfl⟩;rw[hW11]at hB11
 try rw[hW11]
 have hD11:=HD10.out.under hB11 HD10.out.lt;have d0:=hD11.cell 0 rfl;have d1:=hD11.cell 1 rfl;have d2:=hD11.cell 2 rfl;dsimp only at d0 d1 d2;have hdl:=hD11.lt
 have HRD:Hid (∀W,Below W11.heap.size W11 W->RdD W W.heap.size zjV ⟨xr,nr,cr,xa,na,ca,tt⟩/\Rd W W.heap.size zg 1 (.slice pl 3 cl) [qA,qB,qC]):=fun W h=>by
  have h2:=hB11.trans (h.mono hB11.size);have h3:=HBc.out.trans (h2.mono HBc.out.size);have h4:=HB9.out.trans (h3.mono HB9.out.size);exact⟨HRD10.out.under h2 h2.size,(HO8.out.rd zn).below h4 h4.size⟩
 have HFIN:Hid (Below w.heap.size w W11):=HB7.out.trans ((HK9.out.trans ((HBc.out.trans (hB11.mono HBc.out.size)).mono HK9.out.size)).mono HB7.out.size);clear a0 a1 a2 a3 a4 n0 n1 n2 n3 n4 s0 s1 s2 s3 s4 hW11 hal hb11 hB11 hD11 HCH;have hal:=(yh W11.heap.size W11).alloc (yd _) (.cells #[.string ⟨#[97]⟩,.string ⟨#[98]⟩,.string ⟨#[99]⟩] 9);have hpa:Rd (W11.alloc (.cells #[.string ⟨#[97]⟩,.string ⟨#[98]⟩,.string ⟨#[99]⟩] 9)) (W11.alloc (.cells #[.string ⟨#[97]⟩,.string ⟨#[98]⟩,.string ⟨#[99]⟩] 9)).heap.size zg 1 (.slice (some ⟨W11.heap.size,0,none⟩) 3 3) [qA,qB,qC]:=Rd.block (xs:=[qA,qB,qC]) zn (za rfl) rfl (by simp) (show 3<=maxLen by decide)
 have HSP:Hid (Calls ye 25 #[.slice pl 3 cl,.slice (some ⟨W11.heap.size,0,none⟩) 3 3] (W11.alloc (.cells #[.string ⟨#[97]⟩,.string ⟨#[98]⟩,.string ⟨#[99]⟩] 9)) fun e w'=>e= .returned (.bool true)/\∃n,w'=(W11.alloc (.cells #[.string ⟨#[97]⟩,.string ⟨#[98]⟩,.string ⟨#[99]⟩] 9)).drewN n):=zr7 _ _ _ _ _ (HRD.out _ hal).2 hpa
 have hB12:Below W11.heap.size W11 (W11.alloc (.cells #[.string ⟨#[97]⟩,.string ⟨#[98]⟩,.string ⟨#[99]⟩] 9)):=hal;clear hpa
 go_wp2_with (first
  |(go_at_call 25;(with_reducible refine HSP.out.mono ?_);rintro e w12 ⟨rfl,nd,rfl⟩;(have hB12:=bdn hB12 nd);(have e0:=zc hB12 hdl d0);(have e1:=zc hB12 hdl d1);(have e2:=zc hB12 hdl d2))
  |(go_at_call 21;refine(znr ⟨xr,nr,cr,xa,na,ca,tt⟩ _).mono ?_;rintro e w13 ⟨rfl,hb13⟩;(have hB13:Below W11.heap.size W11 w13:=hB12.trans (hb13.mono hB12.size)))
  |(go_at_call 20;(have hab:=zM w13 (.cells #[.string ⟨#[97]⟩,.string ⟨#[98]⟩] 9) (.cells #[.string ⟨#[98]⟩,.int .i64 0] 80));refine(zmI zjV ⟨xr,nr,cr,xa,na,ca,tt⟩ ⟨some ⟨w13.heap.size,0,none⟩,2,2,some ⟨w13.heap.size+1,0,none⟩,1,1,2⟩ _ (HRD.out _ (hB13.trans (hab.mono hB13.size))).1 (rdd23 _ _ _ (zb (by simp) (za rfl)) (za (by simp)))).mono ?_;rintro e w14 ⟨rfl,hb14⟩;(have hB14:=hB13.trans ((hab.mono hB13.size).trans (hb14.mono (yg hB13.size hab.size))))))
 go_ret;exact⟨rfl,HFIN.out.trans (hB14.mono HFIN.out.size)⟩
theorem zjL(b:BoxD)(r:RB)(f so:JV)(rf rs:RV)(w:World)(hb:BoxOf w w.heap.size b r)(ob:b.Ok)(hf:TreeOf w w.heap.size f rf)(of:f.Ok)(hs:TreeOf w w.heap.size so rs)(os:so.Ok)(hall:AllAt w)(hmax:MaxAt w):
 Calls ye 7 #[r.val,rf.val,rs.val] w fun e w'=>e= .returned (.bool true)/\Below w.heap.size w w':=by
 obtain⟨W0,hW0⟩:∃W0,((w.alloc r.obj).alloc rf.obj).alloc rs.obj=W0:=⟨_,rfl⟩;have hA0:BoxAt W0 w.heap.size r:=by rw[<-hW0];exact zb (by simp;omega) (zb (by simp) (za rfl))
 have hC0:VAt W0 (w.heap.size+1) rf:=by rw[<-hW0];exact zb (by simp) (za (by simp))
 have hD0:VAt W0 (w.heap.size+2) rs:=by rw[<-hW0];exact za (by simp)
 have hB0:Below w.heap.size w W0:=by rw[<-hW0];exact(zM w _ _).alloc (zM w _ _).size _
 have hw0:=hB0.size;have HAW:Hid (∀W,Below W0.heap.size W0 W->Calls ye 16 #[] W fun e w'=>e= .returned (.bool true)/\Below W.heap.size W w'):=fun W h=>zkA W (hall.below (hB0.trans (h.mono hw0))) (hmax.below (hB0.trans (h.mono hw0)))
 have HFW:Hid (∀W,Below W0.heap.size W0 W->Calls ye 17 #[r.val,rf.val,rs.val,.slice none 0 0] W (zm2 W b f so [])):=fun W h=>by
  have hW:=hB0.trans (h.mono hw0);exact znw b r f so rf rs [] (.slice none 0 0) W (hb.under hW hW.size) ob (hf.under hW hW.size) of (hs.under hW hW.size) os (Rd.nil _ _) (fun o h=>by cases h)
 have HC1:Hid (FewF b f so []->∀W,Below W0.heap.size W0 W->Calls ye 18 #[r.val,rf.val,rs.val,.int .i64 r.fl,.int .i64 (-1)] W fun e w'=>∃ys,(¬(r.fl<b.floor\/b.seq<r.fl)->IsStable cfP (zU r.fl b.trail) ys)/\DlRet W (zdD (zcv f so b.objs) b ys r.fl (-1)) e w'):=fun hw W h=>by
  have hW:=hB0.trans (h.mono hw0);exact zfi b r f so rf rs r.fl (-1) W (hb.under hW hW.size) ob (hf.under hW hW.size) of (hs.under hW hW.size) os (by have:=hw.cf;omega) hw.vals4 hw.null (hall.below hW) (hmax.below hW) (by have:=hw.objs;omega) hw.nodup (by have:=hw.trail;omega)
 have HQ1:Hid (FewF b f so []->∀W,Below W0.heap.size W0 W->Calls ye 22 #[r.val,rf.val,rs.val] W fun e w'=>∃u,e= .returned u/\Own w' W.heap.size 9 zg 1 u (zcv f so b.objs)/\Below W.heap.size W w'):=fun hw W h=>by
  have hW:=hB0.trans (h.mono hw0);exact zeF b r f so rf rs W W.heap.size (yd _) (hb.under hW hW.size) ob (hf.under hW hW.size) of (hs.under hW hW.size) os (by have:=hw.cf;omega) hw.vals4 hw.null (hall.below hW) (hmax.below hW) (by have:=hw.objs;omega)
 obtain⟨ros,hro0,hms0⟩:=hb.objs;have HRX:Hid (∀W,Below W0.heap.size W0 W->Rd W W0.heap.size zl 6 (.slice r.po r.no r.co) ros/\MemsOf W W0.heap.size b.objs ros):=fun W h=>⟨hro0.below (hB0.trans (h.mono hw0)) hw0,hms0.under (hB0.trans (h.mono hw0)) hw0⟩
 have HBX:Hid (∀W,Below W0.heap.size W0 W->BoxOf W W0.heap.size b r):=fun W h=>hb.under (hB0.trans (h.mono hw0)) hw0
 have HOB:=yc ob;have HVA:Hid (∀W,Below W0.heap.size W0 W->BoxAt W w.heap.size r/\VAt W (w.heap.size+1) rf/\VAt W (w.heap.size+2) rs):=fun W hb=>⟨hA0.under hb hA0.lt,hC0.under hb hC0.lt,hD0.under hb hD0.lt⟩
 have HB0:=yc hB0;have HW:=yc hW0;obtain⟨po,no,co,pt,nt,ct,sq,fl,kp⟩:=r;obtain⟨fk,fn,fs,fpl,fnl,fcl,fpm,fnm,fcm⟩:=rf;obtain⟨sk,sn,ss,spl,snl,scl,spm,snm,scm⟩:=rs;dsimp only[RB.val,RB.obj,RV.val,RV.obj]at*;clear hro0 hms0 hb ob hf of hs os hall hmax hA0 hC0 hD0 hB0 hW0
 go_enter Tryz.func7,Tryz.ntmps7
 go_upto_region 1 with fail
 try rw[HW.out]
 clear HW
 go_upto_region 3 with(first
  |(go_at_call 16;(with_reducible refine(HAW.out _ hb2).mono ?_);rintro e w3 ⟨rfl,hb9⟩;(have hb3:=hb2.trans (hb9.mono hb2.size)))
  |(go_at_call 16;(with_reducible refine(HAW.out _ (yh _ _)).mono ?_);rintro e w1 ⟨rfl,hb1⟩;(have hva:=HVA.out _ hb1);(have hv1:=hva.1);(have hv2:=hva.2.1);(have hv3:=hva.2.2);(obtain⟨a0,a1,a2,a3,a4⟩:=hv1.cells5);(obtain⟨c0,c1,c2,c3,c4⟩:=hv2.cells5);(obtain⟨d0,d1,d2,d3,d4⟩:=hv3.cells5);clear hva hv1 hv2 hv3;dsimp only at a0 a1 a2 a3 a4 c0 c1 c2 c3 c4 d0 d1 d2 d3 d4)
  |(go_at_call 17;(with_reducible refine(HFW.out _ hb1).mono ?_);rintro e w2 ⟨y,rfl,HL,hb9⟩;(have hb2:=hb1.trans (hb9.mono hb1.size));cases y))
 ·go_ret;exact⟨rfl,HB0.out.trans (hb3.mono HB0.out.size)⟩
 have HF:=yc (HL.out (by trivial))
 have HB2:=yc hb2;have hva:=HVA.out _ hb2;have hv1:=hva.1;have hv2:=hva.2.1;have hv3:=hva.2.2;have hl1:=hv1.lt;have hl2:=hv2.lt;have hl3:=hv3.lt;clear a0 a1 a2 a3 a4 c0 c1 c2 c3 c4 d0 d1 d2 d3 d4 hva hb9 hb1 hb2 HL HFW HAW;obtain⟨a0,a1,a2,a3,a4⟩:=hv1.cells5;obtain⟨c0,c1,c2,c3,c4⟩:=hv2.cells5;obtain⟨d0,d1,d2,d3,d4⟩:=hv3.cells5;dsimp only at a0 a1 a2 a3 a4 c0 c1 c2 c3 c4 d0 d1 d2 d3 d4;clear hv1 hv2 hv3
 go_upto_region 4 with fail
 have hal5:Below w2.heap.size w2 (w2.alloc (.cells #[.slice po no co,.slice pt nt ct,.int .i64 sq,.int .i64 fl,.int .i64 kp] 40)):=(yh _ _).alloc (yd _) _;have hB5:Below W0.heap.size W0 (w2.alloc (.cells #[.slice po no co,.slice pt nt ct,.int .i64 sq,.int .i64 fl,.int .i64 kp] 40)):=HB2.out.trans (hal5.mono HB2.out.size);have hA5:BoxAt (w2.alloc (.cells #[.slice po no co,.slice pt nt ct,.int .i64 sq,.int .i64 fl,.int .i64 kp] 40)) w2.heap.size ⟨po,no,co,pt,nt,ct,sq,fl,kp⟩:=za rfl;have hlt5:W0.heap.size<=w2.heap.size:=HB2.out.size;obtain⟨W5,hW5⟩:∃W,w2.alloc (.cells #[.slice po no co,.slice pt nt ct,.int .i64 sq,.int .i64 fl,.int .i64 kp] 40)=W:=⟨_,rfl⟩;obtain⟨g5,hg5⟩:∃g,w2.heap.size=g:=⟨_,rfl⟩;rw[hW5]at hB5 hA5;rw[hg5]at hA5 hlt5
 try rw[hW5]
 try rw[hg5]
 clear hal5 hW5 hg5 a0 a1 a2 a3 a4 c0 c1 c2 c3 c4 d0 d1 d2 d3 d4 HB2 hl1 hl2 hl3;have hal6:Below W5.heap.size W5 (W5.alloc (.cells #[] 62)):=(yh _ _).alloc (yd _) _;have hB6:=hB5.trans (hal6.mono hB5.size);obtain⟨hro,hms⟩:=HRX.out _ hB6;have hrn:=zi hro;have hml:=hms.len;have hol:=HOB.out.objs;have hO:Own (W5.alloc (.cells #[] 62)) (g5+1) 62 zl 6 (.slice (some ⟨W5.heap.size,0,none⟩) 0 0) ([]:List RM):=Own.made hA5.lt;have hA6:BoxAt (W5.alloc (.cells #[] 62)) g5 ⟨po,no,co,pt,nt,ct,sq,fl,kp⟩:=zb hA5.lt hA5;have HO:=yc hO;have HRO:=yc hro;have HA6:=yc hA6;have HB6:=yc hB6;have HMS:=yc hms;have HLT:Hid (W0.heap.size<=g5/\g5<W5.heap.size):=⟨hlt5,hA5.lt⟩;have k6:Hid (∀k,(Value.slice (some ⟨W5.heap.size,0,none⟩) 0 0).ownBlock=some k->k=W5.heap.size):=by intro k e;simp[Value.ownBlock]at e;omega
 have k1:Hid (([]:List RM).length+ros.length<=maxLen):=by unfold Hid maxLen;simp;omega
 have k2:Hid ((([]:List RM).length+ros.length)*96<=140737488355328):=by unfold Hid;simp;omega
 have k3:Hid (g5+1<=(W5.alloc (.cells #[] 62)).heap.size):=by have:=hA5.lt;unfold Hid;simp;omega
 have k4:Hid ((Value.slice (some ⟨W5.heap.size,0,none⟩) 0 0).ownBlock≠some g5):=by have:=hA5.lt;unfold Hid;simp[Value.ownBlock];omega
 have k5:Hid ((([]:List RM)++ros).length=no):=by unfold Hid;simp;omega
 have hva:=HVA.out _ hB5;have hv1:=hva.1;have hl1:=hv1.lt;obtain⟨a0,a1,a2,a3,a4⟩:=hv1.cells5;dsimp only at a0 a1 a2 a3 a4;clear hro hms hrn hol hml hO hA6 hB6 hal6 hA5 hB5 hlt5 hva hv1
 go_upto_region 5 with(at_builtin;refine zk slO codecM _ rfl _ _ rfl rfl rfl HO.out HRO.out k1.out k2.out k3.out ?_;intro v1 w5 ho1 hg1 hat1;obtain⟨p1,cc1,hv1,hcl1,hcm1⟩:=ho1.len;rw[k5.out]at hv1;subst hv1;(have hA6:=HA6.out.keptR hg1 k4.out);(have d0:=hA6.cell 0 rfl);(have x0:=hA6.frozen 0))
 have hg6:=zz w5 g5 0 (.slice p1 no cc1);have hA7:=hA6.set0 p1 no cc1;have hb1:∀k,(Value.slice p1 no cc1).ownBlock=some k->g5<k:=fun k e=>by have:=(ho1.lt k e).1;omega
 have ho7:=ho1.kept hg6 (.inr (fun e=>by have:=hb1 _ e;omega))
 have hB7:Below W0.heap.size W0 (w5.setCell ⟨g5,0,none⟩ (.slice p1 no cc1)):=by
  have h:=HLT.out;have hz:=hg1.size;have h1:=HB6.out.grown hg1 HB6.out.size (fun k e=>by have:=k6.out k e;omega)
  exact h1.grown hg6 h1.size (fun k e=>by cases e;exact h.1)
 obtain⟨W7,hW7⟩:∃W,w5.setCell ⟨g5,0,none⟩ (.slice p1 no cc1)=W:=⟨_,rfl⟩;rw[hW7]at hA7 ho7 hB7
 try rw[hW7]
 rw[y6]at ho7;clear hW7 hg6 hg1 hA6 ho1 hat1 hcl1 hcm1 d0 x0 a0 a1 a2 a3 a4 hl1 k1 k2 k3 k4 k5 k6 HO HRO HA6 HB6;have hal8:Below W7.heap.size W7 (W7.alloc (.cells #[] 144)):=(yh _ _).alloc (yd _) _;have hB8:=hB7.trans (hal8.mono hB7.size);have htr:=(HBX.out _ hB8).trail;have hnt:=htr.nlen;have hO:Own (W7.alloc (.cells #[] 144)) (g5+1) 144 zbh 3 (.slice (some ⟨W7.heap.size,0,none⟩) 0 0) ([]:List En):=Own.made hA7.lt;have hA8:BoxAt (W7.alloc (.cells #[] 144)) g5 ⟨p1,no,cc1,pt,nt,ct,sq,fl,kp⟩:=zb hA7.lt hA7;have j1:Hid (([]:List En).length+b.trail.length<=maxLen):=by have:=HOB.out.trail;unfold Hid maxLen;simp;omega
 have j2:Hid ((([]:List En).length+b.trail.length)*32<=140737488355328):=by have:=HOB.out.trail;unfold Hid;simp;omega
 have j3:Hid (g5+1<=(W7.alloc (.cells #[] 144)).heap.size):=by have:=hA7.lt;unfold Hid;simp;omega
 have j4:Hid ((Value.slice (some ⟨W7.heap.size,0,none⟩) 0 0).ownBlock≠some g5):=by have:=hA7.lt;unfold Hid;simp[Value.ownBlock];omega
 have j5:Hid ((([]:List En)++b.trail).length=nt):=by unfold Hid;simp;omega
 have j6:Hid (∀k,(Value.slice (some ⟨W7.heap.size,0,none⟩) 0 0).ownBlock=some k->k=W7.heap.size):=by intro k e;simp[Value.ownBlock]at e;omega
 have HB1:Hid (∀k,(Value.slice p1 no cc1).ownBlock=some k->g5<k/\k<W7.heap.size):=fun k e=>⟨hb1 k e,(ho7.lt k e).2⟩
 have HOW:=yc (ho7.alloc (.cells #[] 144));have HO7:=yc hO;have HRT:=yc (rdE_iff.1 htr).2;have HOKT:=yc (rdE_iff.1 htr).1;have HA8:=yc hA8;have HB8:=yc hB8;have HLT7:Hid (g5<W7.heap.size):=hA7.lt;have hva:=HVA.out _ hB7;have hv1:=hva.1;have hl1:=hv1.lt;obtain⟨a0,a1,a2,a3,a4⟩:=hv1.cells5;dsimp only at a0 a1 a2 a3 a4;clear htr hnt hO hA8 hB8 hal8 hA7 hB7 ho7 hb1 hva hv1
 go_upto_region 6 with(at_builtin;refine zk slEn codecE _ rfl _ _ rfl rfl rfl HO7.out HRT.out j1.out j2.out j3.out ?_;intro v2 w8 ho2 hg2 hat2;obtain⟨p2,cc2,hv2,hcl2,hcm2⟩:=ho2.len;rw[j5.out]at hv2;subst hv2;(have hA9:=HA8.out.keptR hg2 j4.out);(have d1:=hA9.cell 1 rfl);(have x1:=hA9.frozen 1))
 have hg9:=zz w8 g5 1 (.slice p2 nt cc2)
 have hAA:BoxAt (w8.setCell ⟨g5,1,none⟩ (.slice p2 nt cc2)) g5 ⟨p1,no,cc1,p2,nt,cc2,sq,fl,kp⟩:=by
  have h:=hA9;unfold BoxAt at h⊢;simp[World.setCell,Array.getElem?_modify,h]
 have hb2:∀k,(Value.slice p2 nt cc2).ownBlock=some k->g5<k/\k<w8.heap.size:=fun k e=>by have:=ho2.lt k e;omega
 have hne2:∀k,(Value.slice p1 no cc1).ownBlock=some k->g5<k/\k<w8.heap.size:=fun k e=>by have:=HB1.out k e;have:=hg2.size;simp at this;omega
 have hobj9:=(HOW.out.keptR hg2 (fun k e e2=>by have:=HB1.out k e;have:=j6.out k e2;omega)).kept hg9 (.inr (fun e=>by have:=(hne2 _ e).1;omega))
 have hent9:=ho2.kept hg9 (.inr (fun e=>by have:=(hb2 _ e).1;omega))
 have hB9:Below W0.heap.size W0 (w8.setCell ⟨g5,1,none⟩ (.slice p2 nt cc2)):=by
  have h:=HLT.out;have h':=HLT7.out;have h1:=HB8.out.grown hg2 HB8.out.size (fun k e=>by have:=j6.out k e;omega)
  exact h1.grown hg9 h1.size (fun k e=>by cases e;exact h.1)
 obtain⟨W9,hW9⟩:∃W,w8.setCell ⟨g5,1,none⟩ (.slice p2 nt cc2)=W:=⟨_,rfl⟩;rw[hW9]at hAA hobj9 hent9 hB9
 try rw[hW9]
 rw[y6]at hent9;have hof9:BoxOf W9 W9.heap.size b ⟨po,no,co,pt,nt,ct,sq,fl,kp⟩:=(HBX.out _ hB9).under (yh _ _) hB9.size;have hof9':=hof9;obtain⟨_,_,hq1,hq2,hq3⟩:=hof9';have hms9:MemsOf W9 W9.heap.size b.objs ros:=(HRX.out _ hB9).2.under (yh _ _) hB9.size;have hwf9:BoxOf W9 W9.heap.size b ⟨p1,no,cc1,p2,nt,cc2,sq,fl,kp⟩:=⟨⟨ros,hobj9.rd codecM,hms9⟩,rdE_iff.2 ⟨HOKT.out,hent9.rd codecE⟩,hq1,hq2,hq3⟩;have hK9:KkS W0 W9 b ⟨po,no,co,pt,nt,ct,sq,fl,kp⟩ ⟨p1,no,cc1,p2,nt,cc2,sq,fl,kp⟩ g5 W9.heap.size:=⟨hB9,hof9,hAA,hwf9,HLT.out.1,hAA.lt,yd _⟩;obtain⟨B0,hB0z⟩:∃B,W9.heap.size=B:=⟨_,rfl⟩;have HZ9:=yc hB0z;rw[hB0z]at hK9;have HK9:=yc hK9;have hva:=HVA.out _ hB9;have hv1:=hva.1;have hv2:=hva.2.1;have hv3:=hva.2.2;have hl2:=hv2.lt;have hl3:=hv3.lt;clear hl1 hK9 hB0z hwf9 hms9 hof9 hq1 hq2 hq3 hW9 hB9 hent9 hobj9 hne2 hb2 hAA hg9 hg2 hA9 ho2 hat2 hcl2 hcm2 d1 x1 a0 a1 a2 a3 a4 j1 j2 j3 j4 j5 j6 HB1 HOW HO7 HRT HOKT HA8 HB8 HLT7 HLT HRX;have hl1:=hv1.lt;obtain⟨a0,a1,a2,a3,a4⟩:=hv1.cells5;obtain⟨c0,c1,c2,c3,c4⟩:=hv2.cells5;obtain⟨d0,d1,d2,d3,d4⟩:=hv3.cells5;dsimp only at a0 a1 a2 a3 a4 c0 c1 c2 c3 c4 d0 d1 d2 d3 d4;clear hv1 hv2 hv3 hva
 go_upto_region 7 with(go_at_call 22;(with_reducible refine(HQ1.out HF.out _ HK9.out.below).mono ?_);rintro e w3 ⟨u3,rfl,ho3,hb3⟩)
 obtain⟨pl,cl,hv3,hcl3,hcm3⟩:=ho3.len;obtain⟨nl,hnl⟩:∃n,(zcv f so b.objs).length=n:=⟨_,rfl⟩;rw[hnl]at hv3;subst hv3;have hT3:=RowT.of ho3;rw[HZ9.out]at hT3 hb3;have hK3:=HK9.out.go hb3;obtain⟨B1,hB1⟩:∃B,w3.heap.size=B:=⟨_,rfl⟩;have hzz:B0<=w3.heap.size:=by have:=hb3.size;have:=HZ9.out;omega
 have HZ3:=yc hB1;rw[hB1]at hT3 hzz;have HT3:=yc hT3;have HK3:=yc hK3;have HO4:=yc hzz;have hva:=HVA.out _ hK3.below;have hv1:=hva.1;have hv2:=hva.2.1;have hv3:=hva.2.2;clear ho3 hb3 hcl3 hcm3 hnl hT3 hK3 hB1 hzz HZ9 HK9 a0 a1 a2 a3 a4 c0 c1 c2 c3 c4 d0 d1 d2 d3 d4 hl1 hl2 hl3;have hl1:=hv1.lt;have hl2:=hv2.lt;have hl3:=hv3.lt;obtain⟨a0,a1,a2,a3,a4⟩:=hv1.cells5;obtain⟨c0,c1,c2,c3,c4⟩:=hv2.cells5;obtain⟨d0,d1,d2,d3,d4⟩:=hv3.cells5;dsimp only at a0 a1 a2 a3 a4 c0 c1 c2 c3 c4 d0 d1 d2 d3 d4;clear hv1 hv2 hv3 hva
 go_upto_region 8 with(go_at_call 18;(with_reducible refine(HC1.out HF.out _ HK3.out.below).mono ?_);rintro e w4 ⟨ys,hys,hd⟩;obtain⟨⟨xr,nr,cr,xa,na,ca,tt⟩,rfl,hr1,hd1,ht1,ho1,hb4⟩:=hd;clear hys hd1 ht1 ho1;dsimp only at hr1⊢)
 have hT4:=RowT.of hr1;rw[HZ3.out]at hT4 hb4;have hal:=(yh w4.heap.size w4).alloc (yd _) (.cells #[.slice xr nr cr,.slice xa na ca,.int .i64 tt] 45);have hb4':Below B1 w3 (w4.alloc (.cells #[.slice xr nr cr,.slice xa na ca,.int .i64 tt] 45)):=hb4.trans (hal.mono (by have:=hb4.size;have:=HZ3.out;omega))
 have hKC:KkC W0 (w4.alloc (.cells #[.slice xr nr cr,.slice xa na ca,.int .i64 tt] 45)) b ⟨po,no,co,pt,nt,ct,sq,fl,kp⟩ ⟨p1,no,cc1,p2,nt,cc2,sq,fl,kp⟩ g5 B0 pl nl B1 w4.heap.size ⟨xr,nr,cr,xa,na,ca,tt⟩:=
  ⟨HK3.out.go (hb4'.mono HO4.out),HT3.out.below hb4',hT4.below hal,za rfl,HO4.out,by have:=hb4.size;have:=HZ3.out;omega⟩
 obtain⟨g1,hg1⟩:∃g,w4.heap.size=g:=⟨_,rfl⟩;obtain⟨W4,hW4⟩:∃W,w4.alloc (.cells #[.slice xr nr cr,.slice xa na ca,.int .i64 tt] 45)=W:=⟨_,rfl⟩;rw[hg1,hW4]at hKC
 try rw[hW4]
 try rw[hg1]
 have HK:=yc hKC;clear hW4 hg1 hKC hb4' hal hT4 hb4 hr1 HT3 HK3 HO4 HZ3 a0 a1 a2 a3 a4 c0 c1 c2 c3 c4 d0 d1 d2 d3 d4 hl1 hl2 hl3 HQ1 HC1 HF
 go_upto_block 0 with fail
 go_cut [11]from 47 to 55 (fun v wa=>Hid (KkC W0 wa b ⟨po,no,co,pt,nt,ct,sq,fl,kp⟩ ⟨p1,no,cc1,p2,nt,cc2,sq,fl,kp⟩ g5 B0 pl nl B1 g1 ⟨xr,nr,cr,xa,na,ca,tt⟩))
 case first=>
  go_wp2_with fail
  go_loopw [11] (fun i wa=>∃k:Nat,k<=nl/\i= .int .i64 k/\Hid (KkC W0 wa b ⟨po,no,co,pt,nt,ct,sq,fl,kp⟩ ⟨p1,no,cc1,p2,nt,cc2,sq,fl,kp⟩ g5 B0 pl nl B1 g1 ⟨xr,nr,cr,xa,na,ca,tt⟩)) (fun i _=>nl-(intOf i).toNat)
  case atStart=>exact⟨0,yu _,rfl,HK⟩
  case round=>
   obtain⟨k,hk,rfl,hkf⟩:=hrel;clear HK;have hnm:=hkf.out.l.1;unfold maxLen at hnm;have hk0:(0:Int)<=(k:Int):=Int.natCast_nonneg _;by_cases hlt:k<nl
   ·have hk1:(k:Int)<(nl:Int):=by omega
    obtain⟨g,u,hp,hbg,hgl,f0,hfr⟩:=hkf.out.l.at hlt;have x0:=hfr k;have hcl:=hkf.out.c.lt;have ho5:=hkf.out.o5;have hgz:g<wr.heap.size:=by omega
    subst hp;clear hfr hcl
    go_wp2_with fail
    go_roundw
    case rel=>exact⟨k+1,by omega,by go_num,hkf.out.put g k _ hbg (by omega)⟩
    case measure=>simp[intOf];omega
   ·have hk2:¬((k:Int)<(nl:Int)):=by omega
    go_wp2_with fail
    go_meet
    exact hkf
 case rest=>
 have HK:=hcut
 go_upto_block 2 with fail
 go_cut [12]from 56 to 66 (fun v wb=>Hid (KkC W0 wb b ⟨po,no,co,pt,nt,ct,sq,fl,kp⟩ ⟨p1,no,cc1,p2,nt,cc2,sq,fl,kp⟩ g5 B0 pl nl B1 g1 ⟨xr,nr,cr,xa,na,ca,tt⟩))
 case first=>
  go_wp2_with fail
  go_loopw [12] (fun i wb=>∃k:Nat,k<=nr/\i= .int .i64 k/\Hid (KkC W0 wb b ⟨po,no,co,pt,nt,ct,sq,fl,kp⟩ ⟨p1,no,cc1,p2,nt,cc2,sq,fl,kp⟩ g5 B0 pl nl B1 g1 ⟨xr,nr,cr,xa,na,ca,tt⟩)) (fun i _=>nr-(intOf i).toNat)
  case atStart=>exact⟨0,yu _,rfl,HK⟩
  case round=>
   obtain⟨k,hk,rfl,hkf⟩:=hrel;clear HK;have c0:=hkf.out.c.cell 0 (u:= .slice xr nr cr) rfl;have bl:=hkf.out.c.lt;have hnm:=hkf.out.d.1;dsimp only at hnm;unfold maxLen at hnm;have hk0:(0:Int)<=(k:Int):=Int.natCast_nonneg _;by_cases hlt:k<nr
   ·have hk1:(k:Int)<(nr:Int):=by omega
    obtain⟨g,u,hp,hbg,hgl,f0,hfr⟩:=hkf.out.d.at hlt;have ho4:=hkf.out.o4;have x0:=hfr k;have hgz:g<wr.heap.size:=by omega
    dsimp only at hp;rw[hp]at c0;clear hfr hp
    go_wp2_with fail
    go_roundw
    case rel=>exact⟨k+1,by omega,by go_num,hkf.out.put g k _ (by omega) hgl⟩
    case measure=>simp[intOf];omega
   ·have hk2:¬((k:Int)<(nr:Int)):=by omega
    go_wp2_with fail
    go_meet
    exact hkf
 case rest=>
 have HK:=hcut;clear hcut;have hva:=HVA.out _ HK.out.k.below;have hv1:=hva.1;have hl1:=hv1.lt;have z2:=HK.out.k.was.lt;obtain⟨a0,a1,a2,a3,a4⟩:=hv1.cells5;obtain⟨h0,h1,h2,h3,h4⟩:=HK.out.k.was.cells5;dsimp only at a0 a1 a2 a3 a4 h0 h1 h2 h3 h4;clear hva hv1
 go_wp2_with (go_at_call 27;(refine(zmH b b ⟨po,no,co,pt,nt,ct,sq,fl,kp⟩ ⟨p1,no,cc1,p2,nt,cc2,sq,fl,kp⟩ _ HK.out.k.now HK.out.k.wnow HOB.out HOB.out).mono ?_);rintro e w9 ⟨y,rfl,hs9,hb9⟩;(obtain rfl:y=true:=hs9.2 rfl))
 go_ret;exact⟨rfl,HB0.out.trans ((HK.out.k.below.trans (hb9.mono HK.out.k.below.size)).mono HB0.out.size)⟩
end
end Go.Proofs.YtemofofnkchmeaaGreatDoor
