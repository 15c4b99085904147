import Derived.Test.YtemofofnkchmeaaGreatDoorM00
import Derived.Test.YtemofofnkchmeaaGreatDoorL37
import Derived.Test.YtemofofnkchmeaaGreatDoorL34
import Derived.Test.YtemofofnkchmeaaGreatDoorL24
import Derived.Test.YtemofofnkchmeaaGreatDoorL07
import Derived.Test.YtemofofnkchmeaaGreatDoorL04
import Derived.Test.YtemofofnkchmeaaGreatDoorProg
import Derived.WalkKit
import Derived.WalkSpells
import Derived.Lib.Hide
import Derived.Deep.RegionHeld3
import Derived.Deep.DeepCutAuto
import Derived.Deep.CutRange
import Derived.BigQuiet
import Derived.Deep.QuietTactic
import Derived.Outline
import Derived.OpenShut
import Derived.Test.YtemofofnkchmeaaGreatDoorL10
import Derived.Test.YtemofofnkchmeaaGreatDoorL20
import Derived.Test.YtemofofnkchmeaaGreatDoorL15
import Derived.Laws.CopyRow
import Derived.Laws.CopyOwn
import Derived.Shelf.Spec.SlicesInsertGrow
import Derived.ProofKit
import Derived.Below
import Derived.Test.YtemofofnkchmeaaGreatDoorL05
import Derived.Test.YtemofofnkchmeaaGreatDoorL01
import Derived.Deep.Draws
import Derived.Laws.AppendOwnNone
import Derived.Deep.AppendLies
import Derived.StillTactics
import Derived.Deep.RegionLaw
import Derived.ArgAppend
import Derived.Test.YtemofofnkchmeaaGreatDoorL16
import Derived.Test.YtemofofnkchmeaaGreatDoorL13
import Derived.Maps.AppendAt
import Derived.RegionTactic
import Derived.OwnWalk
import Derived.Lib.AppendStr
import Derived.Lib.BufferRead
import Derived.Laws.IdiomStrings
import Derived.WalkLawsBesides
import Derived.Test.YtemofofnkchmeaaGreatDoorL02
import Derived.Test.YtemofofnkchmeaaGreatDoorL11
import Derived.Test.YtemofofnkchmeaaGreatDoorL09
import Derived.Lib.Bytealg
import Derived.Test.YtemofofnkchmeaaGreatDoorL00
import Derived.Shelf.LaysM
import Derived.Shelf.Small.Strs
import Derived.Shelf.Strconv.Clone
import Derived.Shelf.Strings.Count
import Derived.Shelf.Strings.OnBuilder
import Derived.Shelf.Strings.Repeat
import Derived.Shelf.Strings.Trim
import Derived.Shelf.Strings.SlTrimAscii
import Derived.Shelf.Slices.Turned
import Derived.Test.YtemofofnkchmeaaGreatDoorL29
import Derived.Test.YtemofofnkchmeaaGreatDoorL28
import Derived.Test.YtemofofnkchmeaaGreatDoorL27
import Derived.Test.YtemofofnkchmeaaGreatDoorL26
import Derived.Shelf.SlSortCmp.KitK
import Derived.Sort.WalkB2
import Derived.Sort.WalkB12
import Derived.Deep.LoopGhost
import Derived.Test.YtemofofnkchmeaaGreatDoorL12
import Derived.Maps.OwnSet
import Derived.StringKeys
import Derived.Deep.CutBlock
import Derived.Test.YtemofofnkchmeaaGreatDoorL33
import Derived.Test.YtemofofnkchmeaaGreatDoorL31
import Derived.Test.YtemofofnkchmeaaGreatDoorL18
import Derived.Test.YtemofofnkchmeaaGreatDoorL14
import Derived.Lib.IndexMore
import Derived.RangeFuncNested
import Derived.RangeFuncBound
import Derived.RangeFuncCalls
import Derived.RangeFuncLeaves
import Derived.RangeFuncBox
import Derived.Shelf.Abstract
import Derived.OwnWalkIn
import Derived.TacticsInMore
import Derived.LoopNIn
import Derived.LoopIn
import Derived.Sort.LoopGhostIn
import Derived.Sort.CutIn
import Derived.Stop.RegionWithIn
import Derived.Maps.OwnIn
import Derived.Shelf.Strings.Search3
import Derived.Test.YtemofofnkchmeaaGreatDoorL30
import Derived.Test.YtemofofnkchmeaaGreatDoorL19
import Derived.Test.YtemofofnkchmeaaGreatDoorL22
import Derived.Test.YtemofofnkchmeaaGreatDoorL06
import Derived.Sort.LotA
import Derived.Shelf.SlSortCmp.Insertion
import Derived.Shelf.SlSortCmp.QuietGrown
import Derived.Deep.Cut
import Derived.Sort.OwnSorted
import Derived.Lib.Strings
import Derived.Test.YtemofofnkchmeaaGreatDoorL21
import Derived.Sort.Walk0
import Derived.Test.YtemofofnkchmeaaGreatDoorL23
import Derived.Test.YtemofofnkchmeaaGreatDoorL08
import Derived.Shelf.Strings.Prefix
import Derived.StillTailTactics
import Derived.Defers
import Derived.Recover
import Derived.Test.YtemofofnkchmeaaGreatDoorL36
set_option linter.unusedSimpArgs false
set_option linter.unusedVariables false
set_option maxRecDepth 200000
set_option maxHeartbeats 8000000
namespace Go.Proofs.YtemofofnkchmeaaGreatDoor
open _root_.Go.RowKit.Below renaming refl->yl
open _root_.Bool renaming and_eq_true->ye
open _root_.Go.Lib renaming hid->yd
open _root_.List renaming Perm->yM,any_eq_true->yj,append_assoc->yC,drop_drop->yQ,filter_append->yz,foldl_append->yI,foldl_cons->yO,getElem?_drop->yA,getElem?_eq_getElem->ya,getElem?_eq_some_iff->yc,getElem?_of_mem->yo,length_append->yn,length_drop->yx,length_singleton->yi,mem_append->yg,mem_cons->ym,mem_map->yG,mem_of_getElem?->yh,mem_of_mem_drop->yE,mem_range->yS,mem_singleton->yH,take_add_one->yp,take_length->yL
open _root_.Nat renaming le_refl->yf
open _root_.Go.Proofs.Tryz renaming prog->yb
section
open Go Go.RowKit Go.OpenShut
theorem zsg(b:BoxD)(r:RB)(f so:JV)(rf rs:RV)(w:World)(hb:BoxOf w w.heap.size b r)(ob:b.Ok)(hf:TreeOf w w.heap.size f rf)(of:f.Ok)(hs:TreeOf w w.heap.size so rs)(os:so.Ok)(hall:AllAt w)(hmax:MaxAt w):
 Calls yb 6 #[r.val,rf.val,rs.val] w fun e w'=>e= .returned (.bool true)/\Below w.heap.size w w':=by
 obtain⟨W0,hW0⟩:∃W0,((w.alloc r.obj).alloc rf.obj).alloc rs.obj=W0:=⟨_,rfl⟩;have hA0:BoxAt W0 w.heap.size r:=by rw[<-hW0];exact zb (by simp;omega) (zb (by simp) (za rfl))
 have hC0:VAt W0 (w.heap.size+1) rf:=by rw[<-hW0];exact zb (by simp) (za (by simp))
 have hD0:VAt W0 (w.heap.size+2) rs:=by rw[<-hW0];exact za (by simp)
 have hB0:Below w.heap.size w W0:=by rw[<-hW0];exact(zM w _ _).alloc (zM w _ _).size _
 have hw0:=hB0.size;have HAW:Hid (∀W,Below W0.heap.size W0 W->Calls yb 16 #[] W fun e w'=>e= .returned (.bool true)/\Below W.heap.size W w'):=fun W h=>zkA W (hall.below (hB0.trans (h.mono hw0))) (hmax.below (hB0.trans (h.mono hw0)))
 have HFW:Hid (∀W,Below W0.heap.size W0 W->Calls yb 17 #[r.val,rf.val,rs.val,.slice none 0 0] W (zm2 W b f so [])):=fun W h=>by
  have hW:=hB0.trans (h.mono hw0);exact znw b r f so rf rs [] (.slice none 0 0) W (hb.under hW hW.size) ob (hf.under hW hW.size) of (hs.under hW hW.size) os (Rd.nil _ _) (fun o h=>by cases h)
 have HQ1:Hid (FewF b f so []->∀W,Below W0.heap.size W0 W->Calls yb 22 #[r.val,rf.val,rs.val] W fun e w'=>∃u,e= .returned u/\Own w' W.heap.size 9 zg 1 u (zcv f so b.objs)/\Below W.heap.size W w'):=fun hw W h=>by
  have hW:=hB0.trans (h.mono hw0);exact zeF b r f so rf rs W W.heap.size (yf _) (hb.under hW hW.size) ob (hf.under hW hW.size) of (hs.under hW hW.size) os (by have:=hw.cf;omega) hw.vals4 hw.null (hall.below hW) (hmax.below hW) (by have:=hw.objs;omega)
 have HQ2:Hid (FewF b f so []->∀W q,Below W0.heap.size W0 W->TreeOf W W.heap.size (opT ze3 [f]) q->Calls yb 22 #[r.val,q.val,rs.val] W fun e w'=>∃u,e= .returned u/\Own w' W.heap.size 9 zg 1 u (zcv (opT ze3 [f]) so b.objs)/\Below W.heap.size W w'):=fun hw W q h hq=>by
  have hW:=hB0.trans (h.mono hw0);exact zeF b r (opT ze3 [f]) so q rs W W.heap.size (yf _) (hb.under hW hW.size) ob hq (zs6 (by decide) (fun t h=>by rw[yH]at h;exact h▸of) (by simp)) (hs.under hW hW.size) os (by have:=hw.cf;rw[zsq];simp only[zH];omega) hw.vals4 (fun h=>absurd (show(6:Int)=1 from h) (by decide)) (hall.below hW) (hmax.below hW) (by have:=hw.objs;omega)
 have HCK:Hid (FewF b f so []->∀W,Below W0.heap.size W0 W->Calls yb 11 #[rf.val] W fun e w'=>e= .returned (.int .i64 (zdq f))/\Below W.heap.size W w'):=fun hw W h=>by
  have hW:=hB0.trans (h.mono hw0);exact zlm f rf W W.heap.size (yf _) (hf.under hW hW.size) of (by have:=hw.cf;omega) (hall.below hW)
 have HC2:Hid (FewF b f so []->∀W q,Below W0.heap.size W0 W->TreeOf W W.heap.size (opT ze3 [f]) q->Calls yb 11 #[q.val] W fun e w'=>e= .returned (.int .i64 (zdq (opT ze3 [f])))/\Below W.heap.size W w'):=fun hw W q h hq=>by
  have hW:=hB0.trans (h.mono hw0);exact zlm (opT ze3 [f]) q W W.heap.size (yf _) hq (zs6 (by decide) (fun t h=>by rw[yH]at h;exact h▸of) (by simp)) (by have:=hw.cf;rw[zsq];simp only[zH];omega) (hall.below hW)
 obtain⟨ros,hro0,hms0⟩:=hb.objs;have HRX:Hid (∀W,Below W0.heap.size W0 W->Rd W W0.heap.size zl 6 (.slice r.po r.no r.co) ros/\MemsOf W W0.heap.size b.objs ros):=fun W h=>⟨hro0.below (hB0.trans (h.mono hw0)) hw0,hms0.under (hB0.trans (h.mono hw0)) hw0⟩
 have HTF:Hid (∀W,Below W0.heap.size W0 W->TreeOf W W0.heap.size f rf):=fun W h=>hf.under (hB0.trans (h.mono hw0)) hw0
 have HLN:Hid (r.no=ros.length/\ros.length=b.objs.length):=⟨zi hro0,by have:=hms0.len;omega⟩
 have hkk:=hf.kk.1;have HVA:Hid (∀W,Below W0.heap.size W0 W->BoxAt W w.heap.size r/\VAt W (w.heap.size+1) rf/\VAt W (w.heap.size+2) rs):=fun W hb=>⟨hA0.under hb hA0.lt,hC0.under hb hC0.lt,hD0.under hb hD0.lt⟩
 have HB0:=yd hB0;have HW:=yd hW0;obtain⟨E,hE⟩:∃E,zdq f=E:=⟨_,rfl⟩;obtain⟨E2,hE2⟩:∃E,zdq (opT ze3 [f])=E:=⟨_,rfl⟩;rw[hE]at HCK;rw[hE2]at HC2;have HEE:Hid (zdq f=E/\zdq (opT ze3 [f])=E2):=⟨hE,hE2⟩;obtain⟨po,no,co,pt,nt,ct,sq,fl,kp⟩:=r;obtain⟨fk,fn,fs,fpl,fnl,fcl,fpm,fnm,fcm⟩:=rf;obtain⟨sk,sn,ss,spl,snl,scl,spm,snm,scm⟩:=rs;dsimp only[RB.val,RB.obj,RV.val,RV.obj]at*;clear hro0 hms0 hb ob hf of hs os hall hmax hA0 hC0 hD0 hB0 hW0 hE hE2 hkk
 go_enter Tryz.func6,Tryz.ntmps6
 go_upto_region 1 with fail
 try rw[HW.out]
 clear HW;by_cases hk:fk≠6
 ·have q1:(fk !=6)=true:=by simpa using hk
  clear hk HQ1 HQ2 HC2 HCK HRX HTF HLN HEE
  go_wp2_with (first
   |(go_at_call 16;(with_reducible refine(HAW.out _ hb2).mono ?_);rintro e w3 ⟨rfl,hb9⟩;(have hb3:=hb2.trans (hb9.mono hb2.size)))
   |(go_at_call 16;(with_reducible refine(HAW.out _ (yl _ _)).mono ?_);rintro e w1 ⟨rfl,hb1⟩;(have hva:=HVA.out _ hb1);(have hv1:=hva.1);(have hv2:=hva.2.1);(have hv3:=hva.2.2);(obtain⟨a0,a1,a2,a3,a4⟩:=hv1.cells5);(obtain⟨c0,c1,c2,c3,c4⟩:=hv2.cells5);(obtain⟨d0,d1,d2,d3,d4⟩:=hv3.cells5);clear hva hv1 hv2 hv3;dsimp only at a0 a1 a2 a3 a4 c0 c1 c2 c3 c4 d0 d1 d2 d3 d4)
   |(go_at_call 17;(with_reducible refine(HFW.out _ hb1).mono ?_);rintro e w2 ⟨y,rfl,HL,hb9⟩;(have hb2:=hb1.trans (hb9.mono hb1.size));(have hva:=(HVA.out _ hb2).2.1);(obtain⟨x0,x1,x2,x3,x4⟩:=hva.cells5);clear hva;dsimp only at x0 x1 x2 x3 x4;cases y))
  all_goals (go_ret;exact⟨rfl,HB0.out.trans (hb3.mono HB0.out.size)⟩)
 obtain rfl:fk=6:=by omega
 clear hk;by_cases hE0:E≠0
 ·have q2:(E !=0)=true:=by simpa using hE0
  clear hE0 HQ1 HQ2 HC2 HRX HTF HLN HEE
  go_wp2_with (first
   |(go_at_call 16;(with_reducible refine(HAW.out _ hb4).mono ?_);rintro e w3 ⟨rfl,hb9⟩;(have hb3:=hb4.trans (hb9.mono hb4.size)))
   |(go_at_call 16;(with_reducible refine(HAW.out _ hb2).mono ?_);rintro e w3 ⟨rfl,hb9⟩;(have hb3:=hb2.trans (hb9.mono hb2.size)))
   |(go_at_call 16;(with_reducible refine(HAW.out _ (yl _ _)).mono ?_);rintro e w1 ⟨rfl,hb1⟩;(have hva:=HVA.out _ hb1);(have hv1:=hva.1);(have hv2:=hva.2.1);(have hv3:=hva.2.2);(obtain⟨a0,a1,a2,a3,a4⟩:=hv1.cells5);(obtain⟨c0,c1,c2,c3,c4⟩:=hv2.cells5);(obtain⟨d0,d1,d2,d3,d4⟩:=hv3.cells5);clear hva hv1 hv2 hv3;dsimp only at a0 a1 a2 a3 a4 c0 c1 c2 c3 c4 d0 d1 d2 d3 d4)
   |(go_at_call 17;(with_reducible refine(HFW.out _ hb1).mono ?_);rintro e w2 ⟨y,rfl,HL,hb9⟩;(have hb2:=hb1.trans (hb9.mono hb1.size));(have hva:=(HVA.out _ hb2).2.1);(obtain⟨x0,x1,x2,x3,x4⟩:=hva.cells5);clear hva;dsimp only at x0 x1 x2 x3 x4;cases y)
   |(go_at_call 11;(with_reducible refine(HCK.out (HL.out (by trivial)) _ hb2).mono ?_);rintro e w4 ⟨rfl,hb8⟩;(have hb4:=hb2.trans (hb8.mono hb2.size))))
  all_goals (go_ret;exact⟨rfl,HB0.out.trans (hb3.mono HB0.out.size)⟩)
 obtain rfl:E=0:=by omega
 clear hE0
 go_upto_region 3 with(first
  |(go_at_call 16;(with_reducible refine(HAW.out _ hb2).mono ?_);rintro e w3 ⟨rfl,hb9⟩;(have hb3:=hb2.trans (hb9.mono hb2.size)))
  |(go_at_call 16;(with_reducible refine(HAW.out _ (yl _ _)).mono ?_);rintro e w1 ⟨rfl,hb1⟩;(have hva:=HVA.out _ hb1);(have hv1:=hva.1);(have hv2:=hva.2.1);(have hv3:=hva.2.2);(obtain⟨a0,a1,a2,a3,a4⟩:=hv1.cells5);(obtain⟨c0,c1,c2,c3,c4⟩:=hv2.cells5);(obtain⟨d0,d1,d2,d3,d4⟩:=hv3.cells5);clear hva hv1 hv2 hv3;dsimp only at a0 a1 a2 a3 a4 c0 c1 c2 c3 c4 d0 d1 d2 d3 d4)
  |(go_at_call 17;(with_reducible refine(HFW.out _ hb1).mono ?_);rintro e w2 ⟨y,rfl,HL,hb9⟩;(have hb2:=hb1.trans (hb9.mono hb1.size));(have hva:=(HVA.out _ hb2).2.1);(obtain⟨x0,x1,x2,x3,x4⟩:=hva.cells5);clear hva;dsimp only at x0 x1 x2 x3 x4;cases y)
  |(go_at_call 11;(with_reducible refine(HCK.out (HL.out (by trivial)) _ hb2).mono ?_);rintro e w4 ⟨rfl,hb8⟩;(have hb4:=hb2.trans (hb8.mono hb2.size))))
 ·go_ret;exact⟨rfl,HB0.out.trans (hb3.mono HB0.out.size)⟩
 have HF:=yd (HL.out (by trivial))
 have HB4:=yd hb4;have hva:=HVA.out _ hb4;have hv1:=hva.1;have hv2:=hva.2.1;have hv3:=hva.2.2;have hl2:=hv2.lt;have HV2:=yd hv2;clear a0 a1 a2 a3 a4 c0 c1 c2 c3 c4 d0 d1 d2 d3 d4 x0 x1 x2 x3 x4 hva hb9 hb8 hb4 hb1 hb2 HL HFW HAW HCK;obtain⟨c0,c1,c2,c3,c4⟩:=hv2.cells5;dsimp only at c0 c1 c2 c3 c4;clear hv1 hv2 hv3;obtain⟨g4,hg4⟩:∃g,w4.heap.size=g:=⟨_,rfl⟩
 go_upto_region 4 with fail
 try rw[hg4]
 obtain⟨W5,hW5⟩:∃W,((w4.alloc (.cells #[.int .i64 6,.int .i64 fn,.string fs,.slice fpl fnl fcl,.slice fpm fnm fcm] 25)).alloc (.cells #[.string (⟨#[111,112,101,114,97,116,111,114]⟩),.int .i64 4,.int .i64 0,.string (⟨#[78,79,84]⟩),.slice none 0 0,.slice none 0 0,.string (⟨#[99,111,110,100,105,116,105,111,110,115]⟩),.int .i64 5,.int .i64 0,.string ⟨#[]⟩,.slice (some ⟨g4,0,none⟩) 1 1,.slice none 0 0] 35)).alloc (.cells #[.int .i64 6,.int .i64 0,.string ⟨#[]⟩,.slice none 0 0,.slice (some ⟨g4+1,0,none⟩) 2 2] 25)=W:=⟨_,rfl⟩;have hV5:VAt W5 g4 ⟨6,fn,fs,fpl,fnl,fcl,fpm,fnm,fcm⟩:=by rw[<-hW5,<-hg4];exact zb (by first|(simp;done)|(simp;omega)) (zb (by simp) (za rfl))
 have hM5:W5.heap[g4+1]? =some (.cells #[.string (⟨#[111,112,101,114,97,116,111,114]⟩),.int .i64 4,.int .i64 0,.string (⟨#[78,79,84]⟩),.slice none 0 0,.slice none 0 0,.string (⟨#[99,111,110,100,105,116,105,111,110,115]⟩),.int .i64 5,.int .i64 0,.string ⟨#[]⟩,.slice (some ⟨g4,0,none⟩) 1 1,.slice none 0 0] 35 (0,0)):=by rw[<-hW5,<-hg4];exact zb (by simp) (za (by simp))
 have hN5:VAt W5 (g4+1+1) ⟨6,0,⟨#[]⟩,none,0,0,some ⟨g4+1,0,none⟩,2,2⟩:=by rw[<-hW5,<-hg4];exact za (by simp)
 have hbW5:Below w4.heap.size w4 W5:=by rw[<-hW5];exact((((yl w4.heap.size w4).alloc (yf _) _).alloc (by simp) _).alloc (by first|(simp;done)|(simp;omega)) _)
 try rw[hW5]
 have hl5:=hN5.lt;have hB5:Below W0.heap.size W0 W5:=HB4.out.trans (hbW5.mono HB4.out.size);have hlt4:W0.heap.size<=g4:=by rw[<-hg4];exact HB4.out.size
 have HNT:Hid (∀W,Below W5.heap.size W5 W->TreeOf W W.heap.size (opT ze3 [f]) ⟨6,0,⟨#[]⟩,none,0,0,some ⟨g4+1,0,none⟩,2,2⟩):=fun W hW=>by
  have h1:TreeOf W5 W5.heap.size (opT ze3 [f]) ⟨6,0,⟨#[]⟩,none,0,0,some ⟨g4+1,0,none⟩,2,2⟩:=ztv (nm:=ze3) hM5 (by omega) ⟨[⟨6,fn,fs,fpl,fnl,fcl,fpm,fnm,fcm⟩],Rd.one zb8 hV5 rfl (by omega),rfl,fun i t q h1 h2=>by
   cases i with
   |zero=>simp at h1 h2;subst h1 h2;exact(HTF.out W5 hB5).under (yl _ _) (by omega)
   |succ i=>simp at h1⟩
  exact h1.under hW hW.size
 have HN5:Hid (∀W,Below W5.heap.size W5 W->VAt W (g4+1+1) ⟨6,0,⟨#[]⟩,none,0,0,some ⟨g4+1,0,none⟩,2,2⟩):=fun W hW=>hN5.under hW hN5.lt
 have HB5:=yd hB5;have hn5:=hN5;clear hg4 hW5 hV5 hM5 hN5 hbW5 hB5 c0 c1 c2 c3 c4 hl2 HV2 HTF HB4;obtain⟨n0,n1,n2,n3,n4⟩:=hn5.cells5;dsimp only at n0 n1 n2 n3 n4;clear hn5;by_cases hE3:E2≠0
 ·have q3:(E2 !=0)=true:=by simpa using hE3
  go_wp2_with (go_at_call 11;(refine(HC2.out HF.out _ ⟨6,0,⟨#[]⟩,none,0,0,some ⟨g4+1,0,none⟩,2,2⟩ HB5.out (HNT.out _ (yl _ _))).mono ?_);rintro e w6 ⟨rfl,hb6⟩)
  go_ret;exact⟨rfl,HB0.out.trans ((HB5.out.trans (hb6.mono HB5.out.size)).mono HB0.out.size)⟩
 obtain rfl:E2=0:=by omega
 clear hE3
 go_upto_region 6 with(go_at_call 11;(refine(HC2.out HF.out _ ⟨6,0,⟨#[]⟩,none,0,0,some ⟨g4+1,0,none⟩,2,2⟩ HB5.out (HNT.out _ (yl _ _))).mono ?_);rintro e w6 ⟨rfl,hb6⟩)
 have HK6:Hid (Below W5.heap.size W5 w6):=hb6;have hB6:=HB5.out.trans (hb6.mono HB5.out.size);have HB6:=yd hB6;have hva:=HVA.out _ hB6;have hv1:=hva.1;have hv2:=hva.2.1;have hv3:=hva.2.2;have hl1:=hv1.lt;have hl2:=hv2.lt;have hl3:=hv3.lt;clear n0 n1 n2 n3 n4 hva hb6 hB6 hl5 HC2;obtain⟨a0,a1,a2,a3,a4⟩:=hv1.cells5;obtain⟨c0,c1,c2,c3,c4⟩:=hv2.cells5;obtain⟨d0,d1,d2,d3,d4⟩:=hv3.cells5;dsimp only at a0 a1 a2 a3 a4 c0 c1 c2 c3 c4 d0 d1 d2 d3 d4;clear hv1 hv2 hv3
 go_upto_region 7 with(go_at_call 22;(with_reducible refine(HQ1.out HF.out _ HB6.out).mono ?_);rintro e w7 ⟨u7,rfl,ho7,hb7⟩)
 obtain⟨py,cy,hv7,hcl7,hcm7⟩:=ho7.len;obtain⟨ny,hny⟩:∃n,(zcv f so b.objs).length=n:=⟨_,rfl⟩;rw[hny]at hv7;subst hv7;have HY:Hid (∀W,Below w7.heap.size w7 W->Rd W W.heap.size zg 1 (.slice py ny cy) (zcv f so b.objs)):=fun W h=>(ho7.rd zn).below h h.size
 have HNY:=yd hny;have HK7:Hid (Below W5.heap.size W5 w7):=HK6.out.trans (hb7.mono HK6.out.size);have hB7:=HB6.out.trans (hb7.mono HB6.out.size);have HB7:=yd hB7;have hva:=HVA.out _ hB7;have hv1:=hva.1;have hv3:=hva.2.2;have hn7:=HN5.out _ HK7.out;have hnl:=hn7.lt;clear ho7 hb7 hcl7 hcm7 hny hB7 HK6 HB6 a0 a1 a2 a3 a4 c0 c1 c2 c3 c4 d0 d1 d2 d3 d4 hl1 hl2 hl3 hva HQ1;have hl1:=hv1.lt;have hl3:=hv3.lt;obtain⟨a0,a1,a2,a3,a4⟩:=hv1.cells5;obtain⟨d0,d1,d2,d3,d4⟩:=hv3.cells5;obtain⟨n0,n1,n2,n3,n4⟩:=hn7.cells5;dsimp only at a0 a1 a2 a3 a4 d0 d1 d2 d3 d4 n0 n1 n2 n3 n4;clear hv1 hv3 hn7
 go_upto_region 8 with(go_at_call 22;(refine(HQ2.out HF.out _ ⟨6,0,⟨#[]⟩,none,0,0,some ⟨g4+1,0,none⟩,2,2⟩ HB7.out (HNT.out _ HK7.out)).mono ?_);rintro e w8 ⟨u8,rfl,ho8,hb8⟩)
 obtain⟨pz,cz,hv8,hcl8,hcm8⟩:=ho8.len;obtain⟨nz,hnz⟩:∃n,(zcv (opT ze3 [f]) so b.objs).length=n:=⟨_,rfl⟩;rw[hnz]at hv8;subst hv8;have HY8:Hid (∀W,Below w8.heap.size w8 W->Rd W W.heap.size zg 1 (.slice py ny cy) (zcv f so b.objs)):=fun W h=>HY.out W (hb8.trans (h.mono hb8.size))
 have HZ8:Hid (∀W,Below w8.heap.size w8 W->Rd W W.heap.size zg 1 (.slice pz nz cz) (zcv (opT ze3 [f]) so b.objs)):=fun W h=>(ho8.rd zn).below h h.size
 have HNZ:=yd hnz;have hB8:=HB7.out.trans (hb8.mono HB7.out.size);have HB8:=yd hB8
 have hnos:ny<=30/\nz<=30/\no<=30:=by
  have h1:=zpL f so b.objs;have h2:=zpL (opT ze3 [f]) so b.objs;have h3:=HF.out.objs;have h4:=HLN.out;have h5:=HNY.out
  try dsimp only at h4
  omega
 obtain⟨hny3,hnz3,hno3⟩:=hnos;have HXS:Hid (∀(i:Nat) p,b.objs[i]? =some p->p.2.k=6->(zbE (zcv f so b.objs) p.1==zbE (zcv (opT ze3 [f]) so b.objs) p.1)=false):=fun i p hp hk=>zsX HEE.out.1 HEE.out.2 HF.out.nodup hp hk
 have HSUM:Hid ((ny:Int)+(nz:Int)+(zdE b.objs:Int)=(no:Int)):=by
  have h:=zs9 (so:=so) HEE.out.1 HEE.out.2 b.objs;have h1:=HNY.out;have h2:=HNZ.out;have h3:=HLN.out
  try dsimp only at h3
  unfold Hid;omega
 have HLY:Hid ((zcv f so b.objs).length<=4398046510976/\(zcv (opT ze3 [f]) so b.objs).length<=4398046510976):=⟨by have:=HNY.out;omega,by omega⟩
 clear ho8 hb8 hcl8 hcm8 hnz hB8 HB7 HK7 HN5 HNT HY a0 a1 a2 a3 a4 d0 d1 d2 d3 d4 n0 n1 n2 n3 n4 hl1 hl3 hnl HQ2 HEE
 go_wp2_with fail
 go_loopw [10,11,12] (fun n i s wr=>∃(k:Nat),k<=no/\i= .int .i64 (k:Int)/\n= .int .i64 (zdE (b.objs.take k):Nat)/\Hid (Below w8.heap.size w8 wr)) (fun _ i _ _=>no-(intOf i).toNat)
 case atStart=>exact⟨0,Nat.zero_le _,rfl,rfl,yl _ _⟩
 case round=>
  obtain⟨k,hk,rfl,rfl,hbr⟩:=hrel;have hB9:=HB8.out.trans (hbr.out.mono HB8.out.size);have hva:=(HVA.out _ hB9).1;have hl1:=hva.lt;have hk0:(0:Int)<=(k:Int):=Int.natCast_nonneg _;have hnle:zdE (b.objs.take k)<=k:=by have:=zts (b.objs.take k);rw[List.length_take]at this;omega
  obtain⟨a0,a1,a2,a3,a4⟩:=hva.cells5;dsimp only at a0 a1 a2 a3 a4;clear hva;by_cases hlt:k<no
  ·have hk1:(k:Int)<(no:Int):=by omega
   obtain⟨p,hp⟩:∃p,b.objs[k]? =some p:=⟨_,ya (by have:=HLN.out;(try dsimp only at this);omega)⟩
   obtain⟨x,hx⟩:∃x,ros[k]? =some x:=⟨_,ya (by have:=HLN.out;(try dsimp only at this);omega)⟩
   obtain⟨hro,hms⟩:=HRX.out _ hB9;have hst:=zs4 hp;have hnm:=hms.name k p x hp hx;have hkx:=(hms.val k p x hp hx).kk.1;obtain⟨b1,o1,hq,hb1,hc1⟩:=zqi hro hx;have f0:=hc1 0 _ rfl;have f1:=hc1 1 _ rfl;rw[Nat.add_zero]at f0;cases hq;have hbl:b1<wr.heap.size:=by have:=hB9.size;omega
   obtain⟨m0,hm0⟩:∃m,zdE (b.objs.take k)=m:=⟨_,rfl⟩;rw[hm0]at hst hnle⊢;have HST:=yd hst;have HP:=yd hp;have HNM:=yd hnm;have HKX:=yd hkx;obtain⟨xn,xk,xnn,xs,xpl,xnl,xcl,xpm,xnm,xcm⟩:=x;dsimp only at f0 f1;clear hst hp hx hnm hkx hro hms hc1 hm0 hb1;by_cases hk6:xk=6
   ·subst hk6
    have HE1:Hid ((zbE (zcv f so b.objs) xn==zbE (zcv (opT ze3 [f]) so b.objs) xn)=false):=by
     have h:=HXS.out k p HP.out (by have:=HKX.out;(try dsimp only at this);omega)
     have h2:=HNM.out
     try dsimp only at h2
     unfold Hid;rw[h2]at h;exact h
    have Q1:Hid (Calls yb 26 #[.slice py ny cy,.string xn] wr fun e w'=>e= .returned (.bool (zbE (zcv f so b.objs) xn))/\∃m,w'=wr.drewN m):=zf6 wr wr.heap.size _ _ xn (HY8.out wr hbr.out) HLY.out.1
    have Q2:Hid (∀n,Calls yb 26 #[.slice pz nz cz,.string xn] (wr.drewN n) fun e w'=>e= .returned (.bool (zbE (zcv (opT ze3 [f]) so b.objs) xn))/\∃m,w'=(wr.drewN n).drewN m):=fun n=>zf6 (wr.drewN n) wr.heap.size _ _ xn ((HZ8.out wr hbr.out).drewN n) HLY.out.2
    obtain⟨h1,hh1⟩:∃h,zbE (zcv f so b.objs) xn=h:=⟨_,rfl⟩;obtain⟨h2,hh2⟩:∃h,zbE (zcv (opT ze3 [f]) so b.objs) xn=h:=⟨_,rfl⟩;rw[hh1,hh2]at HE1;rw[hh1]at Q1;rw[hh2]at Q2;have e9:=HE1.out;clear hh1 hh2
    go_wp2_with (first
     |(go_at_call 26;(with_reducible refine Q1.out.mono ?_);rintro e wa ⟨rfl,ma,rfl⟩)
     |(go_at_call 26;(with_reducible refine(Q2.out _).mono ?_);rintro e wb ⟨rfl,mb,rfl⟩))
    go_roundw
    case rel=>exact⟨k+1,by omega,by go_num,by rw[HST.out,if_pos (by have:=HKX.out;(try dsimp only at this);omega)];rfl,bdn hbr.out _⟩
    case measure=>simp[intOf];omega
   ·have q6:(xk !=6)=true:=by simpa using hk6
    go_wp2_with fail
    go_roundw
    case rel=>exact⟨k+1,by omega,by go_num,by rw[HST.out,if_neg (by have:=HKX.out;(try dsimp only at this);omega)];go_num,hbr⟩
    case measure=>simp[intOf];omega
  ·obtain rfl:k=no:=by omega
   have hk2:¬((k:Int)<(k:Int)):=by omega
   obtain⟨m0,hm0⟩:∃m,zdE (b.objs.take k)=m:=⟨_,rfl⟩
   have hs2:(ny:Int)+(nz:Int)+(m0:Int)=(k:Int):=by
    have h:=HSUM.out;have h3:=HLN.out
    try dsimp only at h3
    rw[List.take_of_length_le (by omega)]at hm0
    rw[hm0]at h;exact h
   have hs3:(((ny:Int)+(nz:Int)+(m0:Int))==(k:Int))=true:=by simpa using hs2
   rw[hm0]at hnle⊢;clear hm0
   go_wp2_with fail
   go_ret;exact⟨rfl,HB0.out.trans (hB9.mono HB0.out.size)⟩
end
section
open Go.RowKit Go.OpenShut
def zdm(p:Pa):Int:=if p.was then(if p.isb then 2 else 3)else(if p.isb then 1 else 0)
def zlO(p:Pa):Bool:=decide (zdm p=0)
section
variable {W:World} {g:Nat} {x:Pa} (h:PaAt W g x)
include h
end
structure DelRelP(rms:List Pa)(a b:Nat)(cur:List Pa):Prop where
 lt:a<b
 len:cur.length=rms.length
 head:cur.take a=(rms.take b).filter (fun x=> !zlO x)
 tail:cur.drop b=rms.drop b
theorem DelRelP.start{rms:List Pa}{i:Nat}(h:rms.findIdx? (zlO)=some i):DelRelP rms i (i+1) rms:=by
 rw[List.findIdx?_eq_some_iff_getElem]at h;obtain⟨h1,h2,h3⟩:=h;refine⟨by omega,rfl,?_,rfl⟩
 rw[yp,ya h1,yz]
 have e1:(rms.take i).filter (fun x=> !zlO x)=rms.take i:=by
  rw[List.filter_eq_self];intro x hx;obtain⟨j,hj⟩:=yo hx;rw[List.getElem?_take]at hj
  split at hj
  ·have:=h3 j (by assumption)
   rw[ya (by omega)]at hj
   cases hj;simpa using this
  ·cases hj
 rw[e1];simp[h2]
theorem DelRelP.at{rms cur:List Pa}{a b:Nat}(h:DelRelP rms a b cur){x:Pa}(hx:rms[b]? =some x):cur[b]? =some x:=by
 have h1:(cur.drop b)[0]? =(rms.drop b)[0]? :=by rw[h.tail]
 simpa[yA,hx]using h1
theorem DelRelP.skip{rms cur:List Pa}{a b:Nat}(h:DelRelP rms a b cur){x:Pa}(hx:rms[b]? =some x)(hn:zlO x=true):DelRelP rms a (b+1) cur:=by
 refine⟨by have:=h.lt;omega,h.len,?_,?_⟩
 ·rw[yp,hx,yz,<-h.head];simp[hn]
 ·rw[<-yQ (i:=1) (j:=b),<-yQ (i:=1) (j:=b),h.tail]
theorem DelRelP.keep{rms cur:List Pa}{a b:Nat}(h:DelRelP rms a b cur){x:Pa}(hx:rms[b]? =some x)(hn:zlO x=false):DelRelP rms (a+1) (b+1) (cur.set a x):=by
 have hl:=h.lt;have hbl:=(yc.1 hx).1;refine⟨by omega,by rw[List.length_set,h.len],?_,?_⟩
 ·rw[yp,List.take_set_of_le (yf _),List.getElem?_set_self (by have:=h.len;omega),yp,hx,yz,<-h.head]
  simp[hn]
 ·rw[List.drop_set_of_lt (by omega),<-yQ (i:=1) (j:=b),<-yQ (i:=1) (j:=b),h.tail]
theorem DelRelP.done{rms cur:List Pa}{a:Nat}(h:DelRelP rms a rms.length cur):cur.take a=rms.filter (fun x=> !zlO x):=by
 have:=h.head
 rwa[yL]at this
structure ChD where
 made:List ByteArray
 chgd:List ByteArray
 gone:List ByteArray
 toN:Int
 more:Bool
structure RC where
 pa:Option Addr
 na:Nat
 ca:Nat
 pb:Option Addr
 nb:Nat
 cb:Nat
 pc:Option Addr
 nc:Nat
 cc:Nat
 toN:Int
 more:Bool
abbrev RC.val(r:RC):Value:= .agg #[.slice r.pa r.na r.ca,.slice r.pb r.nb r.cb,.slice r.pc r.nc r.cc,.int .i64 r.toN,.bool r.more]
def RC.zero:RC:=⟨none,0,0,none,0,0,none,0,0,0,false⟩
def ChD.zero:ChD:=⟨[],[],[],0,false⟩
structure ChgOf(w:World)(B:Nat)(d:ChD)(r:RC):Prop where
 made:Rd w B zg 1 (.slice r.pa r.na r.ca) d.made
 chgd:Rd w B zg 1 (.slice r.pb r.nb r.cb) d.chgd
 gone:Rd w B zg 1 (.slice r.pc r.nc r.cc) d.gone
 toN:d.toN=r.toN
 more:d.more=r.more
theorem ChgOf.under{w w':World}{B B':Nat}{d:ChD}{r:RC}(h:ChgOf w B d r)(hb:Below B w w')(hB:B<=B'):ChgOf w' B' d r:=
 ⟨h.made.below hb hB,h.chgd.below hb hB,h.gone.below hb hB,h.toN,h.more⟩
structure NewChg(w:World)(base:Nat)(d:ChD)(r:RC):Prop where
 made:Own w base 9 zg 1 (.slice r.pa r.na r.ca) d.made
 chgd:Own w base 9 zg 1 (.slice r.pb r.nb r.cb) d.chgd
 gone:Own w base 9 zg 1 (.slice r.pc r.nc r.cc) d.gone
 toN:d.toN=r.toN
 more:d.more=r.more
theorem NewChg.zero(w:World)(base:Nat):NewChg w base ChD.zero RC.zero:=⟨Own.nil _ _ _,Own.nil _ _ _,Own.nil _ _ _,rfl,rfl⟩
theorem NewChg.below{w w':World}{base:Nat}{d:ChD}{r:RC}(h:NewChg w base d r)(hb:Below w.heap.size w w'):NewChg w' base d r:=
 ⟨h.made.below hb (yf _),h.chgd.below hb (yf _),h.gone.below hb (yf _),h.toN,h.more⟩
structure Own3(W:World)(base:Nat)(a b c:Value)(la lb lc:List ByteArray):Prop where
 oa:Own W base 9 zg 1 a la
 ob:Own W base 9 zg 1 b lb
 oc:Own W base 9 zg 1 c lc
 ab:∀k,a.ownBlock=some k->b.ownBlock≠some k
 ac:∀k,a.ownBlock=some k->c.ownBlock≠some k
 bc:∀k,b.ownBlock=some k->c.ownBlock≠some k
section
variable {W W':World} {base:Nat} {a b c:Value} {la lb lc:List ByteArray} (h:Own3 W base a b c la lb lc)
include h
theorem Own3.same(hb:∀k,base<=k->k<W.heap.size->W'.heap[k]? =W.heap[k]?):Own3 W' base a b c la lb lc:=
 ⟨h.oa.same (fun k e=>hb k (h.oa.lt k e).1 (h.oa.lt k e).2),h.ob.same (fun k e=>hb k (h.ob.lt k e).1 (h.ob.lt k e).2),h.oc.same (fun k e=>hb k (h.oc.lt k e).1 (h.oc.lt k e).2),h.ab,h.ac,h.bc⟩
end
end
section
theorem zdZ{l:List En}{floor seq:Int}(h:zdd l floor seq=true):0<=floor/\floor<=seq/\seq<=9007199254740991/\seq-floor=l.length:=by
 unfold zdd at h;rw[ye]at h;have h1:=h.1;unfold zeW at h1;exact of_decide_eq_true h1
def ztz(l:List En)(sq:Int)(p:Pa):Prop:=∃(i:Nat) (x:En) (k:Nat) (f:En),l[i]? =some x/\sq<x.seq/\(∀(j:Nat) y,i<j->l[j]? =some y->y.id≠x.id)/\l[k]? =some f/\f.id=x.id/\sq<f.seq/\(∀(j:Nat) y,j<k->l[j]? =some y->y.id=x.id->y.seq<=sq)/\p=⟨x.id,f.what !=1,x.what !=3,x.seq⟩
theorem zcC{l:List En}{floor seq sq:Int}(h:zdd l floor seq=true){p:Pa}:p∈zU sq l↔ztz l sq p:=by
 rw[<-zoM]
 constructor
 ·intro hp;obtain⟨i,_,hi⟩:=zsz hp;unfold zds at hi;cases hx:l[i]? with
  |none=>rw[hx]at hi;cases hi
  | some x =>
    rw[hx]at hi;dsimp only at hi
    split at hi
    ·cases hi
    ·rename_i h1
     split at hi
     ·cases hi
     ·rename_i h2;cases h3:l.find? (ziy sq x)with
      |none=>rw[h3]at hi;cases hi
      | some f =>
        rw[h3]at hi;simp only[Option.map_some,Option.some.injEq]at hi;obtain⟨hfh,k,hk,hfe,hfno⟩:=List.find?_eq_some_iff_getElem.1 h3;unfold ziy at hfh;simp only[ye,decide_eq_true_eq]at hfh;refine⟨i,x,k,f,hx,by omega,fun j y hij hy e=>h2 ?_,by rw[ya hk,hfe],hfh.1,hfh.2,fun j y hj hy e=> ?_,hi.symm⟩
        ·rw[yj];have a1:=(zbX h hx).1;have a2:=(zbX h hy).1;refine⟨y,?_,by unfold ziy;simp[e];omega⟩
         exact yh (i:=j-(i+1)) (by rw[yA,show i+1+(j-(i+1))=j by omega];exact hy)
        ·have h5:=hfno j hj
         have e2:l[j]'(by omega)=y:=by
          rw[ya (by omega)]at hy
          exact Option.some.inj hy
         rw[e2]at h5;unfold ziy at h5;simp[e]at h5;omega
 ·rintro⟨i,x,k,f,hx,h1,h2,hf,h3,h4,h5,rfl⟩;have hi:=(yc.1 hx).1;unfold zek;rw[List.mem_filterMap];refine⟨i,yS.2 hi,?_⟩;unfold zds;rw[hx];dsimp only;rw[if_neg (by omega),if_neg ?_]
  ·have hfd:l.find? (ziy sq x)=some f:=by
    rw[List.find?_eq_some_iff_getElem];refine⟨by unfold ziy;simp[h3,h4],k,(yc.1 hf).1,(yc.1 hf).2,fun j hj=> ?_⟩
    have h6:=h5 j _ hj (ya (by have:=(yc.1 hf).1;omega))
    unfold ziy;simp;exact Decidable.not_or_of_imp h6
   rw[hfd]
   rfl
  ·rw[yj];rintro⟨y,hy,he⟩;obtain⟨j,hj⟩:=yo hy;rw[yA]at hj;unfold ziy at he;simp at he;exact h2 _ y (by omega) hj he.1
theorem zsm{l:List En}{sq:Int}{i:Nat}{x:En}(hx:l[i]? =some x)(hs:sq<x.seq):∃(k:Nat) (f:En),l[k]? =some f/\f.id=x.id/\sq<f.seq/\∀(j:Nat) y,j<k->l[j]? =some y->y.id=x.id->y.seq<=sq:=by
 have hsome:(l.find? (ziy sq x)).isSome=true:=by
  rw[List.find?_isSome];exact⟨x,yh hx,by unfold ziy;simp[hs]⟩
 obtain⟨f,h3⟩:=Option.isSome_iff_exists.1 hsome;obtain⟨hfh,k,hk,hfe,hfno⟩:=List.find?_eq_some_iff_getElem.1 h3;unfold ziy at hfh;simp only[ye,decide_eq_true_eq]at hfh;refine⟨k,f,by rw[ya hk,hfe],hfh.1,hfh.2,fun j y hj hy e=> ?_⟩
 have h5:=hfno j hj
 have e2:l[j]'(by omega)=y:=by
  rw[ya (by omega)]at hy
  exact Option.some.inj hy
 rw[e2]at h5;unfold ziy at h5;simp[e]at h5;omega
theorem zsb{l:List En}{floor seq s0 s:Int}(h:zdd l floor seq=true)(hs:s0<=s){id:ByteArray}{k0 k:Nat}{f0 f:En}(h0:l[k0]? =some f0)(e0:f0.id=id)(h1:l[k]? =some f)(e1:f.id=id)(hf:s<f.seq)(hf0:s0<f0.seq)(hno:∀(j:Nat) y,j<k0->l[j]? =some y->y.id=id->y.seq<=s0)(hw:(f0.what !=1)=true):(f.what !=1)=true:=by
 rcases Nat.lt_trichotomy k0 k with hlt|rfl|hgt
 ·have h2:=(zs8 h hlt h0 h1 (e0.trans e1.symm)).2;simpa using h2
 ·rw[h0]at h1;cases h1;exact hw
 ·have:=hno k f hgt h1 e1;omega
theorem zrR{l:List En}{floor seq s0 s:Int}(h:zdd l floor seq=true)(hs:s0<=s){p:Pa}(hp:p∈zU s l):∃q∈zU s0 l,q.id=p.id/\q.isb=p.isb/\q.last=p.last/\(q.was=true->p.was=true):=by
 obtain⟨i,x,k,f,hx,h1,h2,hf,h3,h4,h5,rfl⟩:=(zcC h).1 hp;obtain⟨k0,f0,g1,g2,g3,g4⟩:=zsm (sq:=s0) hx (by omega)
 exact⟨⟨x.id,f0.what !=1,x.what !=3,x.seq⟩,(zcC h).2 ⟨i,x,k0,f0,hx,by omega,h2,g1,g2,g3,g4,rfl⟩,rfl,rfl,rfl,fun hw=>zsb h hs g1 g2 hf h3 h4 g3 g4 hw⟩
theorem zsP{l:List En}{floor seq s0 s:Int}(h:zdd l floor seq=true)(hs:s0<=s){q:Pa}(hq:q∈zU s0 l)(hl:s<q.last):∃p∈zU s l,p.id=q.id/\p.isb=q.isb/\p.last=q.last/\(q.was=true->p.was=true):=by
 obtain⟨i,x,k0,f0,hx,h1,h2,g1,g2,g3,g4,rfl⟩:=(zcC h).1 hq;obtain⟨k,f,hf,h3,h4,h5⟩:=zsm (sq:=s) hx hl;exact⟨⟨x.id,f.what !=1,x.what !=3,x.seq⟩,(zcC h).2 ⟨i,x,k,f,hx,hl,h2,hf,h3,h4,h5,rfl⟩,rfl,rfl,rfl,fun hw=>zsb h hs g1 g2 hf h3 h4 g3 g4 hw⟩
theorem zf4{l:List En}{floor seq sq:Int}(h:zdd l floor seq=true){p:Pa}(hp:p∈zU sq l):sq<p.last/\p.last<=seq/\∃e∈l,e.seq=p.last:=by
 obtain⟨i,x,k,f,hx,h1,h2,hf,h3,h4,h5,rfl⟩:=(zcC h).1 hp;have a:=(zbX h hx).1;have b:=zdZ h;have c:=(yc.1 hx).1;exact⟨h1,by dsimp only;omega,x,yh hx,rfl⟩
theorem zs2{ys:List Pa}(h:(ys.map (·.id)).Nodup):∀{p q:Pa},p∈ys->q∈ys->p.id=q.id->p=q:=by
 induction ys with
 |nil=>intro p q hp;cases hp
 | cons a r ih =>
   rw[List.map_cons,List.nodup_cons]at h;intro p q hp hq e
   rcases ym.1 hp with hp1|hp1
   ·rcases ym.1 hq with hq1|hq1
    ·rw[hp1,hq1]
    ·exact absurd (yG.2 ⟨q,hq1,by rw[<-hp1,e]⟩) h.1
   ·rcases ym.1 hq with hq1|hq1
    ·exact absurd (yG.2 ⟨p,hp1,by rw[<-hq1,e]⟩) h.1
    ·exact ih h.2 hp1 hq1 e
structure Told(l:List En)(seq s most:Int)(d:ChD):Prop where
 made:∀id,id∈d.made↔∃p∈zU s l,p.id=id/\zdm p=1/\p.last<=d.toN
 chgd:∀id,id∈d.chgd↔∃p∈zU s l,p.id=id/\zdm p=2/\p.last<=d.toN
 gone:∀id,id∈d.gone↔∃p∈zU s l,p.id=id/\zdm p=3/\p.last<=d.toN
 nodup:(d.made++d.chgd++d.gone).Nodup
 ge:s<=d.toN
 le:d.toN<=seq
 all:d.more=false->d.toN=seq
 some:d.more=true->0<most/\((d.made.length+d.chgd.length+d.gone.length:Nat):Int)=most/\∃e∈l,e.seq=d.toN/\s<e.seq
 len:d.made.length+d.chgd.length+d.gone.length<=l.length
structure AllI(l:List En)(seq s0 s:Int)(m c g:List ByteArray):Prop where
 ge:s0<=s
 le:s<=seq
 nd:(m++c++g).Nodup
 mc:∀id,id∈m\/id∈c->∃p∈zU s0 l,p.id=id/\p.isb=true/\p.last<=s
 gn:∀id∈g,∃p∈zU s0 l,p.id=id/\p.isb=false/\p.last<=s
 full:∀p∈zU s0 l,p.last<=s->(p.isb=true->p.id∈m\/p.id∈c)/\(p.isb=false->p.was=true->p.id∈g)
theorem AllI.start{l:List En}{floor seq s0:Int}(h:zdd l floor seq=true)(hs:s0<=seq):AllI l seq s0 s0 [] [] []:=
 ⟨Int.le_refl _,hs,by simp,fun id h=>by simp at h,fun id h=>by simp at h,fun p hp hl=>by have:=(zf4 h hp).1;omega⟩
theorem zeN(p:Pa):(zdm p=1->p.isb=true)/\(zdm p=2->p.isb=true)/\(zdm p=3->p.isb=false)/\(p.isb=true->zdm p=1\/zdm p=2)/\(p.isb=false->p.was=true->zdm p=3):=by
 unfold zdm;cases p.was<;>cases p.isb<;>simp
theorem zs3{α:Type}{a b c x y z:List α}(h1:(a++b++c).Nodup)(h2:(x++y++z).Nodup)(h:∀p∈a++b++c,∀q∈x++y++z,p≠q):((a++x)++(b++y)++(c++z)).Nodup:=by
 have h3:((a++b++c)++(x++y++z)).Nodup:=List.nodup_append.2 ⟨h1,h2,h⟩;refine yM.nodup_iff ?_|>.1 h3
 have e1:((a++b++c)++(x++y++z)).Perm ((a++b++x)++(c++(y++z))):=by
  simp only[yC];exact yM.append_left a (yM.append_left b (List.perm_append_comm_assoc c x (y++z)))
 refine e1.trans ?_
 have e2:((a++b++x)++(c++(y++z))).Perm ((a++x++b)++(y++(c++z))):=by
  refine yM.append ?_ ?_
  ·simp only[yC];exact yM.append_left a List.perm_append_comm
  ·exact List.perm_append_comm_assoc c y z
 refine e2.trans ?_;simp only[yC];exact yM.refl _
theorem AllI.step{l:List En}{floor seq s0 s most:Int}{m c g:List ByteArray}{d:ChD}(h:AllI l seq s0 s m c g)(hr:zdd l floor seq=true)(hd:Told l seq s most d):AllI l seq s0 d.toN (m++d.made) (c++d.chgd) (g++d.gone):=by
 have hn0:=zgy s0 l;have hge:=h.ge;have hge2:=hd.ge
 have hnew:∀id,id∈d.made\/id∈d.chgd->∃p∈zU s0 l,p.id=id/\p.isb=true/\s<p.last/\p.last<=d.toN:=fun id hid=>by
  have:∃p∈zU s l,p.id=id/\p.isb=true/\p.last<=d.toN:=by
   rcases hid with h1|h1
   ·obtain⟨p,h2,h3,h4,h5⟩:=(hd.made id).1 h1;exact⟨p,h2,h3,(zeN p).1 h4,h5⟩
   ·obtain⟨p,h2,h3,h4,h5⟩:=(hd.chgd id).1 h1;exact⟨p,h2,h3,(zeN p).2.1 h4,h5⟩
  obtain⟨p,h2,h3,h4,h5⟩:=this;obtain⟨q,g1,g2,g3,g4,_⟩:=zrR hr hge h2;have:=(zf4 hr h2).1;exact⟨q,g1,g2.trans h3,g3.trans h4,by omega,by omega⟩
 have hgone:∀id∈d.gone,∃p∈zU s0 l,p.id=id/\p.isb=false/\s<p.last/\p.last<=d.toN:=fun id hid=>by
  obtain⟨p,h2,h3,h4,h5⟩:=(hd.gone id).1 hid;obtain⟨q,g1,g2,g3,g4,_⟩:=zrR hr hge h2;have:=(zf4 hr h2).1;exact⟨q,g1,g2.trans h3,g3.trans ((zeN p).2.2.1 h4),by omega,by omega⟩
 refine⟨by omega,hd.le,zs3 h.nd hd.nodup (fun a ha b hb e=> ?_),fun id hid=> ?_,fun id hid=> ?_,fun p hp hl=> ?_⟩
 ·subst e
  have o1:∃p∈zU s0 l,p.id=a/\p.last<=s:=by
   rw[yg,yg]at ha
   rcases ha with ha|ha
   ·obtain⟨p,h1,h2,h3,h4⟩:=h.mc a ha;exact⟨p,h1,h2,h4⟩
   ·obtain⟨p,h1,h2,h3,h4⟩:=h.gn a ha;exact⟨p,h1,h2,h4⟩
  have o2:∃p∈zU s0 l,p.id=a/\s<p.last:=by
   rw[yg,yg]at hb
   rcases hb with hb|hb
   ·obtain⟨p,h1,h2,h3,h4,h5⟩:=hnew a hb;exact⟨p,h1,h2,h4⟩
   ·obtain⟨p,h1,h2,h3,h4,h5⟩:=hgone a hb;exact⟨p,h1,h2,h4⟩
  obtain⟨p,h1,h2,h3⟩:=o1;obtain⟨q,h4,h5,h6⟩:=o2;have:=zs2 hn0 h1 h4 (by rw[h2,h5])
  subst this;omega
 ·have:(id∈m\/id∈c)\/(id∈d.made\/id∈d.chgd):=by
   simp only[yg]at hid
   rcases hid with(h1|h1)|(h1|h1)
   ·exact .inl (.inl h1)
   ·exact .inr (.inl h1)
   ·exact .inl (.inr h1)
   ·exact .inr (.inr h1)
  rcases this with h1|h1
  ·obtain⟨p,g1,g2,g3,g4⟩:=h.mc id h1;exact⟨p,g1,g2,g3,by omega⟩
  ·obtain⟨p,g1,g2,g3,g4,g5⟩:=hnew id h1;exact⟨p,g1,g2,g3,g5⟩
 ·rcases yg.1 hid with h1|h1
  ·obtain⟨p,g1,g2,g3,g4⟩:=h.gn id h1;exact⟨p,g1,g2,g3,by omega⟩
  ·obtain⟨p,g1,g2,g3,g4,g5⟩:=hgone id h1;exact⟨p,g1,g2,g3,g5⟩
 ·by_cases hls:p.last<=s
  ·have h1:=h.full p hp hls;refine⟨fun e=> ?_,fun e1 e2=>yg.2 (.inl (h1.2 e1 e2))⟩
   rcases h1.1 e with h2|h2
   ·exact .inl (yg.2 (.inl h2))
   ·exact .inr (yg.2 (.inl h2))
  ·obtain⟨q,g1,g2,g3,g4,g5⟩:=zsP hr hge hp (s:=s) (by omega)
   refine⟨fun e=> ?_,fun e1 e2=> ?_⟩
   ·rcases(zeN q).2.2.2.1 (g3.trans e)with h2|h2
    ·exact .inl (yg.2 (.inr ((hd.made p.id).2 ⟨q,g1,g2,h2,by omega⟩)))
    ·exact .inr (yg.2 (.inr ((hd.chgd p.id).2 ⟨q,g1,g2,h2,by omega⟩)))
   ·exact yg.2 (.inr ((hd.gone p.id).2 ⟨q,g1,g2,(zeN q).2.2.2.2 (g3.trans e1) (g5 e2),by omega⟩))
def behind(l:List En)(s:Int):Nat:=(l.filter (fun e=>decide (s<e.seq))).length
theorem zsZ(a b:List En)(id:ByteArray):zhR (a++b) id=zhR b id\/zhR b id=0:=by
 unfold zhR;rw[yI]
 generalize a.foldl (fun a e=>if e.id=id then e.what else a) 0=x
 suffices ∀(b:List En) (x y:Int),(b.foldl (fun a e=>if e.id=id then e.what else a) x=b.foldl (fun a e=>if e.id=id then e.what else a) y)\/(b.foldl (fun a e=>if e.id=id then e.what else a) y=y)from this b x 0
 intro b
 induction b with
 |nil=>intro x y;exact .inr rfl
 | cons e b ih =>
   intro x y;simp only[yO];by_cases h:e.id=id
   ·rw[if_pos h,if_pos h];exact .inl rfl
   ·rw[if_neg h,if_neg h];exact ih x y
theorem ztg{a b:Int}(h:zhk a b=true):zhk 0 b=true:=by
 rcases zfg h with⟨rfl,_⟩|⟨rfl|rfl,_⟩<;>decide
theorem zst{l:List En}{floor seq:Int}(h:zdd l floor seq=true):0<=floor/\floor<=seq/\seq<=9007199254740991/\seq-floor=l.length:=by
 unfold zdd zeW at h;simp only[ye,decide_eq_true_eq]at h;exact h.1
theorem zsN{l:List En}{floor seq:Int}(h:zdd l floor seq=true)(g:Nat)(hg:g<=l.length):zdd (l.drop g) (floor+g) seq=true:=by
 obtain⟨h1,h2,h3,h4⟩:=zst h;refine zmA (by unfold zeW;rw[decide_eq_true_eq,yx];omega) fun k hk=> ?_
 rw[yx]at hk;obtain⟨x,hx⟩:∃x,l[g+k]? =some x:=⟨_,ya (by omega)⟩
 obtain⟨e1,e2⟩:=zbX h hx;rw[zlL (x:=x) (by rw[yA];exact hx)]
 simp only[ye,beq_iff_eq];refine⟨by omega,?_⟩
 have e3:l.take (g+k)=l.take g++(l.drop g).take k:=by rw[List.take_add]
 rw[e3]at e2
 rcases zsZ (l.take g) ((l.drop g).take k) x.id with h5|h5
 ·rwa[h5]at e2
 ·rw[h5];exact ztg e2
theorem zrW{l:List En}{floor keep:Int}{e:En}{seq:Int}(h:zdd (l++[e]) floor seq=true):zdB l floor keep e=floor+zbs l.length keep:=by
 unfold zdB
 split
 ·rename_i h0;omega
 ·rename_i h0;have hlt:zbs l.length keep-1<(l++[e]).length:=by unfold zbs;simp;omega
  obtain⟨x,hx⟩:∃x,(l++[e])[zbs l.length keep-1]? =some x:=⟨_,ya hlt⟩;have:=(zbX h hx).1;rw[hx];simp only[Option.map_some,Option.getD_some];omega
theorem zsS{l:List En}{floor keep:Int}{e:En}{seq:Int}(h:zdd (l++[e]) floor seq=true):zdd (zdC l keep e) (zdB l floor keep e) seq=true:=by
 rw[zrW h];exact zsN h _ (by unfold zbs;simp)
theorem ztb(l:List En)(keep:Int)(e:En):((zdC l keep e).length:Int)<=max keep 0:=by
 unfold zdC zbs;rw[yx,yn,yi];omega
theorem ztp{l:List En}{floor keep:Int}{e:En}{seq:Int}(h:zdd (l++[e]) floor seq=true):floor<=zdB l floor keep e/\zdB l floor keep e<=seq:=by
 rw[zrW h];obtain⟨_,_,_,h4⟩:=zst h;rw[yn,yi]at h4;unfold zbs;omega
end
section
open Go.RowKit Go.OpenShut
theorem zcT{os:Obs}(hr:ze6 os)(id:ByteArray):(zlv os id).isSome=zbj os id:=by
 rw[<-zdY];cases e:look os id with
 | some v =>
   have h:=(zbM hr (id,v)).2 e;unfold zlv;rw[Option.isSome_map]
   show _=true
   rw[List.find?_isSome];exact⟨_,h,by simp⟩
 | none =>
   cases e2:zlv os id with
   |none=>rfl
   | some v =>
     exfalso
     unfold zlv at e2;obtain⟨p,hp,hv⟩:=Option.map_eq_some_iff.1 e2;have h1:=List.find?_some hp;have h2:=List.mem_of_find?_eq_some hp;have h3:=(zbM hr p).1 h2;simp at h1;rw[h1,e]at h3;simp at h3
theorem zdl(id:ByteArray):∀(l:List En) (a:Int),l.foldl (fun a e=>if e.id=id then e.what else a) a=if ze4 l id=true then zhR l id else a
 |[],a=>by simp[ze4]
 | e :: r, a => by
   have h1:=zdl id r (if e.id=id then e.what else a)
   have h2:=zdl id r (if e.id=id then e.what else 0)
   unfold zhR at h1 h2⊢;rw[yO,yO,h1,h2];unfold ze4;rw[List.any_cons];by_cases h3:r.any (fun e=>decide (e.id=id))=true
   ·simp[h3,ze4]
   ·by_cases h4:e.id=id<;>simp[h3,h4,ze4]
theorem zsK(e:En)(r:List En)(id:ByteArray):zhR (e::r) id=if ze4 r id=true then zhR r id else if e.id=id then e.what else 0:=by
 unfold zhR;rw[yO,zdl]
 rfl
theorem zdF{sq:Int}{l:List En}{p:Pa}(hp:p∈zU sq l):ze4 l p.id=true:=by
 obtain⟨y,hy,h,_⟩:=(zi8 sq p.id l).1 ⟨p,hp,rfl⟩;exact yj.2 ⟨y,hy,by simpa using h⟩
theorem zty(e:En)(p:Pa):(zbL e p).isb=p.isb:=by unfold zbL;split<;>rfl
theorem ziM(sq:Int):∀l:List En,(∀e∈l,sq<e.seq)->∀p∈zU sq l,p.isb=(zhR l p.id !=3)
 |[],_,p,hp=>by simp[zU]at hp
 | e :: r, h, p, hp => by
   have ih:=ziM sq r (fun x hx=>h x (List.mem_cons_of_mem _ hx))
   have he:=h e (by simp)
   rw[zeh,if_neg (by omega)]at hp
   rw[zsK]
   split at hp
   ·obtain⟨q,hq,rfl⟩:=yG.1 hp;rw[zty,zoB,if_pos (zdF hq)];exact ih q hq
   ·rename_i hk
    rcases ym.1 hp with rfl|hp
    ·have hn:¬ze4 r (ziG e).id=true:=by
      intro ht;obtain⟨y,hy,hi⟩:=yj.1 ht;obtain⟨q,hq,e2⟩:=(zi8 sq e.id r).2 ⟨y,hy,(by simpa using hi:y.id=(ziG e).id),h y (List.mem_cons_of_mem _ hy)⟩
      exact hk (yj.2 ⟨q,hq,by simpa using e2⟩)
     rw[if_neg hn,if_pos (show e.id=(ziG e).id from rfl)]
     rfl
    ·rw[if_pos (zdF hp)];exact ih p hp
theorem zio{l:List En}{floor seq:Int}(h:zdd l floor seq=true):∀e∈l,floor<e.seq:=by
 intro e he;obtain⟨k,hk⟩:=yo he;unfold zdd at h;simp only[ye,List.all_eq_true,yS]at h;have:=h.2 k (yc.1 hk).1;rw[zlL hk]at this;simp only[ye,beq_iff_eq]at this;omega
def zsQ(b:BoxD):Prop:=Rising b.objs/\0<=b.keep/\b.keep<=1000/\(b.trail.length:Int)<=b.keep/\zdd b.trail b.floor b.seq=true/\∀e∈b.trail,(zlv b.objs e.id).isSome=(zhR b.trail e.id !=3)
theorem zoO(b:BoxD):zcA b↔zsQ b:=by
 unfold zcA zsQ
 constructor
 ·rintro⟨h1,h2,h3,h4,h5,h6⟩;refine⟨h1,h2,h3,h4,h5,fun e he=> ?_⟩
  rw[zcT (rise_iff.1 h1)];obtain⟨p,hp,hi⟩:=(zi8 b.floor e.id b.trail).2 ⟨e,he,rfl,zio h5 e he⟩;rw[<-hi,h6 p hp];exact ziM b.floor b.trail (zio h5) p hp
 ·rintro⟨h1,h2,h3,h4,h5,h6⟩;refine⟨h1,h2,h3,h4,h5,fun p hp=> ?_⟩
  obtain⟨e,he,hi⟩:=yj.1 (zdF hp);have hi:e.id=p.id:=by simpa using hi
  rw[<-zcT (rise_iff.1 h1),<-hi,h6 e he,ziM b.floor b.trail (zio h5) p hp,hi]
end
section
def zsi(b:BoxD)(os:Obs)(id:ByteArray)(what:Int):Prop:=
 b.seq<9007199254740991/\ze6 os/\(∀j,j≠id->look os j=look b.objs j)/\
 ((what=1/\look b.objs id=none/\ze4 b.trail id=false/\(look os id).isSome=true)\/(what=2/\(look b.objs id).isSome=true/\(look os id).isSome=true)\/(what=3/\(look b.objs id).isSome=true/\look os id=none))
theorem zsR(b:BoxD)(k:Int)(id:ByteArray)(v:JV)(hr:ze6 b.objs):zR b k id v=b\/∃os what,zR b k id v=zeG b os id what/\zsi b os id what:=by
 unfold zR zbZ;by_cases k1:k=1
 ·subst k1;rw[if_pos rfl];unfold zbF;by_cases ha:zbj b.objs id=true
  ·have hl:look b.objs id=some (zgt b.objs id):=by unfold look;rw[if_pos ha]
   rw[if_pos ha];by_cases hsm:SameT (zgt b.objs id) v
   ·rw[if_pos hsm]
    left
    simp
   ·rw[if_neg hsm];by_cases hs:9007199254740991<=b.seq
    ·rw[if_pos hs]
     left
     simp
    ·rw[if_neg hs]
     right
     have e:b.objs.set (zx b.objs id) (id,v)=zdR b.objs id v:=by unfold zdR;rw[if_pos ha]
     rw[e];refine⟨zdR b.objs id v,2,by simp,by omega,zfW hr id v,fun j hj=>zn3 hr v hj,.inr (.inl ⟨rfl,by rw[hl];rfl,by rw[zso hr];rfl⟩)⟩
  ·have hl:look b.objs id=none:=by unfold look;rw[if_neg ha]
   rw[if_neg ha];by_cases ht:ze4 b.trail id=true
   ·rw[if_pos ht]
    left
    simp
   ·rw[if_neg ht];by_cases hs:9007199254740991<=b.seq
    ·rw[if_pos hs]
     left
     simp
    ·rw[if_neg hs]
     right
     have e:b.objs.take (zx b.objs id)++(id,v)::b.objs.drop (zx b.objs id)=zdR b.objs id v:=by unfold zdR;rw[if_neg ha]
     rw[e];refine⟨zdR b.objs id v,1,by simp,by omega,zfW hr id v,fun j hj=>zn3 hr v hj,.inl ⟨rfl,hl,by simpa using ht,by rw[zso hr];rfl⟩⟩
 ·rw[if_neg k1];by_cases k2:k=2
  ·subst k2;rw[if_pos rfl];unfold zcy;by_cases ha:zbj b.objs id=true
   ·have hl:look b.objs id=some (zgt b.objs id):=by unfold look;rw[if_pos ha]
    rw[if_neg (show¬zbj b.objs id=false by rw[ha];decide)]
    by_cases hs:9007199254740991<=b.seq
    ·rw[if_pos hs]
     left
     simp
    ·rw[if_neg hs]
     right
     have e:b.objs.take (zx b.objs id)++b.objs.drop (zx b.objs id+1)=zfF b.objs id:=by unfold zfF;rw[if_pos ha]
     rw[e];refine⟨zfF b.objs id,3,by simp,by omega,znq hr id,fun j hj=>zsy hr hj,.inr (.inr ⟨rfl,by rw[hl];rfl,zte hr id⟩)⟩
   ·rw[if_pos (show zbj b.objs id=false by simpa using ha)]
    left
    simp
  ·rw[if_neg k2]
   left
   simp
theorem zsY(a b:List En)(id:ByteArray):zhR (a++b) id=if ze4 b id=true then zhR b id else zhR a id:=by
 have h:=zdl id b (zhR a id);rw[<-h];unfold zhR;rw[yI]
theorem zf8{l:List En}{id:ByteArray}(h:ze4 l id=false):zhR l id=0:=by
 have h1:=zdl id l 0;rw[if_neg (by rw[h];decide)]at h1
 exact h1
theorem zsu{l:List En}{e:En}(h:e∈l):ze4 l e.id=true:=yj.2 ⟨e,h,by simp⟩
theorem zsO{l:List En}{floor seq:Int}{e:En}(h:zdd l floor seq=true)(hs:seq<9007199254740991)(he:e.seq=seq+1)(hm:zhk (zhR l e.id) e.what=true):zdd (l++[e]) floor (seq+1)=true:=by
 have hh:=zdZ h;refine zmA (by unfold zeW;rw[decide_eq_true_eq,yn,yi];omega) fun k hk=> ?_
 rw[yn,yi]at hk;by_cases hkl:k<l.length
 ·obtain⟨x,hx⟩:∃x,l[k]? =some x:=⟨_,ya hkl⟩;have h1:=zbX h hx;rw[zlL (x:=x) (by rw[List.getElem?_append_left hkl];exact hx),List.take_append_of_le_length (by omega),ye,beq_iff_eq]
  exact h1
 ·have hk2:k=l.length:=by omega
  subst hk2;rw[zlL (x:=e) (by simp),List.take_left,ye,beq_iff_eq]
  exact⟨by omega,hm⟩
theorem zf3{b:BoxD}(h:zcA b){e:En}(he:e∈b.trail):(look b.objs e.id).isSome=(zhR b.trail e.id !=3):=by
 have h1:=((zoO b).1 h).2.2.2.2.2 e he;rw[zcT (rise_iff.1 h.1)]at h1;rw[zdY];exact h1
theorem zto{b:BoxD}(h:zcA b){os:Obs}{id:ByteArray}{what:Int}(ha:zsi b os id what):zhk (zhR b.trail id) what=true:=by
 have hno:(look b.objs id).isSome=true->zhR b.trail id≠3:=fun hs=>by
  cases ht:ze4 b.trail id with
  |false=>rw[zf8 ht];decide
  | true =>
    obtain⟨e,he,hi⟩:=yj.1 ht;have hi:e.id=id:=by simpa using hi
    have h1:=zf3 h he;rw[hi,hs]at h1;intro h2;rw[h2]at h1;simp at h1
 rcases ha.2.2.2 with⟨rfl,_,h2,_⟩|⟨rfl,h2,_⟩|⟨rfl,h2,_⟩
 ·unfold zhk;rw[if_pos rfl,zf8 h2]
  rfl
 ·unfold zhk;rw[if_neg (by decide),if_pos (.inl rfl)]
  simpa using hno h2
 ·unfold zhk;rw[if_neg (by decide),if_pos (.inr rfl)]
  simpa using hno h2
theorem zsk{b:BoxD}(h:zcA b){os:Obs}{id:ByteArray}{what:Int}(ha:zsi b os id what):zdd (b.trail++[⟨b.seq+1,id,what⟩]) b.floor (b.seq+1)=true:=
 zsO h.2.2.2.2.1 ha.1 rfl (zto h ha)
theorem zta{b:BoxD}{os:Obs}{id:ByteArray}{what:Int}(ha:zsi b os id what):(look os id).isSome=(what !=3):=by
 rcases ha.2.2.2 with⟨rfl,_,_,h⟩|⟨rfl,_,h⟩|⟨rfl,_,h⟩
 ·rw[h];rfl
 ·rw[h];rfl
 ·rw[h];rfl
theorem zsV{b:BoxD}(h:zcA b){os:Obs}{id:ByteArray}{what:Int}(ha:zsi b os id what):zcA (zeG b os id what):=by
 have hsn:=zsk h ha;rw[zoO];refine⟨rise_iff.2 ha.2.1,h.2.1,h.2.2.1,?_,zsS hsn,fun e he=> ?_⟩
 ·have h1:=ztb b.trail b.keep ⟨b.seq+1,id,what⟩;have h2:=h.2.1
  show((zdC b.trail b.keep ⟨b.seq+1,id,what⟩).length:Int)<=b.keep
  omega
 ·have he2:e∈zdC b.trail b.keep ⟨b.seq+1,id,what⟩:=he
  show(zlv os e.id).isSome=(zhR (zdC b.trail b.keep ⟨b.seq+1,id,what⟩) e.id !=3)
  rw[zcT ha.2.1,<-zdY];have ht:=zsu he2
  have h3:zhR (zdC b.trail b.keep ⟨b.seq+1,id,what⟩) e.id=zhR (b.trail++[⟨b.seq+1,id,what⟩]) e.id:=by
   conv=>rhs;rw[<-List.take_append_drop (zbs b.trail.length b.keep) (b.trail++[(⟨b.seq+1,id,what⟩:En)])]
   rw[zsY];unfold zdC at ht;rw[if_pos ht]
   rfl
  rw[h3,zrH];by_cases hid:id=e.id
  ·subst hid;rw[if_pos rfl];exact zta ha
  ·rw[if_neg hid,ha.2.2.1 e.id (fun e2=>hid e2.symm)]
   have hm:=yE he2
   rcases yg.1 hm with hm|hm
   ·exact zf3 h hm
   ·rw[yH]at hm;subst hm;exact absurd rfl hid
structure PlayI(b d:BoxD):Prop where
 right:zcA d
 seq:b.seq<=d.seq
 low:b.seq<d.floor\/((∀j,look d.objs j=look b.objs j\/∃e∈d.trail,e.id=j/\b.seq<e.seq)/\∀e∈d.trail,b.seq<e.seq->e.what=1->look b.objs e.id=none)
theorem PlayI.start{b:BoxD}(h:zcA b):PlayI b b:=by
 refine⟨h,Int.le_refl _,.inr ⟨fun j=> .inl rfl,fun e he hs=> ?_⟩⟩
 obtain⟨k,hk⟩:=yo he;have h1:=(zbX h.2.2.2.2.1 hk).1;have h2:=zdZ h.2.2.2.2.1;have h3:=(yc.1 hk).1;omega
theorem PlayI.does{b d:BoxD}(h:PlayI b d)(k:Int)(id:ByteArray)(v:JV):PlayI b (zR d k id v):=by
 rcases zsR d k id v (rise_iff.1 h.right.1)with e|⟨os,what,e,ha⟩
 ·rw[e];exact h
 ·rw[e];have hseq:=h.seq;have hsn:=zsk h.right ha;have hf:=zrW (keep:=d.keep) hsn;refine⟨zsV h.right ha,by show b.seq<=d.seq+1;omega,?_⟩
  show b.seq<zdB d.trail d.floor d.keep ⟨d.seq+1,id,what⟩\/((∀j,look os j=look b.objs j\/∃e∈zdC d.trail d.keep ⟨d.seq+1,id,what⟩,e.id=j/\b.seq<e.seq)/\∀e∈zdC d.trail d.keep ⟨d.seq+1,id,what⟩,b.seq<e.seq->e.what=1->look b.objs e.id=none)
  by_cases hlow:b.seq<zdB d.trail d.floor d.keep ⟨d.seq+1,id,what⟩
  ·exact .inl hlow
  ·right
   have hge:=(ztp (keep:=d.keep) hsn).1
   rcases h.low with h1|⟨h1,h2⟩
   ·omega
   ·have hkeep:∀e∈d.trail++[⟨d.seq+1,id,what⟩],b.seq<e.seq->e∈zdC d.trail d.keep ⟨d.seq+1,id,what⟩:=fun e he hs=>by
     obtain⟨i,hi⟩:=yo he;have h3:=(zbX hsn hi).1;unfold zdC;exact yh (i:=i-zbs d.trail.length d.keep) (by rw[yA,show zbs d.trail.length d.keep+(i-zbs d.trail.length d.keep)=i by omega];exact hi)
    refine⟨fun j=> ?_,fun e he hs hw=> ?_⟩
    ·by_cases hj:j=id
     ·subst hj;exact .inr ⟨_,hkeep ⟨d.seq+1,j,what⟩ (by simp) (by dsimp only;omega),rfl,by dsimp only;omega⟩
     ·rw[ha.2.2.1 j hj]
      rcases h1 j with h3|⟨e,he,h4,h5⟩
      ·exact .inl h3
      ·exact .inr ⟨e,hkeep e (yg.2 (.inl he)) h5,h4,h5⟩
    ·have hm:e∈d.trail++[⟨d.seq+1,id,what⟩]:=yE he
     rcases yg.1 hm with hm|hm
     ·exact h2 e hm hs hw
     ·rw[yH]at hm;subst hm;dsimp only at hw⊢
      rcases ha.2.2.2 with⟨_,h3,h4,_⟩|⟨h3,_⟩|⟨h3,_⟩
      ·rcases h1 id with h5|⟨e,he,h5,h6⟩
       ·rw[<-h5];exact h3
       ·have:=zsu he;rw[h5,h4]at this;cases this
      ·omega
      ·omega
theorem zsr{b:BoxD}:∀(ops:List (RO×JV)) {d:BoxD},PlayI b d->PlayI b (ops.foldl (fun d o=>zR d o.1.k o.1.id o.2) d)
 |[],_,h=>h
 |o::ops,_,h=>zsr ops (h.does _ _ _)
theorem ztm{l:List En}{floor seq sq:Int}(h:zdd l floor seq=true){p:Pa}(hp:p∈zU sq l):p.isb=(zhR l p.id !=3):=by
 obtain⟨i,x,k,f,hx,h1,h2,hf,h3,h4,h5,rfl⟩:=(zcC h).1 hp;have h6:=zqj (id:=x.id) hx rfl l.length (yc.1 hx).1 (yf _) (fun j y h7 _ hy=>h2 j y h7 hy)
 rw[yL]at h6;dsimp only;rw[h6]
theorem ztl{l:List En}{floor seq sq:Int}(h:zdd l floor seq=true){e:En}(he:e∈l)(hs:sq<e.seq):∃p∈zU sq l,p.id=e.id:=(zi8 sq e.id l).2 ⟨e,he,rfl,hs⟩
end
end Go.Proofs.YtemofofnkchmeaaGreatDoor
