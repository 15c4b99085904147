import Derived.Test.YtemofofnkchmeaaGreatDoorL28
import Derived.Test.YtemofofnkchmeaaGreatDoorS03
import Derived.Test.YtemofofnkchmeaaGreatDoorS05
import Derived.Defers
import Derived.Recover
import Derived.Test.YtemofofnkchmeaaGreatDoorL15
import Derived.Test.YtemofofnkchmeaaGreatDoorL12
import Derived.Test.YtemofofnkchmeaaGreatDoorL11
import Derived.Test.YtemofofnkchmeaaGreatDoorL07
import Derived.Test.YtemofofnkchmeaaGreatDoorS00
import Derived.Test.YtemofofnkchmeaaGreatDoorL09
import Derived.Test.YtemofofnkchmeaaGreatDoorL04
import Derived.Test.YtemofofnkchmeaaGreatDoorL02
import Derived.Test.YtemofofnkchmeaaGreatDoorS01
import Derived.Deep.RegionHeld3
import Derived.Deep.DeepCutAuto
import Derived.Deep.CutRange
import Derived.BigQuiet
import Derived.Deep.QuietTactic
import Derived.Outline
import Derived.OpenShut
import Derived.Deep.RegionLaw
import Derived.Lib.Bytealg
import Derived.Test.YtemofofnkchmeaaGreatDoorL00
import Derived.Shelf.LaysM
import Derived.Shelf.Small.Strs
import Derived.Shelf.Strconv.Clone
import Derived.Shelf.Strings.Count
import Derived.Shelf.Strings.OnBuilder
import Derived.Shelf.Strings.Repeat
import Derived.Shelf.Strings.Trim
import Derived.Shelf.Strings.SlTrimAscii
import Derived.Test.YtemofofnkchmeaaGreatDoorProg
import Derived.Test.YtemofofnkchmeaaGreatDoorL10
import Derived.Sort.LotA
import Derived.Shelf.SlSortCmp.Insertion
import Derived.Shelf.SlSortCmp.KitK
import Derived.Sort.WalkB2
import Derived.Sort.WalkB12
import Derived.Deep.LoopGhost
import Derived.WalkKit
import Derived.Lib.Hide
import Derived.Shelf.SlSortCmp.QuietGrown
import Derived.Deep.Cut
import Derived.Test.YtemofofnkchmeaaGreatDoorL01
import Derived.Deep.Draws
import Derived.Sort.OwnSorted
import Derived.Lib.Strings
import Derived.Laws.IdiomStrings
import Derived.Maps.AppendAt
import Derived.Deep.AppendLies
import Derived.RegionTactic
import Derived.OwnWalk
import Derived.WalkSpells
import Derived.Laws.AppendOwnNone
import Derived.ProofKit
import Derived.Below
import Derived.Test.YtemofofnkchmeaaGreatDoorL05
import Derived.WalkLawsBesides
import Derived.Maps.OwnSet
import Derived.StringKeys
import Derived.StillTactics
import Derived.Deep.Slices
import Derived.Deep.Fields
import Derived.Deep.Strs
import Derived.ChangeSame
import Derived.SizedLaws
import Derived.Shelf.Slices.Turned
import Derived.Lib.IndexMore
import Derived.Test.YtemofofnkchmeaaGreatDoorL21
import Derived.Test.YtemofofnkchmeaaGreatDoorL33
import Derived.Test.YtemofofnkchmeaaGreatDoorL31
import Derived.Test.YtemofofnkchmeaaGreatDoorL18
import Derived.Test.YtemofofnkchmeaaGreatDoorL14
import Derived.RangeFuncNested
import Derived.RangeFuncBound
import Derived.RangeFuncCalls
import Derived.RangeFuncLeaves
import Derived.RangeFuncBox
import Derived.Shelf.Abstract
import Derived.OwnWalkIn
import Derived.TacticsInMore
import Derived.LoopNIn
import Derived.LoopIn
import Derived.Sort.LoopGhostIn
import Derived.Sort.CutIn
import Derived.Stop.RegionWithIn
import Derived.Maps.OwnIn
import Derived.Shelf.Strings.Search3
import Derived.Test.YtemofofnkchmeaaGreatDoorL30
import Derived.Test.YtemofofnkchmeaaGreatDoorL29
import Derived.Test.YtemofofnkchmeaaGreatDoorL20
import Derived.Test.YtemofofnkchmeaaGreatDoorL19
import Derived.Test.YtemofofnkchmeaaGreatDoorL08
import Derived.Test.YtemofofnkchmeaaGreatDoorL13
import Derived.Test.YtemofofnkchmeaaGreatDoorL17
import Derived.Test.YtemofofnkchmeaaGreatDoorL22
set_option linter.unusedSimpArgs false
set_option linter.unusedVariables false
set_option maxRecDepth 200000
set_option maxHeartbeats 8000000
namespace Go.Proofs.YtemofofnkchmeaaGreatDoor
open _root_.Go.RowKit.Below renaming heap_alloc->yn,refl->yd
open _root_.Go.Lib renaming hid->yb
open _root_.List renaming mem_cons->yv,mem_singleton->yi
open _root_.Nat renaming le_of_lt->ys,le_refl->yc,lt_of_lt_of_le->yl
open _root_.Go.Proofs.Tryz renaming prog->ya
section
open Go Go.RowKit Go.OpenShut
theorem zsE(a b c:Value)(w:World):CallsD ya 58 #[a,b,c] .returning w fun e u' w'=>e= .returned (.tuple #[])/\u'= .returning/\w'=w:=by
 refine callsD_of_wpS Tryz.func58 rfl fun c₀ cs hu=> ?_
 apply wpS_seq;apply wpS_region;simp[wpOpsS,go_sem,recoverD,hu,Tryz.ntmps58,Exit.thenS];apply wpS_seq;apply wpS_region;simp[wpOpsS,go_sem,Exit.thenS];refine wpS_cond (t:=false) (by simp[Act.eval,Array.replicate]) ?_
 simp only[Bool.false_eq_true,if_false];refine wpS_of_wp (wp_skip ?_);cases c₀
 simp_all [bodyPostS,results,Tryz.results58]
section
variable {W W':World} {ty:TypeId} {g:Nat} {n:Int} (h:NumBk W ty g n)
include h
end
def zrR(w:World)(v:JV)(e:Ending)(w':World):Prop:=∃r:RV,e= .returned (.tuple #[RV.val r,.int .i64 0,.int .i64 0])/\TreeOf w' w'.heap.size v r/\Below w.heap.size w w'
def zsR(w:World)(v:JV)(e:Ending)(w':World):Prop:=∃r:RV,e= .returned (.tuple #[RV.val r,.int .i64 0,.int .i64 0])/\TreeS w' (fun k=>w.heap.size<=k/\k<w'.heap.size) v r/\Below w.heap.size w w'
theorem zta{s:ByteArray}{v:JV}(h:zrB s=some v):∃t ts q,Toks s 0 (t::ts)/\zek ((t::ts).length+1) 1 0 (t::ts)=some (v,q,[]):=by
 unfold zrB at h
 split at h
 ·cases h
 ·rename_i l hl
  split at h
  ·rename_i v' q hv;cases h;cases l with
   |nil=>simp[zek]at hv
   |cons t ts=>exact⟨t,ts,q,zf6 s _ _ _ hl,hv⟩
  ·cases h
theorem ztG(w:World)(s:ByteArray)(v:JV)(hs:s.size<=65536)(hv:zrB s=some v):Calls ya 28 #[.string s] w (zsR w v):=by
 obtain⟨t,ts,q,htk,hpv⟩:=zta hv;have HTK:Hid (∀W,Calls ya 57 #[.string s] W (TksR W (t::ts))):=fun W=>ztr W s (t::ts) hs htk
 have HNX:Hid (∀W g en,RdS W g (t::ts) en 0->Calls ya 60 #[.pointer (some ⟨g,0,none⟩)] W (zeN W g t ts en 0)):=fun W g en hr=>zdZ W g en 0 t ts hr
 have HVA:Hid (∀W g en,RdS W g ts en 0->Calls ya 59 #[.pointer (some ⟨g,0,none⟩),t.val,.int .i64 1] W (zoZ W g v [] en q)):=fun W g en hr=>zsK _ _ (yc _) 1 0 t ts v q [] hpv W g en hr
 clear hv htk hpv;have hZ0:VAt (((w.alloc (.cells #[.int .i64 0,.int .i64 0,.string ⟨#[]⟩,.slice none 0 0,.slice none 0 0] 25)).alloc (.cells #[.int .i64 0] 3)).alloc (.cells #[.int .i64 0] 29)) w.heap.size RV.zero:=zb (by simp;omega) (zb (by simp) (za rfl))
 have hN1:NumBk (((w.alloc (.cells #[.int .i64 0,.int .i64 0,.string ⟨#[]⟩,.slice none 0 0,.slice none 0 0] 25)).alloc (.cells #[.int .i64 0] 3)).alloc (.cells #[.int .i64 0] 29)) 3 (w.heap.size+1) 0:=zb (by simp) (za (by simp))
 have hN2:NumBk (((w.alloc (.cells #[.int .i64 0,.int .i64 0,.string ⟨#[]⟩,.slice none 0 0,.slice none 0 0] 25)).alloc (.cells #[.int .i64 0] 3)).alloc (.cells #[.int .i64 0] 29)) 29 (w.heap.size+1+1) 0:=za (by simp)
 have hB0:Below w.heap.size w (((w.alloc (.cells #[.int .i64 0,.int .i64 0,.string ⟨#[]⟩,.slice none 0 0,.slice none 0 0] 25)).alloc (.cells #[.int .i64 0] 3)).alloc (.cells #[.int .i64 0] 29)):=(((yd _ _).alloc (yc _) _).alloc (by simp) _).alloc (by simp;omega) _
 have hs0:(((w.alloc (.cells #[.int .i64 0,.int .i64 0,.string ⟨#[]⟩,.slice none 0 0,.slice none 0 0] 25)).alloc (.cells #[.int .i64 0] 3)).alloc (.cells #[.int .i64 0] 29)).heap.size=w.heap.size+3:=by simp
 have hmf:∀(fn:Fn) (first cap:Array Value) (w:World),(Instr.makeFunc fn first cap).run ya w= .ok (.func fn first cap) w:=fun _ _ _ _=>rfl
 go_enter_defers Tryz.func28,Tryz.ntmps28
 go_upto_region 1 with fail
 obtain⟨W0,hW0⟩:∃W,((w.alloc (.cells #[.int .i64 0,.int .i64 0,.string ⟨#[]⟩,.slice none 0 0,.slice none 0 0] 25)).alloc (.cells #[.int .i64 0] 3)).alloc (.cells #[.int .i64 0] 29)=W:=⟨_,rfl⟩;rw[hW0]at hZ0 hN1 hN2 hB0 hs0
 try rw[hW0]
 clear hW0;have HZ0:=yb hZ0;have HN1:=yb hN1;have HN2:=yb hN2;have HB0:=yb hB0;have HS0:=yb hs0;clear hZ0 hN1 hN2 hB0 hs0
 go_upto_region 2 with(go_at_call 57;refine(HTK.out _).mono ?_;rintro e w1 ⟨p1,n1,c1,rfl,hr1,hb1⟩;(have hN11:=HN1.out.keep (hb1.block _ HN1.out.lt));(have hN21:=HN2.out.keep (hb1.block _ HN2.out.lt));(have x1:=hN11.cell);(have x2:=hN21.cell);(have y1:=hN11.frozen);(have y2:=hN21.frozen))
 have hg1:=zz w1 (w.heap.size+1) 0 (.int .i64 0);have hg2:=zz (w1.setCell ⟨w.heap.size+1,0,none⟩ (.int .i64 0)) (w.heap.size+1+1) 0 (.int .i64 0);have hN12:=(hN11.set 0).keep (hg2.block _ (hN11.set 0).lt (by simp))
 have hN22:=(hN21.keep (hg1.block _ hN21.lt (by simp))).set 0
 have hZ1:=HZ0.out.keep (hb1.block _ HZ0.out.lt);have hZ2:=(hZ1.keep (hg1.block _ hZ1.lt (by simp)))
 have hZ3:=hZ2.keep (hg2.block _ hZ2.lt (by simp;omega))
 have hb2:Below w.heap.size w ((w1.setCell ⟨w.heap.size+1,0,none⟩ (.int .i64 0)).setCell ⟨w.heap.size+1+1,0,none⟩ (.int .i64 0)):=
  ((HB0.out.trans (hb1.mono HB0.out.size)).grown hg1 (by have:=HS0.out;have:=hb1.size;omega) (fun k e=>by cases e;omega)).grown hg2 (by have:=HS0.out;have:=hb1.size;simp;omega) (fun k e=>by cases e;omega)
 obtain⟨w2,hw2⟩:∃W,(w1.setCell ⟨w.heap.size+1,0,none⟩ (.int .i64 0)).setCell ⟨w.heap.size+1+1,0,none⟩ (.int .i64 0)=W:=⟨_,rfl⟩
 have hO2:=hr1.same (w':=(w1.setCell ⟨w.heap.size+1,0,none⟩ (.int .i64 0)).setCell ⟨w.heap.size+1+1,0,none⟩ (.int .i64 0)) (fun k e=>by
  have h3:=hr1.lt k e;have h4:=HS0.out;exact(hg2.block k (by simp;omega) (fun e2=>by cases e2;omega)).trans (hg1.block k h3.2 (fun e2=>by cases e2;omega)))
 rw[hw2]at hN12 hN22 hZ3 hb2 hO2
 try rw[hw2]
 have HO2:=yb hO2;have HN3:=yb hN12;have HN4:=yb hN22;have HZ3:=yb hZ3;have HB2:=yb hb2;have a2:=hN22.cell;clear hw2 hg1 hg2 hN11 hN21 hZ1 hZ2 x1 x2 y1 y2 hr1 hb1 hN12 hN22 hZ3 hb2 hO2
 go_upto_region 6 with fail
 have hR5:RdS (w2.alloc (.cells #[.slice p1 n1 c1,.int .i64 s.size,.int .i64 0] 113)) w2.heap.size (t::ts) s.size 0:=⟨p1,n1,c1,za rfl,(HO2.out.rd zss).below ((yd _ _).alloc (yc _) _) (yc _)⟩;have hZ5:=HZ3.out.keep (W':=w2.alloc (.cells #[.slice p1 n1 c1,.int .i64 s.size,.int .i64 0] 113)) (yn _ _ _ HZ3.out.lt);have hN5:=HN3.out.keep (W':=w2.alloc (.cells #[.slice p1 n1 c1,.int .i64 s.size,.int .i64 0] 113)) (yn _ _ _ HN3.out.lt);have hN6:=HN4.out.keep (W':=w2.alloc (.cells #[.slice p1 n1 c1,.int .i64 s.size,.int .i64 0] 113)) (yn _ _ _ HN4.out.lt);have hB5:=HB2.out.alloc HB2.out.size (.cells #[.slice p1 n1 c1,.int .i64 s.size,.int .i64 0] 113);have hlt5:w.heap.size+2<w2.heap.size:=HN4.out.lt;obtain⟨g,hg⟩:∃g,w2.heap.size=g:=⟨_,rfl⟩;obtain⟨w3,hw3⟩:∃W,w2.alloc (.cells #[.slice p1 n1 c1,.int .i64 s.size,.int .i64 0] 113)=W:=⟨_,rfl⟩;rw[hw3,hg]at hR5;rw[hw3]at hZ5 hN5 hN6 hB5;rw[hg]at hlt5
 try rw[hw3]
 try rw[hg]
 have HR5:=yb hR5;have HZ5:=yb hZ5;have HN5:=yb hN5;have HN6:=yb hN6;have HB5:=yb hB5;clear hw3 hg hR5 hZ5 hN5 hN6 hB5 HO2 HN3 HN4 HZ3 HB2 a2;obtain⟨tk,tn,tS,tp⟩:=t;dsimp only[Tok.val,zeN]at*
 go_upto_region 7 with(first
  |(go_at_call 60;refine(HNX.out _ _ _ HR5.out).mono ?_;rintro e w4 ⟨rfl,hr4,hg4⟩)
  |(go_at_call 59;refine(HVA.out _ _ _ hr4).mono ?_;rintro e w5 ⟨rv,rfl,ht5,hr5,hg5⟩;obtain⟨vk,vn,vs,vpl,vnl,vcl,vpm,vnm,vcm⟩:=rv;(have hg45:=hg4.trans hg5);(have hZ6:=HZ5.out.keep (hg45.block _ HZ5.out.lt (by simp;omega)));(obtain⟨z0,z1,z2,z3,z4⟩:=hZ6.cells5);(have y0:=hZ6.frozen 0);(have y1:=hZ6.frozen 1);(have y2:=hZ6.frozen 2);(have y3:=hZ6.frozen 3);(have y4:=hZ6.frozen 4)))
 have hv6:=hZ6.stored ⟨vk,vn,vs,vpl,vnl,vcl,vpm,vnm,vcm⟩;have hg6:=zeM w5 w.heap.size ⟨vk,vn,vs,vpl,vnl,vcl,vpm,vnm,vcm⟩;have hlt4:=HN6.out.lt;have hN7:=((HN5.out.keep (hg45.block _ HN5.out.lt (by simp;omega)))).keep (hg6.block (w.heap.size+1) (yl HN5.out.lt hg45.size) (by simp))
 have hN8:=((HN6.out.keep (hg45.block _ HN6.out.lt (by simp;omega)))).keep (hg6.block (w.heap.size+1+1) (yl HN6.out.lt hg45.size) (by simp;omega))
 have hr6:∃p c,(((((w5.setCell ⟨w.heap.size,0,none⟩ (.int .i64 (⟨vk,vn,vs,vpl,vnl,vcl,vpm,vnm,vcm⟩:RV).k)).setCell ⟨w.heap.size,1,none⟩ (.int .i64 (⟨vk,vn,vs,vpl,vnl,vcl,vpm,vnm,vcm⟩:RV).n)).setCell ⟨w.heap.size,2,none⟩ (.string (⟨vk,vn,vs,vpl,vnl,vcl,vpm,vnm,vcm⟩:RV).s)).setCell ⟨w.heap.size,3,none⟩ (.slice (⟨vk,vn,vs,vpl,vnl,vcl,vpm,vnm,vcm⟩:RV).pl (⟨vk,vn,vs,vpl,vnl,vcl,vpm,vnm,vcm⟩:RV).nl (⟨vk,vn,vs,vpl,vnl,vcl,vpm,vnm,vcm⟩:RV).cl)).setCell ⟨w.heap.size,4,none⟩ (.slice (⟨vk,vn,vs,vpl,vnl,vcl,vpm,vnm,vcm⟩:RV).pm (⟨vk,vn,vs,vpl,vnl,vcl,vpm,vnm,vcm⟩:RV).nm (⟨vk,vn,vs,vpl,vnl,vcl,vpm,vnm,vcm⟩:RV).cm)).cell? ⟨g,0,none⟩=some (.slice p 0 c):=by
  obtain⟨p,n,c,h1,h2⟩:=hr5.ex;have hn:=zi h2;have h3:=h1.keep (hg6.block g h1.lt (by simp;omega))
  have h4:=h3.cell 0 rfl;rw[hn]at h4;exact⟨p,c,h4⟩
 have ht6:=ht5.same (fun k hk=>hg6.block k hk.2 (fun e=>by cases e;have:=hk.1;have:=hg4.size;omega))
 have hb6:Below w.heap.size w (((((w5.setCell ⟨w.heap.size,0,none⟩ (.int .i64 (⟨vk,vn,vs,vpl,vnl,vcl,vpm,vnm,vcm⟩:RV).k)).setCell ⟨w.heap.size,1,none⟩ (.int .i64 (⟨vk,vn,vs,vpl,vnl,vcl,vpm,vnm,vcm⟩:RV).n)).setCell ⟨w.heap.size,2,none⟩ (.string (⟨vk,vn,vs,vpl,vnl,vcl,vpm,vnm,vcm⟩:RV).s)).setCell ⟨w.heap.size,3,none⟩ (.slice (⟨vk,vn,vs,vpl,vnl,vcl,vpm,vnm,vcm⟩:RV).pl (⟨vk,vn,vs,vpl,vnl,vcl,vpm,vnm,vcm⟩:RV).nl (⟨vk,vn,vs,vpl,vnl,vcl,vpm,vnm,vcm⟩:RV).cl)).setCell ⟨w.heap.size,4,none⟩ (.slice (⟨vk,vn,vs,vpl,vnl,vcl,vpm,vnm,vcm⟩:RV).pm (⟨vk,vn,vs,vpl,vnl,vcl,vpm,vnm,vcm⟩:RV).nm (⟨vk,vn,vs,vpl,vnl,vcl,vpm,vnm,vcm⟩:RV).cm)):=(HB5.out.grown hg45 (by omega) (fun k e=>by cases e;omega)).grown hg6 (by have:=hg45.size;omega) (fun k e=>by cases e;omega)
 have hz6:(((((w5.setCell ⟨w.heap.size,0,none⟩ (.int .i64 (⟨vk,vn,vs,vpl,vnl,vcl,vpm,vnm,vcm⟩:RV).k)).setCell ⟨w.heap.size,1,none⟩ (.int .i64 (⟨vk,vn,vs,vpl,vnl,vcl,vpm,vnm,vcm⟩:RV).n)).setCell ⟨w.heap.size,2,none⟩ (.string (⟨vk,vn,vs,vpl,vnl,vcl,vpm,vnm,vcm⟩:RV).s)).setCell ⟨w.heap.size,3,none⟩ (.slice (⟨vk,vn,vs,vpl,vnl,vcl,vpm,vnm,vcm⟩:RV).pl (⟨vk,vn,vs,vpl,vnl,vcl,vpm,vnm,vcm⟩:RV).nl (⟨vk,vn,vs,vpl,vnl,vcl,vpm,vnm,vcm⟩:RV).cl)).setCell ⟨w.heap.size,4,none⟩ (.slice (⟨vk,vn,vs,vpl,vnl,vcl,vpm,vnm,vcm⟩:RV).pm (⟨vk,vn,vs,vpl,vnl,vcl,vpm,vnm,vcm⟩:RV).nm (⟨vk,vn,vs,vpl,vnl,vcl,vpm,vnm,vcm⟩:RV).cm)).heap.size=w5.heap.size:=by simp
 dsimp only at hv6 hr6 hb6 hN7 hN8 ht6 hz6;obtain⟨w6,hw6⟩:∃W,(((((w5.setCell ⟨w.heap.size,0,none⟩ (.int .i64 (⟨vk,vn,vs,vpl,vnl,vcl,vpm,vnm,vcm⟩:RV).k)).setCell ⟨w.heap.size,1,none⟩ (.int .i64 (⟨vk,vn,vs,vpl,vnl,vcl,vpm,vnm,vcm⟩:RV).n)).setCell ⟨w.heap.size,2,none⟩ (.string (⟨vk,vn,vs,vpl,vnl,vcl,vpm,vnm,vcm⟩:RV).s)).setCell ⟨w.heap.size,3,none⟩ (.slice (⟨vk,vn,vs,vpl,vnl,vcl,vpm,vnm,vcm⟩:RV).pl (⟨vk,vn,vs,vpl,vnl,vcl,vpm,vnm,vcm⟩:RV).nl (⟨vk,vn,vs,vpl,vnl,vcl,vpm,vnm,vcm⟩:RV).cl)).setCell ⟨w.heap.size,4,none⟩ (.slice (⟨vk,vn,vs,vpl,vnl,vcl,vpm,vnm,vcm⟩:RV).pm (⟨vk,vn,vs,vpl,vnl,vcl,vpm,vnm,vcm⟩:RV).nm (⟨vk,vn,vs,vpl,vnl,vcl,vpm,vnm,vcm⟩:RV).cm))=W:=⟨_,rfl⟩;dsimp only at hw6;rw[hw6]at hv6 hr6 hb6 hN7 hN8 ht6 hz6
 try rw[hw6]
 clear z0 z1 z2 z3 z4 y0 y1 y2 y3 y4 hw6;obtain⟨p6,c6,c0⟩:=hr6;obtain⟨v0,v1,v2,v3,v4⟩:=hv6.cells5;have y0:=hv6.frozen 0;have y1:=hv6.frozen 1;have y2:=hv6.frozen 2;have y3:=hv6.frozen 3;have y4:=hv6.frozen 4;have x1:=hN7.cell;have x2:=hN8.cell;have y11:=hN7.frozen;have y12:=hN8.frozen;dsimp only at v0 v1 v2 v3 v4;have hg7:=zeM w6 w.heap.size (⟨vk,vn,vs,vpl,vnl,vcl,vpm,vnm,vcm⟩:RV);have hg8:=zz (((((w6.setCell ⟨w.heap.size,0,none⟩ (.int .i64 (⟨vk,vn,vs,vpl,vnl,vcl,vpm,vnm,vcm⟩:RV).k)).setCell ⟨w.heap.size,1,none⟩ (.int .i64 (⟨vk,vn,vs,vpl,vnl,vcl,vpm,vnm,vcm⟩:RV).n)).setCell ⟨w.heap.size,2,none⟩ (.string (⟨vk,vn,vs,vpl,vnl,vcl,vpm,vnm,vcm⟩:RV).s)).setCell ⟨w.heap.size,3,none⟩ (.slice (⟨vk,vn,vs,vpl,vnl,vcl,vpm,vnm,vcm⟩:RV).pl (⟨vk,vn,vs,vpl,vnl,vcl,vpm,vnm,vcm⟩:RV).nl (⟨vk,vn,vs,vpl,vnl,vcl,vpm,vnm,vcm⟩:RV).cl)).setCell ⟨w.heap.size,4,none⟩ (.slice (⟨vk,vn,vs,vpl,vnl,vcl,vpm,vnm,vcm⟩:RV).pm (⟨vk,vn,vs,vpl,vnl,vcl,vpm,vnm,vcm⟩:RV).nm (⟨vk,vn,vs,vpl,vnl,vcl,vpm,vnm,vcm⟩:RV).cm)) (w.heap.size+1) 0 (.int .i64 0)
 have hg9:=zz ((((((w6.setCell ⟨w.heap.size,0,none⟩ (.int .i64 (⟨vk,vn,vs,vpl,vnl,vcl,vpm,vnm,vcm⟩:RV).k)).setCell ⟨w.heap.size,1,none⟩ (.int .i64 (⟨vk,vn,vs,vpl,vnl,vcl,vpm,vnm,vcm⟩:RV).n)).setCell ⟨w.heap.size,2,none⟩ (.string (⟨vk,vn,vs,vpl,vnl,vcl,vpm,vnm,vcm⟩:RV).s)).setCell ⟨w.heap.size,3,none⟩ (.slice (⟨vk,vn,vs,vpl,vnl,vcl,vpm,vnm,vcm⟩:RV).pl (⟨vk,vn,vs,vpl,vnl,vcl,vpm,vnm,vcm⟩:RV).nl (⟨vk,vn,vs,vpl,vnl,vcl,vpm,vnm,vcm⟩:RV).cl)).setCell ⟨w.heap.size,4,none⟩ (.slice (⟨vk,vn,vs,vpl,vnl,vcl,vpm,vnm,vcm⟩:RV).pm (⟨vk,vn,vs,vpl,vnl,vcl,vpm,vnm,vcm⟩:RV).nm (⟨vk,vn,vs,vpl,vnl,vcl,vpm,vnm,vcm⟩:RV).cm)).setCell ⟨w.heap.size+1,0,none⟩ (.int .i64 0)) (w.heap.size+1+1) 0 (.int .i64 0);have hv7:=((hv6.stored (⟨vk,vn,vs,vpl,vnl,vcl,vpm,vnm,vcm⟩:RV)).keep (hg8.block _ (hv6.stored (⟨vk,vn,vs,vpl,vnl,vcl,vpm,vnm,vcm⟩:RV)).lt (by simp)))
 have hv9:=hv7.keep (hg9.block _ hv7.lt (by simp;omega))
 have hN9:=(((hN7.keep (hg7.block _ hN7.lt (by simp))).set 0))
 have hN9':=hN9.keep (hg9.block _ hN9.lt (by simp))
 have hN10:=((hN8.keep (hg7.block _ hN8.lt (by simp;omega))).keep (hg8.block _ (hN8.keep (hg7.block _ hN8.lt (by simp;omega))).lt (by simp))).set 0
 have hb9:Below w.heap.size w (((((((w6.setCell ⟨w.heap.size,0,none⟩ (.int .i64 (⟨vk,vn,vs,vpl,vnl,vcl,vpm,vnm,vcm⟩:RV).k)).setCell ⟨w.heap.size,1,none⟩ (.int .i64 (⟨vk,vn,vs,vpl,vnl,vcl,vpm,vnm,vcm⟩:RV).n)).setCell ⟨w.heap.size,2,none⟩ (.string (⟨vk,vn,vs,vpl,vnl,vcl,vpm,vnm,vcm⟩:RV).s)).setCell ⟨w.heap.size,3,none⟩ (.slice (⟨vk,vn,vs,vpl,vnl,vcl,vpm,vnm,vcm⟩:RV).pl (⟨vk,vn,vs,vpl,vnl,vcl,vpm,vnm,vcm⟩:RV).nl (⟨vk,vn,vs,vpl,vnl,vcl,vpm,vnm,vcm⟩:RV).cl)).setCell ⟨w.heap.size,4,none⟩ (.slice (⟨vk,vn,vs,vpl,vnl,vcl,vpm,vnm,vcm⟩:RV).pm (⟨vk,vn,vs,vpl,vnl,vcl,vpm,vnm,vcm⟩:RV).nm (⟨vk,vn,vs,vpl,vnl,vcl,vpm,vnm,vcm⟩:RV).cm)).setCell ⟨w.heap.size+1,0,none⟩ (.int .i64 0)).setCell ⟨w.heap.size+1+1,0,none⟩ (.int .i64 0)):=((hb6.grown hg7 (by have:=hb6.size;omega) (fun k e=>by cases e;exact yc _)).grown hg8 (by have:=hb6.size;simp;omega) (fun k e=>by cases e;omega)).grown hg9 (by have:=hb6.size;simp;omega) (fun k e=>by cases e;omega)
 have hsz:w6.heap.size<=(((((((w6.setCell ⟨w.heap.size,0,none⟩ (.int .i64 (⟨vk,vn,vs,vpl,vnl,vcl,vpm,vnm,vcm⟩:RV).k)).setCell ⟨w.heap.size,1,none⟩ (.int .i64 (⟨vk,vn,vs,vpl,vnl,vcl,vpm,vnm,vcm⟩:RV).n)).setCell ⟨w.heap.size,2,none⟩ (.string (⟨vk,vn,vs,vpl,vnl,vcl,vpm,vnm,vcm⟩:RV).s)).setCell ⟨w.heap.size,3,none⟩ (.slice (⟨vk,vn,vs,vpl,vnl,vcl,vpm,vnm,vcm⟩:RV).pl (⟨vk,vn,vs,vpl,vnl,vcl,vpm,vnm,vcm⟩:RV).nl (⟨vk,vn,vs,vpl,vnl,vcl,vpm,vnm,vcm⟩:RV).cl)).setCell ⟨w.heap.size,4,none⟩ (.slice (⟨vk,vn,vs,vpl,vnl,vcl,vpm,vnm,vcm⟩:RV).pm (⟨vk,vn,vs,vpl,vnl,vcl,vpm,vnm,vcm⟩:RV).nm (⟨vk,vn,vs,vpl,vnl,vcl,vpm,vnm,vcm⟩:RV).cm)).setCell ⟨w.heap.size+1,0,none⟩ (.int .i64 0)).setCell ⟨w.heap.size+1+1,0,none⟩ (.int .i64 0)).heap.size:=by simp
 have hgn:=hg4.size
 have ht9:=ht6.same (w':=(((((((w6.setCell ⟨w.heap.size,0,none⟩ (.int .i64 (⟨vk,vn,vs,vpl,vnl,vcl,vpm,vnm,vcm⟩:RV).k)).setCell ⟨w.heap.size,1,none⟩ (.int .i64 (⟨vk,vn,vs,vpl,vnl,vcl,vpm,vnm,vcm⟩:RV).n)).setCell ⟨w.heap.size,2,none⟩ (.string (⟨vk,vn,vs,vpl,vnl,vcl,vpm,vnm,vcm⟩:RV).s)).setCell ⟨w.heap.size,3,none⟩ (.slice (⟨vk,vn,vs,vpl,vnl,vcl,vpm,vnm,vcm⟩:RV).pl (⟨vk,vn,vs,vpl,vnl,vcl,vpm,vnm,vcm⟩:RV).nl (⟨vk,vn,vs,vpl,vnl,vcl,vpm,vnm,vcm⟩:RV).cl)).setCell ⟨w.heap.size,4,none⟩ (.slice (⟨vk,vn,vs,vpl,vnl,vcl,vpm,vnm,vcm⟩:RV).pm (⟨vk,vn,vs,vpl,vnl,vcl,vpm,vnm,vcm⟩:RV).nm (⟨vk,vn,vs,vpl,vnl,vcl,vpm,vnm,vcm⟩:RV).cm)).setCell ⟨w.heap.size+1,0,none⟩ (.int .i64 0)).setCell ⟨w.heap.size+1+1,0,none⟩ (.int .i64 0))) (fun k hk=>by
  have:=hk.1;have:=hk.2;exact((hg9.block k (by simp;omega) (fun e=>by cases e;omega)).trans (hg8.block k (by simp;omega) (fun e=>by cases e;omega))).trans (hg7.block k (by omega) (fun e=>by cases e;omega)))
 have hto:TreeOf (((((((w6.setCell ⟨w.heap.size,0,none⟩ (.int .i64 (⟨vk,vn,vs,vpl,vnl,vcl,vpm,vnm,vcm⟩:RV).k)).setCell ⟨w.heap.size,1,none⟩ (.int .i64 (⟨vk,vn,vs,vpl,vnl,vcl,vpm,vnm,vcm⟩:RV).n)).setCell ⟨w.heap.size,2,none⟩ (.string (⟨vk,vn,vs,vpl,vnl,vcl,vpm,vnm,vcm⟩:RV).s)).setCell ⟨w.heap.size,3,none⟩ (.slice (⟨vk,vn,vs,vpl,vnl,vcl,vpm,vnm,vcm⟩:RV).pl (⟨vk,vn,vs,vpl,vnl,vcl,vpm,vnm,vcm⟩:RV).nl (⟨vk,vn,vs,vpl,vnl,vcl,vpm,vnm,vcm⟩:RV).cl)).setCell ⟨w.heap.size,4,none⟩ (.slice (⟨vk,vn,vs,vpl,vnl,vcl,vpm,vnm,vcm⟩:RV).pm (⟨vk,vn,vs,vpl,vnl,vcl,vpm,vnm,vcm⟩:RV).nm (⟨vk,vn,vs,vpl,vnl,vcl,vpm,vnm,vcm⟩:RV).cm)).setCell ⟨w.heap.size+1,0,none⟩ (.int .i64 0)).setCell ⟨w.heap.size+1+1,0,none⟩ (.int .i64 0)) (((((((w6.setCell ⟨w.heap.size,0,none⟩ (.int .i64 (⟨vk,vn,vs,vpl,vnl,vcl,vpm,vnm,vcm⟩:RV).k)).setCell ⟨w.heap.size,1,none⟩ (.int .i64 (⟨vk,vn,vs,vpl,vnl,vcl,vpm,vnm,vcm⟩:RV).n)).setCell ⟨w.heap.size,2,none⟩ (.string (⟨vk,vn,vs,vpl,vnl,vcl,vpm,vnm,vcm⟩:RV).s)).setCell ⟨w.heap.size,3,none⟩ (.slice (⟨vk,vn,vs,vpl,vnl,vcl,vpm,vnm,vcm⟩:RV).pl (⟨vk,vn,vs,vpl,vnl,vcl,vpm,vnm,vcm⟩:RV).nl (⟨vk,vn,vs,vpl,vnl,vcl,vpm,vnm,vcm⟩:RV).cl)).setCell ⟨w.heap.size,4,none⟩ (.slice (⟨vk,vn,vs,vpl,vnl,vcl,vpm,vnm,vcm⟩:RV).pm (⟨vk,vn,vs,vpl,vnl,vcl,vpm,vnm,vcm⟩:RV).nm (⟨vk,vn,vs,vpl,vnl,vcl,vpm,vnm,vcm⟩:RV).cm)).setCell ⟨w.heap.size+1,0,none⟩ (.int .i64 0)).setCell ⟨w.heap.size+1+1,0,none⟩ (.int .i64 0)).heap.size v (⟨vk,vn,vs,vpl,vnl,vcl,vpm,vnm,vcm⟩:RV):=ht9.tree (fun k hk=>yl (by have:=hk.2;omega) hsz)
 have hts:TreeS (((((((w6.setCell ⟨w.heap.size,0,none⟩ (.int .i64 (⟨vk,vn,vs,vpl,vnl,vcl,vpm,vnm,vcm⟩:RV).k)).setCell ⟨w.heap.size,1,none⟩ (.int .i64 (⟨vk,vn,vs,vpl,vnl,vcl,vpm,vnm,vcm⟩:RV).n)).setCell ⟨w.heap.size,2,none⟩ (.string (⟨vk,vn,vs,vpl,vnl,vcl,vpm,vnm,vcm⟩:RV).s)).setCell ⟨w.heap.size,3,none⟩ (.slice (⟨vk,vn,vs,vpl,vnl,vcl,vpm,vnm,vcm⟩:RV).pl (⟨vk,vn,vs,vpl,vnl,vcl,vpm,vnm,vcm⟩:RV).nl (⟨vk,vn,vs,vpl,vnl,vcl,vpm,vnm,vcm⟩:RV).cl)).setCell ⟨w.heap.size,4,none⟩ (.slice (⟨vk,vn,vs,vpl,vnl,vcl,vpm,vnm,vcm⟩:RV).pm (⟨vk,vn,vs,vpl,vnl,vcl,vpm,vnm,vcm⟩:RV).nm (⟨vk,vn,vs,vpl,vnl,vcl,vpm,vnm,vcm⟩:RV).cm)).setCell ⟨w.heap.size+1,0,none⟩ (.int .i64 0)).setCell ⟨w.heap.size+1+1,0,none⟩ (.int .i64 0)) (fun k=>w.heap.size<=k/\k<(((((((w6.setCell ⟨w.heap.size,0,none⟩ (.int .i64 (⟨vk,vn,vs,vpl,vnl,vcl,vpm,vnm,vcm⟩:RV).k)).setCell ⟨w.heap.size,1,none⟩ (.int .i64 (⟨vk,vn,vs,vpl,vnl,vcl,vpm,vnm,vcm⟩:RV).n)).setCell ⟨w.heap.size,2,none⟩ (.string (⟨vk,vn,vs,vpl,vnl,vcl,vpm,vnm,vcm⟩:RV).s)).setCell ⟨w.heap.size,3,none⟩ (.slice (⟨vk,vn,vs,vpl,vnl,vcl,vpm,vnm,vcm⟩:RV).pl (⟨vk,vn,vs,vpl,vnl,vcl,vpm,vnm,vcm⟩:RV).nl (⟨vk,vn,vs,vpl,vnl,vcl,vpm,vnm,vcm⟩:RV).cl)).setCell ⟨w.heap.size,4,none⟩ (.slice (⟨vk,vn,vs,vpl,vnl,vcl,vpm,vnm,vcm⟩:RV).pm (⟨vk,vn,vs,vpl,vnl,vcl,vpm,vnm,vcm⟩:RV).nm (⟨vk,vn,vs,vpl,vnl,vcl,vpm,vnm,vcm⟩:RV).cm)).setCell ⟨w.heap.size+1,0,none⟩ (.int .i64 0)).setCell ⟨w.heap.size+1+1,0,none⟩ (.int .i64 0)).heap.size) v (⟨vk,vn,vs,vpl,vnl,vcl,vpm,vnm,vcm⟩:RV):=ht9.mono (fun k hk=>⟨by have:=hk.1;omega,yl (by have:=hk.2;omega) hsz⟩)
 have HTO:=yb hts;have HB9:=yb hb9;have HV9:=yb hv9;have HN9:=yb hN9';have HN10:=yb hN10;dsimp only at HTO HB9 HV9 HN9 HN10;clear hto hts hb9 hv9 hN9 hN9' hN10 hg7 hg8 hg9 hv7 hsz hgn ht9 ht6 hb6 hv6 hN7 hN8 hg4 hg5 hg45 hg6 ht5 hr5 hr4
 go_wp2_with fail
 refine leaves_cons (f:=58) (args:=#[.pointer (some ⟨w.heap.size,0,none⟩),.pointer (some ⟨w.heap.size+1,0,none⟩),.pointer (some ⟨w.heap.size+1+1,0,none⟩)]) (by simp) (by simp[go_sem]) ?_
 refine(zsE _ _ _ _).mono ?_;rintro e u' w'' ⟨rfl,rfl,rfl⟩;obtain⟨W9,hW9⟩:∃W,((((((w6.setCell ⟨w.heap.size,0,none⟩ (.int .i64 vk)).setCell ⟨w.heap.size,1,none⟩ (.int .i64 vn)).setCell ⟨w.heap.size,2,none⟩ (.string vs)).setCell ⟨w.heap.size,3,none⟩ (.slice vpl vnl vcl)).setCell ⟨w.heap.size,4,none⟩ (.slice vpm vnm vcm)).setCell ⟨w.heap.size+1,0,none⟩ (.int .i64 0)).setCell ⟨w.heap.size+1+1,0,none⟩ (.int .i64 0)=W:=⟨_,rfl⟩;rw[hW9]at HTO HB9 HV9 HN9 HN10;rw[hW9];clear hW9 v0 v1 v2 v3 v4 y0 y1 y2 y3 y4 x1 x2 y11 y12 c0;obtain⟨u0,u1,u2,u3,u4⟩:=HV9.out.cells5;dsimp only at u0 u1 u2 u3 u4;have x1:=HN9.out.cell;have x2:=HN10.out.cell;have HR:zsR w v (.returned (.tuple #[RV.val (⟨vk,vn,vs,vpl,vnl,vcl,vpm,vnm,vcm⟩:RV),.int .i64 0,.int .i64 0])) W9:=⟨_,rfl,HTO.out,HB9.out⟩;simp only[RV.val]at HR;simp[Leaves,settle,results,Tryz.results28,go_sem,u0,u1,u2,u3,u4,x1,x2];exact HR
theorem zsf(w:World)(s:ByteArray)(v:JV)(hs:s.size<=65536)(hv:zrB s=some v):Calls ya 28 #[.string s] w (zrR w v):=
 (ztG w s v hs hv).mono (fun e w' h=>by
  obtain⟨r,h1,h2,h3⟩:=h;exact⟨r,h1,h2.tree (fun k hk=>hk.2),h3⟩)
end
section
open Go
def gvN:ByteArray:=⟨#[103,105,118,101,110]⟩
def zsN:ByteArray:=⟨#[123,34,111,112,101,114,97,116,111,114,34,58,34,78,79,84,34,44,34,99,111,110,100,105,116,105,111,110,115,34,58,91,123,34,107,105,110,100,34,58,34,103,114,111,117,112,34,125,93,125]⟩
def zsO:ByteArray:=⟨#[123,34,99,111,108,111,114,34,58,34,114,101,100,34,125]⟩
def zsP:ByteArray:=⟨#[123,34,105,110,65,100,100,114,101,115,115,66,111,111,107,34,58,53,125]⟩
def zsQ:ByteArray:=⟨#[123,34,117,105,100,34,58,34,117,34,44,34,110,97,109,101,34,58,123,34,102,117,108,108,34,58,34,65,100,97,34,44,34,99,111,109,112,111,110,101,110,116,115,34,58,91,123,34,107,105,110,100,34,58,34,103,105,118,101,110,34,44,34,118,97,108,117,101,34,58,34,65,34,125,93,125,125]⟩
def f20J:JV:= .mk 6 0 mt [] [(zJ,tJ ze3),(zbb,.mk 5 0 mt [.mk 6 0 mt [] [(zL,tJ (⟨#[103,114,111,117,112]⟩))]] [])]
def g20J:JV:= .mk 6 0 mt [] [(⟨#[99,111,108,111,114]⟩,tJ (⟨#[114,101,100]⟩))]
def h20J:JV:= .mk 6 0 mt [] [(zbq,.mk 3 5 mt [] [])]
def v20J:JV:= .mk 6 0 mt [] [(zbo,tJ (⟨#[117]⟩)),(zh,.mk 6 0 mt [] [(⟨#[102,117,108,108]⟩,tJ (⟨#[65,100,97]⟩)),(zee,.mk 5 0 mt [.mk 6 0 mt [] [(zL,tJ gvN),(zdW,tJ (⟨#[65]⟩))]] [])])]
def n20J:JV:= .mk 1 0 mt [] []
theorem ztZ:zrB zsN=some f20J:=by kernel_rfl
theorem zt0:zrB zsO=some g20J:=by kernel_rfl
theorem zt1:zrB zsP=some h20J:=by kernel_rfl
theorem zt2:zrB zsQ=some v20J:=by kernel_rfl
theorem zuo:zcn f20J v20J=true:=by kernel_rfl
theorem zup:zdq g20J=200:=by kernel_rfl
theorem zuq:zdq h20J=1:=by kernel_rfl
theorem zur:zbC v20J zdT=[⟨#[65,100,97]⟩,⟨#[65]⟩]:=by kernel_rfl
theorem zus:zcn n20J v20J=true:=by kernel_rfl
theorem zut:zf f20J<=100000/\zf g20J<=100000/\zf h20J<=100000/\zf v20J<=100000/\zr v20J<=4000000000/\zf n20J<=100000:=by decide+kernel
theorem zux:g20J.Ok:=zqh (fun p hp=>by
 rw[yi]at hp;subst hp;exact⟨by decide,zqk (by decide)⟩) (by decide)
theorem zuy:h20J.Ok:=zqh (fun p hp=>by
 rw[yi]at hp;subst hp;exact⟨by decide,.mk (by decide) (by decide) (by decide) (by simp) (by simp) (fun i x hx=>by simp at hx) (fun i p hp=>by simp at hp) (fun i p hp=>by simp at hp)⟩) (by decide)
theorem zuB:n20J.Ok:=zmn (by decide) (by decide)
theorem zuw:f20J.Ok:=by
 refine zqh (fun p hp=> ?_) (by decide)
 rcases yv.1 hp with rfl|hp
 ·exact⟨by decide,zqk (by decide)⟩
 rw[yi]at hp;subst hp;refine⟨show zbb.size<=1000 by decide,jvokL (fun y hy=> ?_) (by decide)⟩
 rw[yi]at hy;subst hy;refine zqh (fun p hp=> ?_) (by decide)
 rw[yi]at hp;subst hp;exact⟨by decide,zqk (by decide)⟩
theorem zs3:v20J.Ok:=by
 refine zqh (fun p hp=> ?_) (by decide)
 rcases yv.1 hp with rfl|hp
 ·exact⟨by decide,zqk (by decide)⟩
 rw[yi]at hp;subst hp;refine⟨show zh.size<=1000 by decide,zqh (fun p hp=> ?_) (by decide)⟩
 rcases yv.1 hp with rfl|hp
 ·exact⟨by decide,zqk (by decide)⟩
 rw[yi]at hp;subst hp;refine⟨show zee.size<=1000 by decide,jvokL (fun y hy=> ?_) (by decide)⟩
 rw[yi]at hy;subst hy;refine zqh (fun p hp=> ?_) (by decide)
 rcases yv.1 hp with rfl|hp
 ·exact⟨by decide,zqk (by decide)⟩
 ·rw[yi]at hp;subst hp;exact⟨by decide,zqk (by decide)⟩
end
section
open Go Go.RowKit Go.OpenShut
theorem ztd(w:World)(B:Nat)(u v:Value)(l:List ByteArray)(hu:Rd w B zg 1 u l)(hv:Rd w B zg 1 v l):Calls ya 25 #[u,v] w fun e w'=>e= .returned (.bool true)/\∃n,w'=w.drewN n:=(zga w B u v l l hu hv).mono (fun e w' h=>by rw[decide_eq_true rfl]at h;exact h)
theorem ztS(w:World)(B:Nat):TreeOf w B n20J ⟨1,0,⟨#[]⟩,none,0,0,none,0,0⟩:=TreeOf.mk (r:=⟨1,0,⟨#[]⟩,none,0,0,none,0,0⟩) (rs:=[]) (rms:=[]) (Rd.nil _ _) rfl (fun i t q h=>by simp at h) (Rd.nil _ _) rfl (fun i p q h=>by simp at h) (fun i p q h=>by simp at h)
theorem zs6(w:World)(hall:AllAt w)(hmax:MaxAt w):Calls ya 8 #[] w fun e w'=>e= .returned (.bool true)/\Below w.heap.size w w':=by
 have HRf:Hid (∀W,Calls ya 28 #[.string zsN] W (zrR W f20J)):=fun W=>zsf W zsN f20J (by decide) ztZ
 have HRg:Hid (∀W,Calls ya 28 #[.string zsO] W (zrR W g20J)):=fun W=>zsf W zsO g20J (by decide) zt0
 have HRh:Hid (∀W,Calls ya 28 #[.string zsP] W (zrR W h20J)):=fun W=>zsf W zsP h20J (by decide) zt1
 have HRv:Hid (∀W,Calls ya 28 #[.string zsQ] W (zrR W v20J)):=fun W=>zsf W zsQ v20J (by decide) zt2
 unfold zsN at HRf;unfold zsO at HRg;unfold zsP at HRh;unfold zsQ at HRv;have HALL:=yb hall;have HMAX:=yb hmax;clear hall hmax
 go_enter Tryz.func8,Tryz.ntmps8
 go_upto_region 2 with(go_at_call 28;refine(HRf.out _).mono ?_;rintro e wf ⟨rf,rfl,htf,hbf⟩;obtain⟨fk,fn,fS,fpl,fnl,fcl,fpm,fnm,fcm⟩:=rf)
 have hvf:VAt (wf.alloc (.cells #[.int .i64 fk,.int .i64 fn,.string fS,.slice fpl fnl fcl,.slice fpm fnm fcm] 25)) wf.heap.size ⟨fk,fn,fS,fpl,fnl,fcl,fpm,fnm,fcm⟩:=za rfl;have hbbf:=hbf.alloc hbf.size (.cells #[.int .i64 fk,.int .i64 fn,.string fS,.slice fpl fnl fcl,.slice fpm fnm fcm] 25);have hTf:TreeOf (wf.alloc (.cells #[.int .i64 fk,.int .i64 fn,.string fS,.slice fpl fnl fcl,.slice fpm fnm fcm] 25)) wf.heap.size f20J ⟨fk,fn,fS,fpl,fnl,fcl,fpm,fnm,fcm⟩:=htf.under ((yd _ _).alloc (yc _) _) (yc _);have hB:=hbbf;obtain⟨gf,hgf⟩:∃g,wf.heap.size=g:=⟨_,rfl⟩;obtain⟨Wf,hWf⟩:∃W,wf.alloc (.cells #[.int .i64 fk,.int .i64 fn,.string fS,.slice fpl fnl fcl,.slice fpm fnm fcm] 25)=W:=⟨_,rfl⟩;rw[hWf,hgf]at hvf hTf;rw[hWf]at hB
 try rw[hWf]
 try rw[hgf]
 replace hTf:=hTf.under (yd _ Wf) (ys hvf.lt)
 clear hWf hgf htf hbf hbbf HRf
 go_upto_region 3 with(go_at_call 28;refine(HRg.out _).mono ?_;rintro e wg ⟨rg,rfl,htg,hbg⟩;obtain⟨gk,gn,gS,gpl,gnl,gcl,gpm,gnm,gcm⟩:=rg)
 have hvg:VAt (wg.alloc (.cells #[.int .i64 gk,.int .i64 gn,.string gS,.slice gpl gnl gcl,.slice gpm gnm gcm] 25)) wg.heap.size ⟨gk,gn,gS,gpl,gnl,gcl,gpm,gnm,gcm⟩:=za rfl;have hbbg:=hbg.alloc hbg.size (.cells #[.int .i64 gk,.int .i64 gn,.string gS,.slice gpl gnl gcl,.slice gpm gnm gcm] 25);have hTg:TreeOf (wg.alloc (.cells #[.int .i64 gk,.int .i64 gn,.string gS,.slice gpl gnl gcl,.slice gpm gnm gcm] 25)) wg.heap.size g20J ⟨gk,gn,gS,gpl,gnl,gcl,gpm,gnm,gcm⟩:=htg.under ((yd _ _).alloc (yc _) _) (yc _)
 replace hvf:=hvf.under hbbg hvf.lt
 replace hTf:=hTf.under hbbg hbbg.size
 replace hB:=hB.trans (hbbg.mono hB.size)
 obtain⟨gg,hgg⟩:∃g,wg.heap.size=g:=⟨_,rfl⟩;obtain⟨Wg,hWg⟩:∃W,wg.alloc (.cells #[.int .i64 gk,.int .i64 gn,.string gS,.slice gpl gnl gcl,.slice gpm gnm gcm] 25)=W:=⟨_,rfl⟩;rw[hWg,hgg]at hvg hTg;rw[hWg]at hB hvf hTf
 try rw[hWg]
 try rw[hgg]
 replace hTg:=hTg.under (yd _ Wg) (ys hvg.lt)
 clear hWg hgg htg hbg hbbg HRg
 go_upto_region 4 with(go_at_call 28;refine(HRh.out _).mono ?_;rintro e wh ⟨rh,rfl,hth,hbh⟩;obtain⟨hk,hn,hS,hpl,hnl,hcl,hpm,hnm,hcm⟩:=rh)
 have hvh:VAt (wh.alloc (.cells #[.int .i64 hk,.int .i64 hn,.string hS,.slice hpl hnl hcl,.slice hpm hnm hcm] 25)) wh.heap.size ⟨hk,hn,hS,hpl,hnl,hcl,hpm,hnm,hcm⟩:=za rfl;have hbbh:=hbh.alloc hbh.size (.cells #[.int .i64 hk,.int .i64 hn,.string hS,.slice hpl hnl hcl,.slice hpm hnm hcm] 25);have hTh:TreeOf (wh.alloc (.cells #[.int .i64 hk,.int .i64 hn,.string hS,.slice hpl hnl hcl,.slice hpm hnm hcm] 25)) wh.heap.size h20J ⟨hk,hn,hS,hpl,hnl,hcl,hpm,hnm,hcm⟩:=hth.under ((yd _ _).alloc (yc _) _) (yc _)
 replace hvf:=hvf.under hbbh hvf.lt
 replace hTf:=hTf.under hbbh hbbh.size
 replace hvg:=hvg.under hbbh hvg.lt
 replace hTg:=hTg.under hbbh hbbh.size
 replace hB:=hB.trans (hbbh.mono hB.size)
 obtain⟨gh,hgh⟩:∃g,wh.heap.size=g:=⟨_,rfl⟩;obtain⟨Wh,hWh⟩:∃W,wh.alloc (.cells #[.int .i64 hk,.int .i64 hn,.string hS,.slice hpl hnl hcl,.slice hpm hnm hcm] 25)=W:=⟨_,rfl⟩;rw[hWh,hgh]at hvh hTh;rw[hWh]at hB hvf hTf hvg hTg
 try rw[hWh]
 try rw[hgh]
 replace hTh:=hTh.under (yd _ Wh) (ys hvh.lt)
 clear hWh hgh hth hbh hbbh HRh
 go_upto_region 5 with(go_at_call 28;refine(HRv.out _).mono ?_;rintro e wv ⟨rv,rfl,htv,hbv⟩;obtain⟨vk,vn,vS,vpl,vnl,vcl,vpm,vnm,vcm⟩:=rv)
 have hvv:VAt (wv.alloc (.cells #[.int .i64 vk,.int .i64 vn,.string vS,.slice vpl vnl vcl,.slice vpm vnm vcm] 25)) wv.heap.size ⟨vk,vn,vS,vpl,vnl,vcl,vpm,vnm,vcm⟩:=za rfl;have hbbv:=hbv.alloc hbv.size (.cells #[.int .i64 vk,.int .i64 vn,.string vS,.slice vpl vnl vcl,.slice vpm vnm vcm] 25);have hTv:TreeOf (wv.alloc (.cells #[.int .i64 vk,.int .i64 vn,.string vS,.slice vpl vnl vcl,.slice vpm vnm vcm] 25)) wv.heap.size v20J ⟨vk,vn,vS,vpl,vnl,vcl,vpm,vnm,vcm⟩:=htv.under ((yd _ _).alloc (yc _) _) (yc _)
 replace hvf:=hvf.under hbbv hvf.lt
 replace hTf:=hTf.under hbbv hbbv.size
 replace hvg:=hvg.under hbbv hvg.lt
 replace hTg:=hTg.under hbbv hbbv.size
 replace hvh:=hvh.under hbbv hvh.lt
 replace hTh:=hTh.under hbbv hbbv.size
 replace hB:=hB.trans (hbbv.mono hB.size)
 obtain⟨gv,hgv⟩:∃g,wv.heap.size=g:=⟨_,rfl⟩;obtain⟨Wv,hWv⟩:∃W,wv.alloc (.cells #[.int .i64 vk,.int .i64 vn,.string vS,.slice vpl vnl vcl,.slice vpm vnm vcm] 25)=W:=⟨_,rfl⟩;rw[hWv,hgv]at hvv hTv;rw[hWv]at hB hvf hTf hvg hTg hvh hTh
 try rw[hWv]
 try rw[hgv]
 replace hTv:=hTv.under (yd _ Wv) (ys hvv.lt)
 clear hWv hgv htv hbv hbbv HRv;obtain⟨cf,cg,ch,cv,zv,cn⟩:=zut;have hallW:Hid (∀W,Below Wv.heap.size Wv W->AllAt W):=fun W hW=>(HALL.out.below hB).below hW
 have hmaxW:Hid (∀W,Below Wv.heap.size Wv W->MaxAt W):=fun W hW=>(HMAX.out.below hB).below hW
 have H1:Hid (∀W,Below Wv.heap.size Wv W->Calls ya 13 #[.agg #[.int .i64 fk,.int .i64 fn,.string fS,.slice fpl fnl fcl,.slice fpm fnm fcm],.agg #[.int .i64 vk,.int .i64 vn,.string vS,.slice vpl vnl vcl,.slice vpm vnm vcm]] W fun e w'=>e= .returned (.bool true)/\Below W.heap.size W w'):=fun W hW=>by
  have h:=zln f20J v20J ⟨fk,fn,fS,fpl,fnl,fcl,fpm,fnm,fcm⟩ ⟨vk,vn,vS,vpl,vnl,vcl,vpm,vnm,vcm⟩ W Wv.heap.size hW.size (hTf.under hW (yc _)) (hTv.under hW (yc _)) zuw zs3 cf cv zv (fun h=>by cases h) (hallW.out W hW) (hmaxW.out W hW)
  rw[zuo]at h;exact h
 have H5:Hid (∀W,Below Wv.heap.size Wv W->Calls ya 13 #[.agg #[.int .i64 1,.int .i64 0,.string ⟨#[]⟩,.slice none 0 0,.slice none 0 0],.agg #[.int .i64 vk,.int .i64 vn,.string vS,.slice vpl vnl vcl,.slice vpm vnm vcm]] W fun e w'=>e= .returned (.bool true)/\Below W.heap.size W w'):=fun W hW=>by
  have h:=zln n20J v20J ⟨1,0,⟨#[]⟩,none,0,0,none,0,0⟩ ⟨vk,vn,vS,vpl,vnl,vcl,vpm,vnm,vcm⟩ W Wv.heap.size hW.size (ztS _ _) (hTv.under hW (yc _)) zuB zs3 cn cv zv (fun _=>rfl) (hallW.out W hW) (hmaxW.out W hW)
  rw[zus]at h;exact h
 have H2:Hid (∀W,Below Wv.heap.size Wv W->Calls ya 11 #[.agg #[.int .i64 gk,.int .i64 gn,.string gS,.slice gpl gnl gcl,.slice gpm gnm gcm]] W fun e w'=>e= .returned (.int .i64 200)/\Below W.heap.size W w'):=fun W hW=>by
  have h:=zlm g20J ⟨gk,gn,gS,gpl,gnl,gcl,gpm,gnm,gcm⟩ W Wv.heap.size hW.size (hTg.under hW (yc _)) zux cg (hallW.out W hW);rw[zup]at h;exact h
 have H3:Hid (∀W,Below Wv.heap.size Wv W->Calls ya 11 #[.agg #[.int .i64 hk,.int .i64 hn,.string hS,.slice hpl hnl hcl,.slice hpm hnm hcm]] W fun e w'=>e= .returned (.int .i64 1)/\Below W.heap.size W w'):=fun W hW=>by
  have h:=zlm h20J ⟨hk,hn,hS,hpl,hnl,hcl,hpm,hnm,hcm⟩ W Wv.heap.size hW.size (hTh.under hW (yc _)) zuy ch (hallW.out W hW);rw[zuq]at h;exact h
 have H4:Hid (∀W,Below Wv.heap.size Wv W->Calls ya 29 #[.agg #[.int .i64 vk,.int .i64 vn,.string vS,.slice vpl vnl vcl,.slice vpm vnm vcm],.string ⟨#[116,101,120,116]⟩] W (zD W 9 zg 1 [⟨#[65,100,97]⟩,⟨#[65]⟩])):=fun W hW=>by
  have h:=zlp v20J ⟨vk,vn,vS,vpl,vnl,vcl,vpm,vnm,vcm⟩ zdT W Wv.heap.size hW.size (hTv.under hW (yc _)) zs3 cv (hallW.out W hW);rw[zur]at h;exact h
 obtain⟨p0,p1,p2,p3,p4⟩:=hvf.cells5;dsimp only at p0 p1 p2 p3 p4;obtain⟨q0,q1,q2,q3,q4⟩:=hvv.cells5;dsimp only at q0 q1 q2 q3 q4;have HB:=yb hB;have hk0:Below Wv.heap.size Wv Wv:=yd _ _;clear hTf hTg hTh hTv cf cg ch cv zv cn hB
 go_wp2_with (first
  |(go_at_call 13;(with_reducible refine(H1.out _ hk0).mono ?_);rintro e w1 ⟨rfl,hk1⟩;(have s0:=zc hk1 hvg.lt (hvg.cell 0 rfl));(have s1:=zc hk1 hvg.lt (hvg.cell 1 rfl));(have s2:=zc hk1 hvg.lt (hvg.cell 2 rfl));(have s3:=zc hk1 hvg.lt (hvg.cell 3 rfl));(have s4:=zc hk1 hvg.lt (hvg.cell 4 rfl));dsimp only at s0 s1 s2 s3 s4)
  |(go_at_call 11;(with_reducible refine(H2.out _ hk1).mono ?_);rintro e w2 ⟨rfl,hb2⟩;(have hk2:=hk1.trans (hb2.mono hk1.size));(have t0:=zc hk2 hvh.lt (hvh.cell 0 rfl));(have t1:=zc hk2 hvh.lt (hvh.cell 1 rfl));(have t2:=zc hk2 hvh.lt (hvh.cell 2 rfl));(have t3:=zc hk2 hvh.lt (hvh.cell 3 rfl));(have t4:=zc hk2 hvh.lt (hvh.cell 4 rfl));dsimp only at t0 t1 t2 t3 t4)
  |(go_at_call 11;(with_reducible refine(H3.out _ hk2).mono ?_);rintro e w3 ⟨rfl,hb3⟩;(have hk3:=hk2.trans (hb3.mono hk2.size));(have x0:=zc hk3 hvv.lt (hvv.cell 0 rfl));(have x1:=zc hk3 hvv.lt (hvv.cell 1 rfl));(have x2:=zc hk3 hvv.lt (hvv.cell 2 rfl));(have x3:=zc hk3 hvv.lt (hvv.cell 3 rfl));(have x4:=zc hk3 hvv.lt (hvv.cell 4 rfl));dsimp only at x0 x1 x2 x3 x4)
  |(go_at_call 29;(with_reducible refine(H4.out _ hk3).mono ?_);rintro e w4 ⟨u,rfl,ho4,hb4⟩;(have hk4:=hk3.trans (hb4.mono hk3.size));(have HO4:=yb (ho4.rd zn));clear ho4)
  |(go_at_call 25;(have hSP:=ztd (w4.alloc (.cells #[.string ⟨#[65,100,97]⟩,.string ⟨#[65]⟩] 9)) (w4.heap.size+1) u (.slice (some ⟨w4.heap.size,0,none⟩) 2 2) [⟨#[65,100,97]⟩,⟨#[65]⟩] (HO4.out.below ((yd _ _).alloc (yc _) _) (by omega)) (Rd.block (xs:=[(⟨#[65,100,97]⟩:ByteArray),⟨#[65]⟩]) zn (za rfl) rfl (by omega) (show 2<=maxLen by decide)));(with_reducible refine hSP.mono ?_);rintro e w5 ⟨rfl,n5,rfl⟩;(have hk5:=bdn (hk4.alloc hk4.size (.cells #[.string ⟨#[65,100,97]⟩,.string ⟨#[65]⟩] 9)) n5);(have y0:=zc hk5 hvv.lt (hvv.cell 0 rfl));(have y1:=zc hk5 hvv.lt (hvv.cell 1 rfl));(have y2:=zc hk5 hvv.lt (hvv.cell 2 rfl));(have y3:=zc hk5 hvv.lt (hvv.cell 3 rfl));(have y4:=zc hk5 hvv.lt (hvv.cell 4 rfl));dsimp only at y0 y1 y2 y3 y4)
  |(go_at_call 13;(with_reducible refine(H5.out _ hk5).mono ?_);rintro e w6 ⟨rfl,hb6⟩;(have hk6:=hk5.trans (hb6.mono hk5.size)))
  |fail)
 go_ret;exact⟨rfl,HB.out.trans (hk6.mono HB.out.size)⟩
end
section
open Go.RowKit Go.OpenShut
theorem zsJ(f v:JV)(r q:RV)(w:World)(hf:TreeOf w w.heap.size f r)(of:f.Ok)(hv:TreeOf w w.heap.size v q)(ov:v.Ok):
 Calls ya 9 #[r.val,q.val] w fun e w'=>∃b:Bool,e= .returned (.bool b)/\Hid (b=true->(zim f/\zf f<=300)/\zim v/\zf v<=800)/\Below w.heap.size w w':=by
 obtain⟨W0,hW0⟩:∃W0,(w.alloc (.cells #[.int .i64 r.k,.int .i64 r.n,.string r.s,.slice r.pl r.nl r.cl,.slice r.pm r.nm r.cm] 25)).alloc (.cells #[.int .i64 q.k,.int .i64 q.n,.string q.s,.slice q.pl q.nl q.cl,.slice q.pm q.nm q.cm] 25)=W0:=⟨_,rfl⟩;have hA0:VAt W0 w.heap.size r:=by rw[<-hW0];exact zb (by simp) (za rfl)
 have hC0:VAt W0 (w.heap.size+1) q:=by rw[<-hW0];exact za (by simp)
 have hB0:Below w.heap.size w W0:=by rw[<-hW0];exact((yd _ _).alloc (yc _) _).alloc (by simp) _
 have HF:Hid (∀W,Below w.heap.size w W->Calls ya 30 #[r.val,.int .i64 300] W (zjy f r.nm 300 W)):=fun W hb=>zeV f r 300 W (by decide) (hf.under hb hb.size) of
 have HV:Hid (∀W,Below w.heap.size w W->Calls ya 30 #[q.val,.int .i64 800] W (zjy v q.nm 800 W)):=fun W hb=>zeV v q 800 W (by decide) (hv.under hb hb.size) ov
 clear hf hv
 go_enter Tryz.func9,Tryz.ntmps9
 go_upto_region 1 with fail
 try rw[hW0]
 clear hW0;have hz:=hA0.lt;have hz2:=hC0.lt;obtain⟨c0,c1,c2,c3,c4⟩:=hA0.cells5;obtain⟨d0,d1,d2,d3,d4⟩:=hC0.cells5;clear hA0 hC0
 go_wp2_with (first
  |(go_at_call 30;(with_reducible refine(HF.out _ hB0).mono ?_);rintro e w1 ⟨b1,rfl,hL,hbA⟩;(have hb1:=hB0.trans (hbA.mono hB0.size));(have e0:=zc hbA hz2 d0);(have e1:=zc hbA hz2 d1);(have e2:=zc hbA hz2 d2);(have e3:=zc hbA hz2 d3);(have e4:=zc hbA hz2 d4);cases b1)
  |(go_at_call 30;(with_reducible refine(HV.out _ hb1).mono ?_);rintro e w2 ⟨b2,rfl,hM,hbB⟩;(have hb2:=hb1.trans (hbB.mono hb1.size))))
 all_goals go_ret
 all_goals first
  |exact⟨b2,rfl,fun h=>⟨(hL.out (by trivial)).2,(hM.out h).2⟩,hb2⟩
  |exact⟨false,rfl,(fun h=>by cases h),hb1⟩
end
section
open Go Go.RowKit Go.OpenShut
def opT(nm:ByteArray)(ts:List JV):JV:= .mk 6 0 ⟨#[]⟩ [] [(zJ,.mk 4 0 nm [] []),(zbb,.mk 5 0 ⟨#[]⟩ ts [])]
theorem zui{w:World}{B g:Nat}{nm:ByteArray}{ts:List JV}{p:Option Addr}{n c:Nat}(h:w.heap[g]? =some (.cells #[.string zJ,.int .i64 4,.int .i64 0,.string nm,.slice none 0 0,.slice none 0 0,.string zbb,.int .i64 5,.int .i64 0,.string ⟨#[]⟩,.slice p n c,.slice none 0 0] 35 (0,0)))(hg:g<B)
 (ht:TlOf w B (.slice p n c) ts):TreeOf w B (opT nm ts) ⟨6,0,⟨#[]⟩,none,0,0,some ⟨g,0,none⟩,2,2⟩:=
 TreeOf.mk (r:=⟨6,0,⟨#[]⟩,none,0,0,some ⟨g,0,none⟩,2,2⟩) (rs:=[]) (rms:=[⟨zJ,⟨4,0,nm,none,0,0,none,0,0⟩⟩,⟨zbb,⟨5,0,⟨#[]⟩,p,n,c,none,0,0⟩⟩]) (Rd.nil _ _) rfl (fun i t q h=>by simp at h)
  (Rd.block (xs:=([⟨zJ,⟨4,0,nm,none,0,0,none,0,0⟩⟩,⟨zbb,⟨5,0,⟨#[]⟩,p,n,c,none,0,0⟩⟩]:List RM)) codecM h rfl hg (show 2<=maxLen by decide)) rfl
  (fun i p u h1 h2=>by
   match i,h1,h2 with
   |0,h1,h2=>simp at h1 h2;subst h1 h2;rfl
   |1,h1,h2=>simp at h1 h2;subst h1 h2;rfl
   |i+2,h1,h2=>simp at h1)
  (fun i p u h1 h2=>by
   match i,h1,h2 with
   |0,h1,h2=>simp at h1 h2;subst h1 h2;exact zeX w B 4 nm
   |1,h1,h2=>simp at h1 h2;subst h1 h2;exact znO ht
   |i+2,h1,h2=>simp at h1)
theorem zp1(nm:ByteArray)(ts:List JV)(p:Option Addr)(n c:Nat)(w:World)(B:Nat)(hBw:B<=w.heap.size)(ht:TlOf w B (.slice p n c) ts):
 Calls ya 14 #[.string nm,.slice p n c] w fun e w'=>∃r:RV,e= .returned r.val/\TreeOf w' w'.heap.size (opT nm ts) r/\Below w.heap.size w w':=by
 obtain⟨W1,hW1⟩:∃W1,w.alloc (.cells #[.int .i64 0,.int .i64 0,.string ⟨#[]⟩,.slice none 0 0,.slice none 0 0] 25)=W1:=⟨_,rfl⟩;have hz1:VAt W1 w.heap.size RV.zero:=by rw[<-hW1];exact za rfl
 have hb1:Below w.heap.size w W1:=by rw[<-hW1];exact(yd _ _).alloc (yc _) _
 have hs1:W1.heap.size=w.heap.size+1:=by rw[<-hW1,World.size_alloc]
 obtain⟨MB,hMB⟩:∃M:Obj,(.cells #[.string zJ,.int .i64 4,.int .i64 0,.string nm,.slice none 0 0,.slice none 0 0,.string zbb,.int .i64 5,.int .i64 0,.string ⟨#[]⟩,.slice p n c,.slice none 0 0] 35 (0,0))=M:=⟨_,rfl⟩;have hz2:VAt (W1.alloc MB) w.heap.size RV.zero:=zb hz1.lt hz1;obtain⟨WS,hWS⟩:∃W:World,(((((W1.setCell ⟨w.heap.size,0,none⟩ (.int .i64 (⟨6,0,⟨#[]⟩,none,0,0,some ⟨W1.heap.size,0,none⟩,2,2⟩:RV).k)).setCell ⟨w.heap.size,1,none⟩ (.int .i64 (⟨6,0,⟨#[]⟩,none,0,0,some ⟨W1.heap.size,0,none⟩,2,2⟩:RV).n)).setCell ⟨w.heap.size,2,none⟩ (.string (⟨6,0,⟨#[]⟩,none,0,0,some ⟨W1.heap.size,0,none⟩,2,2⟩:RV).s)).setCell ⟨w.heap.size,3,none⟩ (.slice (⟨6,0,⟨#[]⟩,none,0,0,some ⟨W1.heap.size,0,none⟩,2,2⟩:RV).pl (⟨6,0,⟨#[]⟩,none,0,0,some ⟨W1.heap.size,0,none⟩,2,2⟩:RV).nl (⟨6,0,⟨#[]⟩,none,0,0,some ⟨W1.heap.size,0,none⟩,2,2⟩:RV).cl)).setCell ⟨w.heap.size,4,none⟩ (.slice (⟨6,0,⟨#[]⟩,none,0,0,some ⟨W1.heap.size,0,none⟩,2,2⟩:RV).pm (⟨6,0,⟨#[]⟩,none,0,0,some ⟨W1.heap.size,0,none⟩,2,2⟩:RV).nm (⟨6,0,⟨#[]⟩,none,0,0,some ⟨W1.heap.size,0,none⟩,2,2⟩:RV).cm))=W:=⟨_,rfl⟩;have hvS:VAt WS w.heap.size ⟨6,0,⟨#[]⟩,none,0,0,some ⟨W1.heap.size,0,none⟩,2,2⟩:=by rw[<-hWS];exact hz1.stored _
 have hsS:WS.heap.size=W1.heap.size:=by rw[<-hWS];simp
 have hbS:Below w.heap.size w WS:=by rw[<-hWS];exact Below.stored hb1 (yc _) _
 have hvF:VAt (WS.alloc MB) w.heap.size ⟨6,0,⟨#[]⟩,none,0,0,some ⟨W1.heap.size,0,none⟩,2,2⟩:=zb hvS.lt hvS;have hbF:Below w.heap.size w (WS.alloc MB):=hbS.alloc hbS.size _;have HF:Hid (TreeOf (WS.alloc MB) (WS.alloc MB).heap.size (opT nm ts) ⟨6,0,⟨#[]⟩,none,0,0,some ⟨W1.heap.size,0,none⟩,2,2⟩/\Below w.heap.size w (WS.alloc MB)):=⟨zui ((za hsS.symm).trans (by rw[hMB])) (by rw[World.size_alloc,hsS];omega) (ht.under (hbF.mono hBw) (Nat.le_trans hBw hbF.size)),hbF⟩
 obtain⟨f0,f1,f2,f3,f4⟩:=hvF.cells5;dsimp only at f0 f1 f2 f3 f4;obtain⟨z0,z1,z2,z3,z4⟩:=hz1.cells5;have y0:=hz1.frozen 0;have y1:=hz1.frozen 1;have y2:=hz1.frozen 2;have y3:=hz1.frozen 3;have y4:=hz1.frozen 4;obtain⟨s0,s1,s2,s3,s4⟩:=hz2.cells5;have r0:=hz2.frozen 0;have r1:=hz2.frozen 1;have r2:=hz2.frozen 2;have r3:=hz2.frozen 3;have r4:=hz2.frozen 4;dsimp only[RV.zero]at s0 s1 s2 s3 s4;have hlt:w.heap.size<W1.heap.size:=hz1.lt;have hne:w.heap.size≠W1.heap.size:=by omega
 dsimp only[RV.zero]at z0 z1 z2 z3 z4;clear hz1 hz2 ht hs1 hvS hsS hvF;rw[<-hMB]at HF s0 s1 s2 s3 s4 r0 r1 r2 r3 r4 f0 f1 f2 f3 f4;unfold zJ zbb at HF s0 s1 s2 s3 s4 r0 r1 r2 r3 r4 f0 f1 f2 f3 f4;clear hMB
 go_enter Tryz.func14,Tryz.ntmps14
 go_upto_region 1 with fail
 try rw[hW1]
 clear hW1
 go_wp2_with fail
 try rw[hWS]
 refine bodyPost_ret (v:=RV.val ⟨6,0,⟨#[]⟩,none,0,0,some ⟨W1.heap.size,0,none⟩,2,2⟩) (by simp[results,Tryz.results14,go_sem,f0,f1,f2,f3,f4]) rfl ?_
 exact⟨_,rfl,HF.out.1,HF.out.2⟩
end
section
open Go Go.RowKit
theorem ztv{f:JV}(h:zdq f=0)(hk:f.k=6):zc4 f=0:=by
 unfold zdq at h;rw[if_neg (by omega)]at h
 split at h
 ·cases h
 ·exact h
theorem zsd{f v:JV}(h:zdq f=0)(hv:v.k=6):zcn f v=zcL v f:=by
 unfold zcn;rw[decide_eq_true hv,decide_eq_true h]
 rfl
theorem zsD(nm:ByteArray)(ts:List JV):(opT nm ts).get zJ=some (.mk 4 0 nm [] []):=by
 rw[zj3 (t:=opT nm ts) rfl]
 show mOf [(zJ,.mk 4 0 nm [] []),(zbb,.mk 5 0 ⟨#[]⟩ ts [])] zJ=_
 rw[ziZ,if_pos rfl]
theorem ztg(nm:ByteArray)(ts:List JV):(opT nm ts).get zbb=some (.mk 5 0 ⟨#[]⟩ ts []):=by
 rw[zj3 (t:=opT nm ts) rfl]
 show mOf [(zJ,.mk 4 0 nm [] []),(zbb,.mk 5 0 ⟨#[]⟩ ts [])] zbb=_
 rw[ziZ,if_neg (show¬zJ=zbb by decide),ziZ,if_pos rfl]
theorem zs0(nm:ByteArray)(ts:List JV):zbx (opT nm ts)=ts:=by unfold zbx;rw[ztg];rfl
theorem op_ok{nm:ByteArray}(hn:nm=zch\/nm=zdS\/nm=ze3)(ts:List JV):zdP (opT nm ts)=true:=by
 unfold zdP;rw[zsD,ztg];have h1:decide ((opT nm ts).m.length=2)=true:=rfl;rw[h1]
 show(true&&(true&&((decide (nm=zch)||(decide (nm=zdS)||decide (nm=ze3)))&&true)))=true
 rcases hn with rfl|rfl|rfl<;>decide
theorem zf4(nm:ByteArray)(ts:List JV):zf (opT nm ts)=3+zH ts:=by
 unfold opT;simp only[zf,zH,z8];omega
theorem zuE{nm:ByteArray}(hn:nm=zch\/nm=zdS\/nm=ze3){ts:List JV}(ht:∀t∈ts,zc4 t=0)(hc:zH ts<=27):zdq (opT nm ts)=0:=by
 unfold zdq;rw[if_neg (show¬(opT nm ts).k=1 from(by decide:¬(6:Int)=1)),if_neg (by rw[zf4];omega),ziq,if_pos (show(opT nm ts).k=6 from rfl),zsD,if_pos (by rfl),if_pos (op_ok hn ts),zs0]
 exact chkFL_zero.2 ht
theorem zgz{nm:ByteArray}(hn:nm=zch\/nm=zdS\/nm=ze3){ts:List JV}(ht:∀t∈ts,zc4 t=0)(hc:zH ts<=27){v:JV}(hv:v.k=6):zcn (opT nm ts) v=zhH nm (ts.map (zcL v)):=by
 rw[zsd (zuE hn ht hc) hv,zqT,zsD];dsimp only[JV.s];rw[zs0]
theorem zqj{nm:ByteArray}(hn:nm.size<=100){ts:List JV}(ht:∀t∈ts,t.Ok)(hl:ts.length<=10):(opT nm ts).Ok:=by
 have h1:(JV.mk 4 0 nm [] []).Ok:=JV.Ok.mk (by decide) (by decide) (by omega) (by decide) (by decide) (fun i x h=>by simp at h) (fun i p h=>by simp at h) (fun i p h=>by simp at h)
 have h2:(JV.mk 5 0 ⟨#[]⟩ ts []).Ok:=JV.Ok.mk (by decide) (by decide) (by decide) (by omega) (by decide) (fun i x h=>ht x (List.mem_of_getElem? h)) (fun i p h=>by simp at h) (fun i p h=>by simp at h)
 refine JV.Ok.mk (by decide) (by decide) (by decide) (by decide) (show 2<=_ by decide) (fun i x h=>by simp at h) (fun i p h=> ?_) (fun i p h=> ?_)
 ·match i,h with
  |0,h=>simp at h;subst h;show zJ.size<=_;decide
  |1,h=>simp at h;subst h;show zbb.size<=_;decide
  |i+2,h=>simp at h
 ·match i,h with
  |0,h=>simp at h;subst h;exact h1
  |1,h=>simp at h;subst h;exact h2
  |i+2,h=>simp at h
def zgd(p:ByteArray×JV):JV:= .mk 6 0 ⟨#[]⟩ [] [p]
theorem ztf{f:JV}(h:zc4 f=0)(hk:f.k=6)(hno:f.get zJ=none){p:ByteArray×JV}(hp:p∈f.m)(hc:zf f<=27):zdq (zgd p)=0/\(zgd p).get zJ=none:=by
 have hce:zck f.m=0:=by
  rw[ziq,if_pos hk,hno,if_neg (by decide)]at h
  exact h
 have hcp:=condsE_zero.1 hce p hp
 have hne:p.1≠zJ:=by
  intro e;have hh:mOf f.m zJ=none:=by rw[<-zj3 hk];exact hno
  unfold mOf at hh;rw[Option.map_eq_none_iff,List.find?_eq_none]at hh;exact hh p hp (by simpa using e)
 have hg:(zgd p).get zJ=none:=by
  rw[zj3 (t:=zgd p) rfl]
  show mOf [p] zJ=none
  rw[ziZ,if_neg hne]
  rfl
 have hn:zf (zgd p)<=30:=by
  have h1:=zfC (List.mem_map.2 ⟨p,hp,rfl⟩:p.2∈f.m.map (·.2))
  have h2:=zjT f;obtain⟨a,t⟩:=p;unfold zgd;simp only[zf,zH,z8]at h1⊢;omega
 refine⟨?_,hg⟩;unfold zdq;rw[if_neg (show¬(zgd p).k=1 from(by decide:¬(6:Int)=1)),if_neg (by omega),ziq,if_pos (show(zgd p).k=6 from rfl),hg,if_neg (by decide)]
 show zck [p]=0
 obtain⟨a,t⟩:=p;unfold zck;rw[if_pos hcp]
 rfl
theorem ztD{f:JV}(h:zc4 f=0)(hk:f.k=6)(hno:f.get zJ=none){p:ByteArray×JV}(hp:p∈f.m)(hc:zf f<=27){v:JV}(hv:v.k=6):zcn (zgd p) v=zbw v p.1 p.2.s:=by
 obtain⟨h1,h2⟩:=ztf h hk hno hp hc;rw[zsd h1 hv,zqT,h2]
 show[p].all (fun p=>zbw v p.1 p.2.s)=_
 simp
theorem zud{f v:JV}(hno:f.get zJ=none):zcL v f=f.m.all (fun p=>zbw v p.1 p.2.s):=by rw[zqT,hno]
end
section
open Go Go.RowKit Go.OpenShut
theorem zpB(t:JV)(r:RV)(most:Nat)(w:World)(hmost:most<=1000000)(ht:TreeOf w w.heap.size t r)(ot:t.Ok):
 Calls ya 10 #[r.val,.int .i64 (most:Int)] w fun e w'=>e= .returned (.bool (decide (zr t<=most)))/\Below w.heap.size w w':=by
 have hA0:VAt (w.alloc (.cells #[.int .i64 r.k,.int .i64 r.n,.string r.s,.slice r.pl r.nl r.cl,.slice r.pm r.nm r.cm] 25)) w.heap.size r:=za rfl;have hB0:Below w.heap.size w (w.alloc (.cells #[.int .i64 r.k,.int .i64 r.n,.string r.s,.slice r.pl r.nl r.cl,.slice r.pm r.nm r.cm] 25)):=(yd _ _).alloc (yc _) _;have HS:Hid (∀W,Below w.heap.size w W->Calls ya 31 #[r.val,.int .i64 (most:Int)] W fun e w'=>∃c:Nat,e= .returned (.int .i64 (c:Int))/\(c<=most+140737488355328/\c<=zr t/\(c<=most->c=zr t))/\Below W.heap.size W w'):=fun W hb=>ztp _ t r most W (yc _) hmost (ht.under hb hb.size) ot
 clear ht
 go_enter Tryz.func10,Tryz.ntmps10
 go_upto_region 1 with fail
 obtain⟨W0,hW0⟩:∃W0,(w.alloc (.cells #[.int .i64 r.k,.int .i64 r.n,.string r.s,.slice r.pl r.nl r.cl,.slice r.pm r.nm r.cm] 25))=W0:=⟨_,rfl⟩;rw[hW0]at hA0 hB0⊢;clear hW0;obtain⟨c0,c1,c2,c3,c4⟩:=hA0.cells5;clear hA0
 go_wp2_with (go_at_call 31;(with_reducible refine(HS.out _ hB0).mono ?_);rintro e w1 ⟨d,rfl,hdd,hbA⟩;(have hb1:=hB0.trans (hbA.mono hB0.size)))
 go_ret;refine⟨zbU ?_,hb1⟩;rw[Bool.eq_iff_iff]
 constructor
 ·intro h;have h2:(d:Int)<=(most:Int):=of_decide_eq_true (by simpa using h)
  have:=hdd.2.2 (by omega)
  exact decide_eq_true (by omega)
 ·intro h;have h2:=of_decide_eq_true h;have h3:=hdd.2.1;simp;omega
theorem kbY{B:Nat}{W w:World}(h:KB B W w):Below B W w:=h.1
theorem zs5{n:Nat}(h:n<=300):IntKind.i64.wrap (n:Int)=(n:Int):=by rw[IntKind.wrap_i64];omega
theorem zuu(w:World)(a b c:Obj):Below w.heap.size w (((w.alloc a).alloc b).alloc c):=(zM w a b).alloc (zM w a b).size c
def KBt(W0 W:World):Prop:=Below W0.heap.size W0 W/\∀b o,b<W0.heap.size->W.cell? ⟨b,o,none⟩=W0.cell? ⟨b,o,none⟩
theorem KBt.step{W0 w w':World}(h:KBt W0 w)(hb:Below w.heap.size w w'):KBt W0 w':=KB.step (W:=W0) h hb
theorem zsn{W:World}{g:Nat}{r:RV}(h:VAt W g r):(Instr.loadAt 25 (.pointer (some ⟨g,0,none⟩))).run ya W= .ok (RV.val r) W:=by
 obtain⟨c0,c1,c2,c3,c4⟩:=h.cells5;have hl:=h.lt;simp[go_sem,c0,c1,c2,c3,c4]
theorem zto{W:World}{g:Nat}{r:RV}(h:VAt W g r):(Instr.loadAt 3 (.pointer (some ⟨g,0,none⟩))).run ya W= .ok (.int .i64 r.k) W:=by
 obtain⟨c0,c1,c2,c3,c4⟩:=h.cells5;have hl:=h.lt;simp[go_sem,c0]
theorem zt5{ρ:Operand->Value}{o:Oper}{x y:Operand}{a b:Nat}{w:World}(ho:o.op= .binOp .add 3 x y 3)(hx:ρ x= .int .i64 (a:Int))(hy:ρ y= .int .i64 (b:Int))(ha:a<=300)(hb:b<=300):(execOp ρ o).run ya w= .ok (.value (.int .i64 ((a:Int)+(b:Int)))) w:=by
 unfold execOp;rw[ho];simp[go_sem,hx,hy]
 try(rw[IntKind.wrap_i64];omega)
theorem ztC{f:JV}{p:ByteArray×JV}(hp:p∈f.m):zf (zgd p)<=3+zf f:=by
 have h1:=zfC (List.mem_map.2 ⟨p,hp,rfl⟩:p.2∈f.m.map (·.2))
 have h2:=zjT f;obtain⟨a,t⟩:=p;unfold zgd;simp only[zf,zH,z8]at h1⊢;omega
theorem ztA{f:JV}(h:f.Ok):f.m.length<=1466015503658/\∀p∈f.m,p.1.size<=140737488351232/\p.2.Ok:=by
 cases h with
 | mk h1 h2 h3 bl bm okl oks okm =>
   refine⟨bm,fun p hp=> ?_⟩
   obtain⟨i,hi⟩:=List.getElem?_of_mem hp;exact⟨oks i p hi,okm i p hi⟩
theorem zuD{f:JV}(h:f.Ok){p:ByteArray×JV}(hp:p∈f.m):(zgd p).Ok:=by
 have h1:=(ztA h).2 p hp;refine JV.Ok.mk (by decide) (by decide) (by decide) (by decide) (show[p].length<=_ by simp) (fun i x h=>by simp at h) (fun i q h=> ?_) (fun i q h=> ?_)
 ·match i,h with
  |0,h=>simp at h;subst h;exact h1.1
  |i+1,h=>simp at h
 ·match i,h with
  |0,h=>simp at h;subst h;exact h1.2
  |i+1,h=>simp at h
theorem ztX{w:World}{B g:Nat}{p:ByteArray×JV}{x:RM}(h:w.heap[g]? =some (.cells #[.string x.name,.int .i64 x.v.k,.int .i64 x.v.n,.string x.v.s,.slice x.v.pl x.v.nl x.v.cl,.slice x.v.pm x.v.nm x.v.cm] 35 (0,0)))(hg:g<B)(hn:p.1=x.name)(ht:TreeOf w B p.2 x.v):
 TreeOf w B (zgd p) ⟨6,0,⟨#[]⟩,none,0,0,some ⟨g,0,none⟩,1,1⟩:=
 TreeOf.mk (r:=⟨6,0,⟨#[]⟩,none,0,0,some ⟨g,0,none⟩,1,1⟩) (rs:=[]) (rms:=[x]) (Rd.nil _ _) rfl (fun i t q h=>by simp at h)
  (Rd.one (x:=x) codecM h rfl hg) rfl
  (fun i p u h1 h2=>by
   match i,h1,h2 with
   |0,h1,h2=>simp at h1 h2;subst h1 h2;exact hn
   |i+1,h1,h2=>simp at h1)
  (fun i p u h1 h2=>by
   match i,h1,h2 with
   |0,h1,h2=>simp at h1 h2;subst h1 h2;exact ht
   |i+1,h1,h2=>simp at h1)
abbrev blk1(r:RV):Obj:= .cells #[.int .i64 r.k,.int .i64 r.n,.string r.s,.slice r.pl r.nl r.cl,.slice r.pm r.nm r.cm] 25
abbrev zth(r s:RV):Obj:= .cells #[.int .i64 r.k,.int .i64 r.n,.string r.s,.slice r.pl r.nl r.cl,.slice r.pm r.nm r.cm,.int .i64 s.k,.int .i64 s.n,.string s.s,.slice s.pl s.nl s.cl,.slice s.pm s.nm s.cm] 25
theorem zuj{ρ:Operand->Value}{o:Oper}{x:Operand}{r:RV}{w:World}(ho:o.op= .buildSlice 22 1 #[(0,x)])(hx:ρ x=RV.val r):(execOp ρ o).run ya w= .ok (.value (.slice (some ⟨w.heap.size,0,none⟩) 1 1)) (w.alloc (blk1 r)):=by
 unfold execOp;rw[ho];simp[go_sem,hx]
theorem zsG{ρ:Operand->Value}{o:Oper}{x y:Operand}{r s:RV}{w:World}(ho:o.op= .buildSlice 22 2 #[(0,x),(1,y)])(hx:ρ x=RV.val r)(hy:ρ y=RV.val s):(execOp ρ o).run ya w= .ok (.value (.slice (some ⟨w.heap.size,0,none⟩) 2 2)) (w.alloc (zth r s)):=by
 unfold execOp;rw[ho];simp[go_sem,hx,hy]
end
end Go.Proofs.YtemofofnkchmeaaGreatDoor
