import Derived.Test.YtemofofnkchmeaaGreatDoorS06
import Derived.Test.YtemofofnkchmeaaGreatDoorL33
import Derived.Test.YtemofofnkchmeaaGreatDoorL31
import Derived.Test.YtemofofnkchmeaaGreatDoorL18
import Derived.Test.YtemofofnkchmeaaGreatDoorL14
import Derived.Test.YtemofofnkchmeaaGreatDoorL12
import Derived.Test.YtemofofnkchmeaaGreatDoorL11
import Derived.Test.YtemofofnkchmeaaGreatDoorL07
import Derived.Test.YtemofofnkchmeaaGreatDoorS00
import Derived.Test.YtemofofnkchmeaaGreatDoorL09
import Derived.Test.YtemofofnkchmeaaGreatDoorL04
import Derived.Test.YtemofofnkchmeaaGreatDoorL02
import Derived.Test.YtemofofnkchmeaaGreatDoorS01
import Derived.Deep.RegionHeld3
import Derived.Deep.DeepCutAuto
import Derived.Deep.CutRange
import Derived.BigQuiet
import Derived.Deep.QuietTactic
import Derived.Outline
import Derived.OpenShut
import Derived.Deep.RegionLaw
import Derived.Lib.Bytealg
import Derived.Test.YtemofofnkchmeaaGreatDoorL00
import Derived.Shelf.LaysM
import Derived.Shelf.Small.Strs
import Derived.Shelf.Strconv.Clone
import Derived.Shelf.Strings.Count
import Derived.Shelf.Strings.OnBuilder
import Derived.Shelf.Strings.Repeat
import Derived.Shelf.Strings.Trim
import Derived.Shelf.Strings.SlTrimAscii
import Derived.Test.YtemofofnkchmeaaGreatDoorProg
import Derived.Test.YtemofofnkchmeaaGreatDoorL10
import Derived.Sort.LotA
import Derived.Shelf.SlSortCmp.Insertion
import Derived.Shelf.SlSortCmp.KitK
import Derived.Sort.WalkB2
import Derived.Sort.WalkB12
import Derived.Deep.LoopGhost
import Derived.WalkKit
import Derived.Lib.Hide
import Derived.Shelf.SlSortCmp.QuietGrown
import Derived.Deep.Cut
import Derived.Test.YtemofofnkchmeaaGreatDoorL01
import Derived.Deep.Draws
import Derived.Sort.OwnSorted
import Derived.Lib.Strings
import Derived.Laws.IdiomStrings
import Derived.Maps.AppendAt
import Derived.Deep.AppendLies
import Derived.RegionTactic
import Derived.OwnWalk
import Derived.WalkSpells
import Derived.Laws.AppendOwnNone
import Derived.ProofKit
import Derived.Below
import Derived.Test.YtemofofnkchmeaaGreatDoorL05
import Derived.WalkLawsBesides
import Derived.Maps.OwnSet
import Derived.StringKeys
import Derived.StillTactics
import Derived.Deep.Slices
import Derived.Deep.Fields
import Derived.Deep.Strs
import Derived.ChangeSame
import Derived.SizedLaws
import Derived.Shelf.Slices.Turned
import Derived.Lib.IndexMore
import Derived.Test.YtemofofnkchmeaaGreatDoorS03
import Derived.RangeFuncNested
import Derived.RangeFuncBound
import Derived.RangeFuncCalls
import Derived.RangeFuncLeaves
import Derived.RangeFuncBox
import Derived.Shelf.Abstract
import Derived.OwnWalkIn
import Derived.TacticsInMore
import Derived.LoopNIn
import Derived.LoopIn
import Derived.Sort.LoopGhostIn
import Derived.Sort.CutIn
import Derived.Stop.RegionWithIn
import Derived.Maps.OwnIn
import Derived.Shelf.Strings.Search3
import Derived.Test.YtemofofnkchmeaaGreatDoorL30
import Derived.Test.YtemofofnkchmeaaGreatDoorL29
import Derived.Test.YtemofofnkchmeaaGreatDoorL20
import Derived.Test.YtemofofnkchmeaaGreatDoorL19
import Derived.Test.YtemofofnkchmeaaGreatDoorL15
import Derived.Test.YtemofofnkchmeaaGreatDoorL22
import Derived.Test.YtemofofnkchmeaaGreatDoorS04
set_option linter.unusedSimpArgs false
set_option linter.unusedVariables false
set_option maxRecDepth 200000
set_option maxHeartbeats 8000000
namespace Go.Proofs.YtemofofnkchmeaaGreatDoor
open _root_.Go.RowKit.Below renaming refl->yd
open _root_.Int renaming natCast_nonneg->ye
open _root_.Go.Lib renaming hid->yb
open _root_.List renaming getElem?_eq_getElem->yh,map_cons->yx,map_nil->yr
open _root_.Nat renaming le_refl->yc,le_trans->yj
open _root_.Go.Proofs.Tryz renaming prog->ya
section
open Go Go.RowKit Go.OpenShut
theorem zsH(f g v:JV)(r s q:RV)(w:World)(hf:TreeOf w w.heap.size f r)(of:f.Ok)(hg:TreeOf w w.heap.size g s)(og:g.Ok)(hv:TreeOf w w.heap.size v q)(ov:v.Ok)(hall:AllAt w)(hmax:MaxAt w):
 Calls ya 3 #[r.val,s.val,q.val] w fun e w'=>e= .returned (.bool true)/\Below w.heap.size w w':=by
 obtain⟨W0,hW0⟩:∃W0,((w.alloc (.cells #[.int .i64 r.k,.int .i64 r.n,.string r.s,.slice r.pl r.nl r.cl,.slice r.pm r.nm r.cm] 25)).alloc (.cells #[.int .i64 s.k,.int .i64 s.n,.string s.s,.slice s.pl s.nl s.cl,.slice s.pm s.nm s.cm] 25)).alloc (.cells #[.int .i64 q.k,.int .i64 q.n,.string q.s,.slice q.pl q.nl q.cl,.slice q.pm q.nm q.cm] 25)=W0:=⟨_,rfl⟩;have hA0:VAt W0 w.heap.size r:=by rw[<-hW0];exact zb (by simp;omega) (zb (by simp) (za rfl))
 have hC0:VAt W0 (w.heap.size+1) s:=by rw[<-hW0];exact zb (by simp) (za (by simp))
 have hD0:VAt W0 (w.heap.size+2) q:=by rw[<-hW0];exact za (by simp)
 have hB0:Below w.heap.size w W0:=by rw[<-hW0];exact zuu w _ _ _
 have hw0:=hB0.size;have hf0:TreeOf W0 W0.heap.size f r:=hf.under hB0 hw0;have hg0:TreeOf W0 W0.heap.size g s:=hg.under hB0 hw0;have hv0:TreeOf W0 W0.heap.size v q:=hv.under hB0 hw0;have hall0:=hall.below hB0;have hmax0:=hmax.below hB0;have HAW:Hid (∀W,Below W0.heap.size W0 W->Calls ya 8 #[] W fun e w'=>e= .returned (.bool true)/\Below W.heap.size W w'):=fun W hb=>zs6 W (hall0.below hb) (hmax0.below hb)
 have HF1:Hid (∀W,Below W0.heap.size W0 W->Calls ya 9 #[r.val,q.val] W fun e w'=>∃b:Bool,e= .returned (.bool b)/\Hid (b=true->(zim f/\zf f<=300)/\zim v/\zf v<=800)/\Below W.heap.size W w'):=fun W hb=>zsJ f v r q W (hf0.under hb hb.size) of (hv0.under hb hb.size) ov
 have HF2:Hid (∀W,Below W0.heap.size W0 W->Calls ya 9 #[s.val,q.val] W fun e w'=>∃b:Bool,e= .returned (.bool b)/\Hid (b=true->(zim g/\zf g<=300)/\zim v/\zf v<=800)/\Below W.heap.size W w'):=fun W hb=>zsJ g v s q W (hg0.under hb hb.size) og (hv0.under hb hb.size) ov
 have HLF:Hid (∀W,Below W0.heap.size W0 W->Calls ya 10 #[r.val,.int .i64 2000] W fun e w'=>e= .returned (.bool (decide (zr f<=2000)))/\Below W.heap.size W w'):=fun W hb=>zpB f r 2000 W (by decide) (hf0.under hb hb.size) of
 have HLG:Hid (∀W,Below W0.heap.size W0 W->Calls ya 10 #[s.val,.int .i64 2000] W fun e w'=>e= .returned (.bool (decide (zr g<=2000)))/\Below W.heap.size W w'):=fun W hb=>zpB g s 2000 W (by decide) (hg0.under hb hb.size) og
 have HLV:Hid (∀W,Below W0.heap.size W0 W->Calls ya 10 #[q.val,.int .i64 8000] W fun e w'=>e= .returned (.bool (decide (zr v<=8000)))/\Below W.heap.size W w'):=fun W hb=>zpB v q 8000 W (by decide) (hv0.under hb hb.size) ov
 have HCF:Hid (zf f<=300->∀W,Below W0.heap.size W0 W->Calls ya 11 #[r.val] W fun e w'=>e= .returned (.int .i64 (zdq f))/\Below W.heap.size W w'):=fun hc W hb=>zlm f r W W0.heap.size hb.size (hf0.under hb (yc _)) of (by omega) (hall0.below hb)
 have HCG:Hid (zf g<=300->∀W,Below W0.heap.size W0 W->Calls ya 11 #[s.val] W fun e w'=>e= .returned (.int .i64 (zdq g))/\Below W.heap.size W w'):=fun hc W hb=>zlm g s W W0.heap.size hb.size (hg0.under hb (yc _)) og (by omega) (hall0.below hb)
 have HNF:Hid (zf f<=300->∀W,Below W0.heap.size W0 W->Calls ya 12 #[r.val] W fun e w'=>e= .returned (.int .i64 (zf f:Int))/\Below W.heap.size W w'):=fun hc W hb=>(zl7 _ f r W (yc _) (hf0.under hb hb.size) of).mono fun e w' h=>⟨by rw[h.1,zs5 (by omega)],h.2⟩
 have HNG:Hid (zf g<=300->∀W,Below W0.heap.size W0 W->Calls ya 12 #[s.val] W fun e w'=>e= .returned (.int .i64 (zf g:Int))/\Below W.heap.size W w'):=fun hc W hb=>(zl7 _ g s W (yc _) (hg0.under hb hb.size) og).mono fun e w' h=>⟨by rw[h.1,zs5 (by omega)],h.2⟩
 have HKF:=yb hf.kk.1;have HKG:=yb hg.kk.1;have HKV:=yb hv.kk.1;obtain⟨E1,hE1⟩:∃E,zdq f=E:=⟨_,rfl⟩;obtain⟨E2,hE2⟩:∃E,zdq g=E:=⟨_,rfl⟩;rw[hE1]at HCF;rw[hE2]at HCG;have HE1:=yb hE1;have HE2:=yb hE2;have HVA:Hid (∀W,Below W0.heap.size W0 W->VAt W w.heap.size r/\VAt W (w.heap.size+1) s/\VAt W (w.heap.size+2) q):=fun W hb=>⟨hA0.under hb hA0.lt,hC0.under hb hC0.lt,hD0.under hb hD0.lt⟩
 obtain⟨c0,c1,c2,c3,c4⟩:=hA0.cells5;obtain⟨d0,d1,d2,d3,d4⟩:=hC0.cells5;obtain⟨e0,e1,e2,e3,e4⟩:=hD0.cells5;have hza:=hA0.lt;have hzc:=hC0.lt;have hzd:=hD0.lt;have HB0:=yb hB0;have HFT:Hid (TreeOf W0 W0.heap.size f r/\TreeOf W0 W0.heap.size g s/\TreeOf W0 W0.heap.size v q/\(f.Ok/\g.Ok/\v.Ok)/\AllAt W0/\MaxAt W0):=⟨hf0,hg0,hv0,⟨of,og,ov⟩,hall0,hmax0⟩;clear hf of hg og hv ov hall hmax hA0 hC0 hD0 hf0 hg0 hv0 hall0 hmax0 hE1 hE2 hB0
 go_enter Tryz.func3,Tryz.ntmps3
 go_upto_region 1 with fail
 try rw[hW0]
 clear hW0
 go_cut [73]from 12 to 73 (fun x wx=>∃b:Bool,x= .bool b/\Hid ((b=false->((((zim f/\zf f<=300)/\zim v/\zf v<=800)/\((zim g/\zf g<=300)/\zim v/\zf v<=800))/\zr v<=8000)/\(f.k=6/\g.k=6/\v.k=6)/\(zdq f=0/\zdq g=0)/\zf f+zf g<=27)/\Below W0.heap.size W0 wx))
 case first=>
  obtain⟨KF,hKF⟩:∃b,(r.k !=6)=b:=⟨_,rfl⟩;obtain⟨KG,hKG⟩:∃b,(s.k !=6)=b:=⟨_,rfl⟩;obtain⟨KV,hKV⟩:∃b,(q.k !=6)=b:=⟨_,rfl⟩;obtain⟨CF,hCF⟩:∃b,(E1 !=0)=b:=⟨_,rfl⟩;obtain⟨CG,hCG⟩:∃b,(E2 !=0)=b:=⟨_,rfl⟩;obtain⟨NF,hNF⟩:∃n,zf f=n:=⟨_,rfl⟩;obtain⟨NG,hNG⟩:∃n,zf g=n:=⟨_,rfl⟩;obtain⟨BC,hBC⟩:∃b,decide ((27:Int)<(NF:Int)+(NG:Int))=b:=⟨_,rfl⟩;rw[hNF]at HNF HF1 HCF;rw[hNG]at HNG HF2 HCG
  have HYES:Hid (KF=false->KG=false->KV=false->CF=false->CG=false->BC=false->(f.k=6/\g.k=6/\v.k=6)/\(zdq f=0/\zdq g=0)/\NF+NG<=27):=fun h1 h2 h3 h4 h5 h6=>by
   rw[h1]at hKF;rw[h2]at hKG;rw[h3]at hKV;rw[h4]at hCF;rw[h5]at hCG;rw[h6]at hBC;refine⟨⟨HKF.out.symm.trans (by simpa using hKF),HKG.out.symm.trans (by simpa using hKG),HKV.out.symm.trans (by simpa using hKV)⟩,⟨HE1.out.trans (by simpa using hCF),HE2.out.trans (by simpa using hCG)⟩,?_⟩
   have:=of_decide_eq_false hBC;omega
  have hk0:=KB.drew W0;have nf0:(0:Int)<=(NF:Int):=ye _;have ng0:(0:Int)<=(NG:Int):=ye _;obtain⟨b3,hb3⟩:∃b,decide (zr f<=2000)=b:=⟨_,rfl⟩;obtain⟨b4,hb4⟩:∃b,decide (zr g<=2000)=b:=⟨_,rfl⟩;obtain⟨b5,hb5⟩:∃b,decide (zr v<=8000)=b:=⟨_,rfl⟩;rw[hb3]at HLF;rw[hb4]at HLG;rw[hb5]at HLV;have HB5:=yb hb5;clear hb3 hb4 hb5;have LD3:∀w',KBt W0 w'->(Instr.loadAt 25 (.pointer (some ⟨w.heap.size,0,none⟩))).run ya w'= .ok (RV.val r) w':=fun w' hw=>zsn (HVA.out w' hw.1).1
  have LK3:∀w',KBt W0 w'->(Instr.loadAt 3 (.pointer (some ⟨w.heap.size,0,none⟩))).run ya w'= .ok (.int .i64 r.k) w':=fun w' hw=>zto (HVA.out w' hw.1).1
  have FA3:∀w',(Instr.fieldAt 25 (.pointer (some ⟨w.heap.size,0,none⟩)) 0).run ya w'= .ok (.pointer (some ⟨w.heap.size,0,none⟩)) w':=fun w'=>by simp[go_sem]
  have LD4:∀w',KBt W0 w'->(Instr.loadAt 25 (.pointer (some ⟨w.heap.size+1,0,none⟩))).run ya w'= .ok (RV.val s) w':=fun w' hw=>zsn (HVA.out w' hw.1).2.1
  have LK4:∀w',KBt W0 w'->(Instr.loadAt 3 (.pointer (some ⟨w.heap.size+1,0,none⟩))).run ya w'= .ok (.int .i64 s.k) w':=fun w' hw=>zto (HVA.out w' hw.1).2.1
  have FA4:∀w',(Instr.fieldAt 25 (.pointer (some ⟨w.heap.size+1,0,none⟩)) 0).run ya w'= .ok (.pointer (some ⟨w.heap.size+1,0,none⟩)) w':=fun w'=>by simp[go_sem]
  have LD5:∀w',KBt W0 w'->(Instr.loadAt 25 (.pointer (some ⟨w.heap.size+2,0,none⟩))).run ya w'= .ok (RV.val q) w':=fun w' hw=>zsn (HVA.out w' hw.1).2.2
  have LK5:∀w',KBt W0 w'->(Instr.loadAt 3 (.pointer (some ⟨w.heap.size+2,0,none⟩))).run ya w'= .ok (.int .i64 q.k) w':=fun w' hw=>zto (HVA.out w' hw.1).2.2
  have FA5:∀w',(Instr.fieldAt 25 (.pointer (some ⟨w.heap.size+2,0,none⟩)) 0).run ya w'= .ok (.pointer (some ⟨w.heap.size+2,0,none⟩)) w':=fun w'=>by simp[go_sem]
  have NKKF:∀n w',(do eqGuard .neq 3 (.tmp n) (.const (.int .i64 6)) (.int .i64 r.k) (.int .i64 6);binOp .neq 3 (.int .i64 r.k) (.int .i64 6):Sem Value).run ya w'= .ok (.bool KF) w':=fun n w'=>by rw[<-hKF];simp[go_sem]
  have NKKG:∀n w',(do eqGuard .neq 3 (.tmp n) (.const (.int .i64 6)) (.int .i64 s.k) (.int .i64 6);binOp .neq 3 (.int .i64 s.k) (.int .i64 6):Sem Value).run ya w'= .ok (.bool KG) w':=fun n w'=>by rw[<-hKG];simp[go_sem]
  have NKKV:∀n w',(do eqGuard .neq 3 (.tmp n) (.const (.int .i64 6)) (.int .i64 q.k) (.int .i64 6);binOp .neq 3 (.int .i64 q.k) (.int .i64 6):Sem Value).run ya w'= .ok (.bool KV) w':=fun n w'=>by rw[<-hKV];simp[go_sem]
  have NCCF:∀n w',(do eqGuard .neq 29 (.tmp n) (.const (.int .i64 0)) (.int .i64 E1) (.int .i64 0);binOp .neq 29 (.int .i64 E1) (.int .i64 0):Sem Value).run ya w'= .ok (.bool CF) w':=fun n w'=>by rw[<-hCF];simp[go_sem]
  have NCCG:∀n w',(do eqGuard .neq 29 (.tmp n) (.const (.int .i64 0)) (.int .i64 E2) (.int .i64 0);binOp .neq 29 (.int .i64 E2) (.int .i64 0):Sem Value).run ya w'= .ok (.bool CG) w':=fun n w'=>by rw[<-hCG];simp[go_sem]
  have GTR:∀n w',(do eqGuard .gtr 3 (.tmp n) (.const (.int .i64 27)) (.int .i64 ((NF:Int)+(NG:Int))) (.int .i64 27);binOp .gtr 3 (.int .i64 ((NF:Int)+(NG:Int))) (.int .i64 27):Sem Value).run ya w'= .ok (.bool BC) w':=fun n w'=>by rw[<-hBC];simp[go_sem]
  have CL:∀(u v:Value) w',(callFunc 10 #[u,v]).run ya w'= .ok (.enter 10 #[u,v]) w':=fun _ _ _=>by kernel_rfl
  have CK:∀(u:Value) w',(callFunc 11 #[u]).run ya w'= .ok (.enter 11 #[u]) w':=fun _ _=>by kernel_rfl
  have CC:∀(u:Value) w',(callFunc 12 #[u]).run ya w'= .ok (.enter 12 #[u]) w':=fun _ _=>by kernel_rfl
  have XF:∀w',KBt W0 w'->Calls ya 10 #[RV.val r,.int .i64 2000] w' fun e w''=>e= .returned (.bool b3)/\KBt W0 w'':=fun w' hw=>(HLF.out w' hw.1).mono fun e w'' h=>⟨h.1,hw.step h.2⟩
  have XG:∀w',KBt W0 w'->Calls ya 10 #[RV.val s,.int .i64 2000] w' fun e w''=>e= .returned (.bool b4)/\KBt W0 w'':=fun w' hw=>(HLG.out w' hw.1).mono fun e w'' h=>⟨h.1,hw.step h.2⟩
  have XV:∀w',KBt W0 w'->Calls ya 10 #[RV.val q,.int .i64 8000] w' fun e w''=>e= .returned (.bool b5)/\KBt W0 w'':=fun w' hw=>(HLV.out w' hw.1).mono fun e w'' h=>⟨h.1,hw.step h.2⟩
  have CA:∀w',(callFunc 8 #[]).run ya w'= .ok (.enter 8 #[]) w':=fun _=>by kernel_rfl
  have CF2:∀(u v:Value) w',(callFunc 9 #[u,v]).run ya w'= .ok (.enter 9 #[u,v]) w':=fun _ _ _=>by kernel_rfl
  refine wp_region_held_drew (S:=KBt W0) (by kernel_rfl) (ziA W0) (fun hS0=> ?_)
  refine WH.frm 175 (by kernel_rfl) (fun FR hFR hN=> ?_)
  have e3:FR.eval (.tmp 3)= .pointer (some ⟨w.heap.size,0,none⟩):=by rw[<-hFR];rfl
  have e4:FR.eval (.tmp 4)= .pointer (some ⟨w.heap.size+1,0,none⟩):=by rw[<-hFR];rfl
  have e5:FR.eval (.tmp 5)= .pointer (some ⟨w.heap.size+2,0,none⟩):=by rw[<-hFR];rfl
  refine WH.call 0 12 _ _ rfl rfl (by kernel_rfl) (zbM rfl) (ztH rfl rfl (CA _)) ((HAW.out _ hS0.1).mono ?_)
  rintro e wa ⟨rfl,hba⟩;have hS1:KBt W0 wa:=hS0.step hba;refine⟨_,rfl,hS1,?_⟩;refine WH.may 1 13 true (.bool false) rfl rfl (by kernel_rfl) (by kernel_rfl) (by kernel_rfl) (fun _ _ _ _ h=>h) (zbM rfl) (fun _ w' hw=>zfg (b:=true) _ (.tmp 12) rfl (zbd 175 hN (by kernel_rfl) (by kernel_rfl))) hS1 ?_
  refine WH.may 2 14 true (.bool false) rfl rfl (by kernel_rfl) (by kernel_rfl) (by kernel_rfl) (fun _ _ _ _ h=>h) (zbM rfl) (fun _ w' hw=>zdl (.tmp 13) rfl (zbd 175 hN (by kernel_rfl) (by kernel_rfl))) hS1 ?_
  refine WH.may 3 15 true (RV.val r) rfl rfl (by kernel_rfl) (by kernel_rfl) (by kernel_rfl) (fun _ _ _ _ h=>h) (zbE (d:=14) (t:=false) rfl (by kernel_rfl) (zbd 175 hN (by kernel_rfl) (by kernel_rfl)) (by kernel_rfl)) (fun _ w' hw=>zbX rfl (zcT 175 hN (by kernel_rfl) (by kernel_rfl) e3) (LD3 w' hw)) hS1 ?_
  refine WH.may 4 16 true (RV.val q) rfl rfl (by kernel_rfl) (by kernel_rfl) (by kernel_rfl) (fun _ _ _ _ h=>h) (zbE (d:=14) (t:=false) rfl (by kernel_rfl) (zbd 175 hN (by kernel_rfl) (by kernel_rfl)) (by kernel_rfl)) (fun _ w' hw=>zbX rfl (zcT 175 hN (by kernel_rfl) (by kernel_rfl) e5) (LD5 w' hw)) hS1 ?_
  refine WH.call 5 17 _ _ rfl rfl (by kernel_rfl) (zbE (d:=14) (t:=false) rfl (by kernel_rfl) (zbd 175 hN (by kernel_rfl) (by kernel_rfl)) (by kernel_rfl)) (zdm rfl rfl (zdE 175 hN (by kernel_rfl) (by kernel_rfl)) (zdE 175 hN (by kernel_rfl) (by kernel_rfl)) (CF2 _ _ _)) ((HF1.out _ hS1.1).mono ?_)
  rintro e wb ⟨b1,rfl,HL1,hbb⟩;have hS2:KBt W0 wb:=hS1.step hbb;refine⟨_,rfl,hS2,?_⟩;refine WH.may 6 18 true (.bool (!b1)) rfl rfl (by kernel_rfl) (by kernel_rfl) (by kernel_rfl) (fun _ _ _ _ h=>h) (zbE (d:=14) (t:=false) rfl (by kernel_rfl) (zbd 175 hN (by kernel_rfl) (by kernel_rfl)) (by kernel_rfl)) (fun _ w' hw=>zfg (b:=b1) _ (.tmp 17) rfl (zbd 175 hN (by kernel_rfl) (by kernel_rfl))) hS2 ?_
  refine WH.may 7 19 true (.bool (!b1)) rfl rfl (by kernel_rfl) (by kernel_rfl) (by kernel_rfl) (fun _ _ _ _ h=>h) (zbM rfl) (fun _ w' hw=>(zds (b:=false) (u:= .bool true) (v:= .bool (!b1)) (.tmp 14) (.const (.bool true)) (.tmp 18) rfl (zbd 175 hN (by kernel_rfl) (by kernel_rfl)) (fun h=>by cases h) (fun _=>(zbd 175 hN (by kernel_rfl) (by kernel_rfl))))) hS2 ?_
  refine WH.may 8 20 true (.bool (!b1)) rfl rfl (by kernel_rfl) (by kernel_rfl) (by kernel_rfl) (fun _ _ _ _ h=>h) (zbM rfl) (fun _ w' hw=>zdl (.tmp 19) rfl (zbd 175 hN (by kernel_rfl) (by kernel_rfl))) hS2 ?_
  refine WH.may 9 21 b1 (RV.val s) rfl rfl (by kernel_rfl) (by kernel_rfl) (by kernel_rfl) (fun _ _ _ _ h=>h) (zbE (d:=20) (t:= !b1) rfl (by kernel_rfl) (zbd 175 hN (by kernel_rfl) (by kernel_rfl)) (by cases b1<;>rfl)) (fun _ w' hw=>zbX rfl (zcT 175 hN (by kernel_rfl) (by kernel_rfl) e4) (LD4 w' hw)) hS2 ?_
  refine WH.may 10 22 b1 (RV.val q) rfl rfl (by kernel_rfl) (by kernel_rfl) (by kernel_rfl) (fun _ _ _ _ h=>h) (zbE (d:=20) (t:= !b1) rfl (by kernel_rfl) (zbd 175 hN (by kernel_rfl) (by kernel_rfl)) (by cases b1<;>rfl)) (fun _ w' hw=>zbX rfl (zcT 175 hN (by kernel_rfl) (by kernel_rfl) e5) (LD5 w' hw)) hS2 ?_
  refine WH.callmay 11 23 b1 9 #[RV.val s,RV.val q] (fun b=>Hid (b=true->(zim g/\NG<=300)/\zim v/\zf v<=800)) rfl rfl (by kernel_rfl) (zbE (d:=20) (t:= !b1) rfl (by kernel_rfl) (zbd 175 hN (by kernel_rfl) (by kernel_rfl)) (by cases b1<;>rfl)) (fun hc=>by subst hc;exact zdm rfl rfl (zdE 175 hN (by kernel_rfl) (by kernel_rfl)) (zdE 175 hN (by kernel_rfl) (by kernel_rfl)) (CF2 _ _ _)) hS2 (fun hc=>(HF2.out _ hS2.1).mono ?_) ?_
  ·rintro e wc ⟨b2,rfl,HL2,hbc⟩;exact⟨b2,rfl,hS2.step hbc,HL2⟩
  intro b2 wc hS3 HL2
  have HB12:Hid ((b1&&b2)=true->(((zim f/\NF<=300)/\zim v/\zf v<=800)/\((zim g/\NG<=300)/\zim v/\zf v<=800))):=fun h=>by
   rw[Bool.and_eq_true]at h;exact⟨HL1.out h.1,(HL2 h.1).out h.2⟩
  refine WH.quiet 12 rfl hS3 (by kernel_rfl) (by kernel_rfl) ?_
  refine WQ.may 24 b1 (.bool (!b2)) rfl (zbE (d:=20) (t:= !b1) rfl (by kernel_rfl) (zbd 175 hN (by kernel_rfl) (by kernel_rfl)) (by cases b1<;>rfl)) (fun hc w' hw=>by subst hc;exact zcC (zfg (b:=b2) _ (.tmp 23) rfl (zbd 175 hN (by kernel_rfl) (by kernel_rfl)))) ?_
  obtain⟨c2,hc2⟩:∃c,(b1&&b2)=c:=⟨_,rfl⟩;have g2:c2=true->c2=true:=id
  have HN12:Hid (c2=true->NF<=300/\NG<=300):=fun h=>by
   rw[<-hc2]at h;have h1:=HB12.out h;exact⟨h1.1.1.2,h1.2.1.2⟩
  have XE:c2=true->∀w',KBt W0 w'->Calls ya 11 #[RV.val r] w' fun e w''=>e= .returned (.int .i64 E1)/\KBt W0 w'':=fun g w' hw=>(HCF.out (HN12.out g).1 w' hw.1).mono fun e w'' h=>⟨h.1,hw.step h.2⟩
  have XH:c2=true->∀w',KBt W0 w'->Calls ya 11 #[RV.val s] w' fun e w''=>e= .returned (.int .i64 E2)/\KBt W0 w'':=fun g w' hw=>(HCG.out (HN12.out g).2 w' hw.1).mono fun e w'' h=>⟨h.1,hw.step h.2⟩
  have XN:c2=true->∀w',KBt W0 w'->Calls ya 12 #[RV.val r] w' fun e w''=>e= .returned (.int .i64 (NF:Int))/\KBt W0 w'':=fun g w' hw=>(HNF.out (HN12.out g).1 w' hw.1).mono fun e w'' h=>⟨h.1,hw.step h.2⟩
  have XM:c2=true->∀w',KBt W0 w'->Calls ya 12 #[RV.val s] w' fun e w''=>e= .returned (.int .i64 (NG:Int))/\KBt W0 w'':=fun g w' hw=>(HNG.out (HN12.out g).2 w' hw.1).mono fun e w'' h=>⟨h.1,hw.step h.2⟩
  have ADD:c2=true->∀(ρ:Operand->Value) (o:Oper) (w':World) {x y:Operand},o.op= .binOp .add 3 x y 3->ρ x= .int .i64 (NF:Int)->ρ y= .int .i64 (NG:Int)->(execOp ρ o).run ya w'= .ok (.value (.int .i64 ((NF:Int)+(NG:Int)))) w':=fun g ρ o w' x y h1 h2 h3=>zt5 h1 h2 h3 (HN12.out g).1 (HN12.out g).2
  refine WQ.one 25 (.bool (!c2)) rfl (zbM rfl) (fun w' hw=>zcC ((zds (b:= !b1) (u:= .bool true) (v:= .bool (!b2)) (.tmp 20) (.const (.bool true)) (.tmp 24) rfl (zbd 175 hN (by kernel_rfl) (by kernel_rfl)) (fun _=>rfl) (fun h=>by have hcc:b1=true:=(by cases b1;cases h;rfl);subst hcc;exact(zbd 175 hN (by kernel_rfl) (by kernel_rfl)))).trans (by rw[<-hc2];cases b1<;>cases b2<;>rfl))) ?_
  refine WQ.one 26 (.bool (!c2)) rfl (zbM rfl) (fun w' hw=>zcC (zdl (.tmp 25) rfl (zbd 175 hN (by kernel_rfl) (by kernel_rfl)))) ?_
  refine WQ.may 27 c2 (RV.val r) rfl (zbE (d:=26) (t:= !c2) rfl (by kernel_rfl) (zbd 175 hN (by kernel_rfl) (by kernel_rfl)) (by cases c2<;>rfl)) (fun hc w' hw=>by subst hc;exact zcC (zbX rfl (zcT 175 hN (by kernel_rfl) (by kernel_rfl) e3) (LD3 w' hw))) ?_
  refine WQ.may 28 c2 (.bool b3) rfl (zbE (d:=26) (t:= !c2) rfl (by kernel_rfl) (zbd 175 hN (by kernel_rfl) (by kernel_rfl)) (by cases c2<;>rfl)) (fun hc w' hw=>by subst hc;exact zn3 _ _ (zdm rfl rfl (zdE 175 hN (by kernel_rfl) (by kernel_rfl)) rfl (CL _ _ _)) (XF w' hw)) ?_
  refine WQ.may 29 c2 (.bool (!b3)) rfl (zbE (d:=26) (t:= !c2) rfl (by kernel_rfl) (zbd 175 hN (by kernel_rfl) (by kernel_rfl)) (by cases c2<;>rfl)) (fun hc w' hw=>by subst hc;exact zcC (zfg _ _ rfl (zbd 175 hN (by kernel_rfl) (by kernel_rfl)))) ?_
  obtain⟨c3,hc3⟩:∃c,(c2&&b3)=c:=⟨_,rfl⟩;have g3:c3=true->c2=true:=fun h=>g2 (by rw[<-hc3]at h;cases c2;cases h;rfl)
  refine WQ.one 30 (.bool (!c3)) rfl (zbM rfl) (fun w' hw=>zcC ((zds (b:= !c2) (u:= .bool true) (v:= .bool (!b3)) (.tmp 26) (.const (.bool true)) (.tmp 29) rfl (zbd 175 hN (by kernel_rfl) (by kernel_rfl)) (fun _=>rfl) (fun h=>by have hcc:c2=true:=(by cases c2;cases h;rfl);subst hcc;exact(zbd 175 hN (by kernel_rfl) (by kernel_rfl)))).trans (by rw[<-hc3];cases c2<;>cases b3<;>rfl))) ?_
  refine WQ.one 31 (.bool (!c3)) rfl (zbM rfl) (fun w' hw=>zcC (zdl _ rfl (zbd 175 hN (by kernel_rfl) (by kernel_rfl)))) ?_
  refine WQ.may 32 c3 (RV.val s) rfl (zbE (d:=31) (t:= !c3) rfl (by kernel_rfl) (zbd 175 hN (by kernel_rfl) (by kernel_rfl)) (by cases c3<;>rfl)) (fun hc w' hw=>by subst hc;exact zcC (zbX rfl (zcT 175 hN (by kernel_rfl) (by kernel_rfl) e4) (LD4 w' hw))) ?_
  refine WQ.may 33 c3 (.bool b4) rfl (zbE (d:=31) (t:= !c3) rfl (by kernel_rfl) (zbd 175 hN (by kernel_rfl) (by kernel_rfl)) (by cases c3<;>rfl)) (fun hc w' hw=>by subst hc;exact zn3 _ _ (zdm rfl rfl (zdE 175 hN (by kernel_rfl) (by kernel_rfl)) rfl (CL _ _ _)) (XG w' hw)) ?_
  refine WQ.may 34 c3 (.bool (!b4)) rfl (zbE (d:=31) (t:= !c3) rfl (by kernel_rfl) (zbd 175 hN (by kernel_rfl) (by kernel_rfl)) (by cases c3<;>rfl)) (fun hc w' hw=>by subst hc;exact zcC (zfg _ _ rfl (zbd 175 hN (by kernel_rfl) (by kernel_rfl)))) ?_
  obtain⟨c4,hc4⟩:∃c,(c3&&b4)=c:=⟨_,rfl⟩;have g4:c4=true->c2=true:=fun h=>g3 (by rw[<-hc4]at h;cases c3;cases h;rfl)
  refine WQ.one 35 (.bool (!c4)) rfl (zbM rfl) (fun w' hw=>zcC ((zds (b:= !c3) (u:= .bool true) (v:= .bool (!b4)) (.tmp 31) (.const (.bool true)) (.tmp 34) rfl (zbd 175 hN (by kernel_rfl) (by kernel_rfl)) (fun _=>rfl) (fun h=>by have hcc:c3=true:=(by cases c3;cases h;rfl);subst hcc;exact(zbd 175 hN (by kernel_rfl) (by kernel_rfl)))).trans (by rw[<-hc4];cases c3<;>cases b4<;>rfl))) ?_
  refine WQ.one 36 (.bool (!c4)) rfl (zbM rfl) (fun w' hw=>zcC (zdl _ rfl (zbd 175 hN (by kernel_rfl) (by kernel_rfl)))) ?_
  refine WQ.may 37 c4 (RV.val q) rfl (zbE (d:=36) (t:= !c4) rfl (by kernel_rfl) (zbd 175 hN (by kernel_rfl) (by kernel_rfl)) (by cases c4<;>rfl)) (fun hc w' hw=>by subst hc;exact zcC (zbX rfl (zcT 175 hN (by kernel_rfl) (by kernel_rfl) e5) (LD5 w' hw))) ?_
  refine WQ.may 38 c4 (.bool b5) rfl (zbE (d:=36) (t:= !c4) rfl (by kernel_rfl) (zbd 175 hN (by kernel_rfl) (by kernel_rfl)) (by cases c4<;>rfl)) (fun hc w' hw=>by subst hc;exact zn3 _ _ (zdm rfl rfl (zdE 175 hN (by kernel_rfl) (by kernel_rfl)) rfl (CL _ _ _)) (XV w' hw)) ?_
  refine WQ.may 39 c4 (.bool (!b5)) rfl (zbE (d:=36) (t:= !c4) rfl (by kernel_rfl) (zbd 175 hN (by kernel_rfl) (by kernel_rfl)) (by cases c4<;>rfl)) (fun hc w' hw=>by subst hc;exact zcC (zfg _ _ rfl (zbd 175 hN (by kernel_rfl) (by kernel_rfl)))) ?_
  obtain⟨c5,hc5⟩:∃c,(c4&&b5)=c:=⟨_,rfl⟩;have g5:c5=true->c2=true:=fun h=>g4 (by rw[<-hc5]at h;cases c4;cases h;rfl)
  refine WQ.one 40 (.bool (!c5)) rfl (zbM rfl) (fun w' hw=>zcC ((zds (b:= !c4) (u:= .bool true) (v:= .bool (!b5)) (.tmp 36) (.const (.bool true)) (.tmp 39) rfl (zbd 175 hN (by kernel_rfl) (by kernel_rfl)) (fun _=>rfl) (fun h=>by have hcc:c4=true:=(by cases c4;cases h;rfl);subst hcc;exact(zbd 175 hN (by kernel_rfl) (by kernel_rfl)))).trans (by rw[<-hc5];cases c4<;>cases b5<;>rfl))) ?_
  refine WQ.one 41 (.bool (!c5)) rfl (zbM rfl) (fun w' hw=>zcC (zdl _ rfl (zbd 175 hN (by kernel_rfl) (by kernel_rfl)))) ?_
  refine WQ.may 42 c5 (.pointer (some ⟨w.heap.size,0,none⟩)) rfl (zbE (d:=41) (t:= !c5) rfl (by kernel_rfl) (zbd 175 hN (by kernel_rfl) (by kernel_rfl)) (by cases c5<;>rfl)) (fun hc w' hw=>by subst hc;exact zcC (zrJ _ _ _ rfl (zcT 175 hN (by kernel_rfl) (by kernel_rfl) e3) (FA3 w'))) ?_
  refine WQ.may 43 c5 (.int .i64 r.k) rfl (zbE (d:=41) (t:= !c5) rfl (by kernel_rfl) (zbd 175 hN (by kernel_rfl) (by kernel_rfl)) (by cases c5<;>rfl)) (fun hc w' hw=>by subst hc;exact zcC (zbX rfl (ztk 175 hN (by kernel_rfl) (by kernel_rfl)) (LK3 w' hw))) ?_
  refine WQ.may 44 c5 (.bool KF) rfl (zbE (d:=41) (t:= !c5) rfl (by kernel_rfl) (zbd 175 hN (by kernel_rfl) (by kernel_rfl)) (by cases c5<;>rfl)) (fun hc w' hw=>by subst hc;exact zcC (zeO _ _ _ _ _ rfl (zrt 175 hN (by kernel_rfl) (by kernel_rfl)) rfl (NKKF _ w'))) ?_
  obtain⟨c6,hc6⟩:∃c,(c5&& !KF)=c:=⟨_,rfl⟩;have g6:c6=true->c2=true:=fun h=>g5 (by rw[<-hc6]at h;cases c5;cases h;rfl)
  refine WQ.one 45 (.bool (!c6)) rfl (zbM rfl) (fun w' hw=>zcC ((zds (b:= !c5) (u:= .bool true) (v:= .bool (KF)) (.tmp 41) (.const (.bool true)) (.tmp 44) rfl (zbd 175 hN (by kernel_rfl) (by kernel_rfl)) (fun _=>rfl) (fun h=>by have hcc:c5=true:=(by cases c5;cases h;rfl);subst hcc;exact(zbd 175 hN (by kernel_rfl) (by kernel_rfl)))).trans (by rw[<-hc6];cases c5<;>cases KF<;>rfl))) ?_
  refine WQ.one 46 (.bool (!c6)) rfl (zbM rfl) (fun w' hw=>zcC (zdl _ rfl (zbd 175 hN (by kernel_rfl) (by kernel_rfl)))) ?_
  refine WQ.may 47 c6 (.pointer (some ⟨w.heap.size+1,0,none⟩)) rfl (zbE (d:=46) (t:= !c6) rfl (by kernel_rfl) (zbd 175 hN (by kernel_rfl) (by kernel_rfl)) (by cases c6<;>rfl)) (fun hc w' hw=>by subst hc;exact zcC (zrJ _ _ _ rfl (zcT 175 hN (by kernel_rfl) (by kernel_rfl) e4) (FA4 w'))) ?_
  refine WQ.may 48 c6 (.int .i64 s.k) rfl (zbE (d:=46) (t:= !c6) rfl (by kernel_rfl) (zbd 175 hN (by kernel_rfl) (by kernel_rfl)) (by cases c6<;>rfl)) (fun hc w' hw=>by subst hc;exact zcC (zbX rfl (ztk 175 hN (by kernel_rfl) (by kernel_rfl)) (LK4 w' hw))) ?_
  refine WQ.may 49 c6 (.bool KG) rfl (zbE (d:=46) (t:= !c6) rfl (by kernel_rfl) (zbd 175 hN (by kernel_rfl) (by kernel_rfl)) (by cases c6<;>rfl)) (fun hc w' hw=>by subst hc;exact zcC (zeO _ _ _ _ _ rfl (zrt 175 hN (by kernel_rfl) (by kernel_rfl)) rfl (NKKG _ w'))) ?_
  obtain⟨c7,hc7⟩:∃c,(c6&& !KG)=c:=⟨_,rfl⟩;have g7:c7=true->c2=true:=fun h=>g6 (by rw[<-hc7]at h;cases c6;cases h;rfl)
  refine WQ.one 50 (.bool (!c7)) rfl (zbM rfl) (fun w' hw=>zcC ((zds (b:= !c6) (u:= .bool true) (v:= .bool (KG)) (.tmp 46) (.const (.bool true)) (.tmp 49) rfl (zbd 175 hN (by kernel_rfl) (by kernel_rfl)) (fun _=>rfl) (fun h=>by have hcc:c6=true:=(by cases c6;cases h;rfl);subst hcc;exact(zbd 175 hN (by kernel_rfl) (by kernel_rfl)))).trans (by rw[<-hc7];cases c6<;>cases KG<;>rfl))) ?_
  refine WQ.one 51 (.bool (!c7)) rfl (zbM rfl) (fun w' hw=>zcC (zdl _ rfl (zbd 175 hN (by kernel_rfl) (by kernel_rfl)))) ?_
  refine WQ.may 52 c7 (RV.val r) rfl (zbE (d:=51) (t:= !c7) rfl (by kernel_rfl) (zbd 175 hN (by kernel_rfl) (by kernel_rfl)) (by cases c7<;>rfl)) (fun hc w' hw=>by subst hc;exact zcC (zbX rfl (zcT 175 hN (by kernel_rfl) (by kernel_rfl) e3) (LD3 w' hw))) ?_
  refine WQ.may 53 c7 (.int .i64 E1) rfl (zbE (d:=51) (t:= !c7) rfl (by kernel_rfl) (zbd 175 hN (by kernel_rfl) (by kernel_rfl)) (by cases c7<;>rfl)) (fun hc w' hw=>by subst hc;exact zn3 _ _ (zrC rfl rfl (zdE 175 hN (by kernel_rfl) (by kernel_rfl)) (CK _ _)) (XE (g7 rfl) w' hw)) ?_
  refine WQ.may 54 c7 (.bool CF) rfl (zbE (d:=51) (t:= !c7) rfl (by kernel_rfl) (zbd 175 hN (by kernel_rfl) (by kernel_rfl)) (by cases c7<;>rfl)) (fun hc w' hw=>by subst hc;exact zcC (zeO _ _ _ _ _ rfl (zrt 175 hN (by kernel_rfl) (by kernel_rfl)) rfl (NCCF _ w'))) ?_
  obtain⟨c8,hc8⟩:∃c,(c7&& !CF)=c:=⟨_,rfl⟩;have g8:c8=true->c2=true:=fun h=>g7 (by rw[<-hc8]at h;cases c7;cases h;rfl)
  refine WQ.one 55 (.bool (!c8)) rfl (zbM rfl) (fun w' hw=>zcC ((zds (b:= !c7) (u:= .bool true) (v:= .bool (CF)) (.tmp 51) (.const (.bool true)) (.tmp 54) rfl (zbd 175 hN (by kernel_rfl) (by kernel_rfl)) (fun _=>rfl) (fun h=>by have hcc:c7=true:=(by cases c7;cases h;rfl);subst hcc;exact(zbd 175 hN (by kernel_rfl) (by kernel_rfl)))).trans (by rw[<-hc8];cases c7<;>cases CF<;>rfl))) ?_
  refine WQ.one 56 (.bool (!c8)) rfl (zbM rfl) (fun w' hw=>zcC (zdl _ rfl (zbd 175 hN (by kernel_rfl) (by kernel_rfl)))) ?_
  refine WQ.may 57 c8 (RV.val s) rfl (zbE (d:=56) (t:= !c8) rfl (by kernel_rfl) (zbd 175 hN (by kernel_rfl) (by kernel_rfl)) (by cases c8<;>rfl)) (fun hc w' hw=>by subst hc;exact zcC (zbX rfl (zcT 175 hN (by kernel_rfl) (by kernel_rfl) e4) (LD4 w' hw))) ?_
  refine WQ.may 58 c8 (.int .i64 E2) rfl (zbE (d:=56) (t:= !c8) rfl (by kernel_rfl) (zbd 175 hN (by kernel_rfl) (by kernel_rfl)) (by cases c8<;>rfl)) (fun hc w' hw=>by subst hc;exact zn3 _ _ (zrC rfl rfl (zdE 175 hN (by kernel_rfl) (by kernel_rfl)) (CK _ _)) (XH (g8 rfl) w' hw)) ?_
  refine WQ.may 59 c8 (.bool CG) rfl (zbE (d:=56) (t:= !c8) rfl (by kernel_rfl) (zbd 175 hN (by kernel_rfl) (by kernel_rfl)) (by cases c8<;>rfl)) (fun hc w' hw=>by subst hc;exact zcC (zeO _ _ _ _ _ rfl (zrt 175 hN (by kernel_rfl) (by kernel_rfl)) rfl (NCCG _ w'))) ?_
  obtain⟨c9,hc9⟩:∃c,(c8&& !CG)=c:=⟨_,rfl⟩;have g9:c9=true->c2=true:=fun h=>g8 (by rw[<-hc9]at h;cases c8;cases h;rfl)
  refine WQ.one 60 (.bool (!c9)) rfl (zbM rfl) (fun w' hw=>zcC ((zds (b:= !c8) (u:= .bool true) (v:= .bool (CG)) (.tmp 56) (.const (.bool true)) (.tmp 59) rfl (zbd 175 hN (by kernel_rfl) (by kernel_rfl)) (fun _=>rfl) (fun h=>by have hcc:c8=true:=(by cases c8;cases h;rfl);subst hcc;exact(zbd 175 hN (by kernel_rfl) (by kernel_rfl)))).trans (by rw[<-hc9];cases c8<;>cases CG<;>rfl))) ?_
  refine WQ.one 61 (.bool (!c9)) rfl (zbM rfl) (fun w' hw=>zcC (zdl _ rfl (zbd 175 hN (by kernel_rfl) (by kernel_rfl)))) ?_
  refine WQ.may 62 c9 (.pointer (some ⟨w.heap.size+2,0,none⟩)) rfl (zbE (d:=61) (t:= !c9) rfl (by kernel_rfl) (zbd 175 hN (by kernel_rfl) (by kernel_rfl)) (by cases c9<;>rfl)) (fun hc w' hw=>by subst hc;exact zcC (zrJ _ _ _ rfl (zcT 175 hN (by kernel_rfl) (by kernel_rfl) e5) (FA5 w'))) ?_
  refine WQ.may 63 c9 (.int .i64 q.k) rfl (zbE (d:=61) (t:= !c9) rfl (by kernel_rfl) (zbd 175 hN (by kernel_rfl) (by kernel_rfl)) (by cases c9<;>rfl)) (fun hc w' hw=>by subst hc;exact zcC (zbX rfl (ztk 175 hN (by kernel_rfl) (by kernel_rfl)) (LK5 w' hw))) ?_
  refine WQ.may 64 c9 (.bool KV) rfl (zbE (d:=61) (t:= !c9) rfl (by kernel_rfl) (zbd 175 hN (by kernel_rfl) (by kernel_rfl)) (by cases c9<;>rfl)) (fun hc w' hw=>by subst hc;exact zcC (zeO _ _ _ _ _ rfl (zrt 175 hN (by kernel_rfl) (by kernel_rfl)) rfl (NKKV _ w'))) ?_
  obtain⟨c10,hc10⟩:∃c,(c9&& !KV)=c:=⟨_,rfl⟩;have g10:c10=true->c2=true:=fun h=>g9 (by rw[<-hc10]at h;cases c9;cases h;rfl)
  refine WQ.one 65 (.bool (!c10)) rfl (zbM rfl) (fun w' hw=>zcC ((zds (b:= !c9) (u:= .bool true) (v:= .bool (KV)) (.tmp 61) (.const (.bool true)) (.tmp 64) rfl (zbd 175 hN (by kernel_rfl) (by kernel_rfl)) (fun _=>rfl) (fun h=>by have hcc:c9=true:=(by cases c9;cases h;rfl);subst hcc;exact(zbd 175 hN (by kernel_rfl) (by kernel_rfl)))).trans (by rw[<-hc10];cases c9<;>cases KV<;>rfl))) ?_
  refine WQ.one 66 (.bool (!c10)) rfl (zbM rfl) (fun w' hw=>zcC (zdl _ rfl (zbd 175 hN (by kernel_rfl) (by kernel_rfl)))) ?_
  refine WQ.may 67 c10 (RV.val r) rfl (zbE (d:=66) (t:= !c10) rfl (by kernel_rfl) (zbd 175 hN (by kernel_rfl) (by kernel_rfl)) (by cases c10<;>rfl)) (fun hc w' hw=>by subst hc;exact zcC (zbX rfl (zcT 175 hN (by kernel_rfl) (by kernel_rfl) e3) (LD3 w' hw))) ?_
  refine WQ.may 68 c10 (.int .i64 (NF:Int)) rfl (zbE (d:=66) (t:= !c10) rfl (by kernel_rfl) (zbd 175 hN (by kernel_rfl) (by kernel_rfl)) (by cases c10<;>rfl)) (fun hc w' hw=>by subst hc;exact zn3 _ _ (zrC rfl rfl (zdE 175 hN (by kernel_rfl) (by kernel_rfl)) (CC _ _)) (XN (g10 rfl) w' hw)) ?_
  refine WQ.may 69 c10 (RV.val s) rfl (zbE (d:=66) (t:= !c10) rfl (by kernel_rfl) (zbd 175 hN (by kernel_rfl) (by kernel_rfl)) (by cases c10<;>rfl)) (fun hc w' hw=>by subst hc;exact zcC (zbX rfl (zcT 175 hN (by kernel_rfl) (by kernel_rfl) e4) (LD4 w' hw))) ?_
  refine WQ.may 70 c10 (.int .i64 (NG:Int)) rfl (zbE (d:=66) (t:= !c10) rfl (by kernel_rfl) (zbd 175 hN (by kernel_rfl) (by kernel_rfl)) (by cases c10<;>rfl)) (fun hc w' hw=>by subst hc;exact zn3 _ _ (zrC rfl rfl (zdE 175 hN (by kernel_rfl) (by kernel_rfl)) (CC _ _)) (XM (g10 rfl) w' hw)) ?_
  refine WQ.may 71 c10 (.int .i64 ((NF:Int)+(NG:Int))) rfl (zbE (d:=66) (t:= !c10) rfl (by kernel_rfl) (zbd 175 hN (by kernel_rfl) (by kernel_rfl)) (by cases c10<;>rfl)) (fun hc w' hw=>by subst hc;exact zcC (ADD (g10 rfl) _ _ w' rfl (zrt 175 hN (by kernel_rfl) (by kernel_rfl)) (zrt 175 hN (by kernel_rfl) (by kernel_rfl)))) ?_
  refine WQ.may 72 c10 (.bool BC) rfl (zbE (d:=66) (t:= !c10) rfl (by kernel_rfl) (zbd 175 hN (by kernel_rfl) (by kernel_rfl)) (by cases c10<;>rfl)) (fun hc w' hw=>by subst hc;exact zcC (zeO _ _ _ _ _ rfl (zrt 175 hN (by kernel_rfl) (by kernel_rfl)) rfl (GTR _ w'))) ?_
  obtain⟨c11,hc11⟩:∃c,(c10&& !BC)=c:=⟨_,rfl⟩;have g11:c11=true->c2=true:=fun h=>g10 (by rw[<-hc11]at h;cases c10;cases h;rfl)
  refine WQ.one 73 (.bool (!c11)) rfl (zbM rfl) (fun w' hw=>zcC ((zds (b:= !c10) (u:= .bool true) (v:= .bool (BC)) (.tmp 66) (.const (.bool true)) (.tmp 72) rfl (zbd 175 hN (by kernel_rfl) (by kernel_rfl)) (fun _=>rfl) (fun h=>by have hcc:c10=true:=(by cases c10;cases h;rfl);subst hcc;exact(zbd 175 hN (by kernel_rfl) (by kernel_rfl)))).trans (by rw[<-hc11];cases c10<;>cases BC<;>rfl))) ?_
  refine WQ.done ?_;intro w' hw;subst hFR;simp only[frm,Act.put,List.setIfInBounds_toArray,List.set_cons_zero,List.set_cons_succ]
  (try go_wp2_with fail)
  go_meet
  refine⟨!c11,rfl,fun h=> ?_,hw.1⟩
  subst hc2 hc3 hc4 hc5 hc6 hc7 hc8 hc9 hc10 hc11;simp only[Bool.not_eq_false',Bool.and_eq_true,Bool.not_eq_true']at h;obtain⟨⟨⟨⟨⟨⟨⟨⟨⟨⟨hb1,hb2⟩,_⟩,_⟩,h5⟩,hkf⟩,hkg⟩,hcf⟩,hcg⟩,hkv⟩,hbc⟩:=h;have hbb:=HB12.out (by rw[hb1,hb2];rfl)
  have hy:=HYES.out hkf hkg hkv hcf hcg hbc;subst hNF hNG;exact⟨⟨hbb,of_decide_eq_true (HB5.out.trans h5)⟩,hy⟩
 case rest=>
 obtain⟨b,rfl,hx9⟩:=hcut;obtain⟨Wa,rfl⟩:∃W,W=wc:=⟨_,rfl⟩;obtain⟨hyes,hba⟩:=hx9.out;clear hx9 HF1 HF2 HLF HLG HLV HCF HCG HNF HNG;cases b with
 | true =>
   go_wp2_with (go_at_call 8;(with_reducible refine(HAW.out _ hba).mono ?_);rintro e w1 ⟨rfl,hbA⟩)
   go_ret;exact⟨rfl,HB0.out.trans ((hba.trans (hbA.mono hba.size)).mono hw0)⟩
 | false =>
   obtain⟨⟨⟨h1,h2⟩,hsz⟩,⟨hfk,hgk,hvk⟩,⟨hck,hcl0⟩,hcnt⟩:=hyes rfl;have hcf:=ztv hck hfk;have hcg:=ztv hcl0 hgk;have hcv:=h1.2.2;obtain⟨A,hA⟩:∃b,zcL v f=b:=⟨_,rfl⟩;obtain⟨B,hB⟩:∃b,zcL v g=b:=⟨_,rfl⟩
   have HHF:Hid (∀W,Below W0.heap.size W0 W->Calls ya 13 #[r.val,q.val] W fun e w'=>e= .returned (.bool A)/\Below W.heap.size W w'):=fun W hb=>by
    have h:=zln f v r q W W.heap.size (yc _) (HFT.out.1.under hb hb.size) (HFT.out.2.2.1.under hb hb.size) HFT.out.2.2.2.1.1 HFT.out.2.2.2.1.2.2 (by omega) (by omega) (by omega) (fun h=>by omega) (HFT.out.2.2.2.2.1.below hb) (HFT.out.2.2.2.2.2.below hb)
    rw[zsd hck hvk,hA]at h;exact h
   have HHG:Hid (∀W,Below W0.heap.size W0 W->Calls ya 13 #[s.val,q.val] W fun e w'=>e= .returned (.bool B)/\Below W.heap.size W w'):=fun W hb=>by
    have h:=zln g v s q W W.heap.size (yc _) (HFT.out.2.1.under hb hb.size) (HFT.out.2.2.1.under hb hb.size) HFT.out.2.2.2.1.2.1 HFT.out.2.2.2.1.2.2 (by omega) (by omega) (by omega) (fun h=>by omega) (HFT.out.2.2.2.2.1.below hb) (HFT.out.2.2.2.2.2.below hb)
    rw[zsd hcl0 hvk,hB]at h;exact h
   have HO1:Hid (∀W,Below W0.heap.size W0 W->Calls ya 14 #[.string ze3,.slice (some ⟨W.heap.size,0,none⟩) 1 1] (W.alloc (.cells #[.int .i64 r.k,.int .i64 r.n,.string r.s,.slice r.pl r.nl r.cl,.slice r.pm r.nm r.cm] 25)) fun e w'=>∃x:RV,e= .returned x.val/\TreeOf w' w'.heap.size (opT ze3 [f]) x/\Below W.heap.size W w'):=fun W hb=>by
    have hFT:=HFT.out;have hba2:Below W.heap.size W (W.alloc (.cells #[.int .i64 r.k,.int .i64 r.n,.string r.s,.slice r.pl r.nl r.cl,.slice r.pm r.nm r.cm] 25)):=(yd _ _).alloc (yc _) _;refine(zp1 ze3 [f] _ 1 1 _ _ (yc _) ⟨[r],Rd.block (xs:=([r]:List RV)) zb8 (za rfl) rfl (by simp) (show 1<=maxLen by decide),rfl,fun i t u h1 h2=> ?_⟩).mono fun e w' h=> ?_
    ·cases i with
     |zero=>simp at h1 h2;subst h1 h2;exact hFT.1.under (hb.trans (hba2.mono hb.size)) (yj hb.size hba2.size)
     |succ i=>simp at h1
    ·obtain⟨x,h1,h2,h3⟩:=h;exact⟨x,h1,h2,hba2.trans (h3.mono hba2.size)⟩
   have HH1:Hid (∀(x:RV) W,Below W0.heap.size W0 W->TreeOf W W.heap.size (opT ze3 [f]) x->Calls ya 13 #[x.val,q.val] W fun e w'=>e= .returned (.bool (!A))/\Below W.heap.size W w'):=fun x W hb hx=>by
    have hcl:zH [f]<=27:=by simp only[zH];omega
    have h:=zln (opT ze3 [f]) v x q W W.heap.size (yc _) hx (HFT.out.2.2.1.under hb hb.size) (zqj (by decide) (fun t ht=>by simp at ht;subst ht;exact HFT.out.2.2.2.1.1) (by simp)) HFT.out.2.2.2.1.2.2 (by rw[zf4];omega) (by omega) (by omega) (fun h=>by cases h) (HFT.out.2.2.2.2.1.below hb) (HFT.out.2.2.2.2.2.below hb)
    have e:zcn (opT ze3 [f]) v=(!A):=by
     rw[zgz (.inr (.inr rfl)) (fun t ht=>by simp at ht;subst ht;exact hcf) hcl hvk]
     simp only[yx,yr];rw[hA];clear hA;cases A<;>decide
    rw[e]at h;exact h
   have HO2:Hid (∀W,Below W0.heap.size W0 W->Calls ya 14 #[.string zch,.slice (some ⟨W.heap.size,0,none⟩) 2 2] (W.alloc (.cells #[.int .i64 r.k,.int .i64 r.n,.string r.s,.slice r.pl r.nl r.cl,.slice r.pm r.nm r.cm,.int .i64 s.k,.int .i64 s.n,.string s.s,.slice s.pl s.nl s.cl,.slice s.pm s.nm s.cm] 25)) fun e w'=>∃x:RV,e= .returned x.val/\TreeOf w' w'.heap.size (opT zch [f,g]) x/\Below W.heap.size W w'):=fun W hb=>by
    have hFT:=HFT.out;have hba2:Below W.heap.size W (W.alloc (.cells #[.int .i64 r.k,.int .i64 r.n,.string r.s,.slice r.pl r.nl r.cl,.slice r.pm r.nm r.cm,.int .i64 s.k,.int .i64 s.n,.string s.s,.slice s.pl s.nl s.cl,.slice s.pm s.nm s.cm] 25)):=(yd _ _).alloc (yc _) _;refine(zp1 zch [f,g] _ 2 2 _ _ (yc _) ⟨[r,s],Rd.block (xs:=([r,s]:List RV)) zb8 (za rfl) rfl (by simp) (show 2<=maxLen by decide),rfl,fun i t u h1 h2=> ?_⟩).mono fun e w' h=> ?_
    ·match i,h1,h2 with
     |0,h1,h2=>simp at h1 h2;subst h1 h2;exact hFT.1.under (hb.trans (hba2.mono hb.size)) (yj hb.size hba2.size)
     |1,h1,h2=>simp at h1 h2;subst h1 h2;exact hFT.2.1.under (hb.trans (hba2.mono hb.size)) (yj hb.size hba2.size)
     |i+2,h1,h2=>simp at h1
    ·obtain⟨x,h1,h2,h3⟩:=h;exact⟨x,h1,h2,hba2.trans (h3.mono hba2.size)⟩
   have HH2:Hid (∀(x:RV) W,Below W0.heap.size W0 W->TreeOf W W.heap.size (opT zch [f,g]) x->Calls ya 13 #[x.val,q.val] W fun e w'=>e= .returned (.bool (A&&B))/\Below W.heap.size W w'):=fun x W hb hx=>by
    have hcl:zH [f,g]<=27:=by simp only[zH];omega
    have h:=zln (opT zch [f,g]) v x q W W.heap.size (yc _) hx (HFT.out.2.2.1.under hb hb.size) (zqj (by decide) (fun t ht=>by simp at ht;rcases ht with rfl|rfl;exact HFT.out.2.2.2.1.1;exact HFT.out.2.2.2.1.2.1) (by simp)) HFT.out.2.2.2.1.2.2 (by rw[zf4];omega) (by omega) (by omega) (fun h=>by cases h) (HFT.out.2.2.2.2.1.below hb) (HFT.out.2.2.2.2.2.below hb)
    have e:zcn (opT zch [f,g]) v=(A&&B):=by
     rw[zgz (.inl rfl) (fun t ht=>by simp at ht;rcases ht with rfl|rfl;exact hcf;exact hcg) hcl hvk]
     simp only[yx,yr];rw[hA,hB];clear hA hB;cases A<;>cases B<;>decide
    rw[e]at h;exact h
   have HO3:Hid (∀W,Below W0.heap.size W0 W->Calls ya 14 #[.string zdS,.slice (some ⟨W.heap.size,0,none⟩) 2 2] (W.alloc (.cells #[.int .i64 r.k,.int .i64 r.n,.string r.s,.slice r.pl r.nl r.cl,.slice r.pm r.nm r.cm,.int .i64 s.k,.int .i64 s.n,.string s.s,.slice s.pl s.nl s.cl,.slice s.pm s.nm s.cm] 25)) fun e w'=>∃x:RV,e= .returned x.val/\TreeOf w' w'.heap.size (opT zdS [f,g]) x/\Below W.heap.size W w'):=fun W hb=>by
    have hFT:=HFT.out;have hba2:Below W.heap.size W (W.alloc (.cells #[.int .i64 r.k,.int .i64 r.n,.string r.s,.slice r.pl r.nl r.cl,.slice r.pm r.nm r.cm,.int .i64 s.k,.int .i64 s.n,.string s.s,.slice s.pl s.nl s.cl,.slice s.pm s.nm s.cm] 25)):=(yd _ _).alloc (yc _) _;refine(zp1 zdS [f,g] _ 2 2 _ _ (yc _) ⟨[r,s],Rd.block (xs:=([r,s]:List RV)) zb8 (za rfl) rfl (by simp) (show 2<=maxLen by decide),rfl,fun i t u h1 h2=> ?_⟩).mono fun e w' h=> ?_
    ·match i,h1,h2 with
     |0,h1,h2=>simp at h1 h2;subst h1 h2;exact hFT.1.under (hb.trans (hba2.mono hb.size)) (yj hb.size hba2.size)
     |1,h1,h2=>simp at h1 h2;subst h1 h2;exact hFT.2.1.under (hb.trans (hba2.mono hb.size)) (yj hb.size hba2.size)
     |i+2,h1,h2=>simp at h1
    ·obtain⟨x,h1,h2,h3⟩:=h;exact⟨x,h1,h2,hba2.trans (h3.mono hba2.size)⟩
   have HH3:Hid (∀(x:RV) W,Below W0.heap.size W0 W->TreeOf W W.heap.size (opT zdS [f,g]) x->Calls ya 13 #[x.val,q.val] W fun e w'=>e= .returned (.bool (A||B))/\Below W.heap.size W w'):=fun x W hb hx=>by
    have hcl:zH [f,g]<=27:=by simp only[zH];omega
    have h:=zln (opT zdS [f,g]) v x q W W.heap.size (yc _) hx (HFT.out.2.2.1.under hb hb.size) (zqj (by decide) (fun t ht=>by simp at ht;rcases ht with rfl|rfl;exact HFT.out.2.2.2.1.1;exact HFT.out.2.2.2.1.2.1) (by simp)) HFT.out.2.2.2.1.2.2 (by rw[zf4];omega) (by omega) (by omega) (fun h=>by cases h) (HFT.out.2.2.2.2.1.below hb) (HFT.out.2.2.2.2.2.below hb)
    have e:zcn (opT zdS [f,g]) v=(A||B):=by
     rw[zgz (.inr (.inl rfl)) (fun t ht=>by simp at ht;rcases ht with rfl|rfl;exact hcf;exact hcg) hcl hvk]
     simp only[yx,yr];rw[hA,hB];clear hA hB;cases A<;>cases B<;>decide
    rw[e]at h;exact h
   have HO4:Hid (∀W,Below W0.heap.size W0 W->Calls ya 14 #[.string ze3,.slice (some ⟨W.heap.size,0,none⟩) 2 2] (W.alloc (.cells #[.int .i64 r.k,.int .i64 r.n,.string r.s,.slice r.pl r.nl r.cl,.slice r.pm r.nm r.cm,.int .i64 s.k,.int .i64 s.n,.string s.s,.slice s.pl s.nl s.cl,.slice s.pm s.nm s.cm] 25)) fun e w'=>∃x:RV,e= .returned x.val/\TreeOf w' w'.heap.size (opT ze3 [f,g]) x/\Below W.heap.size W w'):=fun W hb=>by
    have hFT:=HFT.out;have hba2:Below W.heap.size W (W.alloc (.cells #[.int .i64 r.k,.int .i64 r.n,.string r.s,.slice r.pl r.nl r.cl,.slice r.pm r.nm r.cm,.int .i64 s.k,.int .i64 s.n,.string s.s,.slice s.pl s.nl s.cl,.slice s.pm s.nm s.cm] 25)):=(yd _ _).alloc (yc _) _;refine(zp1 ze3 [f,g] _ 2 2 _ _ (yc _) ⟨[r,s],Rd.block (xs:=([r,s]:List RV)) zb8 (za rfl) rfl (by simp) (show 2<=maxLen by decide),rfl,fun i t u h1 h2=> ?_⟩).mono fun e w' h=> ?_
    ·match i,h1,h2 with
     |0,h1,h2=>simp at h1 h2;subst h1 h2;exact hFT.1.under (hb.trans (hba2.mono hb.size)) (yj hb.size hba2.size)
     |1,h1,h2=>simp at h1 h2;subst h1 h2;exact hFT.2.1.under (hb.trans (hba2.mono hb.size)) (yj hb.size hba2.size)
     |i+2,h1,h2=>simp at h1
    ·obtain⟨x,h1,h2,h3⟩:=h;exact⟨x,h1,h2,hba2.trans (h3.mono hba2.size)⟩
   have HH4:Hid (∀(x:RV) W,Below W0.heap.size W0 W->TreeOf W W.heap.size (opT ze3 [f,g]) x->Calls ya 13 #[x.val,q.val] W fun e w'=>e= .returned (.bool (!A&& !B))/\Below W.heap.size W w'):=fun x W hb hx=>by
    have hcl:zH [f,g]<=27:=by simp only[zH];omega
    have h:=zln (opT ze3 [f,g]) v x q W W.heap.size (yc _) hx (HFT.out.2.2.1.under hb hb.size) (zqj (by decide) (fun t ht=>by simp at ht;rcases ht with rfl|rfl;exact HFT.out.2.2.2.1.1;exact HFT.out.2.2.2.1.2.1) (by simp)) HFT.out.2.2.2.1.2.2 (by rw[zf4];omega) (by omega) (by omega) (fun h=>by cases h) (HFT.out.2.2.2.2.1.below hb) (HFT.out.2.2.2.2.2.below hb)
    have e:zcn (opT ze3 [f,g]) v=(!A&& !B):=by
     rw[zgz (.inr (.inr rfl)) (fun t ht=>by simp at ht;rcases ht with rfl|rfl;exact hcf;exact hcg) hcl hvk]
     simp only[yx,yr];rw[hA,hB];clear hA hB;cases A<;>cases B<;>decide
    rw[e]at h;exact h
   have HO5:Hid (∀W,Below W0.heap.size W0 W->Calls ya 14 #[.string zch,.slice none 0 0] W fun e w'=>∃x:RV,e= .returned x.val/\TreeOf w' w'.heap.size (opT zch []) x/\Below W.heap.size W w'):=fun W hb=>zp1 zch [] none 0 0 W W.heap.size (yc _) (TlOf.nil _ _)
   have HH5:Hid (∀(x:RV) W,Below W0.heap.size W0 W->TreeOf W W.heap.size (opT zch []) x->Calls ya 13 #[x.val,q.val] W fun e w'=>e= .returned (.bool (true))/\Below W.heap.size W w'):=fun x W hb hx=>by
    have hcl:zH []<=27:=by simp only[zH];omega
    have h:=zln (opT zch []) v x q W W.heap.size (yc _) hx (HFT.out.2.2.1.under hb hb.size) (zqj (by decide) (fun t ht=>by simp at ht) (by simp)) HFT.out.2.2.2.1.2.2 (by rw[zf4];omega) (by omega) (by omega) (fun h=>by cases h) (HFT.out.2.2.2.2.1.below hb) (HFT.out.2.2.2.2.2.below hb)
    have e:zcn (opT zch []) v=(true):=by
     rw[zgz (.inl rfl) (fun t ht=>by simp at ht) hcl hvk]
     simp only[yr]
     decide
    rw[e]at h;exact h
   have HO6:Hid (∀W,Below W0.heap.size W0 W->Calls ya 14 #[.string zdS,.slice none 0 0] W fun e w'=>∃x:RV,e= .returned x.val/\TreeOf w' w'.heap.size (opT zdS []) x/\Below W.heap.size W w'):=fun W hb=>zp1 zdS [] none 0 0 W W.heap.size (yc _) (TlOf.nil _ _)
   have HH6:Hid (∀(x:RV) W,Below W0.heap.size W0 W->TreeOf W W.heap.size (opT zdS []) x->Calls ya 13 #[x.val,q.val] W fun e w'=>e= .returned (.bool (false))/\Below W.heap.size W w'):=fun x W hb hx=>by
    have hcl:zH []<=27:=by simp only[zH];omega
    have h:=zln (opT zdS []) v x q W W.heap.size (yc _) hx (HFT.out.2.2.1.under hb hb.size) (zqj (by decide) (fun t ht=>by simp at ht) (by simp)) HFT.out.2.2.2.1.2.2 (by rw[zf4];omega) (by omega) (by omega) (fun h=>by cases h) (HFT.out.2.2.2.2.1.below hb) (HFT.out.2.2.2.2.2.below hb)
    have e:zcn (opT zdS []) v=(false):=by
     rw[zgz (.inr (.inl rfl)) (fun t ht=>by simp at ht) hcl hvk]
     simp only[yr]
     decide
    rw[e]at h;exact h
   have HO7:Hid (∀W,Below W0.heap.size W0 W->Calls ya 14 #[.string ze3,.slice none 0 0] W fun e w'=>∃x:RV,e= .returned x.val/\TreeOf w' w'.heap.size (opT ze3 []) x/\Below W.heap.size W w'):=fun W hb=>zp1 ze3 [] none 0 0 W W.heap.size (yc _) (TlOf.nil _ _)
   have HH7:Hid (∀(x:RV) W,Below W0.heap.size W0 W->TreeOf W W.heap.size (opT ze3 []) x->Calls ya 13 #[x.val,q.val] W fun e w'=>e= .returned (.bool (true))/\Below W.heap.size W w'):=fun x W hb hx=>by
    have hcl:zH []<=27:=by simp only[zH];omega
    have h:=zln (opT ze3 []) v x q W W.heap.size (yc _) hx (HFT.out.2.2.1.under hb hb.size) (zqj (by decide) (fun t ht=>by simp at ht) (by simp)) HFT.out.2.2.2.1.2.2 (by rw[zf4];omega) (by omega) (by omega) (fun h=>by cases h) (HFT.out.2.2.2.2.1.below hb) (HFT.out.2.2.2.2.2.below hb)
    have e:zcn (opT ze3 []) v=(true):=by
     rw[zgz (.inr (.inr rfl)) (fun t ht=>by simp at ht) hcl hvk]
     simp only[yr]
     decide
    rw[e]at h;exact h
   have hA9:=HVA.out _ hba;clear c0 c1 c2 c3 c4 d0 d1 d2 d3 d4 e0 e1 e2 e3 e4;obtain⟨c0,c1,c2,c3,c4⟩:=hA9.1.cells5;obtain⟨d0,d1,d2,d3,d4⟩:=hA9.2.1.cells5;obtain⟨e0,e1,e2,e3,e4⟩:=hA9.2.2.cells5;clear hA9 hyes;unfold ze3 at HO1 HO4 HO7 HH1 HH4 HH7;unfold zch at HO2 HO5 HH2 HH5;unfold zdS at HO3 HO6 HH3 HH6
   go_upto_region 5 with(first
    |(go_at_call 13;(with_reducible refine(HHF.out _ hba).mono ?_);rintro e w1 ⟨rfl,hbA⟩;(have hb1:=hba.trans (hbA.mono hba.size));(have hAx:=HVA.out _ hb1);(clear c0 c1 c2 c3 c4 d0 d1 d2 d3 d4 e0 e1 e2 e3 e4);(obtain⟨c0,c1,c2,c3,c4⟩:=hAx.1.cells5);(obtain⟨d0,d1,d2,d3,d4⟩:=hAx.2.1.cells5);(obtain⟨e0,e1,e2,e3,e4⟩:=hAx.2.2.cells5);clear hAx)
    |(go_at_call 13;(with_reducible refine(HHG.out _ hb1).mono ?_);rintro e w2 ⟨rfl,hbB⟩;(have hb2:=hb1.trans (hbB.mono hb1.size));(have hAx:=HVA.out _ hb2);(clear c0 c1 c2 c3 c4 d0 d1 d2 d3 d4 e0 e1 e2 e3 e4);(obtain⟨c0,c1,c2,c3,c4⟩:=hAx.1.cells5);(obtain⟨d0,d1,d2,d3,d4⟩:=hAx.2.1.cells5);(obtain⟨e0,e1,e2,e3,e4⟩:=hAx.2.2.cells5);clear hAx))
   have hAz:=HVA.out W0 (yd _ _);clear c0 c1 c2 c3 c4 d0 d1 d2 d3 d4 e0 e1 e2 e3 e4;obtain⟨c0,c1,c2,c3,c4⟩:=hAz.1.cells5;obtain⟨d0,d1,d2,d3,d4⟩:=hAz.2.1.cells5;obtain⟨e0,e1,e2,e3,e4⟩:=hAz.2.2.cells5;have hk0:KB W0.heap.size W0 w2.drew:=KB.mk hb2.drew;clear hAz
   go_cut [9]from 81 to 145 (fun y wx=>y= .bool true/\Hid (Below W0.heap.size W0 wx))
   case first=>
    simp only[List.append];have LD3:∀w',KBt W0 w'->(Instr.loadAt 25 (.pointer (some ⟨w.heap.size,0,none⟩))).run ya w'= .ok (RV.val r) w':=fun w' hw=>zsn (HVA.out w' hw.1).1
    have LD4:∀w',KBt W0 w'->(Instr.loadAt 25 (.pointer (some ⟨w.heap.size+1,0,none⟩))).run ya w'= .ok (RV.val s) w':=fun w' hw=>zsn (HVA.out w' hw.1).2.1
    have LD5:∀w',KBt W0 w'->(Instr.loadAt 25 (.pointer (some ⟨w.heap.size+2,0,none⟩))).run ya w'= .ok (RV.val q) w':=fun w' hw=>zsn (HVA.out w' hw.1).2.2
    have EQB:∀(b:Bool) (x y:Operand) w',(do eqGuard .eql 4 x y (.bool b) (.bool b);binOp .eql 4 (.bool b) (.bool b):Sem Value).run ya w'= .ok (.bool true) w':=fun b x y w'=>by cases b<;>rfl
    have CO:∀(u v:Value) w',(callFunc 14 #[u,v]).run ya w'= .ok (.enter 14 #[u,v]) w':=fun _ _ _=>by kernel_rfl
    have CHO:∀(u v:Value) w',(callFunc 13 #[u,v]).run ya w'= .ok (.enter 13 #[u,v]) w':=fun _ _ _=>by kernel_rfl
    refine wp_region_held_drew (S:=KBt W0) (by kernel_rfl) hk0 (fun hS2=> ?_)
    clear c0 c1 c2 c3 c4 d0 d1 d2 d3 d4 e0 e1 e2 e3 e4;obtain⟨WS,hWS⟩:∃W,w2.drew=W:=⟨_,rfl⟩;rw[hWS]at hS2⊢;refine WH.frm 175 (by kernel_rfl) (fun FR hFR hN=> ?_)
    have e3:FR.eval (.tmp 3)= .pointer (some ⟨w.heap.size,0,none⟩):=by rw[<-hFR];rfl
    have e4:FR.eval (.tmp 4)= .pointer (some ⟨w.heap.size+1,0,none⟩):=by rw[<-hFR];rfl
    have e5:FR.eval (.tmp 5)= .pointer (some ⟨w.heap.size+2,0,none⟩):=by rw[<-hFR];rfl
    have e7:FR.eval (.tmp 7)= .bool A:=by rw[<-hFR];rfl
    have e8:FR.eval (.tmp 8)= .bool B:=by rw[<-hFR];rfl
    refine WH.may 0 81 true (RV.val r) rfl rfl (by kernel_rfl) (by kernel_rfl) (by kernel_rfl) (fun _ _ _ _ h=>h) (zbM rfl) (fun _ w' hw=>zbX rfl (zcT 175 hN (by kernel_rfl) (by kernel_rfl) e3) (LD3 w' hw)) hS2 ?_
    refine WH.may 3 84 true (RV.val q) rfl rfl (by kernel_rfl) (by kernel_rfl) (by kernel_rfl) (fun _ _ _ _ h=>h) (zbM rfl) (fun _ w' hw=>zbX rfl (zcT 175 hN (by kernel_rfl) (by kernel_rfl) e5) (LD5 w' hw)) hS2 ?_
    refine WH.may 5 86 true (.bool A) rfl rfl (by kernel_rfl) (by kernel_rfl) (by kernel_rfl) (fun _ _ _ _ h=>h) (zbM rfl) (fun _ w' hw=>zdl _ rfl (zcT 175 hN (by kernel_rfl) (by kernel_rfl) e7)) hS2 ?_
    refine WH.may 6 87 true (.bool (!A)) rfl rfl (by kernel_rfl) (by kernel_rfl) (by kernel_rfl) (fun _ _ _ _ h=>h) (zbM rfl) (fun _ w' hw=>zfg (b:=A) _ (.tmp 86) rfl (zbd 175 hN (by kernel_rfl) (by kernel_rfl))) hS2 ?_
    refine WH.run 1 82 (.slice (some ⟨WS.heap.size,0,none⟩) 1 1) (WS.alloc (blk1 r)) rfl rfl (by kernel_rfl) (zbM rfl) (zuj rfl (zdE 175 hN (by kernel_rfl) (by kernel_rfl))) (hS2.step ((yd _ _).alloc (yc _) _)) ?_
    refine WH.call 2 83 _ _ rfl rfl (by kernel_rfl) (zbM rfl) (zdm rfl rfl rfl (zsM 175 hN (by kernel_rfl) (by kernel_rfl)) (CO _ _ _)) ((HO1.out _ hS2.1).mono ?_)
    rintro e wx1 ⟨x0,rfl,ht0,hb20⟩;have hSwx1:KBt W0 wx1:=hS2.step hb20;refine⟨_,rfl,hSwx1,?_⟩;refine WH.call 4 85 _ _ rfl rfl (by kernel_rfl) (zbM rfl) (zdm rfl rfl (zdE 175 hN (by kernel_rfl) (by kernel_rfl)) (zdE 175 hN (by kernel_rfl) (by kernel_rfl)) (CHO _ _ _)) ((HH1.out x0 _ hSwx1.1 ht0).mono ?_)
    rintro e wx2 ⟨rfl,hb40⟩;have hSwx2:KBt W0 wx2:=hSwx1.step hb40;refine⟨_,rfl,hSwx2,?_⟩;refine WH.may 7 88 true (.bool true) rfl rfl (by kernel_rfl) (by kernel_rfl) (by kernel_rfl) (fun _ _ _ _ h=>h) (zbM rfl) (fun _ w' hw=>zeO _ _ _ _ _ rfl (zbd 175 hN (by kernel_rfl) (by kernel_rfl)) (zbd 175 hN (by kernel_rfl) (by kernel_rfl)) (EQB (!A) _ _ w')) hSwx2 ?_
    refine WH.may 8 89 true (.bool true) rfl rfl (by kernel_rfl) (by kernel_rfl) (by kernel_rfl) (fun _ _ _ _ h=>h) (zbM rfl) (fun _ w' hw=>zdl _ rfl (zbd 175 hN (by kernel_rfl) (by kernel_rfl))) hSwx2 ?_
    refine WH.may 9 90 true (RV.val r) rfl rfl (by kernel_rfl) (by kernel_rfl) (by kernel_rfl) (fun _ _ _ _ h=>h) (zbE (d:=89) (t:=true) rfl (by kernel_rfl) (zbd 175 hN (by kernel_rfl) (by kernel_rfl)) (by kernel_rfl)) (fun _ w' hw=>zbX rfl (zcT 175 hN (by kernel_rfl) (by kernel_rfl) e3) (LD3 w' hw)) hSwx2 ?_
    refine WH.may 10 91 true (RV.val s) rfl rfl (by kernel_rfl) (by kernel_rfl) (by kernel_rfl) (fun _ _ _ _ h=>h) (zbE (d:=89) (t:=true) rfl (by kernel_rfl) (zbd 175 hN (by kernel_rfl) (by kernel_rfl)) (by kernel_rfl)) (fun _ w' hw=>zbX rfl (zcT 175 hN (by kernel_rfl) (by kernel_rfl) e4) (LD4 w' hw)) hSwx2 ?_
    refine WH.may 13 94 true (RV.val q) rfl rfl (by kernel_rfl) (by kernel_rfl) (by kernel_rfl) (fun _ _ _ _ h=>h) (zbE (d:=89) (t:=true) rfl (by kernel_rfl) (zbd 175 hN (by kernel_rfl) (by kernel_rfl)) (by kernel_rfl)) (fun _ w' hw=>zbX rfl (zcT 175 hN (by kernel_rfl) (by kernel_rfl) e5) (LD5 w' hw)) hSwx2 ?_
    refine WH.may 15 96 true (.bool A) rfl rfl (by kernel_rfl) (by kernel_rfl) (by kernel_rfl) (fun _ _ _ _ h=>h) (zbE (d:=89) (t:=true) rfl (by kernel_rfl) (zbd 175 hN (by kernel_rfl) (by kernel_rfl)) (by kernel_rfl)) (fun _ w' hw=>zdl _ rfl (zcT 175 hN (by kernel_rfl) (by kernel_rfl) e7)) hSwx2 ?_
    refine WH.run 11 92 (.slice (some ⟨wx2.heap.size,0,none⟩) 2 2) (wx2.alloc (zth r s)) rfl rfl (by kernel_rfl) (zbE (d:=89) (t:=true) rfl (by kernel_rfl) (zbd 175 hN (by kernel_rfl) (by kernel_rfl)) (by kernel_rfl)) (zsG rfl (zdE 175 hN (by kernel_rfl) (by kernel_rfl)) (zdE 175 hN (by kernel_rfl) (by kernel_rfl))) (hSwx2.step ((yd _ _).alloc (yc _) _)) ?_
    refine WH.call 12 93 _ _ rfl rfl (by kernel_rfl) (zbE (d:=89) (t:=true) rfl (by kernel_rfl) (zbd 175 hN (by kernel_rfl) (by kernel_rfl)) (by kernel_rfl)) (zdm rfl rfl rfl (zsM 175 hN (by kernel_rfl) (by kernel_rfl)) (CO _ _ _)) ((HO2.out _ hSwx2.1).mono ?_)
    rintro e wx3 ⟨x1,rfl,ht1,hb21⟩;have hSwx3:KBt W0 wx3:=hSwx2.step hb21;refine⟨_,rfl,hSwx3,?_⟩;refine WH.call 14 95 _ _ rfl rfl (by kernel_rfl) (zbE (d:=89) (t:=true) rfl (by kernel_rfl) (zbd 175 hN (by kernel_rfl) (by kernel_rfl)) (by kernel_rfl)) (zdm rfl rfl (zdE 175 hN (by kernel_rfl) (by kernel_rfl)) (zdE 175 hN (by kernel_rfl) (by kernel_rfl)) (CHO _ _ _)) ((HH2.out x1 _ hSwx3.1 ht1).mono ?_)
    rintro e wx4 ⟨rfl,hb41⟩;have hSwx4:KBt W0 wx4:=hSwx3.step hb41;refine⟨_,rfl,hSwx4,?_⟩;refine WH.may 16 97 true (.bool A) rfl rfl (by kernel_rfl) (by kernel_rfl) (by kernel_rfl) (fun _ _ _ _ h=>h) (zbE (d:=89) (t:=true) rfl (by kernel_rfl) (zbd 175 hN (by kernel_rfl) (by kernel_rfl)) (by kernel_rfl)) (fun _ w' hw=>zdl _ rfl (zbd 175 hN (by kernel_rfl) (by kernel_rfl))) hSwx4 ?_
    refine WH.may 17 98 A (.bool B) rfl rfl (by kernel_rfl) (by kernel_rfl) (by kernel_rfl) (fun _ _ _ _ h=>h) (zbE (d:=97) (t:=A) rfl (by kernel_rfl) (zbd 175 hN (by kernel_rfl) (by kernel_rfl)) (by cases A<;>rfl)) (fun hc w' hw=>by cases A<;>first|(cases hc;done)|exact zdl _ rfl (zcT 175 hN (by kernel_rfl) (by kernel_rfl) e8)) hSwx4 ?_
    refine WH.may 18 99 true (.bool (A&&B)) rfl rfl (by kernel_rfl) (by kernel_rfl) (by kernel_rfl) (fun _ _ _ _ h=>h) (zbE (d:=89) (t:=true) rfl (by kernel_rfl) (zbd 175 hN (by kernel_rfl) (by kernel_rfl)) (by kernel_rfl)) (fun _ w' hw=>(zds (b:=A) (u:= .bool B) (v:= .bool false) (.tmp 97) (.tmp 98) (.const (.bool false)) rfl (zbd 175 hN (by kernel_rfl) (by kernel_rfl)) (fun h=>by cases A<;>first|(cases h;done)|exact(zbd 175 hN (by kernel_rfl) (by kernel_rfl))) (fun _=>rfl)).trans (by cases A<;>rfl)) hSwx4 ?_
    refine WH.may 19 100 true (.bool true) rfl rfl (by kernel_rfl) (by kernel_rfl) (by kernel_rfl) (fun _ _ _ _ h=>h) (zbE (d:=89) (t:=true) rfl (by kernel_rfl) (zbd 175 hN (by kernel_rfl) (by kernel_rfl)) (by kernel_rfl)) (fun _ w' hw=>zeO _ _ _ _ _ rfl (zbd 175 hN (by kernel_rfl) (by kernel_rfl)) (zbd 175 hN (by kernel_rfl) (by kernel_rfl)) (EQB (A&&B) _ _ w')) hSwx4 ?_
    refine WH.may 20 101 true (.bool true) rfl rfl (by kernel_rfl) (by kernel_rfl) (by kernel_rfl) (fun _ _ _ _ h=>h) (zbM rfl) (fun _ w' hw=>zds (b:=true) (u:= .bool true) (v:= .bool false) (.tmp 89) (.tmp 100) (.const (.bool false)) rfl (zbd 175 hN (by kernel_rfl) (by kernel_rfl)) (fun _=>(zbd 175 hN (by kernel_rfl) (by kernel_rfl))) (fun h=>by cases h)) hSwx4 ?_
    refine WH.may 21 102 true (.bool true) rfl rfl (by kernel_rfl) (by kernel_rfl) (by kernel_rfl) (fun _ _ _ _ h=>h) (zbM rfl) (fun _ w' hw=>zdl _ rfl (zbd 175 hN (by kernel_rfl) (by kernel_rfl))) hSwx4 ?_
    refine WH.may 22 103 true (RV.val r) rfl rfl (by kernel_rfl) (by kernel_rfl) (by kernel_rfl) (fun _ _ _ _ h=>h) (zbE (d:=102) (t:=true) rfl (by kernel_rfl) (zbd 175 hN (by kernel_rfl) (by kernel_rfl)) (by kernel_rfl)) (fun _ w' hw=>zbX rfl (zcT 175 hN (by kernel_rfl) (by kernel_rfl) e3) (LD3 w' hw)) hSwx4 ?_
    refine WH.may 23 104 true (RV.val s) rfl rfl (by kernel_rfl) (by kernel_rfl) (by kernel_rfl) (fun _ _ _ _ h=>h) (zbE (d:=102) (t:=true) rfl (by kernel_rfl) (zbd 175 hN (by kernel_rfl) (by kernel_rfl)) (by kernel_rfl)) (fun _ w' hw=>zbX rfl (zcT 175 hN (by kernel_rfl) (by kernel_rfl) e4) (LD4 w' hw)) hSwx4 ?_
    refine WH.may 26 107 true (RV.val q) rfl rfl (by kernel_rfl) (by kernel_rfl) (by kernel_rfl) (fun _ _ _ _ h=>h) (zbE (d:=102) (t:=true) rfl (by kernel_rfl) (zbd 175 hN (by kernel_rfl) (by kernel_rfl)) (by kernel_rfl)) (fun _ w' hw=>zbX rfl (zcT 175 hN (by kernel_rfl) (by kernel_rfl) e5) (LD5 w' hw)) hSwx4 ?_
    refine WH.may 28 109 true (.bool A) rfl rfl (by kernel_rfl) (by kernel_rfl) (by kernel_rfl) (fun _ _ _ _ h=>h) (zbE (d:=102) (t:=true) rfl (by kernel_rfl) (zbd 175 hN (by kernel_rfl) (by kernel_rfl)) (by kernel_rfl)) (fun _ w' hw=>zdl _ rfl (zcT 175 hN (by kernel_rfl) (by kernel_rfl) e7)) hSwx4 ?_
    refine WH.run 24 105 (.slice (some ⟨wx4.heap.size,0,none⟩) 2 2) (wx4.alloc (zth r s)) rfl rfl (by kernel_rfl) (zbE (d:=102) (t:=true) rfl (by kernel_rfl) (zbd 175 hN (by kernel_rfl) (by kernel_rfl)) (by kernel_rfl)) (zsG rfl (zdE 175 hN (by kernel_rfl) (by kernel_rfl)) (zdE 175 hN (by kernel_rfl) (by kernel_rfl))) (hSwx4.step ((yd _ _).alloc (yc _) _)) ?_
    refine WH.call 25 106 _ _ rfl rfl (by kernel_rfl) (zbE (d:=102) (t:=true) rfl (by kernel_rfl) (zbd 175 hN (by kernel_rfl) (by kernel_rfl)) (by kernel_rfl)) (zdm rfl rfl rfl (zsM 175 hN (by kernel_rfl) (by kernel_rfl)) (CO _ _ _)) ((HO3.out _ hSwx4.1).mono ?_)
    rintro e wx5 ⟨x2,rfl,ht2,hb22⟩;have hSwx5:KBt W0 wx5:=hSwx4.step hb22;refine⟨_,rfl,hSwx5,?_⟩;refine WH.call 27 108 _ _ rfl rfl (by kernel_rfl) (zbE (d:=102) (t:=true) rfl (by kernel_rfl) (zbd 175 hN (by kernel_rfl) (by kernel_rfl)) (by kernel_rfl)) (zdm rfl rfl (zdE 175 hN (by kernel_rfl) (by kernel_rfl)) (zdE 175 hN (by kernel_rfl) (by kernel_rfl)) (CHO _ _ _)) ((HH3.out x2 _ hSwx5.1 ht2).mono ?_)
    rintro e wx6 ⟨rfl,hb42⟩;have hSwx6:KBt W0 wx6:=hSwx5.step hb42;refine⟨_,rfl,hSwx6,?_⟩;refine WH.may 29 110 true (.bool A) rfl rfl (by kernel_rfl) (by kernel_rfl) (by kernel_rfl) (fun _ _ _ _ h=>h) (zbE (d:=102) (t:=true) rfl (by kernel_rfl) (zbd 175 hN (by kernel_rfl) (by kernel_rfl)) (by kernel_rfl)) (fun _ w' hw=>zdl _ rfl (zbd 175 hN (by kernel_rfl) (by kernel_rfl))) hSwx6 ?_
    refine WH.may 30 111 (!A) (.bool B) rfl rfl (by kernel_rfl) (by kernel_rfl) (by kernel_rfl) (fun _ _ _ _ h=>h) (zbE (d:=110) (t:=A) rfl (by kernel_rfl) (zbd 175 hN (by kernel_rfl) (by kernel_rfl)) (by cases A<;>rfl)) (fun hc w' hw=>by cases A<;>first|(cases hc;done)|exact zdl _ rfl (zcT 175 hN (by kernel_rfl) (by kernel_rfl) e8)) hSwx6 ?_
    refine WH.may 31 112 true (.bool (A||B)) rfl rfl (by kernel_rfl) (by kernel_rfl) (by kernel_rfl) (fun _ _ _ _ h=>h) (zbE (d:=102) (t:=true) rfl (by kernel_rfl) (zbd 175 hN (by kernel_rfl) (by kernel_rfl)) (by kernel_rfl)) (fun _ w' hw=>(zds (b:=A) (u:= .bool true) (v:= .bool B) (.tmp 110) (.const (.bool true)) (.tmp 111) rfl (zbd 175 hN (by kernel_rfl) (by kernel_rfl)) (fun _=>rfl) (fun h=>by cases A<;>first|(cases h;done)|exact(zbd 175 hN (by kernel_rfl) (by kernel_rfl)))).trans (by cases A<;>rfl)) hSwx6 ?_
    refine WH.may 32 113 true (.bool true) rfl rfl (by kernel_rfl) (by kernel_rfl) (by kernel_rfl) (fun _ _ _ _ h=>h) (zbE (d:=102) (t:=true) rfl (by kernel_rfl) (zbd 175 hN (by kernel_rfl) (by kernel_rfl)) (by kernel_rfl)) (fun _ w' hw=>zeO _ _ _ _ _ rfl (zbd 175 hN (by kernel_rfl) (by kernel_rfl)) (zbd 175 hN (by kernel_rfl) (by kernel_rfl)) (EQB (A||B) _ _ w')) hSwx6 ?_
    refine WH.may 33 114 true (.bool true) rfl rfl (by kernel_rfl) (by kernel_rfl) (by kernel_rfl) (fun _ _ _ _ h=>h) (zbM rfl) (fun _ w' hw=>zds (b:=true) (u:= .bool true) (v:= .bool false) (.tmp 102) (.tmp 113) (.const (.bool false)) rfl (zbd 175 hN (by kernel_rfl) (by kernel_rfl)) (fun _=>(zbd 175 hN (by kernel_rfl) (by kernel_rfl))) (fun h=>by cases h)) hSwx6 ?_
    refine WH.may 34 115 true (.bool true) rfl rfl (by kernel_rfl) (by kernel_rfl) (by kernel_rfl) (fun _ _ _ _ h=>h) (zbM rfl) (fun _ w' hw=>zdl _ rfl (zbd 175 hN (by kernel_rfl) (by kernel_rfl))) hSwx6 ?_
    refine WH.may 35 116 true (RV.val r) rfl rfl (by kernel_rfl) (by kernel_rfl) (by kernel_rfl) (fun _ _ _ _ h=>h) (zbE (d:=115) (t:=true) rfl (by kernel_rfl) (zbd 175 hN (by kernel_rfl) (by kernel_rfl)) (by kernel_rfl)) (fun _ w' hw=>zbX rfl (zcT 175 hN (by kernel_rfl) (by kernel_rfl) e3) (LD3 w' hw)) hSwx6 ?_
    refine WH.may 36 117 true (RV.val s) rfl rfl (by kernel_rfl) (by kernel_rfl) (by kernel_rfl) (fun _ _ _ _ h=>h) (zbE (d:=115) (t:=true) rfl (by kernel_rfl) (zbd 175 hN (by kernel_rfl) (by kernel_rfl)) (by kernel_rfl)) (fun _ w' hw=>zbX rfl (zcT 175 hN (by kernel_rfl) (by kernel_rfl) e4) (LD4 w' hw)) hSwx6 ?_
    refine WH.may 39 120 true (RV.val q) rfl rfl (by kernel_rfl) (by kernel_rfl) (by kernel_rfl) (fun _ _ _ _ h=>h) (zbE (d:=115) (t:=true) rfl (by kernel_rfl) (zbd 175 hN (by kernel_rfl) (by kernel_rfl)) (by kernel_rfl)) (fun _ w' hw=>zbX rfl (zcT 175 hN (by kernel_rfl) (by kernel_rfl) e5) (LD5 w' hw)) hSwx6 ?_
    refine WH.may 41 122 true (.bool A) rfl rfl (by kernel_rfl) (by kernel_rfl) (by kernel_rfl) (fun _ _ _ _ h=>h) (zbE (d:=115) (t:=true) rfl (by kernel_rfl) (zbd 175 hN (by kernel_rfl) (by kernel_rfl)) (by kernel_rfl)) (fun _ w' hw=>zdl _ rfl (zcT 175 hN (by kernel_rfl) (by kernel_rfl) e7)) hSwx6 ?_
    refine WH.may 42 123 true (.bool (!A)) rfl rfl (by kernel_rfl) (by kernel_rfl) (by kernel_rfl) (fun _ _ _ _ h=>h) (zbE (d:=115) (t:=true) rfl (by kernel_rfl) (zbd 175 hN (by kernel_rfl) (by kernel_rfl)) (by kernel_rfl)) (fun _ w' hw=>zfg (b:=A) _ (.tmp 122) rfl (zbd 175 hN (by kernel_rfl) (by kernel_rfl))) hSwx6 ?_
    refine WH.run 37 118 (.slice (some ⟨wx6.heap.size,0,none⟩) 2 2) (wx6.alloc (zth r s)) rfl rfl (by kernel_rfl) (zbE (d:=115) (t:=true) rfl (by kernel_rfl) (zbd 175 hN (by kernel_rfl) (by kernel_rfl)) (by kernel_rfl)) (zsG rfl (zdE 175 hN (by kernel_rfl) (by kernel_rfl)) (zdE 175 hN (by kernel_rfl) (by kernel_rfl))) (hSwx6.step ((yd _ _).alloc (yc _) _)) ?_
    refine WH.call 38 119 _ _ rfl rfl (by kernel_rfl) (zbE (d:=115) (t:=true) rfl (by kernel_rfl) (zbd 175 hN (by kernel_rfl) (by kernel_rfl)) (by kernel_rfl)) (zdm rfl rfl rfl (zsM 175 hN (by kernel_rfl) (by kernel_rfl)) (CO _ _ _)) ((HO4.out _ hSwx6.1).mono ?_)
    rintro e wx7 ⟨x3,rfl,ht3,hb23⟩;have hSwx7:KBt W0 wx7:=hSwx6.step hb23;refine⟨_,rfl,hSwx7,?_⟩;refine WH.call 40 121 _ _ rfl rfl (by kernel_rfl) (zbE (d:=115) (t:=true) rfl (by kernel_rfl) (zbd 175 hN (by kernel_rfl) (by kernel_rfl)) (by kernel_rfl)) (zdm rfl rfl (zdE 175 hN (by kernel_rfl) (by kernel_rfl)) (zdE 175 hN (by kernel_rfl) (by kernel_rfl)) (CHO _ _ _)) ((HH4.out x3 _ hSwx7.1 ht3).mono ?_)
    rintro e wx8 ⟨rfl,hb43⟩;have hSwx8:KBt W0 wx8:=hSwx7.step hb43;refine⟨_,rfl,hSwx8,?_⟩;refine WH.may 43 124 true (.bool (!A)) rfl rfl (by kernel_rfl) (by kernel_rfl) (by kernel_rfl) (fun _ _ _ _ h=>h) (zbE (d:=115) (t:=true) rfl (by kernel_rfl) (zbd 175 hN (by kernel_rfl) (by kernel_rfl)) (by kernel_rfl)) (fun _ w' hw=>zdl _ rfl (zbd 175 hN (by kernel_rfl) (by kernel_rfl))) hSwx8 ?_
    refine WH.may 44 125 (!A) (.bool B) rfl rfl (by kernel_rfl) (by kernel_rfl) (by kernel_rfl) (fun _ _ _ _ h=>h) (zbE (d:=124) (t:=(!A)) rfl (by kernel_rfl) (zbd 175 hN (by kernel_rfl) (by kernel_rfl)) (by cases A<;>rfl)) (fun hc w' hw=>by cases A<;>first|(cases hc;done)|exact zdl _ rfl (zcT 175 hN (by kernel_rfl) (by kernel_rfl) e8)) hSwx8 ?_
    refine WH.may 45 126 (!A) (.bool (!B)) rfl rfl (by kernel_rfl) (by kernel_rfl) (by kernel_rfl) (fun _ _ _ _ h=>h) (zbE (d:=124) (t:=(!A)) rfl (by kernel_rfl) (zbd 175 hN (by kernel_rfl) (by kernel_rfl)) (by cases A<;>rfl)) (fun hc w' hw=>by cases A<;>first|(cases hc;done)|exact zfg (b:=B) _ (.tmp 125) rfl (zbd 175 hN (by kernel_rfl) (by kernel_rfl))) hSwx8 ?_
    refine WH.may 46 127 true (.bool (!A&& !B)) rfl rfl (by kernel_rfl) (by kernel_rfl) (by kernel_rfl) (fun _ _ _ _ h=>h) (zbE (d:=115) (t:=true) rfl (by kernel_rfl) (zbd 175 hN (by kernel_rfl) (by kernel_rfl)) (by kernel_rfl)) (fun _ w' hw=>(zds (b:=(!A)) (u:= .bool (!B)) (v:= .bool false) (.tmp 124) (.tmp 126) (.const (.bool false)) rfl (zbd 175 hN (by kernel_rfl) (by kernel_rfl)) (fun h=>by cases A<;>first|(cases h;done)|exact(zbd 175 hN (by kernel_rfl) (by kernel_rfl))) (fun _=>rfl)).trans (by cases A<;>rfl)) hSwx8 ?_
    refine WH.may 47 128 true (.bool true) rfl rfl (by kernel_rfl) (by kernel_rfl) (by kernel_rfl) (fun _ _ _ _ h=>h) (zbE (d:=115) (t:=true) rfl (by kernel_rfl) (zbd 175 hN (by kernel_rfl) (by kernel_rfl)) (by kernel_rfl)) (fun _ w' hw=>zeO _ _ _ _ _ rfl (zbd 175 hN (by kernel_rfl) (by kernel_rfl)) (zbd 175 hN (by kernel_rfl) (by kernel_rfl)) (EQB (!A&& !B) _ _ w')) hSwx8 ?_
    refine WH.may 48 129 true (.bool true) rfl rfl (by kernel_rfl) (by kernel_rfl) (by kernel_rfl) (fun _ _ _ _ h=>h) (zbM rfl) (fun _ w' hw=>zds (b:=true) (u:= .bool true) (v:= .bool false) (.tmp 115) (.tmp 128) (.const (.bool false)) rfl (zbd 175 hN (by kernel_rfl) (by kernel_rfl)) (fun _=>(zbd 175 hN (by kernel_rfl) (by kernel_rfl))) (fun h=>by cases h)) hSwx8 ?_
    refine WH.may 49 130 true (.bool true) rfl rfl (by kernel_rfl) (by kernel_rfl) (by kernel_rfl) (fun _ _ _ _ h=>h) (zbM rfl) (fun _ w' hw=>zdl _ rfl (zbd 175 hN (by kernel_rfl) (by kernel_rfl))) hSwx8 ?_
    refine WH.may 51 132 true (RV.val q) rfl rfl (by kernel_rfl) (by kernel_rfl) (by kernel_rfl) (fun _ _ _ _ h=>h) (zbE (d:=130) (t:=true) rfl (by kernel_rfl) (zbd 175 hN (by kernel_rfl) (by kernel_rfl)) (by kernel_rfl)) (fun _ w' hw=>zbX rfl (zcT 175 hN (by kernel_rfl) (by kernel_rfl) e5) (LD5 w' hw)) hSwx8 ?_
    refine WH.call 50 131 _ _ rfl rfl (by kernel_rfl) (zbE (d:=130) (t:=true) rfl (by kernel_rfl) (zbd 175 hN (by kernel_rfl) (by kernel_rfl)) (by kernel_rfl)) (zdm rfl rfl rfl rfl (CO _ _ _)) ((HO5.out _ hSwx8.1).mono ?_)
    rintro e wx9 ⟨x4,rfl,ht4,hb24⟩;have hSwx9:KBt W0 wx9:=hSwx8.step hb24;refine⟨_,rfl,hSwx9,?_⟩;refine WH.call 52 133 _ _ rfl rfl (by kernel_rfl) (zbE (d:=130) (t:=true) rfl (by kernel_rfl) (zbd 175 hN (by kernel_rfl) (by kernel_rfl)) (by kernel_rfl)) (zdm rfl rfl (zdE 175 hN (by kernel_rfl) (by kernel_rfl)) (zdE 175 hN (by kernel_rfl) (by kernel_rfl)) (CHO _ _ _)) ((HH5.out x4 _ hSwx9.1 ht4).mono ?_)
    rintro e wx10 ⟨rfl,hb44⟩;have hSwx10:KBt W0 wx10:=hSwx9.step hb44;refine⟨_,rfl,hSwx10,?_⟩;refine WH.may 53 134 true (.bool true) rfl rfl (by kernel_rfl) (by kernel_rfl) (by kernel_rfl) (fun _ _ _ _ h=>h) (zbM rfl) (fun _ w' hw=>zds (b:=true) (u:= .bool true) (v:= .bool false) (.tmp 130) (.tmp 133) (.const (.bool false)) rfl (zbd 175 hN (by kernel_rfl) (by kernel_rfl)) (fun _=>(zbd 175 hN (by kernel_rfl) (by kernel_rfl))) (fun h=>by cases h)) hSwx10 ?_
    refine WH.may 54 135 true (.bool true) rfl rfl (by kernel_rfl) (by kernel_rfl) (by kernel_rfl) (fun _ _ _ _ h=>h) (zbM rfl) (fun _ w' hw=>zdl _ rfl (zbd 175 hN (by kernel_rfl) (by kernel_rfl))) hSwx10 ?_
    refine WH.may 56 137 true (RV.val q) rfl rfl (by kernel_rfl) (by kernel_rfl) (by kernel_rfl) (fun _ _ _ _ h=>h) (zbE (d:=135) (t:=true) rfl (by kernel_rfl) (zbd 175 hN (by kernel_rfl) (by kernel_rfl)) (by kernel_rfl)) (fun _ w' hw=>zbX rfl (zcT 175 hN (by kernel_rfl) (by kernel_rfl) e5) (LD5 w' hw)) hSwx10 ?_
    refine WH.call 55 136 _ _ rfl rfl (by kernel_rfl) (zbE (d:=135) (t:=true) rfl (by kernel_rfl) (zbd 175 hN (by kernel_rfl) (by kernel_rfl)) (by kernel_rfl)) (zdm rfl rfl rfl rfl (CO _ _ _)) ((HO6.out _ hSwx10.1).mono ?_)
    rintro e wx11 ⟨x5,rfl,ht5,hb25⟩;have hSwx11:KBt W0 wx11:=hSwx10.step hb25;refine⟨_,rfl,hSwx11,?_⟩;refine WH.call 57 138 _ _ rfl rfl (by kernel_rfl) (zbE (d:=135) (t:=true) rfl (by kernel_rfl) (zbd 175 hN (by kernel_rfl) (by kernel_rfl)) (by kernel_rfl)) (zdm rfl rfl (zdE 175 hN (by kernel_rfl) (by kernel_rfl)) (zdE 175 hN (by kernel_rfl) (by kernel_rfl)) (CHO _ _ _)) ((HH6.out x5 _ hSwx11.1 ht5).mono ?_)
    rintro e wx12 ⟨rfl,hb45⟩;have hSwx12:KBt W0 wx12:=hSwx11.step hb45;refine⟨_,rfl,hSwx12,?_⟩;refine WH.may 58 139 true (.bool true) rfl rfl (by kernel_rfl) (by kernel_rfl) (by kernel_rfl) (fun _ _ _ _ h=>h) (zbE (d:=135) (t:=true) rfl (by kernel_rfl) (zbd 175 hN (by kernel_rfl) (by kernel_rfl)) (by kernel_rfl)) (fun _ w' hw=>zfg (b:=false) _ (.tmp 138) rfl (zbd 175 hN (by kernel_rfl) (by kernel_rfl))) hSwx12 ?_
    refine WH.may 59 140 true (.bool true) rfl rfl (by kernel_rfl) (by kernel_rfl) (by kernel_rfl) (fun _ _ _ _ h=>h) (zbM rfl) (fun _ w' hw=>zds (b:=true) (u:= .bool true) (v:= .bool false) (.tmp 135) (.tmp 139) (.const (.bool false)) rfl (zbd 175 hN (by kernel_rfl) (by kernel_rfl)) (fun _=>(zbd 175 hN (by kernel_rfl) (by kernel_rfl))) (fun h=>by cases h)) hSwx12 ?_
    refine WH.may 60 141 true (.bool true) rfl rfl (by kernel_rfl) (by kernel_rfl) (by kernel_rfl) (fun _ _ _ _ h=>h) (zbM rfl) (fun _ w' hw=>zdl _ rfl (zbd 175 hN (by kernel_rfl) (by kernel_rfl))) hSwx12 ?_
    refine WH.may 62 143 true (RV.val q) rfl rfl (by kernel_rfl) (by kernel_rfl) (by kernel_rfl) (fun _ _ _ _ h=>h) (zbE (d:=141) (t:=true) rfl (by kernel_rfl) (zbd 175 hN (by kernel_rfl) (by kernel_rfl)) (by kernel_rfl)) (fun _ w' hw=>zbX rfl (zcT 175 hN (by kernel_rfl) (by kernel_rfl) e5) (LD5 w' hw)) hSwx12 ?_
    refine WH.call 61 142 _ _ rfl rfl (by kernel_rfl) (zbE (d:=141) (t:=true) rfl (by kernel_rfl) (zbd 175 hN (by kernel_rfl) (by kernel_rfl)) (by kernel_rfl)) (zdm rfl rfl rfl rfl (CO _ _ _)) ((HO7.out _ hSwx12.1).mono ?_)
    rintro e wx13 ⟨x6,rfl,ht6,hb26⟩;have hSwx13:KBt W0 wx13:=hSwx12.step hb26;refine⟨_,rfl,hSwx13,?_⟩;refine WH.call 63 144 _ _ rfl rfl (by kernel_rfl) (zbE (d:=141) (t:=true) rfl (by kernel_rfl) (zbd 175 hN (by kernel_rfl) (by kernel_rfl)) (by kernel_rfl)) (zdm rfl rfl (zdE 175 hN (by kernel_rfl) (by kernel_rfl)) (zdE 175 hN (by kernel_rfl) (by kernel_rfl)) (CHO _ _ _)) ((HH7.out x6 _ hSwx13.1 ht6).mono ?_)
    rintro e wx14 ⟨rfl,hb46⟩;have hSwx14:KBt W0 wx14:=hSwx13.step hb46;refine⟨_,rfl,hSwx14,?_⟩;refine WH.may 64 145 true (.bool true) rfl rfl (by kernel_rfl) (by kernel_rfl) (by kernel_rfl) (fun _ _ _ _ h=>h) (zbM rfl) (fun _ w' hw=>zds (b:=true) (u:= .bool true) (v:= .bool false) (.tmp 141) (.tmp 144) (.const (.bool false)) rfl (zbd 175 hN (by kernel_rfl) (by kernel_rfl)) (fun _=>(zbd 175 hN (by kernel_rfl) (by kernel_rfl))) (fun h=>by cases h)) hSwx14 ?_
    refine WH.may 65 9 true (.bool true) rfl rfl (by kernel_rfl) (by kernel_rfl) (by kernel_rfl) (fun _ _ _ _ h=>h) (zbM rfl) (fun _ w' hw=>ztc _ rfl (zbd 175 hN (by kernel_rfl) (by kernel_rfl))) hSwx14 ?_
    refine WH.done (by kernel_rfl) ?_
    subst hFR;simp only[frm,Act.put,List.setIfInBounds_toArray,List.set_cons_zero,List.set_cons_succ]
    (try go_wp2_with fail)
    go_meet
    exact⟨rfl,hSwx14.1⟩
   case rest=>
   obtain⟨rfl,hx5⟩:=hcut;obtain⟨W5,rfl⟩:∃W,W=wc:=⟨_,rfl⟩;have hb5:=hx5.out;have hcut7:=HVA.out _ hb5;have hA5:=hcut7.1;have hl5:=hA5.lt;clear c0 c1 c2 c3 c4 d0 d1 d2 d3 d4 e0 e1 e2 e3 e4 HO1 HO2 HO3 HO4 HO5 HO6 HO7 HH1 HH2 HH3 HH4 HH5 HH6 HH7 HHF HHG;obtain⟨c0,c1,c2,c3,c4⟩:=hA5.cells5;obtain⟨HOB,hHO⟩:∃b,(f.get zJ).isSome=b:=⟨_,rfl⟩
   have HHS:Hid (∀W,Below W0.heap.size W0 W->Calls ya 15 #[r.val,.string (⟨#[111,112,101,114,97,116,111,114]⟩)] W fun e w'=>e= .returned (.bool HOB)/\Below W.heap.size W w'):=fun W hb=>by
    have h:=ztP f r zJ W W.heap.size (yc _) (HFT.out.1.under hb hb.size) HFT.out.2.2.2.1.1;rw[hHO]at h;exact h
   have HHO:=yb hHO;clear hHO hA5 hcut7 hx5;cases HOB with
   | true =>
     go_wp2_with (go_at_call 15;(with_reducible refine(HHS.out _ hb5).mono ?_);rintro e w6 ⟨rfl,hb6⟩)
     go_ret;exact⟨rfl,HB0.out.trans ((hb5.trans (hb6.mono hb5.size)).mono hw0)⟩
   | false =>
     have hno:f.get zJ=none:=by
      have:=HHO.out;cases h:f.get zJ with
      |none=>rfl
      |some x=>rw[h]at this;cases this
     have hmm:=HFT.out.1.mems;obtain⟨rms,hrd,hms,_⟩:=hmm;have hnm:r.nm=rms.length:=zi hrd;have hml:=hms.len
     have hmx:r.nm<=1466015503658:=by
      have:=(ztA HFT.out.2.2.2.1.1).1;omega
     have HRD:=yb hrd;have HMS:=yb hms;have HNM:Hid (r.nm=rms.length/\f.m.length=rms.length):=⟨hnm,hml⟩
     have HALLC:Hid (f.m.all (fun p=>zbw v p.1 p.2.s)=A):=by
      unfold Hid;rw[<-zud hno];exact hA
     have HONE:Hid (∀p∈f.m,zcn (zgd p) v=zbw v p.1 p.2.s/\zdq (zgd p)=0):=fun p hp=>⟨ztD hcf hfk hno hp (by omega) hvk,(ztf hcf hfk hno hp (by omega)).1⟩
     clear hrd hms hnm hml
     go_wp2_with (go_at_call 15;(with_reducible refine(HHS.out _ hb5).mono ?_);rintro e w6 ⟨rfl,hb6⟩)
     have hb6':=hb5.trans (hb6.mono hb5.size)
     go_loopw [10,11] (fun x i wr=>∃k:Nat,k<=r.nm/\i= .int .i64 (k:Int)/\x= .bool ((f.m.take k).all (fun p=>zbw v p.1 p.2.s))/\Hid (Below W0.heap.size W0 wr)) (fun _ i _=>r.nm-(intOf i).toNat)
     case atStart=>exact⟨0,Nat.zero_le _,rfl,rfl,hb6'⟩
     case round=>
      obtain⟨k,hk,rfl,rfl,hbr⟩:=hrel;have hbw:=hbr.out;have hA8:=HVA.out wr hbw;have hl8:=hA8.1.lt;have hl9:=hA8.2.2.lt;clear c0 c1 c2 c3 c4;obtain⟨c0,c1,c2,c3,c4⟩:=hA8.1.cells5;obtain⟨e0,e1,e2,e3,e4⟩:=hA8.2.2.cells5;clear hA8;have hk0:(0:Int)<=(k:Int):=ye _;by_cases hlt:k<r.nm
      ·have hk1:(k:Int)<(r.nm:Int):=by omega
       obtain⟨p,hp⟩:∃p,f.m[k]? =some p:=⟨_,yh (by have:=HNM.out;omega)⟩
       obtain⟨x,hx⟩:∃x,rms[k]? =some x:=⟨_,yh (by have:=HNM.out;omega)⟩
       have hpm:=List.mem_of_getElem? hp
       have hst:(f.m.take (k+1)).all (fun p=>zbw v p.1 p.2.s)=((f.m.take k).all (fun p=>zbw v p.1 p.2.s)&&zbw v p.1 p.2.s):=by
        rw[List.take_add_one,hp,List.all_append];simp
       obtain⟨E,hEe⟩:∃b,(f.m.take k).all (fun p=>zbw v p.1 p.2.s)=b:=⟨_,rfl⟩
       rw[hEe]at hst⊢;have HST:=yb hst;cases E with
       | false =>
         clear hst hEe hp hx hpm
         go_upto_region 12 with fail
         go_quiet (fail)
         go_wp2_with fail
         go_roundw
         case rel=>exact⟨k+1,by omega,by go_num,by rw[HST.out];rfl,bdn hbw _⟩
         case measure=>simp[intOf];omega
       | true =>
         have hrw:=(HRD.out.below hbw (yc _));obtain⟨b1,o1,hq,hb1,hc1⟩:=zqi hrw hx;have f0:=hc1 0 _ rfl;have f1:=hc1 1 _ rfl;have f2:=hc1 2 _ rfl;have f3:=hc1 3 _ rfl;have f4:=hc1 4 _ rfl;have f5:=hc1 5 _ rfl;rw[Nat.add_zero]at f0;rw[hq]at c4;have hbz:=hbw.size;have hb1l:b1<wr.heap.size:=by omega
         obtain⟨CB,hCB⟩:∃b,zbw v p.1 p.2.s=b:=⟨_,rfl⟩
         have HHX:Hid (∀W g,Below wr.heap.size wr W->W.heap[g]? =some (.cells #[.string x.name,.int .i64 x.v.k,.int .i64 x.v.n,.string x.v.s,.slice x.v.pl x.v.nl x.v.cl,.slice x.v.pm x.v.nm x.v.cm] 35 (0,0))->Calls ya 13 #[.agg #[.int .i64 6,.int .i64 0,.string ⟨#[]⟩,.slice none 0 0,.slice (some ⟨g,0,none⟩) 1 1],RV.val q] W fun e w'=>e= .returned (.bool CB)/\Below W.heap.size W w'):=fun W g hW hg=>by
          have hWW:=hbw.trans (hW.mono hbz);have hgl:g<W.heap.size:=(Array.getElem?_eq_some_iff.1 hg).1;have htr:=ztX (p:=p) (x:=x) hg hgl (HMS.out.name k p x hp hx) ((HMS.out.val k p x hp hx).under hWW hWW.size);have hcnt1:=ztC hpm;have h:=zln (zgd p) v ⟨6,0,⟨#[]⟩,none,0,0,some ⟨g,0,none⟩,1,1⟩ q W W.heap.size (yc _) htr (HFT.out.2.2.1.under hWW hWW.size) (zuD HFT.out.2.2.2.1.1 hpm) HFT.out.2.2.2.1.2.2 (by omega) (by omega) (by omega) (fun h=>absurd (show(6:Int)=1 from h) (by decide)) (HFT.out.2.2.2.2.1.below hWW) (HFT.out.2.2.2.2.2.below hWW)
          rw[(HONE.out p hpm).1,hCB]at h;exact h
         rw[hCB]at HST;clear hst hEe hp hx hpm hCB hc1 hrw hb1 hq
         go_upto_region 12 with fail
         first|(go_region_held3 (fun w'=>Below wr.heap.size wr w'/\∀b o,b<wr.heap.size->w'.cell? ⟨b,o,none⟩=wr.cell? ⟨b,o,none⟩)
          (first|with_reducible exact ziA wr|with_reducible exact ziB hbk|with_reducible exact kt_da wr _|with_reducible exact zph hbk _)
          (first
           |(go_at_call 13;refine(HHX.out _ _ ?_ ?_).mono ?_;(first|exact kbY (by assumption)|exact(kbY (KB.drew wr))|exact((yd _ _).alloc (yc _) _).drew);(first|exact za rfl);rintro e w9 ⟨rfl,hb9⟩;(have hbk:=KB.step (W:=wr) (by assumption) hb9))
           |fail))|fail
         all_goals (
          rename (Below wr.heap.size wr _/\_)=>hkb
          go_wp2_with fail
          go_roundw
          case rel=>exact⟨k+1,by omega,by go_num,by rw[HST.out];rfl,hbw.trans (hkb.1.mono hbz)⟩
          case measure=>simp[intOf];omega)
      ·obtain rfl:k=r.nm:=by omega
       have hk2:¬((r.nm:Int)<(r.nm:Int)):=by omega
       rw[List.take_of_length_le (by have:=HNM.out;omega),HALLC.out]
       have e9:(A==A)=true:=by cases A<;>rfl
       go_wp2_with fail
       go_ret;exact⟨rfl,HB0.out.trans (hbw.mono hw0)⟩
end
end Go.Proofs.YtemofofnkchmeaaGreatDoor
