/- For every input, the law SieveLogic (cardboxlaw20) answers true, and what is handed in reads as it did; the conditions are those of the given card. -/
import Derived.Test.YtemofofnkchmeaaGreatDoorCards
import Derived.Test.YtemofofnkchmeaaGreatDoorTie
import Derived.Test.YtemofofnkchmeaaGreatDoorL00
import Derived.Test.YtemofofnkchmeaaGreatDoorRows
import Derived.Carry
import Derived.ProofKit
import Derived.SizedLaws
import Derived.Test.YtemofofnkchmeaaGreatDoorL04
import Derived.Test.YtemofofnkchmeaaGreatDoorS00
import Derived.Below
import Derived.Test.YtemofofnkchmeaaGreatDoorL20
import Derived.Test.YtemofofnkchmeaaGreatDoorL18
import Derived.Test.YtemofofnkchmeaaGreatDoorL14
import Derived.Test.YtemofofnkchmeaaGreatDoorL12
import Derived.Test.YtemofofnkchmeaaGreatDoorL11
import Derived.Test.YtemofofnkchmeaaGreatDoorL07
import Derived.Test.YtemofofnkchmeaaGreatDoorL09
import Derived.Test.YtemofofnkchmeaaGreatDoorL02
import Derived.Test.YtemofofnkchmeaaGreatDoorS01
import Derived.Deep.RegionHeld3
import Derived.Deep.DeepCutAuto
import Derived.Deep.CutRange
import Derived.BigQuiet
import Derived.Deep.QuietTactic
import Derived.Outline
import Derived.OpenShut
import Derived.Deep.RegionLaw
import Derived.Lib.Bytealg
import Derived.Shelf.LaysM
import Derived.Shelf.Small.Strs
import Derived.Shelf.Strconv.Clone
import Derived.Shelf.Strings.Count
import Derived.Shelf.Strings.OnBuilder
import Derived.Shelf.Strings.Repeat
import Derived.Shelf.Strings.Trim
import Derived.Shelf.Strings.SlTrimAscii
import Derived.Test.YtemofofnkchmeaaGreatDoorProg
import Derived.Test.YtemofofnkchmeaaGreatDoorL10
import Derived.Sort.LotA
import Derived.Shelf.SlSortCmp.Insertion
import Derived.Shelf.SlSortCmp.KitK
import Derived.Sort.WalkB2
import Derived.Sort.WalkB12
import Derived.Deep.LoopGhost
import Derived.WalkKit
import Derived.Lib.Hide
import Derived.Shelf.SlSortCmp.QuietGrown
import Derived.Deep.Cut
import Derived.Test.YtemofofnkchmeaaGreatDoorL01
import Derived.Deep.Draws
import Derived.Sort.OwnSorted
import Derived.Lib.Strings
import Derived.Laws.IdiomStrings
import Derived.Maps.AppendAt
import Derived.Deep.AppendLies
import Derived.RegionTactic
import Derived.OwnWalk
import Derived.WalkSpells
import Derived.Laws.AppendOwnNone
import Derived.Test.YtemofofnkchmeaaGreatDoorL05
import Derived.WalkLawsBesides
import Derived.Maps.OwnSet
import Derived.StringKeys
import Derived.StillTactics
import Derived.Deep.Slices
import Derived.Deep.Fields
import Derived.Deep.Strs
import Derived.ChangeSame
import Derived.Shelf.Slices.Turned
import Derived.Lib.IndexMore
import Derived.Test.YtemofofnkchmeaaGreatDoorS03
import Derived.RangeFuncNested
import Derived.RangeFuncBound
import Derived.RangeFuncCalls
import Derived.RangeFuncLeaves
import Derived.RangeFuncBox
import Derived.Shelf.Abstract
import Derived.OwnWalkIn
import Derived.TacticsInMore
import Derived.LoopNIn
import Derived.LoopIn
import Derived.Sort.LoopGhostIn
import Derived.Sort.CutIn
import Derived.Stop.RegionWithIn
import Derived.Maps.OwnIn
import Derived.Shelf.Strings.Search3
import Derived.Test.YtemofofnkchmeaaGreatDoorL19
import Derived.Test.YtemofofnkchmeaaGreatDoorL15
import Derived.ChangeArms
import Derived.ChangeMaps5
import Derived.LaidLaws
import Derived.LaidSub
import Derived.Lib.LaidTab
import Derived.Lib.SmallJoins
import Derived.MakeChecks
import Derived.Shelf.Vars
import Derived.Test.YtemofofnkchmeaaGreatDoorS07
import Derived.Test.YtemofofnkchmeaaGreatDoorS02
import Derived.Deep.DeepHandedRow
import Derived.Deep.DeepWitnessRowRef
import Derived.Lay
set_option linter.unusedSimpArgs false
set_option linter.unusedVariables false
set_option maxRecDepth 200000
set_option maxHeartbeats 8000000
namespace Go.Proofs.YtemofofnkchmeaaGreatDoor
open _root_.Go.Proofs.Tryz renaming prog->ya
section
open Go.Joins Go.ChangeShapes Go.WideShapes Go.ChangeAt Go.RowKit Go.Lib
theorem Tryz.own:ownKnob ya.godebug=none:=by kernel_rfl
theorem Tryz.laidOut:laidOutB ya=true:=by kernel_rfl
section
variable {H:Type} {P:Program}
theorem zeC{R:Nat}:∀(ts:List TypeId) (ds:List (DataW H)) (i:Nat) (t:TypeId) (d:DataW H),ts[i]? =some t->ds[i]? =some d->(DataW.weightsEach P ts ds).all (·<=R)=true->∀n∈d.weights P t,n<=R
 |[],_,i,t,d,h,_,_=>by simp at h
 |_::_,[],i,t,d,_,h,_=>by simp at h
 | t :: ts, e :: ds, 0, u, d, h1, h2, h => by
   simp only[List.getElem?_cons_zero,Option.some.injEq]at h1 h2;subst h1 h2;intro n hn;simp only[DataW.weightsEach,List.all_append,Bool.and_eq_true,List.all_eq_true,decide_eq_true_eq]at h;exact h.1 n hn
 | t :: ts, e :: ds, i + 1, u, d, h1, h2, h => by
   simp only[List.getElem?_cons_succ]at h1 h2;simp only[DataW.weightsEach,List.all_append,Bool.and_eq_true]at h;exact zeC ts ds i u d h1 h2 h.2
end
def zeroArgsC:Array Value:=#[.agg #[.int .i64 0,.int .i64 0,.string ⟨#[]⟩,.slice none 0 0,.slice none 0 0],.agg #[.int .i64 0,.int .i64 0,.string ⟨#[]⟩,.slice none 0 0,.slice none 0 0],.agg #[.int .i64 0,.int .i64 0,.string ⟨#[]⟩,.slice none 0 0,.slice none 0 0]]
noncomputable abbrev zmp(os:Os):World:=World.laidAll ya os Rows.sieveLogicRow.laid
theorem znN(os:Os):laidMet ya Rows.sieveLogicRow.laid ((zmp os).forCall (fun _ _=>0) ⟨#[],zeroArgsC,[]⟩).memory:=
 laidMet_laidAll zeroArgsC (by kernel_rfl) (by kernel_rfl)
theorem zr3(os:Os){H:Type}(enc:TypeId×Value->H):∃ds places,DataW.whole enc ya ((zmp os).forCall (fun _ _=>0) ⟨#[],zeroArgsC,[]⟩).memory Tryz.f3.params.toList Rows.sieveLogicSpec.vars false zeroArgsC.toList 8=some (ds,[],places):=
 ⟨[.agg [.lit (.int .i64 0),.lit (.int .i64 0),.lit (.string []),.nil,.nil],.agg [.lit (.int .i64 0),.lit (.int .i64 0),.lit (.string []),.nil,.nil],.agg [.lit (.int .i64 0),.lit (.int .i64 0),.lit (.string []),.nil,.nil]],[],by kernel_rfl⟩
theorem zni(H:Type)(enc:TypeId×Value->H)(W:World)(base:Nat)(args:Array Value)(ds gs:List (DataW H))(before:List MemPlace)
 (hval:∀(j:Nat) t v,Tryz.f3.params[j]? =some t->args[j]? =some v->Value.okWide ya W .any base t v)
 (hW:DataW.Whole enc ya Tryz.f3.params.toList Rows.sieveLogicSpec.vars false W args.toList ds gs before)
 (hsz:(DataW.weightsEach ya (Tryz.f3.params.toList++Rows.sieveLogicSpec.plain.varTypes ya) (ds++gs)).all (·<=reachBytes)=true)
 (hL:laidMetH ya Rows.sieveLogicRow.laid W) (hS:W.ShapedOpen ya):
 Calls ya 3 args W fun e W'=>∃v,e= .returned v/\Rows.sieveLogicSpec.post enc ya Tryz.f3 false true false false W args v W':=by
 have hW':=hW;have hAll:AllAt W:=zrv (by kernel_rfl) (by kernel_rfl) hL
 have hMax:MaxAt W:=zrS hS;obtain⟨p,q,hA,hVr,rfl,hfz,hnd⟩:=hW;obtain⟨rfl,rfl⟩:=trodVars_none hVr;rw[List.append_nil]at hsz;have hA':DataW.TrodAll enc ya W 0 (fun _=>true) true Tryz.f3.params.toList args.toList ds p:=hA
 rw[Tryz.params3]at hA' hval hsz;obtain⟨v0,v1,v2,d0,d1,d2,p0,p1,p2,rfl,rfl,rfl,h0,h1,h2⟩:=trodAll_three hA';obtain⟨r0,t0,rfl,ht0,ok0⟩:=zfS (hval 0 25 v0 rfl rfl) h0;have ot0:=ok0 (zeC _ _ 0 25 _ rfl rfl hsz);obtain⟨r1,t1,rfl,ht1,ok1⟩:=zfS (hval 1 25 v1 rfl rfl) h1;have ot1:=ok1 (zeC _ _ 1 25 _ rfl rfl hsz);obtain⟨r2,t2,rfl,ht2,ok2⟩:=zfS (hval 2 25 v2 rfl rfl) h2;have ot2:=ok2 (zeC _ _ 2 25 _ rfl rfl hsz);refine(zsH t0 t1 t2 r0 r1 r2 W ht0 ot0 ht1 ot1 ht2 ot2 hAll hMax).mono fun e W' ⟨he,hb⟩=> ?_
 exact⟨_,he,zpl rfl (fun ds h=>by obtain⟨a,b,c,rfl⟩:=len3 h;rfl) rfl Tryz.underlying4 Tryz.laidOut (of_decide_eq_true (by kernel_rfl)) hW' hb⟩
theorem zso(os:Os)(started:os.Started)(H:Type)(enc:TypeId×Value->H)(F:Stop.Interp):
 ReturnsInHanded {} Tryz.checked os 3 .any ((OpenSpec.ofChange Rows.sieveLogicSpec).preRow enc ya Tryz.f3 Rows.sieveLogicRow.domain false Rows.sieveLogicRow.laid) (((OpenSpec.ofChange Rows.sieveLogicSpec).at F).post enc ya Tryz.f3 false true false false):=by
 obtain⟨ds,places,hx⟩:=zr3 os enc
 refine returnsInHanded_of_row (C:=Tryz.checked) (s:=OpenSpec.ofChange Rows.sieveLogicSpec) Tryz.own started (by kernel_rfl) Tryz.func3
  (witness_row_atRef (enc:=enc) (C:=Tryz.checked) false (zmp os) zeroArgsC (World.laidAll_os _ _ _) (by kernel_rfl) (by kernel_rfl) (by kernel_rfl)
   (OpenSpec.preRow_of_cond 8 hx (by kernel_rfl) (fun k hk=>by cases hk) (by kernel_rfl) (znN os))) ?_
 intro W base args ds gs before hval hW _ _ hsz hL hS _;exact zni H enc W base args ds gs before hval hW hsz hL hS
theorem zsx:Rows.SieveLogicSaid:=
 OpenClaim.holds_of_cond 3 Tryz.f3 rfl rfl rfl rfl rfl rfl rfl ⟨rfl,rfl,rfl,rfl,rfl⟩ rfl rfl rfl rfl rfl zrT Tryz.func3 zqA
  instC wrapC
  (fun os started H enc _ F=>by rw[OpenClaim.pre_eq_preRow];exact zso os started H enc F)
theorem zr0 (f : FuncId) (fn : Func) (hf : Tryz.pinned.checked.prog.funcNamed "cardbox/cardboxlaw20.SieveLogic" = some f) (hfn : Tryz.pinned.checked.prog.funcs[f]? = some fn) :
 true=Tryz.pinned.checked.prog.looks []/\∀(j:Nat) t,fn.params[j]? =some t->Tryz.pinned.checked.prog.wantsStandIn t=false:=by
 obtain rfl : f = 3 := Option.some.inj ((show ya.funcNamed "cardbox/cardboxlaw20.SieveLogic" = some 3 by kernel_rfl).symm.trans hf) |>.symm
 obtain rfl:fn=Tryz.f3:=(Option.some.inj (Tryz.func3.symm.trans hfn)).symm;refine⟨by kernel_rfl,fun j t ht=> ?_⟩
 rw[Tryz.params3]at ht;have hm:=Array.mem_of_getElem? ht;simp only[Array.mem_def,List.mem_cons,List.not_mem_nil,or_false]at hm
 rcases hm with rfl|rfl|rfl
 ·exact(show ya.wantsStandIn 25=false by kernel_rfl)
 ·exact(show ya.wantsStandIn 25=false by kernel_rfl)
 ·exact(show ya.wantsStandIn 25=false by kernel_rfl)
theorem sieveLogic_holds:Rows.SieveLogicCardSaid:=
 Claim7.holds_tied_plain_at .later [] _ _ _ _ zsx (fun _ h=>by cases h) (by kernel_rfl) (fun _ h=>by cases h) sieveLogic_row_tie rfl ⟨rfl,rfl⟩ (by kernel_rfl) rfl zr0 (by kernel_rfl)
#print axioms sieveLogic_holds
end
end Go.Proofs.YtemofofnkchmeaaGreatDoor
