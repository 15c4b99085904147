/- For every input, the law AskKeeps (cardboxlaw23) answers true, and what is handed in reads as it did; the conditions are those of the given card. -/
import Derived.Test.YtemofofnkchmeaaGreatDoorCards
import Derived.Test.YtemofofnkchmeaaGreatDoorTie
import Derived.Test.YtemofofnkchmeaaGreatDoorL00
import Derived.Test.YtemofofnkchmeaaGreatDoorL04
import Derived.Test.YtemofofnkchmeaaGreatDoorL07
import Derived.Test.YtemofofnkchmeaaGreatDoorL20
import Derived.Test.YtemofofnkchmeaaGreatDoorL37
import Derived.Test.YtemofofnkchmeaaGreatDoorL03
import Derived.WalkKit
import Derived.ProofKit
import Derived.OpenShut
import Derived.Deep.DeepHandedRow
import Derived.Deep.DeepWitnessRowRef
import Derived.Lay
import Derived.Lib.SmallJoins
import Derived.ChangeMaps5
set_option linter.unusedSimpArgs false
set_option linter.unusedVariables false
set_option maxRecDepth 200000
set_option maxHeartbeats 8000000
namespace Go.Proofs.YtemofofnkchmeaaGreatDoor
open _root_.Go.Proofs.Tryz renaming prog->ye
section
open Go.Joins Go.ChangeShapes Go.WideShapes Go.ChangeAt Go.RowKit Go.Lib
theorem Tryz.own:ownKnob ye.godebug=none:=by kernel_rfl
theorem Tryz.laidOut:laidOutB ye=true:=by kernel_rfl
section
variable {H:Type} {P:Program}
theorem zeC{R:Nat}:∀(ts:List TypeId) (ds:List (DataW H)) (i:Nat) (t:TypeId) (d:DataW H),ts[i]? =some t->ds[i]? =some d->(DataW.weightsEach P ts ds).all (·<=R)=true->∀n∈d.weights P t,n<=R
 |[],_,i,t,d,h,_,_=>by simp at h
 |_::_,[],i,t,d,_,h,_=>by simp at h
 | t :: ts, e :: ds, 0, u, d, h1, h2, h => by
   simp only[List.getElem?_cons_zero,Option.some.injEq]at h1 h2;subst h1 h2;intro n hn;simp only[DataW.weightsEach,List.all_append,Bool.and_eq_true,List.all_eq_true,decide_eq_true_eq]at h;exact h.1 n hn
 | t :: ts, e :: ds, i + 1, u, d, h1, h2, h => by
   simp only[List.getElem?_cons_succ]at h1 h2;simp only[DataW.weightsEach,List.all_append,Bool.and_eq_true]at h;exact zeC ts ds i u d h1 h2 h.2
end
def zeroArgsC:Array Value:=#[.agg #[.slice none 0 0,.slice none 0 0,.int .i64 0,.int .i64 0,.int .i64 0],.agg #[.int .i64 0,.int .i64 0,.string ⟨#[]⟩,.slice none 0 0,.slice none 0 0],.agg #[.int .i64 0,.int .i64 0,.string ⟨#[]⟩,.slice none 0 0,.slice none 0 0]]
noncomputable abbrev zmp(os:Os):World:=World.laidAll ye os Rows.askKeepsRow.laid
theorem znN(os:Os):laidMet ye Rows.askKeepsRow.laid ((zmp os).forCall (fun _ _=>0) ⟨#[],zeroArgsC,[]⟩).memory:=
 laidMet_laidAll zeroArgsC (by kernel_rfl) (by kernel_rfl)
theorem zr3(os:Os){H:Type}(enc:TypeId×Value->H):∃ds places,DataW.whole enc ye ((zmp os).forCall (fun _ _=>0) ⟨#[],zeroArgsC,[]⟩).memory Tryz.f7.params.toList Rows.askKeepsSpec.vars false zeroArgsC.toList 8=some (ds,[],places):=
 ⟨[.agg [.nil,.nil,.lit (.int .i64 0),.lit (.int .i64 0),.lit (.int .i64 0)],.agg [.lit (.int .i64 0),.lit (.int .i64 0),.lit (.string []),.nil,.nil],.agg [.lit (.int .i64 0),.lit (.int .i64 0),.lit (.string []),.nil,.nil]],[],by kernel_rfl⟩
theorem zni(H:Type)(enc:TypeId×Value->H)(W:World)(base:Nat)(args:Array Value)(ds gs:List (DataW H))(before:List MemPlace)
 (hval:∀(j:Nat) t v,Tryz.f7.params[j]? =some t->args[j]? =some v->Value.okWide ye W .any base t v)
 (hW:DataW.Whole enc ye Tryz.f7.params.toList Rows.askKeepsSpec.vars false W args.toList ds gs before)
 (hsz:(DataW.weightsEach ye (Tryz.f7.params.toList++Rows.askKeepsSpec.plain.varTypes ye) (ds++gs)).all (·<=reachBytes)=true)
 (hL:laidMetH ye Rows.askKeepsRow.laid W) (hS:W.ShapedOpen ye):
 Calls ye 7 args W fun e W'=>∃v,e= .returned v/\Rows.askKeepsSpec.post enc ye Tryz.f7 false true false false W args v W':=by
 have hW':=hW;have hAll:AllAt W:=zrv (by kernel_rfl) (by kernel_rfl) hL
 have hMax:MaxAt W:=zrS hS;obtain⟨p,q,hA,hVr,rfl,hfz,hnd⟩:=hW;obtain⟨rfl,rfl⟩:=trodVars_none hVr;rw[List.append_nil]at hsz;have hA':DataW.TrodAll enc ye W 0 (fun _=>true) true Tryz.f7.params.toList args.toList ds p:=hA
 rw[Tryz.params7]at hA' hval hsz;obtain⟨v0,v1,v2,d0,d1,d2,p0,p1,p2,rfl,rfl,rfl,h0,h1,h2⟩:=trodAll_three hA';obtain⟨r0,t0,rfl,ht0,ok0⟩:=zpA (hval 0 40 v0 rfl rfl) h0;have ot0:=ok0 (zeC _ _ 0 40 _ rfl rfl hsz);obtain⟨r1,t1,rfl,ht1,ok1⟩:=zfS (hval 1 25 v1 rfl rfl) h1;have ot1:=ok1 (zeC _ _ 1 25 _ rfl rfl hsz);obtain⟨r2,t2,rfl,ht2,ok2⟩:=zfS (hval 2 25 v2 rfl rfl) h2;have ot2:=ok2 (zeC _ _ 2 25 _ rfl rfl hsz);refine(zjL t0 r0 t1 t2 r1 r2 W ht0 ot0 ht1 ot1 ht2 ot2 hAll hMax).mono fun e W' ⟨he,hb⟩=> ?_
 exact⟨_,he,zpl rfl (fun ds h=>by obtain⟨a,b,c,rfl⟩:=len3 h;rfl) rfl Tryz.underlying4 Tryz.laidOut (of_decide_eq_true (by kernel_rfl)) hW' hb⟩
theorem zhA(os:Os)(started:os.Started)(H:Type)(enc:TypeId×Value->H)(F:Stop.Interp):
 ReturnsInHanded {} Tryz.checked os 7 .any ((OpenSpec.ofChange Rows.askKeepsSpec).preRow enc ye Tryz.f7 Rows.askKeepsRow.domain false Rows.askKeepsRow.laid) (((OpenSpec.ofChange Rows.askKeepsSpec).at F).post enc ye Tryz.f7 false true false false):=by
 obtain⟨ds,places,hx⟩:=zr3 os enc
 refine returnsInHanded_of_row (C:=Tryz.checked) (s:=OpenSpec.ofChange Rows.askKeepsSpec) Tryz.own started (by kernel_rfl) Tryz.func7
  (witness_row_atRef (enc:=enc) (C:=Tryz.checked) false (zmp os) zeroArgsC (World.laidAll_os _ _ _) (by kernel_rfl) (by kernel_rfl) (by kernel_rfl)
   (OpenSpec.preRow_of_cond 8 hx (by kernel_rfl) (fun k hk=>by cases hk) (by kernel_rfl) (znN os))) ?_
 intro W base args ds gs before hval hW _ _ hsz hL hS _;exact zni H enc W base args ds gs before hval hW hsz hL hS
theorem zjj:Rows.AskKeepsSaid:=
 OpenClaim.holds_of_cond 7 Tryz.f7 rfl rfl rfl rfl rfl rfl rfl ⟨rfl,rfl,rfl,rfl,rfl⟩ rfl rfl rfl rfl rfl zrT Tryz.func7 zqA
  instC wrapC
  (fun os started H enc _ F=>by rw[OpenClaim.pre_eq_preRow];exact zhA os started H enc F)
theorem zr0 (f : FuncId) (fn : Func) (hf : Tryz.pinned.checked.prog.funcNamed "cardbox/cardboxlaw23.AskKeeps" = some f) (hfn : Tryz.pinned.checked.prog.funcs[f]? = some fn) :
 true=Tryz.pinned.checked.prog.looks []/\∀(j:Nat) t,fn.params[j]? =some t->Tryz.pinned.checked.prog.wantsStandIn t=false:=by
 obtain rfl : f = 7 := Option.some.inj ((show ye.funcNamed "cardbox/cardboxlaw23.AskKeeps" = some 7 by kernel_rfl).symm.trans hf) |>.symm
 obtain rfl:fn=Tryz.f7:=(Option.some.inj (Tryz.func7.symm.trans hfn)).symm;refine⟨by kernel_rfl,fun j t ht=> ?_⟩
 rw[Tryz.params7]at ht;have hm:=Array.mem_of_getElem? ht;simp only[Array.mem_def,List.mem_cons,List.not_mem_nil,or_false]at hm
 rcases hm with rfl|rfl|rfl
 ·exact(show ye.wantsStandIn 40=false by kernel_rfl)
 ·exact(show ye.wantsStandIn 25=false by kernel_rfl)
 ·exact(show ye.wantsStandIn 25=false by kernel_rfl)
theorem askKeeps_holds:Rows.AskKeepsCardSaid:=
 Claim7.holds_tied_plain_at .later [] _ _ _ _ zjj (fun _ h=>by cases h) (by kernel_rfl) (fun _ h=>by cases h) askKeeps_row_tie rfl ⟨rfl,rfl⟩ (by kernel_rfl) rfl zr0 (by kernel_rfl)
#print axioms askKeeps_holds
end
end Go.Proofs.YtemofofnkchmeaaGreatDoor
