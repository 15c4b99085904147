import Derived.Test.YtemofofnkchmeaaGreatDoorL00
import Derived.Test.YtemofofnkchmeaaGreatDoorRows
import Derived.Carry
import Derived.ProofKit
import Derived.SizedLaws
import Derived.Test.YtemofofnkchmeaaGreatDoorL04
import Derived.Test.YtemofofnkchmeaaGreatDoorL01
import Derived.WalkKit
import Derived.Deep.Draws
import Derived.Maps.AppendAt
import Derived.Deep.AppendLies
import Derived.RegionTactic
import Derived.OwnWalk
import Derived.Deep.Slices
import Derived.Deep.Fields
import Derived.Deep.Strs
import Derived.ChangeSame
import Derived.Test.YtemofofnkchmeaaGreatDoorProg
import Derived.WalkSpells
import Derived.WalkLawsBesides
import Derived.BigQuiet
import Derived.Deep.QuietTactic
import Derived.Lib.Hide
import Derived.Maps.OwnSet
import Derived.StringKeys
import Derived.OpenShut
import Derived.Test.YtemofofnkchmeaaGreatDoorL10
import Derived.Test.YtemofofnkchmeaaGreatDoorL07
import Derived.Lib.AppendStr
import Derived.Lib.BufferRead
import Derived.Laws.IdiomStrings
import Derived.Test.YtemofofnkchmeaaGreatDoorL02
import Derived.Outline
import Derived.Deep.RegionHeld3
import Derived.Deep.DeepCutAuto
import Derived.Deep.CutRange
import Derived.Deep.RegionLaw
import Derived.Lib.Bytealg
import Derived.Sort.LotA
import Derived.Shelf.SlSortCmp.Insertion
import Derived.Shelf.SlSortCmp.KitK
import Derived.Sort.WalkB2
import Derived.Sort.WalkB12
import Derived.Deep.LoopGhost
import Derived.Shelf.SlSortCmp.QuietGrown
import Derived.Deep.Cut
import Derived.Sort.OwnSorted
import Derived.Lib.Strings
import Derived.Test.YtemofofnkchmeaaGreatDoorL11
import Derived.Below
import Derived.Test.YtemofofnkchmeaaGreatDoorL05
import Derived.Laws.AppendOwnNone
import Derived.StillTactics
import Derived.Test.YtemofofnkchmeaaGreatDoorL23
import Derived.Test.YtemofofnkchmeaaGreatDoorL22
import Derived.Test.YtemofofnkchmeaaGreatDoorL21
import Derived.RangeFuncNested
import Derived.RangeFuncBound
import Derived.RangeFuncCalls
import Derived.RangeFuncLeaves
import Derived.Shelf.Abstract
import Derived.OwnWalkIn
import Derived.TacticsInMore
import Derived.LoopNIn
import Derived.LoopIn
import Derived.Test.YtemofofnkchmeaaGreatDoorL06
import Derived.Deep.DeepMust
import Derived.Maps.OwnIn
import Derived.RangeFuncBox
import Derived.Stop.RegionWithIn
import Derived.Test.YtemofofnkchmeaaGreatDoorL15
import Derived.Test.YtemofofnkchmeaaGreatDoorL12
import Derived.Test.YtemofofnkchmeaaGreatDoorL09
import Derived.Shelf.LaysM
import Derived.Shelf.Small.Strs
import Derived.Shelf.Strconv.Clone
import Derived.Shelf.Strings.Count
import Derived.Shelf.Strings.OnBuilder
import Derived.Shelf.Strings.Repeat
import Derived.Shelf.Strings.Trim
import Derived.Shelf.Strings.SlTrimAscii
import Derived.Shelf.Slices.Turned
import Derived.Lib.IndexMore
import Derived.Test.YtemofofnkchmeaaGreatDoorL34
import Derived.Test.YtemofofnkchmeaaGreatDoorL24
import Derived.Test.YtemofofnkchmeaaGreatDoorL20
import Derived.Laws.CopyRow
import Derived.Laws.CopyOwn
import Derived.Shelf.Spec.SlicesInsertGrow
import Derived.ArgAppend
import Derived.Test.YtemofofnkchmeaaGreatDoorL16
import Derived.Test.YtemofofnkchmeaaGreatDoorL13
import Derived.Test.YtemofofnkchmeaaGreatDoorL29
import Derived.Test.YtemofofnkchmeaaGreatDoorL28
import Derived.Test.YtemofofnkchmeaaGreatDoorL27
import Derived.Test.YtemofofnkchmeaaGreatDoorL26
import Derived.Deep.CutBlock
import Derived.Test.YtemofofnkchmeaaGreatDoorL33
import Derived.Test.YtemofofnkchmeaaGreatDoorL31
import Derived.Test.YtemofofnkchmeaaGreatDoorL18
import Derived.Test.YtemofofnkchmeaaGreatDoorL14
import Derived.Sort.LoopGhostIn
import Derived.Sort.CutIn
import Derived.Shelf.Strings.Search3
import Derived.Test.YtemofofnkchmeaaGreatDoorL30
import Derived.Test.YtemofofnkchmeaaGreatDoorL19
import Derived.Sort.Walk0
import Derived.Test.YtemofofnkchmeaaGreatDoorL36
import Derived.Test.YtemofofnkchmeaaGreatDoorL35
import Derived.Shelf.SlSortCmp.NoneTotal
import Derived.Shelf.SlSortCmp.WholeK
import Derived.Shelf.SlSortCmp.Whole1
import Derived.StillTailTactics
import Derived.Test.YtemofofnkchmeaaGreatDoorL25
import Derived.IntWalk
import Derived.Test.YtemofofnkchmeaaGreatDoorL32
import Derived.Test.YtemofofnkchmeaaGreatDoorL08
import Derived.Test.YtemofofnkchmeaaGreatDoorL17
import Derived.ChangeMaps5
import Derived.ChangeShapes
set_option linter.unusedSimpArgs false
set_option linter.unusedVariables false
set_option maxRecDepth 200000
set_option maxHeartbeats 8000000
namespace Go.Proofs.YtemofofnkchmeaaGreatDoor
open _root_.Bool renaming and_eq_true->ye
open _root_.List renaming any_eq_true->yj,drop_zero->yR,filter_cons_of_neg->yk,filter_cons_of_pos->yr,getElem?_eq_getElem->ya,getElem?_eq_some_iff->yc,getElem?_map->yD,getElem?_of_mem->yo,length_cons->yw,mem_cons->ym,mem_filter->yv,mem_of_getElem?->yh,mem_range->yS,pairwise_cons->yB,take_add_one->yp
open _root_.Go.Proofs.Tryz renaming prog->yb
section
open Go.ChangeShapes Go.WideShapes Go.ChangeAt Go.RowKit
section
variable {H:Type} {enc:TypeId×Value->H} {P:Program}
end
theorem len5{α:Type}{l:List α}(h:l.length=5):∃a b c d e,l=[a,b,c,d,e]:=by
 match l,h with
 |[a,b,c,d,e],_=>exact⟨a,b,c,d,e,rfl⟩
end
section
open Go Go.RowKit
section
variable {P:Program} {α:Type} {enc:α->List Value} {sz bytes:Nat} {t e:TypeId}
theorem ztw(S:SlT P t e sz bytes){w:World}{B:Nat}{a:Option Addr}{n cap:Nat}{xs:List α}(h:Rd w B enc sz (.slice a n cap) xs)(m:Nat)(hm:m<=n):
 ∃v,(∀W,(Instr.sliceAt t (.slice a n cap) none (some (.int .i64 m)) none).run P W= .ok v W)/\Rd w B enc sz v (xs.take m):=by
 obtain⟨ht,i,z,hi,hz,hs1,hs2,hzs⟩:=S
 have hcap:n<=cap:=by
  obtain⟨p,c,hv,h1,_⟩:=h;simp only[Value.slice.injEq]at hv;omega
 refine⟨_,fun W=> ?_,(by have:=(h.take m hm).sliced 0 (Nat.zero_le _);rw[yR]at this;exact this)⟩
 have he:P.elem t=e:=by simp[Program.elem,ht]
 have ht':P.underlying t=some (.slice (P.elem t)):=by rw[he];exact ht
 rw[run_sliceAt_slice _ _ _ _ _ _ ht',run_slice_h W t a n cap ht' .i64 m (by omega) (by omega),he]
 simp[sizeOf,typeInfo,hi,hs1,Result.andThen]
theorem ztx(S:SlT P t e sz bytes){w:World}{B:Nat}{a:Option Addr}{n cap:Nat}{xs:List α}(h:Rd w B enc sz (.slice a n cap) xs)(l:Nat)(hl:l<=n):
 ∃v,(∀W,(Instr.sliceAt t (.slice a n cap) (some (.int .i64 l)) none none).run P W= .ok v W)/\Rd w B enc sz v (xs.drop l):=by
 obtain⟨ht,i,z,hi,hz,hs1,hs2,hzs⟩:=S;exact zh5 ht hi hs1 h l hl
end
end
section
open Go Go.RowKit Go.ChangeShapes Go.WideShapes Go.Deep
section
variable {H:Type} {E:TypeId×Value->H} {P:Program} {w:World} {base:Nat} {spare:Nat->Bool} {held:Bool} {α:Type} {enc:α->List Value} {sz:Nat}
theorem ztB{t:TypeId}{f0 f1 f2:Field}{fuel:Nat}{cs:List Value}{x:DataW H×List MemPlace}(ht:P.underlying t=some (.struct #[f0,f1,f2]))(h:DataW.trod E P w base spare held fuel t cs=some x):
 ∃y0 y1 y2 n,fuel=n+1/\x.1= .agg [y0.1,y1.1,y2.1]/\cs.length=P.cellsOf t/\DataW.trod E P w base spare held n f0.type ((cs.drop f0.offset).take (P.cellsOf f0.type))=some y0/\DataW.trod E P w base spare held n f1.type ((cs.drop f1.offset).take (P.cellsOf f1.type))=some y1/\DataW.trod E P w base spare held n f2.type ((cs.drop f2.offset).take (P.cellsOf f2.type))=some y2:=by
 obtain⟨xs,n,hfu,rfl,hl,hlen,hf⟩:=DataW.trod_struct ht h
 match xs,hlen with
 |[y0,y1,y2],_=>exact⟨y0,y1,y2,n,hfu,by simp,hl,by simpa using hf 0 f0 rfl,by simpa using hf 1 f1 rfl,by simpa using hf 2 f2 rfl⟩
end
end
section
open Go.RowKit Go.OpenShut
theorem zrH(l:List En)(e:En)(id:ByteArray):zhR (l++[e]) id=if e.id=id then e.what else zhR l id:=by simp[zhR]
theorem zeO{l:List En}{j:Nat}{y:En}(hy:l[j]? =some y)(id:ByteArray):zhR (l.take (j+1)) id=if y.id=id then y.what else zhR (l.take j) id:=by
 rw[yp,hy];exact zrH _ _ _
end
section
theorem zsC:∀(cs:List CmpD) {a b:ByteArray×JV},zdG cs a b=0->a.1=b.1
 |[],a,b,h=>zir h
 | c :: cs, a, b, h => by
   unfold zdG at h
   split at h
   ·contradiction
   ·exact zsC cs h
end
section
open Go.RowKit Go.OpenShut
def zlv(os:List (ByteArray×JV))(id:ByteArray):Option JV:=(os.find? (fun p=>decide (p.1=id))).map (·.2)
end
section
open Go.RowKit
def zds(sq:Int)(l:List En)(i:Nat):Option Pa:=match l[i]? with
 |none=>none
 |some x=>if x.seq<=sq then none else if(l.drop (i+1)).any (ziy sq x)then none else(l.find? (ziy sq x)).map fun f=>⟨x.id,f.what !=1,x.what !=3,x.seq⟩
def zek(sq:Int)(l:List En)(k:Nat):List Pa:=(List.range k).filterMap (zds sq l)
def zgm(sq:Int)(e:En)(p:Pa):Pa:=if sq<e.seq then zbL e p else p
theorem zsM(sq:Int)(e:En)(r:List En)(i:Nat):zds sq (e::r) (i+1)=(zds sq r i).map (zgm sq e):=by
 unfold zds;rw[List.getElem?_cons_succ];cases h0:r[i]? with
 |none=>rfl
 | some x =>
   dsimp only;by_cases h1:x.seq<=sq
   ·rw[if_pos h1,if_pos h1];rfl
   ·rw[if_neg h1,if_neg h1,List.drop_succ_cons]
    split
    ·rfl
    ·rw[List.find?_cons,Option.map_map];cases h2:ziy sq x e with
     | true =>
       unfold ziy at h2;simp only[ye,decide_eq_true_eq]at h2;cases h3:r.find? (ziy sq x)with
       | none =>
         have:=List.find?_eq_none.1 h3 x (yh h0);unfold ziy at this;simp at this;omega
       | some f =>
         simp only[Option.map_some,Function.comp_apply,zgm,if_pos h2.2,zbL,if_pos h2.1.symm]
     | false =>
       unfold ziy at h2;simp only[Bool.and_eq_false_iff,decide_eq_false_iff_not]at h2
       congr 1
       funext f
       simp only[Function.comp_apply,zgm,zbL]
       rcases h2 with h2|h2
       ·have h4:¬x.id=e.id:=fun e'=>h2 e'.symm
        by_cases h5:sq<e.seq
        ·rw[if_pos h5,if_neg h4]
        ·rw[if_neg h5]
       ·rw[if_neg h2]
theorem zoM(sq:Int):∀l:List En,zek sq l l.length=zU sq l
 |[]=>rfl
 | e :: r => by
   have ih:=zoM sq r;unfold zek at ih⊢;rw[yw,List.range_succ_eq_map,List.filterMap_cons,List.filterMap_map]
   have e1:(List.range r.length).filterMap (zds sq (e::r)∘Nat.succ)=(zU sq r).map (zgm sq e):=by
    rw[<-ih,List.map_filterMap]
    congr 1
    funext i
    exact zsM sq e r i
   rw[e1]
   have e0:zds sq (e::r) 0=if e.seq<=sq then none else if r.any (ziy sq e)then none else some (ziG e):=by
    unfold zds;rw[List.getElem?_cons_zero];dsimp only;by_cases h1:e.seq<=sq
    ·rw[if_pos h1,if_pos h1]
    ·rw[if_neg h1,if_neg h1];rw[List.drop_succ_cons,yR];have h2:ziy sq e e=true:=by unfold ziy;simp;omega
     rw[List.find?_cons,h2]
     rfl
   rw[e0,zeh];by_cases h1:e.seq<=sq
   ·rw[if_pos h1,if_pos h1];dsimp only;have:(zgm sq e)=id:=by funext p;unfold zgm;rw[if_neg (by omega)];rfl
    rw[this,List.map_id]
   ·have hput:(zgm sq e)=zbL e:=by funext p;unfold zgm;rw[if_pos (by omega)]
    rw[if_neg h1,if_neg h1,hput]
    have hany:r.any (ziy sq e)=(zU sq r).any (fun p=>decide (p.id=e.id)):=by
     rw[Bool.eq_iff_iff];have:=zi8 sq e.id r;simp only[yj,ziy,ye,decide_eq_true_eq];exact this.symm
    rw[hany];by_cases hk:(zU sq r).any (fun p=>decide (p.id=e.id))=true
    ·rw[if_pos hk,if_pos hk]
    ·rw[if_neg hk,if_neg hk];have:(zU sq r).map (zbL e)=zU sq r:=zrm _ _ (fun p hp h=>hk (by simp only[yj,decide_eq_true_eq];exact⟨p,hp,h⟩))
     rw[this]
end
section
open Go Go.RowKit Go.OpenShut
def opT(nm:ByteArray)(ts:List JV):JV:= .mk 6 0 ⟨#[]⟩ [] [(zJ,.mk 4 0 nm [] []),(zbb,.mk 5 0 ⟨#[]⟩ ts [])]
theorem ztv{w:World}{B g:Nat}{nm:ByteArray}{ts:List JV}{p:Option Addr}{n c:Nat}(h:w.heap[g]? =some (.cells #[.string zJ,.int .i64 4,.int .i64 0,.string nm,.slice none 0 0,.slice none 0 0,.string zbb,.int .i64 5,.int .i64 0,.string ⟨#[]⟩,.slice p n c,.slice none 0 0] 35 (0,0)))(hg:g<B)
 (ht:TlOf w B (.slice p n c) ts):TreeOf w B (opT nm ts) ⟨6,0,⟨#[]⟩,none,0,0,some ⟨g,0,none⟩,2,2⟩:=
 TreeOf.mk (r:=⟨6,0,⟨#[]⟩,none,0,0,some ⟨g,0,none⟩,2,2⟩) (rs:=[]) (rms:=[⟨zJ,⟨4,0,nm,none,0,0,none,0,0⟩⟩,⟨zbb,⟨5,0,⟨#[]⟩,p,n,c,none,0,0⟩⟩]) (Rd.nil _ _) rfl (fun i t q h=>by simp at h)
  (Rd.block (xs:=([⟨zJ,⟨4,0,nm,none,0,0,none,0,0⟩⟩,⟨zbb,⟨5,0,⟨#[]⟩,p,n,c,none,0,0⟩⟩]:List RM)) codecM h rfl hg (show 2<=maxLen by decide)) rfl
  (fun i p u h1 h2=>by
   match i,h1,h2 with
   |0,h1,h2=>simp at h1 h2;subst h1 h2;rfl
   |1,h1,h2=>simp at h1 h2;subst h1 h2;rfl
   |i+2,h1,h2=>simp at h1)
  (fun i p u h1 h2=>by
   match i,h1,h2 with
   |0,h1,h2=>simp at h1 h2;subst h1 h2;exact zeX w B 4 nm
   |1,h1,h2=>simp at h1 h2;subst h1 h2;exact znO ht
   |i+2,h1,h2=>simp at h1)
end
section
open Go Go.RowKit
theorem zsn{f v:JV}(h:zdq f=0)(hv:v.k=6):zcn f v=zcL v f:=by
 unfold zcn;rw[decide_eq_true hv,decide_eq_true h]
 rfl
theorem ztt(nm:ByteArray)(ts:List JV):(opT nm ts).get zJ=some (.mk 4 0 nm [] []):=by
 rw[zj3 (t:=opT nm ts) rfl]
 show mOf [(zJ,.mk 4 0 nm [] []),(zbb,.mk 5 0 ⟨#[]⟩ ts [])] zJ=_
 rw[ziZ,if_pos rfl]
theorem ztu(nm:ByteArray)(ts:List JV):(opT nm ts).get zbb=some (.mk 5 0 ⟨#[]⟩ ts []):=by
 rw[zj3 (t:=opT nm ts) rfl]
 show mOf [(zJ,.mk 4 0 nm [] []),(zbb,.mk 5 0 ⟨#[]⟩ ts [])] zbb=_
 rw[ziZ,if_neg (show¬zJ=zbb by decide),ziZ,if_pos rfl]
theorem zti(nm:ByteArray)(ts:List JV):zbx (opT nm ts)=ts:=by unfold zbx;rw[ztu];rfl
theorem zsq(nm:ByteArray)(ts:List JV):zf (opT nm ts)=3+zH ts:=by
 unfold opT;simp only[zf,zH,z8];omega
theorem zs6{nm:ByteArray}(hn:nm.size<=100){ts:List JV}(ht:∀t∈ts,t.Ok)(hl:ts.length<=10):(opT nm ts).Ok:=by
 have h1:(JV.mk 4 0 nm [] []).Ok:=JV.Ok.mk (by decide) (by decide) (by omega) (by decide) (by decide) (fun i x h=>by simp at h) (fun i p h=>by simp at h) (fun i p h=>by simp at h)
 have h2:(JV.mk 5 0 ⟨#[]⟩ ts []).Ok:=JV.Ok.mk (by decide) (by decide) (by decide) (by omega) (by decide) (fun i x h=>ht x (yh h)) (fun i p h=>by simp at h) (fun i p h=>by simp at h)
 refine JV.Ok.mk (by decide) (by decide) (by decide) (by decide) (show 2<=_ by decide) (fun i x h=>by simp at h) (fun i p h=> ?_) (fun i p h=> ?_)
 ·match i,h with
  |0,h=>simp at h;subst h;show zJ.size<=_;decide
  |1,h=>simp at h;subst h;show zbb.size<=_;decide
  |i+2,h=>simp at h
 ·match i,h with
  |0,h=>simp at h;subst h;exact h1
  |1,h=>simp at h;subst h;exact h2
  |i+2,h=>simp at h
def zbE(l:List ByteArray)(s:ByteArray):Bool:=l.any (fun x=>decide (x=s))
theorem hasL_iff{l:List ByteArray}{s:ByteArray}:zbE l s=true↔s∈l:=by
 unfold zbE;rw[yj]
 constructor
 ·rintro⟨x,h1,h2⟩;obtain rfl:=of_decide_eq_true h2;exact h1
 ·intro h;exact⟨s,h,by simp⟩
theorem mem_qryL{f so:JV}{os:List (ByteArray×JV)}{id:ByteArray}:id∈zcv f so os↔∃p∈os,zcn f p.2=true/\p.1=id:=by
 rw[(zi6 f so os).mem_iff,List.mem_map];unfold zd8
 constructor
 ·rintro⟨p,h,rfl⟩;rw[yv]at h;exact⟨p,h.1,h.2,rfl⟩
 ·rintro⟨p,h1,h2,rfl⟩;exact⟨p,yv.2 ⟨h1,h2⟩,rfl⟩
theorem zsD{f so:JV}{os:List (ByteArray×JV)}(hn:(os.map (·.1)).Nodup){i:Nat}{p:ByteArray×JV}(h:os[i]? =some p):zbE (zcv f so os) p.1=zcn f p.2:=by
 rw[Bool.eq_iff_iff,hasL_iff,mem_qryL]
 constructor
 ·rintro⟨q,h1,h2,h3⟩;obtain⟨j,hj⟩:=yo h1;have e1:(os.map (·.1))[j]? =some p.1:=by rw[yD,hj,<-h3];rfl
  have e2:(os.map (·.1))[i]? =some p.1:=by rw[yD,h];rfl
  obtain rfl:=zpx hn e1 e2;rw[hj]at h;cases h;exact h2
 ·intro h2;exact⟨p,yh h,h2,rfl⟩
theorem zsp{f v:JV}(hv:v.k≠6):zcn f v=false:=by
 unfold zcn;rw[decide_eq_false hv]
 rfl
theorem zsd{f v:JV}(hc:zdq f=0)(hnc:zdq (opT ze3 [f])=0)(hv:v.k=6):zcn (opT ze3 [f]) v= !zcn f v:=by
 rw[zsn hnc hv,zsn hc hv,zqT,ztt];dsimp only[JV.s];rw[zti]
 show zhH ze3 [zcL v f]=_
 unfold zhH;rw[if_neg (by decide),if_neg (by decide)]
 cases zcL v f<;>rfl
theorem zsX{f so:JV}{os:List (ByteArray×JV)}(hc:zdq f=0)(hnc:zdq (opT ze3 [f])=0)(hn:(os.map (·.1)).Nodup){i:Nat}{p:ByteArray×JV}(h:os[i]? =some p)(hv:p.2.k=6):
 (zbE (zcv f so os) p.1==zbE (zcv (opT ze3 [f]) so os) p.1)=false:=by
 rw[zsD hn h,zsD hn h,zsd hc hnc hv];cases zcn f p.2<;>rfl
def zdE(os:List (ByteArray×JV)):Nat:=(os.filter (fun p=> !decide (p.2.k=6))).length
theorem zts(os:List (ByteArray×JV)):zdE os<=os.length:=List.length_filter_le _ _
theorem zs4{os:List (ByteArray×JV)}{i:Nat}{p:ByteArray×JV}(h:os[i]? =some p):zdE (os.take (i+1))=zdE (os.take i)+(if p.2.k=6 then 0 else 1):=by
 unfold zdE;rw[yp,h,List.filter_append,List.length_append]
 congr 1
 show(List.filter (fun p=> !decide (p.2.k=6)) [p]).length=_
 by_cases hk:p.2.k=6
 ·rw[yk (by simp[hk]),if_pos hk]
  rfl
 ·rw[yr (by simp[hk]),if_neg hk]
  rfl
theorem zoG(f so:JV)(os:List (ByteArray×JV)):(zcv f so os).length=(zd8 f os).length:=by
 unfold zcv;rw[List.length_map,(zeZ _ _).length_eq,List.length_range]
theorem zsf{f:JV}(hc:zdq f=0)(hnc:zdq (opT ze3 [f])=0):∀os:List (ByteArray×JV),(zd8 f os).length+(zd8 (opT ze3 [f]) os).length+zdE os=os.length
 |[]=>rfl
 | p :: os => by
   have ih:=zsf hc hnc os;unfold zd8 zdE at ih⊢;rw[yw];by_cases hv:p.2.k=6
   ·have h:=zsd hc hnc hv;rw[yk (p:=fun p:ByteArray×JV=> !decide (p.2.k=6)) (by simp[hv])]
    cases hh:zcn f p.2
    ·rw[hh]at h;rw[yk (p:=fun p:ByteArray×JV=>zcn f p.2) (by simp[hh]),yr (p:=fun p:ByteArray×JV=>zcn (opT ze3 [f]) p.2) (by simp[h]),yw]
     omega
    ·rw[hh]at h;rw[yr (p:=fun p:ByteArray×JV=>zcn f p.2) (by simp[hh]),yk (p:=fun p:ByteArray×JV=>zcn (opT ze3 [f]) p.2) (by simp[h]),yw]
     omega
   ·rw[yr (p:=fun p:ByteArray×JV=> !decide (p.2.k=6)) (by simp[hv]),yk (p:=fun p:ByteArray×JV=>zcn f p.2) (by simp[zsp hv]),yk (p:=fun p:ByteArray×JV=>zcn (opT ze3 [f]) p.2) (by simp[zsp hv]),yw]
    omega
theorem zs9{f so:JV}(hc:zdq f=0)(hnc:zdq (opT ze3 [f])=0)(os:List (ByteArray×JV)):(zcv f so os).length+(zcv (opT ze3 [f]) so os).length+zdE os=os.length:=by
 rw[zoG,zoG];exact zsf hc hnc os
end
section
open Go.RowKit Go.OpenShut
theorem zf6(w:World)(B:Nat)(v:Value)(l:List ByteArray)(s:ByteArray)(hv:Rd w B zg 1 v l)(hlen:l.length<=4398046510976):
 Calls yb 26 #[v,.string s] w fun e w'=>e= .returned (.bool (zbE l s))/\∃n,w'=w.drewN n:=by
 obtain⟨p,c,rfl,hlc,hcm⟩:=zfq hv;have HV:=Lib.hid hv;obtain⟨n,hn⟩:∃n,l.length=n:=⟨_,rfl⟩;have HN:=Lib.hid hn;have hno:n<=4398046510976:=by omega
 rw[hn];clear hv hlen hlc hcm hn
 go_enter Tryz.func26,Tryz.ntmps26
 go_wp2_with fail
 go_loopw [5] (fun i wr=>∃k:Nat,k<=n/\i= .int .i64 k/\Hid (∀(j:Nat) x,j<k->l[j]? =some x->x≠s)/\∃m,wr=w.drewN m) (fun i _=>n-(intOf i).toNat)
 case atStart=>exact⟨0,Nat.zero_le _,rfl,fun j x h=>by omega,0,rfl⟩
 case round=>
  obtain⟨k,hk,rfl,hne,nr,rfl⟩:=hrel;by_cases hlt:k<n
  ·obtain⟨x,hx⟩:∃x,l[k]? =some x:=⟨_,ya (by have:=HN.out;omega)⟩
   obtain⟨b1,o1,rfl,hb1,hc1⟩:=zqi HV.out hx;have f0:=hc1 0 _ rfl;rw[Nat.add_zero,Nat.mul_one]at f0;have hk0:(0:Int)<=(k:Int):=Int.natCast_nonneg _;have hk1:(k:Int)<(n:Int):=by omega
   have hq:=zdk x s;by_cases hxy:x=s
   ·have e2:(x.toList==s.toList)=true:=by rw[hq];simpa using hxy
    have HM:Hid (zbE l s=true):=by unfold Hid;rw[hasL_iff,<-hxy];exact yh hx
    clear hx hc1 hq hxy
    go_wp2_with fail
    go_ret;exact⟨by rw[HM.out];rfl,_,rfl⟩
   ·have e2:(x.toList==s.toList)=false:=by rw[hq];simpa using hxy
    have HNO:Hid (∀(j:Nat) y,j<k+1->l[j]? =some y->y≠s):=fun j y h hy=>by
     by_cases e:j=k
     ·subst e;rw[hx]at hy;cases hy;exact hxy
     ·exact hne.out j y (by omega) hy
    clear hx hc1 hq hxy
    go_wp2_with fail
    go_roundw
    case rel=>exact⟨k+1,by omega,by go_num,HNO,_,rfl⟩
    case measure=>simp[intOf];omega
  ·obtain rfl:k=n:=by omega
   have HM:Hid (zbE l s=false):=by
    unfold Hid;rw[Bool.eq_false_iff];intro h;obtain⟨j,hj⟩:=yo (hasL_iff.1 h);have:=(yc.1 hj).1;exact hne.out j s (by have:=HN.out;omega) hj rfl
   go_wp2_with fail
   go_ret;exact⟨by rw[HM.out];rfl,_,rfl⟩
end
section
open Go Go.RowKit Go.ChangeShapes Go.WideShapes Go.Deep
theorem zsB:yb.cellsOf 78=7:=by kernel_rfl
section
variable {H:Type} {enc:TypeId×Value->H} {W:World} {base b0:Nat} {spare:Nat->Bool} {held:Bool}
theorem zsh{fuel:Nat}{cs:List Value}{x:DataW H×List MemPlace}(h:DataW.trod enc yb W base spare held fuel 78 cs=some x):
 ∃r t,cs=zeU r/\TreeOf W W.heap.size t r.v/\((∀n∈x.1.weights yb 78,n<=140737488351232)->zlV r t):=by
 obtain⟨y0,y1,y2,n,rfl,hx1,hlen,t0,t1,t2⟩:=ztB Tryz.underlying78 h;rw[zsB]at hlen
 obtain⟨a0,a1,a2,a3,a4,a5,a6,rfl⟩:∃a0 a1 a2 a3 a4 a5 a6,cs=[a0,a1,a2,a3,a4,a5,a6]:=by
  match cs,hlen with
  |[a,b,c,d,e,f,g],_=>exact⟨a,b,c,d,e,f,g,rfl⟩
 rw[hx1];dsimp only at t0 t1 t2;rw[cel2]at t0;rw[cel3]at t1;rw[zhF]at t2;simp only[yR,List.drop_succ_cons,List.take_succ_cons,List.take_zero]at t0 t1 t2;obtain⟨k,e0,f0,w0⟩:=DataW.trod_int Tryz.underlying3 t0;obtain⟨s,e1,f1,w1⟩:=DataW.trod_string Tryz.underlying9 t1;simp only[List.cons.injEq,and_true]at e0 e1;subst e0 e1 f0 f1;obtain⟨r,t,h1,h2,h3⟩:=zki n _ _ t2;refine⟨⟨k,s,r⟩,t,by rw[h1];rfl,h2,fun hw=>⟨zeb (zbf Tryz.underlying78 hw (i:=1) rfl rfl),h3 (zbf Tryz.underlying78 hw (i:=2) rfl rfl)⟩⟩
end
end
section
open Go.RowKit Go.OpenShut
theorem zs5(p:ByteArray×JV)(os:Obs)(id:ByteArray):zgt (p::os) id=if zA p.1 id<0 then zgt os id else p.2:=by
 unfold zgt;rw[zgp];by_cases h:zA p.1 id<0<;>simp[h]
theorem ztf(id:ByteArray):look [] id=none:=rfl
theorem zs0(p:ByteArray×JV)(os:Obs)(id:ByteArray):look (p::os) id=if zA p.1 id<0 then look os id else if p.1=id then some p.2 else none:=by
 unfold look;rw[ziT,zs5];by_cases h:zA p.1 id<0<;>simp[h]
theorem zdY(os:Obs)(id:ByteArray):(look os id).isSome=zbj os id:=by
 unfold look;cases zbj os id<;>simp
theorem zbM:∀{os:Obs} (hr:ze6 os) (z:ByteArray×JV),z∈os↔look os z.1=some z.2
 |[],_,z=>by simp[ztf]
 | p :: os, hr, z => by
   obtain⟨h1,h2⟩:=yB.1 hr;have ih:=zbM h2 z;rw[zs0,ym];by_cases h:zA p.1 z.1<0
   ·rw[if_pos h,<-ih];exact⟨fun e=>e.elim (fun e=>by subst e;exact absurd rfl (zjR h)) id,.inr⟩
   ·rw[if_neg h];have hz:z∉os:=fun hm=>h (h1 z hm)
    by_cases e:p.1=z.1
    ·rw[if_pos e];refine⟨fun e'=>e'.elim (fun e'=>by rw[e']) (fun hm=>absurd hm hz),fun e'=> .inl ?_⟩
     obtain⟨a,b⟩:=z;obtain⟨c,d⟩:=p;simp at e e';rw[e,e']
    ·rw[if_neg e];exact⟨fun e'=>e'.elim (fun e'=>absurd (by rw[e']) e) (fun hm=>absurd hm hz),fun e'=>by simp at e'⟩
theorem zpB:∀{os:Obs} (hr:ze6 os) (id:ByteArray) (z:ByteArray×JV),z∈zfF os id↔z∈os/\z.1≠id
 |[],_,id,z=>by simp[zoW]
 | p :: os, hr, id, z => by
   obtain⟨h1,h2⟩:=yB.1 hr;have ih:=zpB h2 id z;rw[znp];by_cases h:zA p.1 id<0
   ·have hp:=zjR h;simp only[if_pos h,ym,ih]
    constructor
    ·rintro(rfl|h)
     ·exact⟨.inl rfl,hp⟩
     ·exact⟨.inr h.1,h.2⟩
    ·rintro⟨rfl|h,h3⟩
     ·exact .inl rfl
     ·exact .inr ⟨h,h3⟩
   ·simp only[if_neg h];by_cases e:p.1=id
    ·have hn:∀y∈os,y.1≠id:=fun y hy e2=>zjR (h1 y hy) (by rw[e,e2])
     simp only[if_pos e,ym]
     constructor
     ·intro h;exact⟨.inr h,hn z h⟩
     ·rintro⟨rfl|h,h3⟩
      ·exact absurd e h3
      ·exact h
    ·have hlt:zA id p.1<0:=by
      rcases zly p.1 id with h3|h3|h3
      ·exact absurd h3 h
      ·exact absurd h3 e
      ·exact h3
     have hn:∀y∈os,y.1≠id:=fun y hy e2=>zjR (ziP hlt (h1 y hy)) e2.symm
     simp only[if_neg e,ym]
     constructor
     ·rintro(rfl|h)
      ·exact⟨.inl rfl,e⟩
      ·exact⟨.inr h,hn z h⟩
     ·rintro⟨h,_⟩;exact h
theorem zsE{os ns:Obs}(hr:ze6 os)(hn:ze6 ns){id:ByteArray}(h:∀v,(id,v)∈ns↔(id,v)∈os):look ns id=look os id:=by
 cases e:look os id with
 |some v=>exact(zbM hn (id,v)).1 ((h v).2 ((zbM hr (id,v)).2 e))
 | none =>
   cases e2:look ns id with
   |none=>rfl
   | some v =>
     have:=(zbM hr (id,v)).1 ((h v).1 ((zbM hn (id,v)).2 e2));rw[e]at this;simp at this
theorem zso{os:Obs}(hr:ze6 os)(id:ByteArray)(v:JV):look (zdR os id v) id=some v:=(zbM (zfW hr id v) (id,v)).1 ((zi4 hr id v _).2 (.inl rfl))
theorem zn3{os:Obs}(hr:ze6 os){id k:ByteArray}(v:JV)(hk:k≠id):look (zdR os id v) k=look os k:=
 zsE hr (zfW hr id v) fun u=>by
  rw[zi4 hr];exact⟨fun h=>h.elim (fun e=>absurd (congrArg Prod.fst e) hk) (·.1),fun h=> .inr ⟨h,hk⟩⟩
theorem zte{os:Obs}(hr:ze6 os)(id:ByteArray):look (zfF os id) id=none:=by
 cases e:look (zfF os id) id with
 |none=>rfl
 | some v =>
   have:=(zpB hr id (id,v)).1 ((zbM (znq hr id) (id,v)).2 e);exact absurd rfl this.2
theorem zsy{os:Obs}(hr:ze6 os){id k:ByteArray}(hk:k≠id):look (zfF os id) k=look os k:=
 zsE hr (znq hr id) fun u=>by
  rw[zpB hr];exact⟨(·.1),fun h=>⟨h,hk⟩⟩
end
section
open Go Go.RowKit Go.OpenShut
theorem zsU{now:List ByteArray}{b:BoxD}{seq most:Int}{ys zs:List Pa}(h1:¬(seq<b.floor\/b.seq<seq)->IsStable cfP (zU seq b.trail) ys)(h2:¬(seq<b.floor\/b.seq<seq)->IsStable cfP (zU seq b.trail) zs):zdD now b zs seq most=zdD now b ys seq most:=by
 by_cases h:seq<b.floor\/b.seq<seq
 ·unfold zdD;rw[if_pos h,if_pos h]
 ·rw[IsStable.unique zl4 (h1 h) (h2 h)]
end
section
open Go Go.RowKit Go.ChangeShapes
section
variable {H:Type} {enc:TypeId×Value->H} {P:Program} {w:World} {base:Nat} {spare:Nat->Bool} {held:Bool}
theorem zsv{t t' t'' t3 t4:TypeId}{args:Array Value}{ds:List (DataW H)}{ps:List MemPlace}(h:DataW.TrodAll enc P w base spare held [t,t',t'',t3,t4] args.toList ds ps):
 ∃v v' v'' v3 v4 d d' d'' d3 d4 p p' p'' p3 p4,args=#[v,v',v'',v3,v4]/\ds=[d,d',d'',d3,d4]/\ps=p++p'++p''++p3++p4/\DataW.Trod enc P w base spare held t v d p/\DataW.Trod enc P w base spare held t' v' d' p'/\DataW.Trod enc P w base spare held t'' v'' d'' p''/\DataW.Trod enc P w base spare held t3 v3 d3 p3/\DataW.Trod enc P w base spare held t4 v4 d4 p4:=by
 obtain⟨v,vs,d,ds',p,q,hargs,rfl,rfl,hd,hrest⟩:=trodAll_cons h;obtain⟨v',vs',d',ds'',p',q',rfl,rfl,rfl,hd',hrest'⟩:=trodAll_cons hrest;obtain⟨v'',vs'',d'',ds''',p'',q'',rfl,rfl,rfl,hd'',hrest''⟩:=trodAll_cons hrest';obtain⟨v3,vs3,d3,ds3,p3,q3,rfl,rfl,rfl,hd3,hrest3⟩:=trodAll_cons hrest'';obtain⟨v4,vs4,d4,ds4,p4,q4,rfl,rfl,rfl,hd4,hrest4⟩:=trodAll_cons hrest3;obtain⟨rfl,rfl,rfl⟩:=trodAll_nil hrest4;exact⟨v,v',v'',v3,v4,d,d',d'',d3,d4,p,p',p'',p3,p4,by cases args;simp_all,rfl,by simp,hd,hd',hd'',hd3,hd4⟩
end
end
section
open Go Go.RowKit Go.ChangeShapes Go.WideShapes Go.Deep
section
variable {H:Type} {enc:TypeId×Value->H} {W:World} {base b0:Nat} {spare:Nat->Bool} {held:Bool}
theorem ztj{v:Value}{d:DataW H}{p:List MemPlace}(hval:Value.okWide yb W .any b0 54 v)(h:DataW.Trod enc yb W base spare held 54 v d p):
 ∃ops:List (RO×JV),Rd W W.heap.size zeU 7 v (ops.map (·.1))/\(∀o∈ops,TreeOf W W.heap.size o.2 o.1.v)/\((∀n∈d.weights yb 54,n<=140737488351232)->∀o∈ops,zlV o.1 o.2):=by
 obtain⟨fuel,hf⟩:=h;obtain⟨a,len,cap,rfl⟩:=okWide_slice Tryz.underlying54 hval
 obtain⟨pm,nm,cm,rms,e4,hr4,hd4⟩:=zeY (Q:=fun(r:RO) (d:DataW H)=>∃t,TreeOf W W.heap.size t r.v/\((∀n∈d.weights yb 78,n<=140737488351232)->zlV r t)) Tryz.underlying54 zsB zlz hf
  (fun m hm cs y hy=>by
   obtain⟨r,t,h1,h2,h3⟩:=zsh hy;exact⟨r,h1,t,h2,h3⟩)
 have hcs:(Value.slice a len cap).cells.toList=[.slice a len cap]:=rfl;rw[hcs]at e4;simp only[List.cons.injEq,Value.slice.injEq,and_true]at e4;obtain⟨rfl,rfl,rfl⟩:=e4
 have hM:∀i,i<rms.length->∃o:RO×JV,∀q,rms[i]? =some q->o.1=q/\TreeOf W W.heap.size o.2 q.v/\((∀n∈d.weights yb 54,n<=140737488351232)->zlV o.1 o.2):=by
  intro i hi;obtain⟨q,hq⟩:∃q,rms[i]? =some q:=⟨_,ya hi⟩
  rcases hd4 with⟨rfl,_⟩|⟨es,sp,h1,h2,h3⟩
  ·simp at hi
  ·obtain⟨d',hd,t,ht1,ht2⟩:=h3 i q hq;refine⟨(q,t),fun q' hq'=> ?_⟩
   rw[hq]at hq';cases hq';refine⟨rfl,ht1,fun hw=>ht2 ?_⟩
   dsimp only at h1;rw[h1]at hw;exact(zbV Tryz.underlying54 hw).2 d' (yh hd)
 obtain⟨ps,hps,hps2⟩:=zfp rms.length hM
 have hmap:ps.map (·.1)=rms:=by
  refine List.ext_getElem? fun i=> ?_
  rw[yD];cases hi:ps[i]? with
  | none =>
    have h1:=List.getElem?_eq_none_iff.1 hi;rw[List.getElem?_eq_none (by omega)]
    rfl
  | some o =>
    obtain⟨q,hq⟩:∃q,rms[i]? =some q:=⟨_,ya (by have:=(yc.1 hi).1;omega)⟩
    rw[hq]
    show some o.1=some q
    rw[(hps2 i o hi q hq).1]
 have hall:∀o∈ps,TreeOf W W.heap.size o.2 o.1.v/\((∀n∈d.weights yb 54,n<=140737488351232)->zlV o.1 o.2):=fun o ho=>by
  obtain⟨i,hi⟩:=yo ho;obtain⟨q,hq⟩:∃q,rms[i]? =some q:=⟨_,ya (by have:=(yc.1 hi).1;omega)⟩
  obtain⟨h1,h2,h3⟩:=hps2 i o hi q hq;rw[<-h1]at h2;exact⟨h2,h3⟩
 exact⟨ps,by rw[hmap];exact hr4,fun o ho=>(hall o ho).1,fun hw o ho=>(hall o ho).2 hw⟩
end
end
section
theorem zbX{l:List En}{floor seq:Int}(h:zdd l floor seq=true){k:Nat}{x:En}(hx:l[k]? =some x):x.seq=floor+1+k/\zhk (zhR (l.take k) x.id) x.what=true:=by
 unfold zdd at h;simp only[ye,List.all_eq_true,yS]at h;have:=h.2 k (yc.1 hx).1;rw[zlL hx]at this;simpa using this
theorem zfg{w a:Int}(h:zhk w a=true):a=1/\w=0\/(a=2\/a=3)/\w≠3:=by
 unfold zhk at h
 split at h
 ·exact .inl ⟨by assumption,by simpa using h⟩
 ·split at h
  ·exact .inr ⟨by assumption,by simpa using h⟩
  ·cases h
theorem zqj{l:List En}{id:ByteArray}{k:Nat}{x:En}(hx:l[k]? =some x)(hid:x.id=id):∀j:Nat,k<j->j<=l.length->(∀i y,k<i->i<j->l[i]? =some y->y.id≠id)->zhR (l.take j) id=x.what
 |0,h,_,_=>by omega
 | j + 1, h, hj, hno => by
   by_cases e:k=j
   ·subst e;rw[zeO hx,if_pos hid]
   ·obtain⟨y,hy⟩:∃y,l[j]? =some y:=⟨_,ya (by omega)⟩
    rw[zeO hy,if_neg (hno j y (by omega) (by omega) hy)]
    exact zqj hx hid j (by omega) (by omega) (fun i z h1 h2=>hno i z h1 (by omega))
theorem zsF{l:List En}{id:ByteArray}{k:Nat}:∀(d j:Nat) (y:En),j-k<=d->k<j->l[j]? =some y->y.id=id->∃i z,k<i/\i<=j/\l[i]? =some z/\z.id=id/\∀i' z',k<i'->i'<i->l[i']? =some z'->z'.id≠id
 |0,j,y,hd,hk,_,_=>by omega
 | d + 1, j, y, hd, hk, hy, hid => by
   by_cases h:∃i' z',k<i'/\i'<j/\l[i']? =some z'/\z'.id=id
   ·obtain⟨i',z',h1,h2,h3,h4⟩:=h;obtain⟨i,z,g1,g2,g3⟩:=zsF d i' z' (by omega) h1 h3 h4
    exact⟨i,z,g1,by omega,g3⟩
   ·exact⟨j,y,hk,Nat.le_refl _,hy,hid,fun i' z' g1 g2 g3 g4=>h ⟨i',z',g1,g2,g3,g4⟩⟩
theorem zsc{l:List En}{floor seq:Int}(h:zdd l floor seq=true){k:Nat}{x:En}{id:ByteArray}:∀{j:Nat},k<j->l[k]? =some x->x.id=id->j<l.length->zhR (l.take j) id≠0
 |0,hk,_,_,_=>by omega
 | j + 1, hk, hx, hid, hj => by
   obtain⟨y,hy⟩:∃y,l[j]? =some y:=⟨_,ya (by omega)⟩
   rw[zeO hy]
   split
   ·rcases zfg (zbX h hy).2 with⟨e,_⟩|⟨e,_⟩<;>omega
   ·rename_i hne;by_cases e:k=j
    ·subst e;rw[hx]at hy;cases hy;exact absurd hid hne
    ·exact zsc h (by omega) hx hid (by omega)
theorem zs8{l:List En}{floor seq:Int}(h:zdd l floor seq=true){k j:Nat}{x y:En}(hkj:k<j)(hx:l[k]? =some x)(hy:l[j]? =some y)(hid:x.id=y.id):x.what≠3/\y.what≠1:=by
 have hjl:=(yc.1 hy).1
 constructor
 ·intro e;obtain⟨i,z,h1,h2,h3,h4,h5⟩:=zsF (j-k) j y (Nat.le_refl _) hkj hy hid.symm;have hw:=zqj hx rfl i h1 (by omega) (fun i' z' g1 g2 g3=>h5 i' z' g1 g2 g3)
  have hz:=(zbX h h3).2;rw[h4,hw,e]at hz
  rcases zfg hz with⟨_,e'⟩|⟨_,e'⟩<;>omega
 ·intro e;have hz:=(zbX h hy).2
  rcases zfg hz with⟨_,e0⟩|⟨e',_⟩
  ·
   exact zsc h hkj hx hid hjl e0
  ·omega
theorem zsz{sq:Int}{l:List En}{k:Nat}{p:Pa}(h:p∈zek sq l k):∃i,i<k/\zds sq l i=some p:=by
 unfold zek at h;obtain⟨i,hi,hp⟩:=List.mem_filterMap.1 h;exact⟨i,yS.1 hi,hp⟩
end
end Go.Proofs.YtemofofnkchmeaaGreatDoor
