import Derived.Test.YtemofofnkchmeaaGreatDoorL04
import Derived.Test.YtemofofnkchmeaaGreatDoorL01
import Derived.WalkKit
import Derived.Deep.Draws
import Derived.Maps.AppendAt
import Derived.Deep.AppendLies
import Derived.RegionTactic
import Derived.OwnWalk
import Derived.Test.YtemofofnkchmeaaGreatDoorProg
import Derived.Deep.Slices
import Derived.Deep.Fields
import Derived.Deep.Strs
import Derived.ChangeSame
import Derived.SizedLaws
import Derived.WalkSpells
import Derived.Lib.Hide
import Derived.Test.YtemofofnkchmeaaGreatDoorL07
import Derived.Deep.RegionHeld3
import Derived.Deep.DeepCutAuto
import Derived.Deep.CutRange
import Derived.BigQuiet
import Derived.Deep.QuietTactic
import Derived.Outline
import Derived.OpenShut
import Derived.Lib.AppendStr
import Derived.Lib.BufferRead
import Derived.Laws.IdiomStrings
import Derived.WalkLawsBesides
import Derived.Test.YtemofofnkchmeaaGreatDoorL13
import Derived.Test.YtemofofnkchmeaaGreatDoorL10
import Derived.Shelf.Small.Strs
import Derived.Shelf.Strings.Prefix
import Derived.OrdersHeld
import Derived.Deep.Quiet
set_option linter.unusedSimpArgs false
set_option linter.unusedVariables false
set_option maxRecDepth 200000
set_option maxHeartbeats 8000000
namespace Go.Proofs.YtemofofnkchmeaaGreatDoor
open _root_.Array renaming getElem?_modify->yo
open _root_.Go.RowKit.Below renaming refl->yd
open _root_.Go.Lib renaming hid->yb
open _root_.List renaming getElem?_eq_getElem->yh
open _root_.Nat renaming add_zero->yu,le_refl->yc,le_trans->yj,lt_of_lt_of_le->yl
open _root_.Option renaming map_eq_some_iff->yg
open _root_.Go.Proofs.Tryz renaming prog->ya
section
open Go Go.RowKit
section
variable {P:Program} {α:Type} {enc:α->List Value} {sz bytes:Nat} {t e:TypeId}
theorem zuk(S:SlT P t e sz bytes){w:World}{B:Nat}{a:Option Addr}{n cap:Nat}{xs:List α}(h:Rd w B enc sz (.slice a n cap) xs)(l:Nat)(hl:l<=n):
 ∃v,(∀W,(Instr.sliceAt t (.slice a n cap) (some (.int .i64 l)) none none).run P W= .ok v W)/\Rd w B enc sz v (xs.drop l):=by
 obtain⟨ht,i,z,hi,hz,hs1,hs2,hzs⟩:=S;exact zh5 ht hi hs1 h l hl
end
end
section
open Go Go.RowKit Go.ChangeShapes Go.WideShapes Go.Deep
namespace JV
end JV
theorem slM:SlT ya 23 35 6 96:=SlT.mk (z:= .agg #[.string ByteArray.empty,.int .i64 0,.int .i64 0,.string ByteArray.empty,.slice none 0 0,.slice none 0 0]) Tryz.underlying23 (by kernel_rfl) rfl
#print axioms slV
end
section
open Go.RowKit Go.OpenShut
theorem ztb(t:JV)(r:RV)(name:ByteArray)(w:World)(B:Nat)(hBw:B<=w.heap.size)(ht:TreeOf w B t r)(ot:t.Ok):
 Calls ya 34 #[r.val,.string name] w (zV w B (t.get name)):=by
 cases ht with
 | @mk _ l m rs rms hl el hcl hm em hcn hcm=>
 obtain⟨k,n,s,pl,nl,cl,pm,nm,cm⟩:=r;cases ot with
 |mk _ _ _ bl bm okl oks okm=>
 dsimp only[RV.val]at*;have eM:=zi hm;have hA0:VAt ((w.alloc (.cells #[.int .i64 k,.int .i64 n,.string s,.slice pl nl cl,.slice pm nm cm] 25)).alloc (.cells #[.int .i64 0,.int .i64 0,.string ⟨#[]⟩,.slice none 0 0,.slice none 0 0] 25)) w.heap.size ⟨k,n,s,pl,nl,cl,pm,nm,cm⟩:=zb (by simp) (za rfl)
 have hA1:VAt ((w.alloc (.cells #[.int .i64 k,.int .i64 n,.string s,.slice pl nl cl,.slice pm nm cm] 25)).alloc (.cells #[.int .i64 0,.int .i64 0,.string ⟨#[]⟩,.slice none 0 0,.slice none 0 0] 25)) (w.heap.size+1) RV.zero:=za (by simp)
 have hB0:=zM w (.cells #[.int .i64 k,.int .i64 n,.string s,.slice pl nl cl,.slice pm nm cm] 25) (.cells #[.int .i64 0,.int .i64 0,.string ⟨#[]⟩,.slice none 0 0,.slice none 0 0] 25);have HN:=yb hcn;have HM:=yb hm;have HV:=yb hcm;have E2:Hid (m.length=nm/\rms.length=nm):=⟨by omega,by omega⟩
 have hnm:nm<=1466015503658:=by omega
 have HG6:Hid (k=6->(JV.mk k n s l m).place name=m.findIdx? (fun p=>decide (p.1=name))/\(JV.mk k n s l m).mem=m):=by
  intro h;have e:(JV.mk k n s l m).mem=m:=by show(if k=6 then m else[])=m;rw[if_pos h]
  exact⟨by unfold JV.place;rw[e],e⟩
 have HGN:Hid (k≠6->(JV.mk k n s l m).get name=none):=by
  intro h;have e:(JV.mk k n s l m).mem=[]:=by show(if k=6 then m else[])=[];rw[if_neg h]
  unfold JV.get JV.place;rw[e];rfl
 clear hcl hcn hcm hl hm okl oks okm el em bl bm eM
 go_enter Tryz.func34,Tryz.ntmps34
 go_upto_region 1 with fail
 obtain⟨W0,hW0⟩:∃W0,((w.alloc (.cells #[.int .i64 k,.int .i64 n,.string s,.slice pl nl cl,.slice pm nm cm] 25)).alloc (.cells #[.int .i64 0,.int .i64 0,.string ⟨#[]⟩,.slice none 0 0,.slice none 0 0] 25))=W0:=⟨_,rfl⟩;rw[hW0]at hA0 hA1 hB0⊢;clear hW0;have hz:=hA1.lt;have c0:=hA0.cell 0 rfl;have c4:=hA0.cell 4 rfl;obtain⟨z0,z1,z2,z3,z4⟩:=hA1.cells5;dsimp only[RV.zero]at c0 c4 z0 z1 z2 z3 z4;have y0:=hA1.frozen 0;have y1:=hA1.frozen 1;have y2:=hA1.frozen 2;have y3:=hA1.frozen 3;have y4:=hA1.frozen 4;have HZ:=yb hA1;clear hA0 hA1;by_cases hk:k=6
 ·subst hk;have HPL:=HG6;clear HG6 HGN
  go_wp2_with fail
  go_loopw [6] (fun i wr=>∃k:Nat,k<=nm/\i= .int .i64 k/\Hid (∀(j:Nat) y,j<k->m[j]? =some y->decide (y.1=name)=false)/\wr=W0) (fun i _=>nm-(intOf i).toNat)
  case atStart=>exact⟨0,Nat.zero_le _,rfl,fun j y h=>by omega,rfl⟩
  case round=>
   obtain⟨k,hk,rfl,hno,rfl⟩:=hrel;by_cases hlt:k<nm
   ·obtain⟨tx,htx⟩:∃x,m[k]? =some x:=⟨_,yh (by have:=E2.out;omega)⟩
    obtain⟨x,hx⟩:∃x,rms[k]? =some x:=⟨_,yh (by have:=E2.out;omega)⟩
    obtain⟨b1,o1,rfl,hb1,hc1⟩:=zq (HM.out.below (hB0.mono hBw) (yc _)) hx;have f0:=hc1 0 _ rfl;have f1:=hc1 1 _ rfl;have f2:=hc1 2 _ rfl;have f3:=hc1 3 _ rfl;have f4:=hc1 4 _ rfl;have f5:=hc1 5 _ rfl;rw[yu]at f0;have en:=HN.out k tx x htx hx;have HTX:=yb htx;have HTV:=yb ((HV.out k tx x htx hx).under (hB0.mono hBw) (yc _));have hk0:(0:Int)<=(k:Int):=Int.natCast_nonneg _;have hk1:(k:Int)<(nm:Int):=by omega
    clear hc1 htx hx;by_cases hnx:x.name=name
    ·have hq:(x.name.toList==name.toList)=true:=by rw[zdk];simpa using hnx
     have hfi:=zfk (p:=fun p:ByteArray×JV=>decide (p.1=name)) HTX.out (by rw[en];simpa using hnx) hno.out
     have HG:Hid ((JV.mk 6 n s l m).get name=some tx.2):=by
      unfold Hid JV.get;rw[(HPL.out (by simp)).1,hfi]
      show((JV.mk 6 n s l m).mem[k]?).map (·.2)=_
      rw[(HPL.out (by simp)).2,HTX.out];rfl
     clear hnx en hfi
     go_wp2_with fail
     refine bodyPost_ret (v:= .tuple #[RV.val x.v,.bool true]) (by simp[results,Tryz.results34,go_sem,z0,z1,z2,z3,z4]) rfl ⟨x.v,true,rfl,by rw[HG.out];rfl,?_,Below.stored hB0 (by omega) x.v⟩
     rw[HG.out];exact HTV.out.under (Below.stored (yd _ _) (by omega) x.v) (yc _)
    ·have hq:(x.name.toList==name.toList)=false:=by rw[zdk];simpa using hnx
     have HNX:Hid (∀(j:Nat) y,j<k+1->m[j]? =some y->decide (y.1=name)=false):=by
      intro j y hj hy;by_cases e:j=k
      ·subst e;have h:=HTX.out;rw[hy]at h;cases h;rw[en];simpa using hnx
      ·exact hno.out j y (by omega) hy
     clear hnx en
     go_wp2_with fail
     go_roundw
     case rel=>exact⟨k+1,by omega,by go_num,HNX,trivial⟩
     case measure=>simp[intOf];omega
   ·obtain rfl:k=nm:=by omega
    have HF:=zeL (p:=fun p:ByteArray×JV=>decide (p.1=name)) (l:=m) (fun j y hy=>hno.out j y (by have:=(List.getElem?_eq_some_iff.1 hy).1;have:=E2.out;omega) hy)
    have HG:Hid ((JV.mk 6 n s l m).get name=none):=by
     unfold Hid JV.get;rw[(HPL.out (by simp)).1,HF];rfl
    clear HF
    go_wp2_with fail
    exact bodyPost_ret (v:= .tuple #[RV.val RV.zero,.bool false]) (by simp[results,Tryz.results34,go_sem,RV.zero,z0,z1,z2,z3,z4]) rfl ⟨RV.zero,false,rfl,by rw[HG.out];rfl,by rw[HG.out];exact TreeOf.zero _ _,Below.stored hB0 (by omega) RV.zero⟩
 ·have HG:=yb (HGN.out hk);have hq:(k==6)=false:=by simpa using hk
  clear HG6 HGN hk
  go_wp2_with fail
  go_loopw [6] (fun i wr=>i= .int .i64 0/\wr=W0) (fun i _=>0)
  case atStart=>exact⟨rfl,rfl⟩
  case round=>
   obtain⟨rfl,rfl⟩:=hrel;by_cases h0:0<nm
   all_goals
    go_wp2_with fail
    exact bodyPost_ret (v:= .tuple #[RV.val RV.zero,.bool false]) (by simp[results,Tryz.results34,go_sem,RV.zero,z0,z1,z2,z3,z4]) rfl ⟨RV.zero,false,rfl,by rw[HG.out];rfl,by rw[HG.out];exact TreeOf.zero _ _,Below.stored hB0 (by omega) RV.zero⟩
end
section
open Go Go.RowKit
def zsB(b:UInt8):List Value:=[.int .u8 b.toNat]
theorem infoU:(ya.info? 5).map (fun i=>(i.zero,i.size,i.bytes))=some (some (.int .u8 0),1,1):=by kernel_rfl
theorem zsq(l:List UInt8):cellsOf zsB l=l.map (fun b=>Value.int .u8 b.toNat):=by
 induction l with
 |nil=>rfl
 | cons b l ih =>
   unfold cellsOf at ih⊢;rw[List.flatMap_cons,ih]
   rfl
theorem ztu(s:ByteArray):Lib.strCells s=cellsOf zsB s.data.toList:=(zsq _).symm
abbrev zsr(w:World)(base:Nat)(v:Value)(l:List UInt8):Prop:=Own w base 5 zsB 1 v l
theorem zsF(w:World)(ty:TypeId){base:Nat}{v:Value}{l:List UInt8}(hown:zsr w base v l)(s:ByteArray)(hlen:l.length+s.size<=140737488355328)(hbase:base<=w.heap.size):
 ∃v' w',(Builtin.append_ #[258,9] ty #[v,.string s]).run ya w= .ok v' w'/\zsr w' base v' (l++s.data.toList)/\w.grownBy w' v.ownBlock:=by
 obtain⟨i,hi,hz,hs1,hby⟩:=info_parts infoU;have hO:w.ownsRow base 5 1 v l.length (cellsOf zsB l):=hown;obtain⟨v',w',hr,h2,h3,_⟩:=Lib.run_append_own_string (P:=ya) w base 258 9 ty 5 i Tryz.underlying258 Tryz.underlying9 hi hz hs1 hby v l.length (cellsOf zsB l) hO s (by unfold maxLen;omega) hlen hbase
 refine⟨v',w',hr,?_,h3⟩;unfold zsr Own;rw[zv,List.length_append,zdA,<-ztu];exact h2
theorem zsp{ops:Array Oper}{rest:List Oper}{o:Oper}{a:Act}{Q:Exit->Act->World->Prop}(w:World)(hgd:o.guard=none)(s x:Operand)
 (ho:o.op= .call {callee:= .builtin .append,args:=#[s,x],argTypes:=#[258,9]}) {base:Nat} {v:Value} {l:List UInt8} {t:ByteArray} (hs:a.eval s=v) (hx:a.eval x= .string t) (hown:zsr w base v l)
 (hlen:l.length+t.size<=140737488355328) (hbase:base<=w.heap.size)
 (h:∀v' w',zsr w' base v' (l++t.data.toList)->w.grownBy w' v.ownBlock->wpList ya ops Q rest (a.put o.dst v') w'):wpList ya ops Q (o::rest) a w:=by
 refine wpList_plain hgd fun K hK=> ?_
 obtain⟨v',w',hr,h2,h3⟩:=zsF w o.type hown t hlen hbase;unfold Oper.wp execOp;simp only[ho,resolve,invoke,builtin,Sem.run_bind,Sem.run_pure,Result.andThen_ok,List.map_toArray,List.map_cons,List.map_nil,hs,hx,hr];exact hK _ _ (h v' w' h2 h3)
theorem ztq{w:World}{base:Nat}{v:Value}{l:List UInt8}(h:zsr w base v l):(convert 258 9 v).run ya w= .ok (.string (zy l)) w:=by
 have hO:w.ownsRow base 5 1 v l.length (cellsOf zsB l):=h
 rcases hO.2 with⟨rfl,hn⟩|⟨g,cap,cur,rfl,_⟩
 ·have:l=[]:=List.eq_nil_of_length_eq_zero hn;subst this;exact Lib.run_convert_nil_bytes w _ _ _ 0 Tryz.underlying258 Tryz.underlying5 Tryz.underlying9
 ·refine run_convert_bytes_back w _ _ _ _ cap l Tryz.underlying258 Tryz.underlying5 Tryz.underlying9 (fun j hj=> ?_)
  refine hO.cells (g:=g) rfl j _ ?_;rw[zsq,List.getElem?_map,yh hj]
  rfl
theorem zss:Codec zhK 4:=⟨fun _=>rfl,fun x u hu=>by
 simp only[zhK,List.mem_cons,List.not_mem_nil,or_false]at hu
 rcases hu with rfl|rfl|rfl|rfl<;>rfl,by decide⟩
def zsk(c:UInt8):Bool:=decide (32<=c.toNat)&&decide (c.toNat<128)&&decide (c.toNat≠34)&&decide (c.toNat≠92)
def zsh(c:UInt8):Bool:=decide (c.toNat=32)||decide (c.toNat=9)||decide (c.toNat=10)||decide (c.toNat=13)
def zsj(c:UInt8):Bool:=decide (c.toNat=123)||decide (c.toNat=125)||decide (c.toNat=91)||decide (c.toNat=93)||decide (c.toNat=58)||decide (c.toNat=44)
def wTrue:ByteArray:=⟨#[116,114,117,101]⟩
def wFalse:ByteArray:=⟨#[102,97,108,115,101]⟩
def wNull:ByteArray:=⟨#[110,117,108,108]⟩
def zsl(c:UInt8):Bool:=decide (97<=c.toNat)&&decide (c.toNat<=122)||decide (65<=c.toNat)&&decide (c.toNat<=90)||decide (48<=c.toNat)&&decide (c.toNat<=57)||decide (c.toNat=95)
def zgm(s:ByteArray)(i:Nat)(w:ByteArray):Bool:=decide ((s.data.toList.drop i).take w.size=w.data.toList)&&(decide (i+w.size=s.size)||(decide (i+w.size<s.size)&& !zsl s[i+w.size]!))
def zsb(s:ByteArray)(a b:Nat):ByteArray:=⟨((s.data.toList.drop a).take (b-a)).toArray⟩
def zsc(s:ByteArray):Nat->Nat->Nat
 |0,i=>i
 |f+1,i=>if decide (i<s.size)&&zsk s[i]! then zsc s f (i+1)else i
inductive Toks(s:ByteArray):Nat->List Tok->Prop
 |done:Toks s s.size []
 |space {i:Nat} {l:List Tok}:i<s.size->zsh s[i]! =true->Toks s (i+1) l->Toks s i l
 |mark {i:Nat} {l:List Tok}:i<s.size->zsj s[i]! =true->Toks s (i+1) l->Toks s i (⟨1,0,⟨#[s[i]!]⟩,i⟩::l)
 |text {i j:Nat} {l:List Tok}:i<j->j<s.size->s[i]!.toNat=34->(∀k,i<k->k<j->zsk s[k]! =true)->s[j]!.toNat=34->Toks s (j+1) l->Toks s i (⟨4,0,zsb s (i+1) j,i⟩::l)
 |num {i:Nat} {l:List Tok}:i+1<s.size->49<=s[i]!.toNat->s[i]!.toNat<=57->s[i+1]!.toNat=125->Toks s (i+1) l->Toks s i (⟨3,(s[i]!.toNat:Int)-48,⟨#[]⟩,i⟩::l)
 |word {i:Nat} {w:ByteArray} {l:List Tok}:w=wTrue\/w=wFalse\/w=wNull->i<s.size->zgm s i w=true->Toks s (i+w.size) l->Toks s i (⟨2,0,w,i⟩::l)
def zlO(s:ByteArray):Nat->Nat->Option (List Tok)
 |0,_=>none
 | f + 1, i =>
   if i<s.size then
    if zsh s[i]! then zlO s f (i+1)
    else if zsj s[i]! then(zlO s f (i+1)).map (⟨1,0,⟨#[s[i]!]⟩,i⟩::·)
    else if s[i]!.toNat=34 then
     if decide (zsc s s.size (i+1)<s.size)&&decide (s[zsc s s.size (i+1)]!.toNat=34)then(zlO s f (zsc s s.size (i+1)+1)).map (⟨4,0,zsb s (i+1) (zsc s s.size (i+1)),i⟩::·)else none
    else if zgm s i wTrue then(zlO s f (i+wTrue.size)).map (⟨2,0,wTrue,i⟩::·)
    else if zgm s i wFalse then(zlO s f (i+wFalse.size)).map (⟨2,0,wFalse,i⟩::·)
    else if zgm s i wNull then(zlO s f (i+wNull.size)).map (⟨2,0,wNull,i⟩::·)
    else if i+1<s.size/\49<=s[i]!.toNat/\s[i]!.toNat<=57/\s[i+1]!.toNat=125 then(zlO s f (i+1)).map (⟨3,(s[i]!.toNat:Int)-48,⟨#[]⟩,i⟩::·)
    else none
   else if i=s.size then some []else none
theorem zte(s:ByteArray):∀(f i:Nat),i<=zsc s f i/\∀k,i<=k->k<zsc s f i->zsk s[k]! =true
 |0,i=>⟨yc _,fun k h1 h2=>by unfold zsc at h2;omega⟩
 | f + 1, i => by
   unfold zsc
   split
   ·rename_i h;rw[Bool.and_eq_true]at h;have ih:=zte s f (i+1);refine⟨by omega,fun k h1 h2=> ?_⟩
    by_cases e:k=i
    ·subst e;exact h.2
    ·exact ih.2 k (by omega) h2
   ·exact⟨yc _,fun k h1 h2=>by omega⟩
theorem zf6(s:ByteArray):∀(f i:Nat) (l:List Tok),zlO s f i=some l->Toks s i l
 |0,i,l,h=>by simp[zlO]at h
 | f + 1, i, l, h => by
   unfold zlO at h
   split at h
   ·rename_i h0
    split at h
    ·rename_i h1;exact .space h0 h1 (zf6 s f _ l h)
    ·split at h
     ·rename_i h2;obtain⟨l',h3,rfl⟩:=yg.1 h;exact .mark h0 h2 (zf6 s f _ l' h3)
     ·split at h
      ·rename_i h2
       split at h
       ·rename_i h4;rw[Bool.and_eq_true]at h4;obtain⟨l',h3,rfl⟩:=yg.1 h;have he:=zte s s.size (i+1);exact .text (by omega) (of_decide_eq_true h4.1) h2 (fun k h5 h6=>he.2 k (by omega) h6) (of_decide_eq_true h4.2) (zf6 s f _ l' h3)
       ·cases h
      ·split at h
       ·rename_i h2;obtain⟨l',h3,rfl⟩:=yg.1 h;exact .word (.inl rfl) h0 h2 (zf6 s f _ l' h3)
       ·split at h
        ·rename_i h2;obtain⟨l',h3,rfl⟩:=yg.1 h;exact .word (.inr (.inl rfl)) h0 h2 (zf6 s f _ l' h3)
        ·split at h
         ·rename_i h2;obtain⟨l',h3,rfl⟩:=yg.1 h;exact .word (.inr (.inr rfl)) h0 h2 (zf6 s f _ l' h3)
         ·split at h
          ·rename_i h2;obtain⟨l',h3,rfl⟩:=yg.1 h;exact .num h2.1 h2.2.1 h2.2.2.1 h2.2.2.2 (zf6 s f _ l' h3)
          ·cases h
   ·split at h
    ·rename_i h1;cases h;subst h1;exact .done
    ·cases h
def isM(t:Tok)(c:UInt8):Bool:=decide (t.kind=1)&&decide (t.s=⟨#[c]⟩)
def zrr(k n:Int):JV:= .mk k n ⟨#[]⟩ [] []
mutual
def zek:Nat->Nat->Nat->List Tok->Option (JV×Nat×List Tok)
 |0,_,_,_=>none
 |_+1,_,_,[]=>none
 | f + 1, deep, parts, t :: ts =>
   if 16<deep\/8192<=parts then none
   else if t.kind=4 then some (.mk 4 0 t.s [] [],parts+1,ts)
   else if t.kind=2 then if t.s=wNull then some (zrr 1 0,parts+1,ts)else if t.s=wTrue then some (zrr 2 1,parts+1,ts)else some (zrr 2 0,parts+1,ts)
   else if isM t 91 then
    match ts with
    |[]=>none
    |c::r=>if isM c 93 then some (.mk 5 0 ⟨#[]⟩ [] [],parts+1,r)else(ziM f deep (parts+1) (c::r)).map (fun x=>(.mk 5 0 ⟨#[]⟩ x.1 [],x.2.1,x.2.2))
   else if isM t 123 then
    match ts with
    |[]=>none
    |c::r=>if isM c 125 then some (.mk 6 0 ⟨#[]⟩ [] [],parts+1,r)else(zfj f deep (parts+1) [] (c::r)).map (fun x=>(.mk 6 0 ⟨#[]⟩ [] x.1,x.2.1,x.2.2))
   else if t.kind=3 then some (zrr 3 t.n,parts+1,ts)
   else none
def ziM:Nat->Nat->Nat->List Tok->Option (List JV×Nat×List Tok)
 |0,_,_,_=>none
 | f + 1, deep, parts, ts =>
   match zek f (deep+1) parts ts with
   |some (v,p,c::r)=>if isM c 93 then some ([v],p,r)else if isM c 44 then(ziM f deep p r).map (fun x=>(v::x.1,x.2.1,x.2.2))else none
   |_=>none
def zfj:Nat->Nat->Nat->List ByteArray->List Tok->Option (List (ByteArray×JV)×Nat×List Tok)
 | f + 1, deep, parts, known, n :: col :: ts =>
   if(decide (n.kind=4)&& !(known.any (fun x=>decide (x=n.s)))&&decide (n.s.size<=1048576)&&isM col 58)=true then
    match zek f (deep+1) parts ts with
    |some (v,p,c::r)=>if isM c 125 then some ([(n.s,v)],p,r)else if isM c 44 then(zfj f deep p (n.s::known) r).map (fun x=>((n.s,v)::x.1,x.2.1,x.2.2))else none
    |_=>none
   else none
 |_,_,_,_,_=>none
end
def zrB(s:ByteArray):Option JV:=match zlO s (s.size+1) 0 with
 |none=>none
 | some ts => match zek (ts.length + 1) 1 0 ts with
   |some (v,_,[])=>some v
   |_=>none
end
section
open Go Go.RowKit Go.OpenShut
theorem zo8(W:World)(g:Nat)(q:Tok):W.grownBy ((((W.setCell ⟨g,0,none⟩ (.int .i64 q.kind)).setCell ⟨g,1,none⟩ (.int .i64 q.n)).setCell ⟨g,2,none⟩ (.string q.s)).setCell ⟨g,3,none⟩ (.int .i64 q.pos)) (some g):=
 (((zz W g 0 _).trans (zz _ g 1 _)).trans (zz _ g 2 _)).trans (zz _ g 3 _)
theorem zuz:(ya.info? 116).map (fun i=>(i.zero,i.size,i.bytes))=some (some (.agg #[.int .i64 0,.int .i64 0,.string ByteArray.empty,.int .i64 0]),4,40):=by kernel_rfl
theorem slTk:SlT ya 105 116 4 40:=SlT.mk Tryz.underlying105 zuz rfl
theorem zf3(t:Tok)(c:UInt8)(w:World)(b:Bool)(hb:isM t c=b):Calls ya 107 #[t.val,.string ⟨#[c]⟩] w fun e w'=>e= .returned (.bool b)/\Below w.heap.size w w':=by
 subst hb;unfold isM;obtain⟨k,n,s,p⟩:=t;dsimp only[Tok.val];by_cases h1:k=1
 ·subst h1;by_cases h2:s=⟨#[c]⟩
  ·subst h2
   go_enter Tryz.func107,Tryz.ntmps107
   go_wp2_with fail
   go_ret;exact⟨by simp,(yd _ _).alloc (yc _) _⟩
  ·have hq:(s.toList==(⟨#[c]⟩:ByteArray).toList)=false:=by rw[zdk];simpa using h2
   have HR:Hid ((decide ((1:Int)=1)&&decide (s=⟨#[c]⟩))=false):=by simp[Hid,h2]
   rw[HR.out];clear h2;obtain⟨m,hm⟩:∃m:ByteArray,⟨#[c]⟩=m:=⟨_,rfl⟩;rw[hm]at hq⊢;clear HR hm
   go_enter Tryz.func107,Tryz.ntmps107
   go_wp2_with fail
   go_ret;exact⟨rfl,(yd _ _).alloc (yc _) _⟩
 ·have HR:Hid ((decide (k=1)&&decide (s=⟨#[c]⟩))=false):=by simp[Hid,h1]
  rw[HR.out];have hq:(k==1)=false:=by simpa using h1
  clear h1 HR
  go_enter Tryz.func107,Tryz.ntmps107
  go_wp2_with fail
  go_ret;exact⟨rfl,(yd _ _).alloc (yc _) _⟩
theorem _root_.Go.World.grownBy.keep_none{w w':World}{row:Option Nat}(h:w.grownBy w' row)(g:Nat)(hg:g<w.heap.size)(hne:row≠some g:=by(first|assumption|simp)):w'.heap[g]? =w.heap[g]? :=h.block g hg (fun e=>hne e.symm)
theorem _root_.Go.World.grownBy.keep_some{w w1 w2:World}{g:Nat}(h:w.grownBy w1 none)(h2:w1.grownBy w2 (some g)):w.grownBy w2 (some g):=
 ⟨h2.os.trans h.os,h2.tape.trans h.tape,h2.output.trans h.output,yj h.size h2.size,fun k hk hne=>(h2.block k (yl hk h.size) hne).trans (h.block k hk (by simp))⟩
theorem _root_.Go.World.grownBy.new_row{w w1 w2:World}{row:Option Nat}{x:Nat}(h:w.grownBy w1 row)(h2:w1.grownBy w2 (some x))(hx:w.heap.size<=x):w.grownBy w2 row:=
 ⟨h2.os.trans h.os,h2.tape.trans h.tape,h2.output.trans h.output,yj h.size h2.size,fun k hk hne=>(h2.block k (yl hk h.size) (fun e=>by cases e;omega)).trans (h.block k hk hne)⟩
def zeN(w:World)(g:Nat)(t:Tok)(ts:List Tok)(en pa:Nat)(e:Ending)(w':World):Prop:=e= .returned t.val/\RdS w' g ts en pa/\w.grownBy w' (some g)
theorem zdZ(w:World)(g en pa:Nat)(t:Tok)(ts:List Tok)(h:RdS w g (t::ts) en pa):Calls ya 60 #[.pointer (some ⟨g,0,none⟩)] w (zeN w g t ts en pa):=by
 obtain⟨p,c,h1,h2,h3⟩:=h.len;have hgl:=h1.lt;obtain⟨N,hN⟩:∃N,(t::ts).length=N:=⟨_,rfl⟩;rw[hN]at h1 h2 h3;have hN1:1<=N:=by rw[<-hN];simp
 have hr0:=h2;obtain⟨v1,hrun,hr1⟩:=zuk slTk hr0 1 hN1;obtain⟨q1,n1,c1,rfl⟩:∃q n c,v1=Value.slice q n c:=(by obtain⟨p,c,hv,_,_⟩:=zrd hr1;exact⟨p,_,c,hv⟩)
 rw[List.drop_one,List.tail_cons]at hr1;obtain⟨b,o,rfl,hb,hc0⟩:=zq (k:=0) h2 (x:=t) rfl;rw[Nat.zero_mul,yu]at hc0;obtain⟨tk,tn,tS,tp⟩:=t;have f0:w.cell? ⟨b,o,none⟩=some (.int .i64 tk):=hc0 0 _ rfl;have f1:w.cell? ⟨b,o+1,none⟩=some (.int .i64 tn):=hc0 1 _ rfl;have f2:w.cell? ⟨b,o+2,none⟩=some (.string tS):=hc0 2 _ rfl;have f3:w.cell? ⟨b,o+3,none⟩=some (.int .i64 tp):=hc0 3 _ rfl;have c0:=h1.cell 0 rfl;have z0:=h1.frozen 0;have e0:((N:Int)==0)=false:=by simp;omega
 have e1:(0:Int)<(N:Int):=by omega
 have HR1:=yb hr1;have H1:=yb h1;clear hr0 hr1 h2 hc0 h1 hN h;have hg0:=World.grownBy_alloc w (.cells #[.int .i64 0,.int .i64 0,.string ⟨#[]⟩,.int .i64 0] 116) none;have hT0:TokAt (w.alloc (.cells #[.int .i64 0,.int .i64 0,.string ⟨#[]⟩,.int .i64 0] 116)) w.heap.size Tok.zero:=za rfl;have hs0:(w.alloc (.cells #[.int .i64 0,.int .i64 0,.string ⟨#[]⟩,.int .i64 0] 116)).heap.size=w.heap.size+1:=by simp
 have k0:∀b o,b<w.heap.size->(w.alloc (.cells #[.int .i64 0,.int .i64 0,.string ⟨#[]⟩,.int .i64 0] 116)).cell? ⟨b,o,none⟩=w.cell? ⟨b,o,none⟩:=fun b o hb=>((yd w.heap.size w).alloc (yc _) _).cell (p:=⟨b,o,none⟩) hb
 go_enter Tryz.func60,Tryz.ntmps60
 go_upto_region 1 with fail
 obtain⟨W0,hW0⟩:∃W0,w.alloc (.cells #[.int .i64 0,.int .i64 0,.string ⟨#[]⟩,.int .i64 0] 116)=W0:=⟨_,rfl⟩;rw[hW0]at hg0 hT0 hs0 k0
 try rw[hW0]
 clear hW0;have p0:=(k0 g 0 hgl).trans c0;have g0:=(k0 b o (by omega)).trans f0
 have g1:=(k0 b (o+1) (by omega)).trans f1
 have g2:=(k0 b (o+2) (by omega)).trans f2
 have g3:=(k0 b (o+3) (by omega)).trans f3
 have hrun1:∀W,(Instr.sliceAt 105 (.slice (some ⟨b,o,none⟩) N c) (some (.int .i64 1)) none none).run ya W= .ok (.slice q1 n1 c1) W:=hrun;have HG0:=yb hg0;have HT0:=yb hT0;have HS0:=yb hs0;have hgW:g<W0.heap.size:=by omega
 clear c0 f0 f1 f2 f3 k0 hrun hg0 hT0 hs0 z0;have hg1:=World.grownBy_alloc W0 (.cells #[.int .i64 tk,.int .i64 tn,.string tS,.int .i64 tp] 116) none;have hT1:TokAt (W0.alloc (.cells #[.int .i64 tk,.int .i64 tn,.string tS,.int .i64 tp] 116)) W0.heap.size ⟨tk,tn,tS,tp⟩:=za rfl;have hT2:TokAt (W0.alloc (.cells #[.int .i64 tk,.int .i64 tn,.string tS,.int .i64 tp] 116)) w.heap.size Tok.zero:=HT0.out.keep (hg1.keep_none _ HT0.out.lt);have hR1:RdrAt (W0.alloc (.cells #[.int .i64 tk,.int .i64 tn,.string tS,.int .i64 tp] 116)) g (.slice (some ⟨b,o,none⟩) N c) en pa:=(H1.out.keep (HG0.out.keep_none g (by omega))).keep (hg1.keep_none g hgW)
 go_upto_region 4 with fail
 have hz1:(W0.alloc (.cells #[.int .i64 tk,.int .i64 tn,.string tS,.int .i64 tp] 116)).heap.size=w.heap.size+2:=by have:=HS0.out;simp;omega
 have hg1':=HG0.out.trans hg1;obtain⟨q0,hq0⟩:∃q,W0.heap.size=q:=⟨_,rfl⟩;have hqn:g≠q0/\w.heap.size≠q0/\g≠w.heap.size:=by have:=HS0.out;omega
 obtain⟨W1,hW1⟩:∃W1,W0.alloc (.cells #[.int .i64 tk,.int .i64 tn,.string tS,.int .i64 tp] 116)=W1:=⟨_,rfl⟩;rw[hW1]at hT1 hT2 hR1 hz1 hg1';rw[hq0]at hT1
 try rw[hW1]
 try rw[hq0]
 clear hg1 hW1 hq0 p0 g0 g1 g2 g3 HT0;have p0:=hR1.cell 0 rfl;have z0:=hR1.frozen 0;have hR2:=hR1.set0 (.slice q1 n1 c1);have hg2:=zz W1 g 0 (.slice q1 n1 c1);have hT3:=hT1.keep (hg2.block q0 hT1.lt (by simp;omega))
 have hT4:=hT2.keep (hg2.block w.heap.size hT2.lt (by simp;omega))
 go_upto_region 5 with fail
 obtain⟨W2,hW2⟩:∃W2,W1.setCell ⟨g,0,none⟩ (.slice q1 n1 c1)=W2:=⟨_,rfl⟩;rw[hW2]at hR2 hg2 hT3 hT4
 try rw[hW2]
 clear hW2 p0 z0 hrun1;have a0:=hT3.cell 0 rfl;have a1:=hT3.cell 1 rfl;have a2:=hT3.cell 2 rfl;have a3:=hT3.cell 3 rfl;have b0:=hT4.cell 0 rfl;have b1:=hT4.cell 1 rfl;have b2:=hT4.cell 2 rfl;have b3:=hT4.cell 3 rfl;have y0:=hT4.frozen 0;have y1:=hT4.frozen 1;have y2:=hT4.frozen 2;have y3:=hT4.frozen 3;dsimp only[Tok.zero]at a0 a1 a2 a3 b0 b1 b2 b3;have HR2:=yb hR2;have HG2:=yb (hg1'.keep_some hg2);have HZ1:=yb hz1;have HS2:=yb hg2.size;clear hT1 hT2 hT3 hT4 hR1 hg1' hg2 hR2 hz1
 go_wp2_with fail
 refine bodyPost_ret (v:=Tok.val ⟨tk,tn,tS,tp⟩) (by simp[results,Tryz.results60,go_sem,b0,b1,b2,b3]) rfl ⟨rfl,?_,?_⟩
 ·have hg3:=zo8 W2 w.heap.size ⟨tk,tn,tS,tp⟩;obtain⟨p',n',c',h1,h2⟩:=(⟨_,_,_,HR2.out,(HR1.out.below (zoL HG2.out (by omega) (fun k e=>by cases e;exact yc _)) (yc _))⟩:∃p n c,RdrAt W2 g (.slice p n c) en pa/\Rd W2 g zhK 4 (.slice p n c) ts)
  exact RdS.kept ⟨p',n',c',h1,h2⟩ hg3 (fun k e=>by cases e;exact hgl)
 ·exact HG2.out.new_row (zo8 W2 w.heap.size ⟨tk,tn,tS,tp⟩) (yc _)
theorem zse(w:World)(g en pa:Nat)(t:Tok)(ts:List Tok)(c:UInt8)(b:Bool)(h:RdS w g (t::ts) en pa)(hb:isM t c=b):Calls ya 171 #[.pointer (some ⟨g,0,none⟩),.string ⟨#[c]⟩] w fun e w'=>e= .returned (.bool b)/\Below w.heap.size w w':=by
 have HI:Hid (∀W,Calls ya 107 #[t.val,.string ⟨#[c]⟩] W fun e w'=>e= .returned (.bool b)/\Below W.heap.size W w'):=fun W=>zf3 t c W b hb
 obtain⟨p,cp,h1,h2,h3⟩:=h.len;have hgl:=h1.lt;obtain⟨N,hN⟩:∃N,(t::ts).length=N:=⟨_,rfl⟩;rw[hN]at h1 h2 h3;have hN1:1<=N:=by rw[<-hN];simp
 obtain⟨bb,o,rfl,hbb,hc0⟩:=zq (k:=0) h2 (x:=t) rfl;rw[Nat.zero_mul,yu]at hc0;obtain⟨tk,tn,tS,tp⟩:=t;have f0:w.cell? ⟨bb,o,none⟩=some (.int .i64 tk):=hc0 0 _ rfl;have f1:w.cell? ⟨bb,o+1,none⟩=some (.int .i64 tn):=hc0 1 _ rfl;have f2:w.cell? ⟨bb,o+2,none⟩=some (.string tS):=hc0 2 _ rfl;have f3:w.cell? ⟨bb,o+3,none⟩=some (.int .i64 tp):=hc0 3 _ rfl;have c0:=h1.cell 0 rfl;have e0:decide (0<N)=true:=by simp;omega
 have e1:(0:Int)<(N:Int):=by omega
 have e2:0<N:=hN1;clear h1 h2 hc0 hN h hb;obtain⟨m,hm⟩:∃m:ByteArray,⟨#[c]⟩=m:=⟨_,rfl⟩;rw[hm]at HI⊢;clear hm
 go_enter Tryz.func171,Tryz.ntmps171
 go_wp2_with (go_at_call 107;refine(HI.out _).mono ?_;rintro e w1 ⟨rfl,hb1⟩)
 go_ret;exact⟨rfl,hb1⟩
theorem RdS.cell2{W:World}{g en pa:Nat}{ts:List Tok}(h:RdS W g ts en (pa+1)):W.cell? ⟨g,2,none⟩=some (.int .i64 ((pa:Int)+1)):=by
 obtain⟨p,n,c,h1,_⟩:=h.ex;exact h1.cell 2 rfl
theorem ztQ:(⟨#[110,117,108,108]⟩:ByteArray).toList=[110,117,108,108]:=by rw[ByteArray.toList_eq]
theorem ztR:(⟨#[116,114,117,101]⟩:ByteArray).toList=[116,114,117,101]:=by rw[ByteArray.toList_eq]
def zoZ(w:World)(g:Nat)(v:JV)(ts:List Tok)(en pa:Nat)(e:Ending)(w':World):Prop:=∃r:RV,e= .returned (RV.val r)/\TreeS w' (Fresh w w') v r/\RdS w' g ts en pa/\w.grownBy w' (some g)
theorem VAt.setK{W:World}{g:Nat}{r:RV}(h:VAt W g r)(k:Int):VAt (W.setCell ⟨g,0,none⟩ (.int .i64 k)) g {r with k:=k}:=by
 unfold VAt at h⊢;simp[World.setCell,yo,h]
theorem VAt.setN{W:World}{g:Nat}{r:RV}(h:VAt W g r)(k:Int):VAt (W.setCell ⟨g,1,none⟩ (.int .i64 k)) g {r with n:=k}:=by
 unfold VAt at h⊢;simp[World.setCell,yo,h]
theorem VAt.setLs{W:World}{g:Nat}{r:RV}(h:VAt W g r)(p:Option Addr)(n c:Nat):VAt (W.setCell ⟨g,3,none⟩ (.slice p n c)) g {r with pl:=p,nl:=n,cl:=c}:=by
 unfold VAt at h⊢;simp[World.setCell,yo,h]
theorem VAt.setMs{W:World}{g:Nat}{r:RV}(h:VAt W g r)(p:Option Addr)(n c:Nat):VAt (W.setCell ⟨g,4,none⟩ (.slice p n c)) g {r with pm:=p,nm:=n,cm:=c}:=by
 unfold VAt at h⊢;simp[World.setCell,yo,h]
theorem RdrAt.set2'{W:World}{g en pa:Nat}{v:Value}(h:RdrAt W g v en pa)(x:Int)(k:Nat)(hx:x=k):RdrAt (W.setCell ⟨g,2,none⟩ (.int .i64 x)) g v en k:=by subst hx;exact h.set2 k
def zio(t:Tok):Option JV:=if t.kind=4 then some (.mk 4 0 t.s [] [])else if t.kind=2 then if t.s=wNull then some (zrr 1 0)else if t.s=wTrue then some (zrr 2 1)else some (zrr 2 0)else if t.kind=3 then some (zrr 3 t.n)else none
theorem ztn{t:Tok}{v:JV}(h:zio t=some v):(t.kind=4/\v= .mk 4 0 t.s [] [])\/(t.kind=2/\t.s=wNull/\v= .mk 1 0 ⟨#[]⟩ [] [])\/(t.kind=2/\t.s=wTrue/\v= .mk 2 1 ⟨#[]⟩ [] [])\/(t.kind=2/\t.s≠wNull/\t.s≠wTrue/\v= .mk 2 0 ⟨#[]⟩ [] [])\/(t.kind=3/\v= .mk 3 t.n ⟨#[]⟩ [] []):=by
 unfold zio at h
 split at h
 ·cases h;exact .inl ⟨‹_›,rfl⟩
 ·split at h
  ·split at h
   ·cases h;exact .inr (.inl ⟨‹_›,‹_›,rfl⟩)
   ·split at h
    ·cases h;exact .inr (.inr (.inl ⟨‹_›,‹_›,rfl⟩))
    ·cases h;exact .inr (.inr (.inr (.inl ⟨‹_›,‹_›,‹_›,rfl⟩)))
  ·split at h
   ·cases h;exact .inr (.inr (.inr (.inr ⟨‹_›,rfl⟩)))
   ·cases h
theorem zts(w:World)(g en pa deep:Nat)(t:Tok)(ts:List Tok)(v:JV)(h:RdS w g ts en pa)(hd:deep<=16)(hp:pa<8192)(hv:zio t=some v):
 Calls ya 59 #[.pointer (some ⟨g,0,none⟩),t.val,.int .i64 deep] w (zoZ w g v ts en (pa+1)):=by
 have hgl:=h.lt;have hlc:=ztn hv;clear hv;have hg0:=((World.grownBy_alloc w t.obj none).trans (World.grownBy_alloc _ (.cells #[.int .i64 0,.int .i64 0,.string ⟨#[]⟩,.slice none 0 0,.slice none 0 0] 25) none)).trans (World.grownBy_alloc _ (.cells #[.int .i64 0,.int .i64 0,.string ⟨#[]⟩,.slice none 0 0,.slice none 0 0] 25) none);have hT0:TokAt (((w.alloc t.obj).alloc (.cells #[.int .i64 0,.int .i64 0,.string ⟨#[]⟩,.slice none 0 0,.slice none 0 0] 25)).alloc (.cells #[.int .i64 0,.int .i64 0,.string ⟨#[]⟩,.slice none 0 0,.slice none 0 0] 25)) w.heap.size t:=zb (by simp;omega) (zb (by simp) (za rfl))
 have hV1:VAt (((w.alloc t.obj).alloc (.cells #[.int .i64 0,.int .i64 0,.string ⟨#[]⟩,.slice none 0 0,.slice none 0 0] 25)).alloc (.cells #[.int .i64 0,.int .i64 0,.string ⟨#[]⟩,.slice none 0 0,.slice none 0 0] 25)) (w.heap.size+1) RV.zero:=zb (by simp) (za (by simp))
 have hV2:VAt (((w.alloc t.obj).alloc (.cells #[.int .i64 0,.int .i64 0,.string ⟨#[]⟩,.slice none 0 0,.slice none 0 0] 25)).alloc (.cells #[.int .i64 0,.int .i64 0,.string ⟨#[]⟩,.slice none 0 0,.slice none 0 0] 25)) (w.heap.size+1+1) RV.zero:=za (by simp)
 have hs0:(((w.alloc t.obj).alloc (.cells #[.int .i64 0,.int .i64 0,.string ⟨#[]⟩,.slice none 0 0,.slice none 0 0] 25)).alloc (.cells #[.int .i64 0,.int .i64 0,.string ⟨#[]⟩,.slice none 0 0,.slice none 0 0] 25)).heap.size=w.heap.size+3:=by simp
 have hR0:=h.kept hg0 (fun k e=>by cases e)
 obtain⟨tk,tn,tS,tp⟩:=t;dsimp only[Tok.val,Tok.obj]at*;clear h;have d1:¬(16<(deep:Int)):=by omega
 have d2:¬(16<deep):=by omega
 have d3:(deep:Int)<=16:=by omega
 go_enter Tryz.func59,Tryz.ntmps59
 go_upto_region 3 with fail
 obtain⟨W0,hW0⟩:∃W0,((w.alloc (.cells #[.int .i64 tk,.int .i64 tn,.string tS,.int .i64 tp] 116)).alloc (.cells #[.int .i64 0,.int .i64 0,.string ⟨#[]⟩,.slice none 0 0,.slice none 0 0] 25)).alloc (.cells #[.int .i64 0,.int .i64 0,.string ⟨#[]⟩,.slice none 0 0,.slice none 0 0] 25)=W0:=⟨_,rfl⟩;rw[hW0]at hg0 hT0 hV1 hV2 hs0 hR0
 try rw[hW0]
 clear hW0;have a0:=hT0.cell 0 rfl;have a1:=hT0.cell 1 rfl;have a2:=hT0.cell 2 rfl;obtain⟨v0,v1,v2,v3,v4⟩:=hV2.cells5;have y0:=hV2.frozen 0;have y1:=hV2.frozen 1;have y2:=hV2.frozen 2;have y3:=hV2.frozen 3;have y4:=hV2.frozen 4;dsimp only[RV.zero]at v0 v1 v2 v3 v4;have HG0:=yb hg0;have HV1:=yb hV1;have HV2:=yb hV2;have HR0:=yb hR0;have HS0:=yb hs0;clear hg0 hT0 hV1 hV2 hR0 hs0
 have KEY:∀(k n:Int) (s:ByteArray) (W1:World),VAt W1 (w.heap.size+1+1) ⟨k,n,s,none,0,0,none,0,0⟩->W0.grownBy W1 (some (w.heap.size+1+1))->(VAt W1 (w.heap.size+1) RV.zero/\RdS W1 g ts en pa/\w.grownBy W1 none):=by
  intro k n s W1 h1 h2;have hs:=HS0.out;exact⟨HV1.out.keep (h2.block _ HV1.out.lt (by simp)),HR0.out.kept h2 (fun k e=>by cases e;omega),HG0.out.new_row h2 (by omega)⟩
 have HK:=yb KEY;clear KEY
 have FIN:∀(k n:Int) (s:ByteArray) (W1:World),VAt W1 (w.heap.size+1) RV.zero->RdS W1 g ts en (pa+1)->w.grownBy W1 (some g)->zoZ w g (.mk k n s [] []) ts en (pa+1) (.returned (RV.val ⟨k,n,s,none,0,0,none,0,0⟩)) (((((W1.setCell ⟨(w.heap.size+1),0,none⟩ (.int .i64 (⟨k,n,s,none,0,0,none,0,0⟩:RV).k)).setCell ⟨(w.heap.size+1),1,none⟩ (.int .i64 (⟨k,n,s,none,0,0,none,0,0⟩:RV).n)).setCell ⟨(w.heap.size+1),2,none⟩ (.string (⟨k,n,s,none,0,0,none,0,0⟩:RV).s)).setCell ⟨(w.heap.size+1),3,none⟩ (.slice (⟨k,n,s,none,0,0,none,0,0⟩:RV).pl (⟨k,n,s,none,0,0,none,0,0⟩:RV).nl (⟨k,n,s,none,0,0,none,0,0⟩:RV).cl)).setCell ⟨(w.heap.size+1),4,none⟩ (.slice (⟨k,n,s,none,0,0,none,0,0⟩:RV).pm (⟨k,n,s,none,0,0,none,0,0⟩:RV).nm (⟨k,n,s,none,0,0,none,0,0⟩:RV).cm)):=by
  intro k n s W1 h1 h2 h3;have hg:=zeM W1 (w.heap.size+1) ⟨k,n,s,none,0,0,none,0,0⟩;exact⟨⟨k,n,s,none,0,0,none,0,0⟩,rfl,TreeS.leaf _ _ _ _ _,h2.kept hg (fun k e=>by cases e;omega),h3.new_row hg (by omega)⟩
 have HF:=yb FIN;clear FIN
 rcases hlc with⟨rfl,rfl⟩|⟨rfl,hw,rfl⟩|⟨rfl,hw,rfl⟩|⟨rfl,n1,n2,rfl⟩|⟨rfl,rfl⟩
 ·go_upto_region 17 with fail
  have hv:VAt (((((W0.setCell ⟨w.heap.size+1+1,0,none⟩ (.int .i64 4)).setCell ⟨w.heap.size+1+1,1,none⟩ (.int .i64 0)).setCell ⟨w.heap.size+1+1,2,none⟩ (.string tS)).setCell ⟨w.heap.size+1+1,3,none⟩ (.slice none 0 0)).setCell ⟨w.heap.size+1+1,4,none⟩ (.slice none 0 0)) (w.heap.size+1+1) ⟨4,0,tS,none,0,0,none,0,0⟩:=HV2.out.stored ⟨4,0,tS,none,0,0,none,0,0⟩;have hg:W0.grownBy (((((W0.setCell ⟨w.heap.size+1+1,0,none⟩ (.int .i64 4)).setCell ⟨w.heap.size+1+1,1,none⟩ (.int .i64 0)).setCell ⟨w.heap.size+1+1,2,none⟩ (.string tS)).setCell ⟨w.heap.size+1+1,3,none⟩ (.slice none 0 0)).setCell ⟨w.heap.size+1+1,4,none⟩ (.slice none 0 0)) (some (w.heap.size+1+1)):=zeM W0 _ ⟨4,0,tS,none,0,0,none,0,0⟩;obtain⟨W1,hW1⟩:∃W1,(((((W0.setCell ⟨w.heap.size+1+1,0,none⟩ (.int .i64 4)).setCell ⟨w.heap.size+1+1,1,none⟩ (.int .i64 0)).setCell ⟨w.heap.size+1+1,2,none⟩ (.string tS)).setCell ⟨w.heap.size+1+1,3,none⟩ (.slice none 0 0)).setCell ⟨w.heap.size+1+1,4,none⟩ (.slice none 0 0))=W1:=⟨_,rfl⟩;rw[hW1]at hv hg
  try rw[hW1]
  clear hW1;obtain⟨h1,h2,h3⟩:=HK.out 4 0 tS W1 hv hg;obtain⟨p,nn,c,hr,hrd⟩:=h2.ex;have c2:=hr.cell 2 rfl;have z2:=hr.frozen 2;have hgx:=zz W1 g 2 (.int .i64 ((pa:Int)+1));have hR3:RdS (W1.setCell ⟨g,2,none⟩ (.int .i64 ((pa:Int)+1))) g ts en (pa+1):=⟨p,nn,c,hr.set2' _ _ (by omega),hrd.below (zoL hgx (by have:=hr.lt;omega) (fun k e=>by cases e;exact yc _)) (yc _)⟩
  have hV3:=h1.keep (hgx.block _ h1.lt (by simp;omega))
  have hV4:=hv.keep (hgx.block _ hv.lt (by simp;omega))
  have hG3:=h3.keep_some hgx
  go_upto_region 20 with fail
  have c3:=hR3.cell2;obtain⟨W2,hW2⟩:∃W2,W1.setCell ⟨g,2,none⟩ (.int .i64 ((pa:Int)+1))=W2:=⟨_,rfl⟩;rw[hW2]at hR3 hV3 hV4 hG3 c3
  try rw[hW2]
  clear hW2 c2 z2 v0 v1 v2 v3 v4 y0 y1 y2 y3 y4 a0 a1 a2 hgx hr hrd h1 h2 h3 hv hg;obtain⟨v0,v1,v2,v3,v4⟩:=hV4.cells5;obtain⟨z0,z1,z2,z3,z4⟩:=hV3.cells5;have y0:=hV3.frozen 0;have y1:=hV3.frozen 1;have y2:=hV3.frozen 2;have y3:=hV3.frozen 3;have y4:=hV3.frozen 4;dsimp only[RV.zero]at v0 v1 v2 v3 v4 z0 z1 z2 z3 z4;have HR3:=yb hR3;have HV3:=yb hV3;have HG3:=yb hG3;clear hR3 hV3 hV4 hG3
  go_wp2_with fail
  exact bodyPost_ret (v:=RV.val ⟨4,0,tS,none,0,0,none,0,0⟩) (by simp[results,Tryz.results59,go_sem,z0,z1,z2,z3,z4]) rfl (HF.out 4 0 tS W2 HV3.out HR3.out HG3.out)
 ·obtain rfl:tS=⟨#[110,117,108,108]⟩:=hw
  go_upto_region 17 with fail
  have hv:VAt (W0.setCell ⟨w.heap.size+1+1,0,none⟩ (.int .i64 1)) (w.heap.size+1+1) ⟨1,0,⟨#[]⟩,none,0,0,none,0,0⟩:=HV2.out.setK 1;have hg:W0.grownBy (W0.setCell ⟨w.heap.size+1+1,0,none⟩ (.int .i64 1)) (some (w.heap.size+1+1)):=zz _ _ _ _;obtain⟨W1,hW1⟩:∃W1,(W0.setCell ⟨w.heap.size+1+1,0,none⟩ (.int .i64 1))=W1:=⟨_,rfl⟩;rw[hW1]at hv hg
  try rw[hW1]
  clear hW1;obtain⟨h1,h2,h3⟩:=HK.out 1 0 ⟨#[]⟩ W1 hv hg;obtain⟨p,nn,c,hr,hrd⟩:=h2.ex;have c2:=hr.cell 2 rfl;have z2:=hr.frozen 2;have hgx:=zz W1 g 2 (.int .i64 ((pa:Int)+1));have hR3:RdS (W1.setCell ⟨g,2,none⟩ (.int .i64 ((pa:Int)+1))) g ts en (pa+1):=⟨p,nn,c,hr.set2' _ _ (by omega),hrd.below (zoL hgx (by have:=hr.lt;omega) (fun k e=>by cases e;exact yc _)) (yc _)⟩
  have hV3:=h1.keep (hgx.block _ h1.lt (by simp;omega))
  have hV4:=hv.keep (hgx.block _ hv.lt (by simp;omega))
  have hG3:=h3.keep_some hgx
  go_upto_region 20 with fail
  have c3:=hR3.cell2;obtain⟨W2,hW2⟩:∃W2,W1.setCell ⟨g,2,none⟩ (.int .i64 ((pa:Int)+1))=W2:=⟨_,rfl⟩;rw[hW2]at hR3 hV3 hV4 hG3 c3
  try rw[hW2]
  clear hW2 c2 z2 v0 v1 v2 v3 v4 y0 y1 y2 y3 y4 a0 a1 a2 hgx hr hrd h1 h2 h3 hv hg;obtain⟨v0,v1,v2,v3,v4⟩:=hV4.cells5;obtain⟨z0,z1,z2,z3,z4⟩:=hV3.cells5;have y0:=hV3.frozen 0;have y1:=hV3.frozen 1;have y2:=hV3.frozen 2;have y3:=hV3.frozen 3;have y4:=hV3.frozen 4;dsimp only[RV.zero]at v0 v1 v2 v3 v4 z0 z1 z2 z3 z4;have HR3:=yb hR3;have HV3:=yb hV3;have HG3:=yb hG3;clear hR3 hV3 hV4 hG3
  go_wp2_with fail
  exact bodyPost_ret (v:=RV.val ⟨1,0,⟨#[]⟩,none,0,0,none,0,0⟩) (by simp[results,Tryz.results59,go_sem,z0,z1,z2,z3,z4]) rfl (HF.out 1 0 ⟨#[]⟩ W2 HV3.out HR3.out HG3.out)
 ·obtain rfl:tS=⟨#[116,114,117,101]⟩:=hw
  go_upto_region 17 with fail
  have hv:VAt ((W0.setCell ⟨w.heap.size+1+1,0,none⟩ (.int .i64 2)).setCell ⟨w.heap.size+1+1,1,none⟩ (.int .i64 1)) (w.heap.size+1+1) ⟨2,1,⟨#[]⟩,none,0,0,none,0,0⟩:=(HV2.out.setK 2).setN 1;have hg:W0.grownBy ((W0.setCell ⟨w.heap.size+1+1,0,none⟩ (.int .i64 2)).setCell ⟨w.heap.size+1+1,1,none⟩ (.int .i64 1)) (some (w.heap.size+1+1)):=(zz _ _ _ _).trans (zz _ _ _ _);obtain⟨W1,hW1⟩:∃W1,((W0.setCell ⟨w.heap.size+1+1,0,none⟩ (.int .i64 2)).setCell ⟨w.heap.size+1+1,1,none⟩ (.int .i64 1))=W1:=⟨_,rfl⟩;rw[hW1]at hv hg
  try rw[hW1]
  clear hW1;obtain⟨h1,h2,h3⟩:=HK.out 2 1 ⟨#[]⟩ W1 hv hg;obtain⟨p,nn,c,hr,hrd⟩:=h2.ex;have c2:=hr.cell 2 rfl;have z2:=hr.frozen 2;have hgx:=zz W1 g 2 (.int .i64 ((pa:Int)+1));have hR3:RdS (W1.setCell ⟨g,2,none⟩ (.int .i64 ((pa:Int)+1))) g ts en (pa+1):=⟨p,nn,c,hr.set2' _ _ (by omega),hrd.below (zoL hgx (by have:=hr.lt;omega) (fun k e=>by cases e;exact yc _)) (yc _)⟩
  have hV3:=h1.keep (hgx.block _ h1.lt (by simp;omega))
  have hV4:=hv.keep (hgx.block _ hv.lt (by simp;omega))
  have hG3:=h3.keep_some hgx
  go_upto_region 20 with fail
  have c3:=hR3.cell2;obtain⟨W2,hW2⟩:∃W2,W1.setCell ⟨g,2,none⟩ (.int .i64 ((pa:Int)+1))=W2:=⟨_,rfl⟩;rw[hW2]at hR3 hV3 hV4 hG3 c3
  try rw[hW2]
  clear hW2 c2 z2 v0 v1 v2 v3 v4 y0 y1 y2 y3 y4 a0 a1 a2 hgx hr hrd h1 h2 h3 hv hg;obtain⟨v0,v1,v2,v3,v4⟩:=hV4.cells5;obtain⟨z0,z1,z2,z3,z4⟩:=hV3.cells5;have y0:=hV3.frozen 0;have y1:=hV3.frozen 1;have y2:=hV3.frozen 2;have y3:=hV3.frozen 3;have y4:=hV3.frozen 4;dsimp only[RV.zero]at v0 v1 v2 v3 v4 z0 z1 z2 z3 z4;have HR3:=yb hR3;have HV3:=yb hV3;have HG3:=yb hG3;clear hR3 hV3 hV4 hG3
  go_wp2_with fail
  exact bodyPost_ret (v:=RV.val ⟨2,1,⟨#[]⟩,none,0,0,none,0,0⟩) (by simp[results,Tryz.results59,go_sem,z0,z1,z2,z3,z4]) rfl (HF.out 2 1 ⟨#[]⟩ W2 HV3.out HR3.out HG3.out)
 ·have q1:(tS.toList==[110,117,108,108])=false:=by rw[<-ztQ,zdk];exact decide_eq_false n1
  have q2:(tS.toList==[116,114,117,101])=false:=by rw[<-ztR,zdk];exact decide_eq_false n2
  clear n1 n2
  go_upto_region 17 with fail
  have hv:VAt (W0.setCell ⟨w.heap.size+1+1,0,none⟩ (.int .i64 2)) (w.heap.size+1+1) ⟨2,0,⟨#[]⟩,none,0,0,none,0,0⟩:=HV2.out.setK 2;have hg:W0.grownBy (W0.setCell ⟨w.heap.size+1+1,0,none⟩ (.int .i64 2)) (some (w.heap.size+1+1)):=zz _ _ _ _;obtain⟨W1,hW1⟩:∃W1,(W0.setCell ⟨w.heap.size+1+1,0,none⟩ (.int .i64 2))=W1:=⟨_,rfl⟩;rw[hW1]at hv hg
  try rw[hW1]
  clear hW1;obtain⟨h1,h2,h3⟩:=HK.out 2 0 ⟨#[]⟩ W1 hv hg;obtain⟨p,nn,c,hr,hrd⟩:=h2.ex;have c2:=hr.cell 2 rfl;have z2:=hr.frozen 2;have hgx:=zz W1 g 2 (.int .i64 ((pa:Int)+1));have hR3:RdS (W1.setCell ⟨g,2,none⟩ (.int .i64 ((pa:Int)+1))) g ts en (pa+1):=⟨p,nn,c,hr.set2' _ _ (by omega),hrd.below (zoL hgx (by have:=hr.lt;omega) (fun k e=>by cases e;exact yc _)) (yc _)⟩
  have hV3:=h1.keep (hgx.block _ h1.lt (by simp;omega))
  have hV4:=hv.keep (hgx.block _ hv.lt (by simp;omega))
  have hG3:=h3.keep_some hgx
  go_upto_region 20 with fail
  have c3:=hR3.cell2;obtain⟨W2,hW2⟩:∃W2,W1.setCell ⟨g,2,none⟩ (.int .i64 ((pa:Int)+1))=W2:=⟨_,rfl⟩;rw[hW2]at hR3 hV3 hV4 hG3 c3
  try rw[hW2]
  clear hW2 c2 z2 v0 v1 v2 v3 v4 y0 y1 y2 y3 y4 a0 a1 a2 hgx hr hrd h1 h2 h3 hv hg;obtain⟨v0,v1,v2,v3,v4⟩:=hV4.cells5;obtain⟨z0,z1,z2,z3,z4⟩:=hV3.cells5;have y0:=hV3.frozen 0;have y1:=hV3.frozen 1;have y2:=hV3.frozen 2;have y3:=hV3.frozen 3;have y4:=hV3.frozen 4;dsimp only[RV.zero]at v0 v1 v2 v3 v4 z0 z1 z2 z3 z4;have HR3:=yb hR3;have HV3:=yb hV3;have HG3:=yb hG3;clear hR3 hV3 hV4 hG3
  go_wp2_with fail
  exact bodyPost_ret (v:=RV.val ⟨2,0,⟨#[]⟩,none,0,0,none,0,0⟩) (by simp[results,Tryz.results59,go_sem,z0,z1,z2,z3,z4]) rfl (HF.out 2 0 ⟨#[]⟩ W2 HV3.out HR3.out HG3.out)
 ·go_upto_region 17 with fail
  have hv:VAt (((((W0.setCell ⟨w.heap.size+1+1,0,none⟩ (.int .i64 3)).setCell ⟨w.heap.size+1+1,1,none⟩ (.int .i64 tn)).setCell ⟨w.heap.size+1+1,2,none⟩ (.string ⟨#[]⟩)).setCell ⟨w.heap.size+1+1,3,none⟩ (.slice none 0 0)).setCell ⟨w.heap.size+1+1,4,none⟩ (.slice none 0 0)) (w.heap.size+1+1) ⟨3,tn,⟨#[]⟩,none,0,0,none,0,0⟩:=HV2.out.stored ⟨3,tn,⟨#[]⟩,none,0,0,none,0,0⟩;have hg:W0.grownBy (((((W0.setCell ⟨w.heap.size+1+1,0,none⟩ (.int .i64 3)).setCell ⟨w.heap.size+1+1,1,none⟩ (.int .i64 tn)).setCell ⟨w.heap.size+1+1,2,none⟩ (.string ⟨#[]⟩)).setCell ⟨w.heap.size+1+1,3,none⟩ (.slice none 0 0)).setCell ⟨w.heap.size+1+1,4,none⟩ (.slice none 0 0)) (some (w.heap.size+1+1)):=zeM W0 _ ⟨3,tn,⟨#[]⟩,none,0,0,none,0,0⟩;obtain⟨W1,hW1⟩:∃W1,(((((W0.setCell ⟨w.heap.size+1+1,0,none⟩ (.int .i64 3)).setCell ⟨w.heap.size+1+1,1,none⟩ (.int .i64 tn)).setCell ⟨w.heap.size+1+1,2,none⟩ (.string ⟨#[]⟩)).setCell ⟨w.heap.size+1+1,3,none⟩ (.slice none 0 0)).setCell ⟨w.heap.size+1+1,4,none⟩ (.slice none 0 0))=W1:=⟨_,rfl⟩;rw[hW1]at hv hg
  try rw[hW1]
  clear hW1;obtain⟨h1,h2,h3⟩:=HK.out 3 tn ⟨#[]⟩ W1 hv hg;obtain⟨p,nn,c,hr,hrd⟩:=h2.ex;have c2:=hr.cell 2 rfl;have z2:=hr.frozen 2;have hgx:=zz W1 g 2 (.int .i64 ((pa:Int)+1));have hR3:RdS (W1.setCell ⟨g,2,none⟩ (.int .i64 ((pa:Int)+1))) g ts en (pa+1):=⟨p,nn,c,hr.set2' _ _ (by omega),hrd.below (zoL hgx (by have:=hr.lt;omega) (fun k e=>by cases e;exact yc _)) (yc _)⟩
  have hV3:=h1.keep (hgx.block _ h1.lt (by simp;omega))
  have hV4:=hv.keep (hgx.block _ hv.lt (by simp;omega))
  have hG3:=h3.keep_some hgx
  go_upto_region 20 with fail
  have c3:=hR3.cell2;obtain⟨W2,hW2⟩:∃W2,W1.setCell ⟨g,2,none⟩ (.int .i64 ((pa:Int)+1))=W2:=⟨_,rfl⟩;rw[hW2]at hR3 hV3 hV4 hG3 c3
  try rw[hW2]
  clear hW2 c2 z2 v0 v1 v2 v3 v4 y0 y1 y2 y3 y4 a0 a1 a2 hgx hr hrd h1 h2 h3 hv hg;obtain⟨v0,v1,v2,v3,v4⟩:=hV4.cells5;obtain⟨z0,z1,z2,z3,z4⟩:=hV3.cells5;have y0:=hV3.frozen 0;have y1:=hV3.frozen 1;have y2:=hV3.frozen 2;have y3:=hV3.frozen 3;have y4:=hV3.frozen 4;dsimp only[RV.zero]at v0 v1 v2 v3 v4 z0 z1 z2 z3 z4;have HR3:=yb hR3;have HV3:=yb hV3;have HG3:=yb hG3;clear hR3 hV3 hV4 hG3
  go_wp2_with fail
  exact bodyPost_ret (v:=RV.val ⟨3,tn,⟨#[]⟩,none,0,0,none,0,0⟩) (by simp[results,Tryz.results59,go_sem,z0,z1,z2,z3,z4]) rfl (HF.out 3 tn ⟨#[]⟩ W2 HV3.out HR3.out HG3.out)
end
section
open Go Go.Shelf
def zs8:Go.Shelf.Ren:=⟨fun|137=>105|217=>166|266=>194|n=>n,fun|9=>9|5=>5|3=>3|n=>n,fun|n=>n⟩
theorem zuf:Go.Proofs.Lays.n137 ya zs8:={
 mixed:=by kernel_rfl
 f137:=Tryz.func105.trans (congrArg some (by kernel_rfl))
 f217:=Tryz.func166.trans (congrArg some (by kernel_rfl))
 f266:=Tryz.func194.trans (congrArg some (by kernel_rfl))
 t3:=Tryz.underlying3
 a3:=Tryz.isAgg3
 z3:=Tryz.sizeOf3
 v3:=Tryz.zeroValue3
 t5:=Tryz.underlying5
 a5:=Tryz.isAgg5
 z5:=Tryz.sizeOf5
 v5:=Tryz.zeroValue5
 t9:=Tryz.underlying9
 a9:=Tryz.isAgg9
 z9:=Tryz.sizeOf9
 v9:=Tryz.zeroValue9}
open Go.RowKit in
theorem strings_IndexByte(s:ByteArray)(c:Int)(w:World):
 Calls ya 105 #[.string s,.int .u8 c] w fun e w'=>e= .returned (.int .i64 (Lib.indexByte s.data.toList c.toNat.toUInt8))/\w'=w:=Any.strings_IndexByte zuf s c w
def ztm:Go.Shelf.Ren:=⟨fun|99=>199|206=>228|n=>n,fun|9=>9|4=>4|3=>3|n=>n,fun|n=>n⟩
theorem zuA:Go.Proofs.Lays.n99 ya ztm:={
 mixed:=by kernel_rfl
 f99:=Tryz.func199.trans (congrArg some (by kernel_rfl))
 f206:=Tryz.func228.trans (congrArg some (by kernel_rfl))
 t3:=Tryz.underlying3
 a3:=Tryz.isAgg3
 z3:=Tryz.sizeOf3
 v3:=Tryz.zeroValue3
 t4:=Tryz.underlying4
 a4:=Tryz.isAgg4
 z4:=Tryz.sizeOf4
 v4:=Tryz.zeroValue4
 t9:=Tryz.underlying9
 a9:=Tryz.isAgg9
 z9:=Tryz.sizeOf9
 v9:=Tryz.zeroValue9}
open Go.RowKit Go.Lib in
theorem strings_HasPrefix(s p:ByteArray)(w:World):
 Calls ya 199 #[.string s,.string p] w fun e w'=>e= .returned (.bool (Lib.hasPrefix s.data.toList p.data.toList))/\w'=w:=Any.strings_HasPrefix zuA s p w
end
section
open Go
section
variable {P:Program} {ops:Array Oper} {md:Region.Mode} {S C:World->Prop}
theorem zrH{Q:Act->Prop}{Q':Exit->Act->World->Prop}(hS:∀w,C w->S w)(hQ:∀a w,C w->Q a->Q' .normal a w):∀(fuel:Nat) (listed:Array Bool) (a:Act) (w:World),C w->
 wpAnyQ P md ops C Q fuel listed a->wpAnyH P md ops Q' S fuel listed a w
 |0,_,_,_,hw,h=>⟨h.1,hQ _ _ hw h.2⟩
 |fuel+1,_,_,_,hw,h=>⟨fun h0=>hQ _ _ hw (h.1 h0),fun i hi=>wpOp_of_qOp hw (fun a' w' hw' h'=>⟨hS _ hw',zrH hS hQ fuel _ a' w' hw' h'⟩) (h.2 i hi)⟩
end
section
variable {P:Program} {ops:Array Oper} {md:Region.Mode} {S C:World->Prop}
theorem zs4{Q':Exit->Act->World->Prop}{l:List Oper}{listed:Array Bool}{a:Act}{w:World}{fuel:Nat}(k:Nat)(hf:fuel=(l.drop k).length)(hw:C w)(hS:∀w,C w->S w)(hs:Region.noSelect l.toArray=true)(hB:Region.lexFrom md l.toArray (l.drop k).length k listed=true)
 (h:wpQuiet P l.toArray C (fun a'=>∀w',C w'->Q' .normal a' w') (l.drop k) a):wpAnyH P md l.toArray Q' S fuel listed a w:=by
 subst hf;refine zrH (C:=C) (Q:=fun a'=>∀w',C w'->Q' .normal a' w') hS (fun a w hw h=>h w hw) _ _ _ _ hw (wpAnyQ_lex hs (l.drop k) k listed a (fun j=> ?_) hB h)
 simp[List.getElem?_drop]
variable {Q:Act->Prop} {a:Act} {o:Oper} {rest:List Oper}
theorem ztM(c:Bool)(v:Value)(hw:Region.wanted o (yielded ops a.tmps)=c)(hq:c=true->∀w,C w->o.quietAt P a C w v)(h:wpQuiet P ops C Q rest (a.put o.dst (bif c then v else undef))):wpQuiet P ops C Q (o::rest) a:=by
 unfold wpQuiet;cases c with
 |false=>rw[if_neg (by rw[hw];decide)];exact h
 |true=>rw[if_pos hw];exact⟨v,hq rfl,h⟩
theorem ztL(v:Value)(hw:Region.wanted o (yielded ops a.tmps)=true)(hq:∀w,C w->o.quietAt P a C w v)(h:wpQuiet P ops C Q rest (a.put o.dst v)):wpQuiet P ops C Q (o::rest) a:=by
 unfold wpQuiet;rw[if_pos hw];exact⟨v,hq,h⟩
theorem zs9{w:World}{v:Value}(h:(execOp a.eval o).run P w= .ok (.value v) w):o.quietAt P a C w v:=by unfold Oper.quietAt;rw[h];exact⟨rfl,rfl⟩
theorem zs1{w:World}{v:Value}(f:FuncId)(args:Array Value)(h:(execOp a.eval o).run P w= .ok (.enter f args) w)(hc:Calls P f args w fun e w''=>e= .returned v/\C w''):o.quietAt P a C w v:=by unfold Oper.quietAt;rw[h];exact⟨rfl,hc⟩
theorem zbX{A:Act}{w:World}{T:TypeId}{x:Operand}{p v:Value}(ho:o.op= .load T x)(hx:A.eval x=p)(h:(Instr.loadAt T p).run P w= .ok v w):(execOp A.eval o).run P w= .ok (.value v) w:=by
 unfold execOp;rw[ho];simp only[Sem.run_bind,Sem.run_pure,Result.andThen_ok,hx,h]
theorem zrC{ρ:Operand->Value}{w:World}{f:FuncId}{x:Operand}{T:Array TypeId}{u:Value}(ho:o.op= .call {callee:= .value (.func f),args:=#[x],argTypes:=T})(hf:ρ (.func f)= .func (.func f) #[] #[])(hx:ρ x=u)(hc:(callFunc f #[u]).run P w= .ok (.enter f #[u]) w):(execOp ρ o).run P w= .ok (.enter f #[u]) w:=by
 unfold execOp;rw[ho];simp[go_sem,hx,hf]<;>exact hc
theorem ztH{ρ:Operand->Value}{w:World}{f:FuncId}{T:Array TypeId}(ho:o.op= .call {callee:= .value (.func f),args:=#[],argTypes:=T})(hf:ρ (.func f)= .func (.func f) #[] #[])(hc:(callFunc f #[]).run P w= .ok (.enter f #[]) w):(execOp ρ o).run P w= .ok (.enter f #[]) w:=by
 unfold execOp;rw[ho];simp[go_sem,hf]<;>exact hc
theorem zdm{ρ:Operand->Value}{w:World}{f:FuncId}{x y:Operand}{T:Array TypeId}{u v:Value}(ho:o.op= .call {callee:= .value (.func f),args:=#[x,y],argTypes:=T})(hf:ρ (.func f)= .func (.func f) #[] #[])(hx:ρ x=u)(hy:ρ y=v)(hc:(callFunc f #[u,v]).run P w= .ok (.enter f #[u,v]) w):(execOp ρ o).run P w= .ok (.enter f #[u,v]) w:=by
 unfold execOp;rw[ho];simp[go_sem,hx,hy,hf]<;>exact hc
end
end
end Go.Proofs.YtemofofnkchmeaaGreatDoor
