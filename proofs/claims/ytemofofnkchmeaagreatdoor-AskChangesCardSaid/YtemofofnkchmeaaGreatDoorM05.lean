import Derived.Test.YtemofofnkchmeaaGreatDoorM00
import Derived.Test.YtemofofnkchmeaaGreatDoorL36
import Derived.Test.YtemofofnkchmeaaGreatDoorM03
import Derived.Test.YtemofofnkchmeaaGreatDoorL35
import Derived.Test.YtemofofnkchmeaaGreatDoorL34
import Derived.Test.YtemofofnkchmeaaGreatDoorL24
import Derived.Test.YtemofofnkchmeaaGreatDoorL07
import Derived.Test.YtemofofnkchmeaaGreatDoorL04
import Derived.Test.YtemofofnkchmeaaGreatDoorProg
import Derived.WalkKit
import Derived.WalkSpells
import Derived.Lib.Hide
import Derived.Deep.RegionHeld3
import Derived.Deep.DeepCutAuto
import Derived.Deep.CutRange
import Derived.BigQuiet
import Derived.Deep.QuietTactic
import Derived.Outline
import Derived.OpenShut
import Derived.Test.YtemofofnkchmeaaGreatDoorL10
import Derived.Test.YtemofofnkchmeaaGreatDoorL20
import Derived.Test.YtemofofnkchmeaaGreatDoorL15
import Derived.Laws.CopyRow
import Derived.Laws.CopyOwn
import Derived.Shelf.Spec.SlicesInsertGrow
import Derived.ProofKit
import Derived.Below
import Derived.Test.YtemofofnkchmeaaGreatDoorL05
import Derived.Test.YtemofofnkchmeaaGreatDoorL01
import Derived.Deep.Draws
import Derived.Laws.AppendOwnNone
import Derived.Deep.AppendLies
import Derived.StillTactics
import Derived.Deep.RegionLaw
import Derived.ArgAppend
import Derived.Test.YtemofofnkchmeaaGreatDoorL16
import Derived.Test.YtemofofnkchmeaaGreatDoorL13
import Derived.Maps.AppendAt
import Derived.RegionTactic
import Derived.OwnWalk
import Derived.Lib.AppendStr
import Derived.Lib.BufferRead
import Derived.Laws.IdiomStrings
import Derived.WalkLawsBesides
import Derived.Test.YtemofofnkchmeaaGreatDoorL02
import Derived.Test.YtemofofnkchmeaaGreatDoorL11
import Derived.Test.YtemofofnkchmeaaGreatDoorL09
import Derived.Lib.Bytealg
import Derived.Test.YtemofofnkchmeaaGreatDoorL00
import Derived.Shelf.LaysM
import Derived.Shelf.Small.Strs
import Derived.Shelf.Strconv.Clone
import Derived.Shelf.Strings.Count
import Derived.Shelf.Strings.OnBuilder
import Derived.Shelf.Strings.Repeat
import Derived.Shelf.Strings.Trim
import Derived.Shelf.Strings.SlTrimAscii
import Derived.Shelf.Slices.Turned
import Derived.Test.YtemofofnkchmeaaGreatDoorL29
import Derived.Test.YtemofofnkchmeaaGreatDoorL28
import Derived.Test.YtemofofnkchmeaaGreatDoorL27
import Derived.Test.YtemofofnkchmeaaGreatDoorL26
import Derived.Shelf.SlSortCmp.KitK
import Derived.Sort.WalkB2
import Derived.Sort.WalkB12
import Derived.Deep.LoopGhost
import Derived.Test.YtemofofnkchmeaaGreatDoorL12
import Derived.Maps.OwnSet
import Derived.StringKeys
import Derived.Deep.CutBlock
import Derived.Test.YtemofofnkchmeaaGreatDoorL33
import Derived.Test.YtemofofnkchmeaaGreatDoorL31
import Derived.Test.YtemofofnkchmeaaGreatDoorL18
import Derived.Test.YtemofofnkchmeaaGreatDoorL14
import Derived.Lib.IndexMore
import Derived.RangeFuncNested
import Derived.RangeFuncBound
import Derived.RangeFuncCalls
import Derived.RangeFuncLeaves
import Derived.RangeFuncBox
import Derived.Shelf.Abstract
import Derived.OwnWalkIn
import Derived.TacticsInMore
import Derived.LoopNIn
import Derived.LoopIn
import Derived.Sort.LoopGhostIn
import Derived.Sort.CutIn
import Derived.Stop.RegionWithIn
import Derived.Maps.OwnIn
import Derived.Shelf.Strings.Search3
import Derived.Test.YtemofofnkchmeaaGreatDoorL30
import Derived.Test.YtemofofnkchmeaaGreatDoorL19
import Derived.Test.YtemofofnkchmeaaGreatDoorL22
import Derived.Test.YtemofofnkchmeaaGreatDoorL06
import Derived.Sort.LotA
import Derived.Shelf.SlSortCmp.Insertion
import Derived.Shelf.SlSortCmp.QuietGrown
import Derived.Deep.Cut
import Derived.Sort.OwnSorted
import Derived.Lib.Strings
import Derived.Test.YtemofofnkchmeaaGreatDoorL21
import Derived.Sort.Walk0
import Derived.Test.YtemofofnkchmeaaGreatDoorL23
import Derived.Shelf.SlSortCmp.NoneTotal
import Derived.Shelf.SlSortCmp.WholeK
import Derived.Shelf.SlSortCmp.Whole1
import Derived.StillTailTactics
import Derived.Test.YtemofofnkchmeaaGreatDoorL25
import Derived.IntWalk
import Derived.Test.YtemofofnkchmeaaGreatDoorL37
import Derived.Test.YtemofofnkchmeaaGreatDoorL08
import Derived.Shelf.Strings.Prefix
import Derived.Defers
import Derived.Recover
set_option linter.unusedSimpArgs false
set_option linter.unusedVariables false
set_option maxRecDepth 200000
set_option maxHeartbeats 8000000
namespace Go.Proofs.YtemofofnkchmeaaGreatDoor
open _root_.Go.RowKit.Below renaming refl->yl
open _root_.Int renaming natCast_nonneg->yu
open _root_.Go.Lib renaming hid->yd
open _root_.List renaming any_eq_true->yj,append_assoc->yC,filter_cons_of_neg->yk,filter_cons_of_pos->yr,filter_sublist->yt,foldl_append->yI,getElem?_eq_getElem->ya,getElem?_eq_some_iff->yc,getElem?_map->yD,length_append->yn,length_cons->yw,length_drop->yx,length_singleton->yi,length_take->yq,mem_append->yg,mem_cons->ym,mem_filter->yv,mem_map->yG,mem_of_getElem?->yh,mem_of_mem_drop->yE,nil_append->yF,pairwise_cons->yB,pairwise_map->yJ,take_add_one->yp,take_length->yL
open _root_.Nat renaming add_zero->yU,le_refl->yf,le_trans->yP,zero_le->yT
open _root_.Go.Proofs.Tryz renaming prog->yb
section
open Go Go.RowKit
def zgz(f so:JV)(os:List (ByteArray×JV)):List (ByteArray×JV):=(zfd (zbB so) (zd8 f os)).map (fun i=>(zd8 f os).getD i dO)
theorem zs7(f so:JV)(os:List (ByteArray×JV)):zcv f so os=(zgz f so os).map (·.1):=by
 unfold zcv zgz;rw[List.map_map]
 rfl
theorem zhv(f so:JV)(os:List (ByteArray×JV)):(zgz f so os).Perm (zd8 f os):=by
 have h:=(zeZ (zbB so) (zd8 f os)).map (fun i=>(zd8 f os).getD i dO)
 have e:(List.range (zd8 f os).length).map (fun i=>(zd8 f os).getD i dO)=zd8 f os:=by
  have:=zmz (fun p:ByteArray×JV=>p) dO (zd8 f os)
  simpa using this
 rw[e]at h;exact h
def zsj(cs:List CmpD)(x y:ByteArray×JV):Prop:=zdn cs x y=true/\zdn cs y x=false
theorem ztA{cs:List CmpD}{os:List (ByteArray×JV)}(hu:(os.map (·.1)).Nodup){x y:Nat}(hx:x<os.length)(hy:y<os.length)(hne:x≠y)(h:ltQ cs os y x=false):zsj cs (os.getD x dO) (os.getD y dO):=by
 have hn:(os.getD x dO).1≠(os.getD y dO).1:=by
  intro e;rw[List.getD_eq_getElem?_getD,List.getD_eq_getElem?_getD,ya hx,ya hy]at e;simp only[Option.getD_some]at e;have e1:(os.map (·.1))[x]? =some (os[x]).1:=by rw[yD,ya hx];rfl
  have e2:(os.map (·.1))[y]? =some (os[x]).1:=by rw[yD,ya hy,e];rfl
  exact hne (zpx hu e1 e2)
 have h0:zdG cs (os.getD y dO) (os.getD x dO)≠0:=fun e=>hn (zsC cs e).symm
 have ha:=(zis cs).anti (os.getD x dO) (os.getD y dO);unfold ltQ zjQ at h;rw[if_pos h0]at h;have h2:=of_decide_eq_false h;unfold zsj zdn;exact⟨decide_eq_true (by omega),decide_eq_false h2⟩
theorem zsL{f:JV}{os:List (ByteArray×JV)}(h:(os.map (·.1)).Nodup):((zd8 f os).map (·.1)).Nodup:=(yt.map _).nodup h
theorem zse{f so:JV}{os:List (ByteArray×JV)}(h:(os.map (·.1)).Nodup):(zgz f so os).Pairwise (zsj (zbB so)):=by
 unfold zgz;rw[yJ];have hn:(zfd (zbB so) (zd8 f os)).Nodup:=(zeZ _ _).nodup_iff.2 List.nodup_range;refine((zla (zbB so) (zd8 f os)).and hn).imp_of_mem ?_;intro a b ha hb h1;have ha':a<(zd8 f os).length:=by simpa using(zeZ _ _).mem_iff.1 ha
 have hb':b<(zd8 f os).length:=by simpa using(zeZ _ _).mem_iff.1 hb
 exact ztA (zsL h) ha' hb' h1.2 h1.1
theorem zrt{cs:List CmpD}:∀{a b:List (ByteArray×JV)},a.Perm b->a.Pairwise (zsj cs)->b.Pairwise (zsj cs)->a=b
 |[],b,h,_,_=>h.nil_eq
 |x::a,[],h,_,_=>absurd h.length_eq (by simp)
 | x :: a, y :: b, h, ha, hb => by
   obtain⟨ha1,ha2⟩:=yB.1 ha;obtain⟨hb1,hb2⟩:=yB.1 hb
   have hxy:x=y:=by
    rcases ym.1 (h.mem_iff.1 (List.mem_cons_self ..))with e|e
    ·exact e
    ·rcases ym.1 (h.symm.mem_iff.1 (List.mem_cons_self ..))with e2|e2
     ·exact e2.symm
     ·have h1:=(hb1 x e).1;have h2:=(ha1 y e2).2;rw[h1]at h2;cases h2
   subst hxy;rw[zrt (List.Perm.cons_inv h) ha2 hb2]
theorem zss{f so:JV}{os:List (ByteArray×JV)}{p:ByteArray×JV}:p∈zgz f so os↔p∈os/\zcn f p.2=true:=by
 rw[(zhv f so os).mem_iff];unfold zd8;rw[yv]
theorem zgd{os:List (ByteArray×JV)}(h:(os.map (·.1)).Nodup):os.Nodup:=by
 rw[List.Nodup,yJ]at h;exact h.imp fun{a b} hab e=>hab (by rw[e])
theorem ztk{f so:JV}{os ps:List (ByteArray×JV)}(ho:(os.map (·.1)).Nodup)(hp:(ps.map (·.1)).Nodup)(T:ByteArray->Bool)(h:∀p:ByteArray×JV,T p.1=false->(p∈os↔p∈ps)):
 (zcv f so os).filter (fun s=> !T s)=(zcv f so ps).filter (fun s=> !T s):=by
 rw[zs7,zs7,List.filter_map,List.filter_map]
 congr 1
 have n1:(zgz f so os).Nodup:=(zhv f so os).nodup_iff.2 (yt.nodup (zgd ho));have n2:(zgz f so ps).Nodup:=(zhv f so ps).nodup_iff.2 (yt.nodup (zgd hp));refine zrt ?_ ((zse ho).sublist yt) ((zse hp).sublist yt);rw[List.perm_ext_iff_of_nodup (yt.nodup n1) (yt.nodup n2)];intro p;rw[yv,yv,zss,zss];simp only[Function.comp_apply,Bool.not_eq_true']
 constructor
 ·rintro⟨⟨h1,h2⟩,h3⟩;exact⟨⟨(h p h3).1 h1,h2⟩,h3⟩
 ·rintro⟨⟨h1,h2⟩,h3⟩;exact⟨⟨(h p h3).2 h1,h2⟩,h3⟩
def zp1(out:List ByteArray)(y:ByteArray×Int):List ByteArray:=out.take y.2.toNat++y.1::out.drop y.2.toNat
def apL(out:List ByteArray)(ys:List (ByteArray×Int)):List ByteArray:=ys.foldl zp1 out
theorem ztc{out:List ByteArray}{ys:List (ByteArray×Int)}{j:Nat}{y:ByteArray×Int}(h:ys[j]? =some y):apL out (ys.take (j+1))=zp1 (apL out (ys.take j)) y:=by
 unfold apL;rw[yp,h,yI]
 rfl
theorem ztq(ys:List (ByteArray×Int)):∀out:List ByteArray,(apL out ys).length=out.length+ys.length:=by
 induction ys with
 |nil=>intro out;rfl
 | cons y r ih =>
   intro out
   show(apL (zp1 out y) r).length=_
   rw[ih,yw];unfold zp1;rw[yn,yw,yq,yx];omega
def zfj(T:ByteArray->Bool)(now:List ByteArray)(k:Nat):List ByteArray:=now.take k++(now.drop k).filter (fun s=> !T s)
theorem zth(T:ByteArray->Bool)(now:List ByteArray):zfj T now now.length=now:=by
 unfold zfj;rw[yL,List.drop_length];simp
theorem zs1{T:ByteArray->Bool}{now:List ByteArray}{k:Nat}{x:ByteArray}(h:now[k]? =some x):zfj T now (k+1)=if T x then zp1 (zfj T now k) (x,(k:Int))else zfj T now k:=by
 obtain⟨hk,rfl⟩:=yc.1 h;unfold zfj;rw[List.drop_eq_getElem_cons hk,yp,ya hk];have hl:(now.take k).length=k:=by rw[yq];omega
 by_cases ht:T now[k]=true
 ·rw[if_pos ht,yk (by simp[ht])]
  unfold zp1
  show _=List.take k _++_::List.drop k _
  rw[List.take_left' hl,List.drop_left' hl,yC]
  rfl
 ·have hf:T now[k]=false:=by simpa using ht
  rw[if_neg ht,yr (by simp[hf]),yC]
  rfl
theorem zsl{now:List ByteArray}{ys:List Pa}(h:(ys.map (·.id)).Nodup){T:ByteArray->Bool}(hT:∀s∈now,T s=true↔∃p∈ys,p.isb=true/\p.id=s){i:Nat}{x:ByteArray}(hx:now[i]? =some x):zin now ys i=if T x then[(x,(i:Int))]else[]:=by
 have hm:=hT x (yh hx)
 have hl:∀y,y∈zin now ys i↔T x=true/\y=(x,(i:Int)):=fun y=>by
  rw[mem_addI]
  constructor
  ·rintro⟨p,h1,h2,h3,h4,h5⟩;rw[hx]at h5;have h6:x=p.id:=by simpa using h5
   exact⟨hm.2 ⟨p,h1,h2,h6.symm⟩,by obtain⟨a,b⟩:=y;simp only at h3 h4;rw[h3,h4,h6]⟩
  ·rintro⟨h1,rfl⟩;obtain⟨p,h2,h3,h4⟩:=hm.1 h1;exact⟨p,h2,h3,h4.symm,rfl,by rw[hx,h4]⟩
 have hn:(zin now ys i).length<=1:=by
  have hp:(zin now ys i).Pairwise (fun a b=>False):=by
   unfold zin;rw[yJ];rw[List.Nodup,yJ]at h;refine List.Pairwise.imp_of_mem (fun{a b} ha hb hne=> ?_) (h.filter _)
   rw[yv]at ha hb;simp only[Bool.and_eq_true,decide_eq_true_eq]at ha hb;have:=ha.2.1.symm.trans hb.2.1;exact absurd (by simpa using this) hne
  match hz:zin now ys i,hp with
  |[],_=>simp
  |[a],_=>simp
  |a::b::r,hp=>exact absurd ((yB.1 hp).1 b (by simp)) (by simp)
 by_cases ht:T x=true
 ·rw[if_pos ht]
  match hz:zin now ys i with
  |[]=>have:=(hl (x,(i:Int))).2 ⟨ht,rfl⟩;rw[hz]at this;simp at this
  |[a]=>have:=((hl a).1 (by rw[hz];simp)).2;rw[this]
  |a::b::r=>rw[hz]at hn;simp at hn
 ·rw[if_neg ht]
  match hz:zin now ys i with
  |[]=>rfl
  |a::r=>exact absurd ((hl a).1 (by rw[hz];simp)).1 ht
theorem zoZ{now:List ByteArray}{ys:List Pa}(h:(ys.map (·.id)).Nodup){T:ByteArray->Bool}(hT:∀s∈now,T s=true↔∃p∈ys,p.isb=true/\p.id=s):∀n,n<=now.length->apL (now.filter (fun s=> !T s)) (zcs now ys n)=zfj T now n
 | 0, _ => by
   unfold zfj;rw[List.take_zero,List.drop_zero,yF]
   rfl
 | n + 1, hn => by
   have ih:=zoZ h hT n (by omega)
   have hx:now[n]? =some now[n]:=ya (by omega)
   rw[zm5,zs1 hx,zsl h hT hx];unfold apL at ih⊢;rw[yI,ih];by_cases ht:T now[n]=true
   ·rw[if_pos ht,if_pos ht];rfl
   ·rw[if_neg ht,if_neg ht];rfl
theorem zsA{now:List ByteArray}{ys:List Pa}(h:(ys.map (·.id)).Nodup){T:ByteArray->Bool}(hT:∀s∈now,T s=true↔∃p∈ys,p.isb=true/\p.id=s):∀n,n<=now.length->∀(j:Nat) y,(zcs now ys n)[j]? =some y->∃i:Nat,i<n/\y.2=(i:Int)/\(zcs now ys n).take j=zcs now ys i
 | 0, _, j, y, hy => by
   have:zcs now ys 0=[]:=rfl;rw[this]at hy;simp at hy
 | n + 1, hn, j, y, hy => by
   have hx:now[n]? =some now[n]:=ya (by omega)
   rw[zm5]at hy⊢;by_cases hj:j<(zcs now ys n).length
   ·rw[List.getElem?_append_left hj]at hy;obtain⟨i,h1,h2,h3⟩:=zsA h hT n (by omega) j y hy
    exact⟨i,by omega,h2,by rw[List.take_append_of_le_length (by omega),h3]⟩
   ·rw[List.getElem?_append_right (by omega),zsl h hT hx]at hy
    by_cases ht:T now[n]=true
    ·rw[if_pos ht]at hy
     have hj0:j-(zcs now ys n).length=0:=by
      have:=(yc.1 hy).1;simp at this;omega
     rw[hj0]at hy;simp only[List.getElem?_cons_zero,Option.some.injEq]at hy;subst hy;refine⟨n,by omega,rfl,?_⟩
     rw[List.take_left' (by omega)]
    ·rw[if_neg ht]at hy;simp at hy
theorem zsG{now:List ByteArray}{ys:List Pa}(h:(ys.map (·.id)).Nodup){T:ByteArray->Bool}(hT:∀s∈now,T s=true↔∃p∈ys,p.isb=true/\p.id=s){j:Nat}{y:ByteArray×Int}(hy:(zcs now ys now.length)[j]? =some y):
 0<=y.2/\y.2<=((apL (now.filter (fun s=> !T s)) ((zcs now ys now.length).take j)).length:Int):=by
 obtain⟨i,h1,h2,h3⟩:=zsA h hT now.length (yf _) j y hy;rw[h3,zoZ h hT i (by omega),h2]
 unfold zfj;rw[yn,yq];omega
def zrr(ys:List Pa)(s:ByteArray):Bool:=ys.any (fun p=>decide (p.id=s))
theorem tchB_iff{ys:List Pa}{s:ByteArray}:zrr ys s=true↔∃p∈ys,p.id=s:=by
 unfold zrr;rw[yj]
 constructor
 ·rintro⟨p,h1,h2⟩;exact⟨p,h1,of_decide_eq_true h2⟩
 ·rintro⟨p,h1,h2⟩;exact⟨p,h1,by simp[h2]⟩
theorem zsI{b now:BoxD}(h:PlayI b now)(hb:ze6 b.objs)(hf:now.floor<=b.seq){ys:List Pa}(hy:IsStable cfP (zU b.seq now.trail) ys)(f so:JV):
 let N:=zcv f so now.objs
 let out:=(zcv f so b.objs).filter (fun s=> !zbE (zb2 (zbv ys)) s)
 apL out (zcs N ys N.length)=N/\∀(j:Nat) y,(zcs N ys N.length)[j]? =some y->0<=y.2/\y.2<=((apL out ((zcs N ys N.length).take j)).length:Int):=by
 intro N out;have hr:=h.right.2.2.2.2.1;have hn:=rise_iff.1 h.right.1;have hnd:(ys.map (·.id)).Nodup:=zkr hy
 have nb:(b.objs.map (·.1)).Nodup:=zko (rise_iff.2 hb)
 have nn:(now.objs.map (·.1)).Nodup:=zko h.right.1
 rcases h.low with h1|⟨h1,h2⟩
 ·omega
 ·have htold:∀p∈ys,p.isb=(look now.objs p.id).isSome:=fun p hp=>by
   have hp:=hy.perm.mem_iff.1 hp;obtain⟨e,he,hi⟩:=yj.1 (zdF hp);have hi:e.id=p.id:=by simpa using hi
   rw[ztm hr hp,<-hi,zf3 h.right he]
  have hT:∀s∈N,zrr ys s=true↔∃p∈ys,p.isb=true/\p.id=s:=fun s hs=>by
   rw[tchB_iff]
   constructor
   ·rintro⟨p,hp,rfl⟩;refine⟨p,hp,?_,rfl⟩;obtain⟨x,hx,_,h4⟩:=mem_qryL.1 hs;rw[htold p hp,<-h4,(zbM hn x).1 hx]
    rfl
   ·rintro⟨p,hp,_,h3⟩;exact⟨p,hp,h3⟩
  have hsame:∀p:ByteArray×JV,zrr ys p.1=false->(p∈b.objs↔p∈now.objs):=fun p hp=>by
   rw[zbM hb,zbM hn]
   rcases h1 p.1 with h3|⟨e,he,h3,h4⟩
   ·rw[h3]
   ·obtain⟨q,hq,h5⟩:=ztl hr he h4;have:zrr ys p.1=true:=tchB_iff.2 ⟨q,hy.perm.mem_iff.2 hq,by rw[h5,h3]⟩
    rw[this]at hp;cases hp
  have hout:out=N.filter (fun s=> !zrr ys s):=by
   rw[<-ztk nb nn (zrr ys) hsame];refine List.filter_congr fun s hs=> ?_
   congr 1
   rw[Bool.eq_iff_iff,hasL_iff,tchB_iff]
   constructor
   ·intro hm;rw[(zh8 _).mem_iff]at hm;unfold zbv at hm;rw[yG]at hm;obtain⟨p,hp,h3⟩:=hm;rw[yv]at hp;exact⟨p,hp.1,h3⟩
   ·rintro⟨p,hp,h3⟩;rw[(zh8 _).mem_iff];unfold zbv;refine yG.2 ⟨p,yv.2 ⟨hp,?_⟩,h3⟩;obtain⟨x,hx,_,h4⟩:=mem_qryL.1 hs;have hl:=(zbM hb x).1 hx;obtain⟨i,y,k,e,hy',g1,g2,hf',g3,g4,g5,rfl⟩:=(zcC hr).1 (hy.perm.mem_iff.1 hp);dsimp only at h3⊢;rw[bne_iff_ne];intro hw;have h7:=h2 e (yh hf') g4 hw;rw[g3,h3,<-h4,hl]at h7;cases h7
  rw[hout];refine⟨?_,fun j y hj=>zsG hnd hT hj⟩
  rw[zoZ hnd hT _ (yf _),zth]
end
section
open Go Go.RowKit Go.OpenShut
theorem zsW{p:ByteArray->Bool}{l:List ByteArray}{k:Nat}{x:ByteArray}(h:l[k]? =some x):(l.take (k+1)).filter p=(l.take k).filter p++(if p x then[x]else[]):=by
 rw[yp,h,List.filter_append]
 congr 1
 show List.filter p [x]=_
 by_cases hp:p x=true
 ·rw[yr hp,if_pos hp];rfl
 ·rw[yk hp,if_neg hp];rfl
theorem zsx(l:List ByteArray)(v:Value)(x:DlD)(r:RD)(w:World)(hv:Rd w w.heap.size zg 1 v l)(hd:RdD w w.heap.size x r)(hl:l.length<=1000)(ha:x.add.length<=1000)(hr:x.rem.length<=1000)
 (hok:∀(j:Nat) y,x.add[j]? =some y->0<=y.2/\y.2<=((apL (l.filter (fun s=> !zbE x.rem s)) (x.add.take j)).length:Int)):
 Calls yb 24 #[v,r.val] w fun e w'=>∃u,e= .returned (.tuple #[u,.bool true])/\Own w' w.heap.size 9 zg 1 u (apL (l.filter (fun s=> !zbE x.rem s)) x.add)/\Below w.heap.size w w':=by
 obtain⟨pv,cv,rfl,_,_⟩:=zfq hv;obtain⟨nv,hnv⟩:∃n,l.length=n:=⟨_,rfl⟩;have hna:=zi hd.add;rw[hnv]at hv⊢;obtain⟨out0,hout⟩:∃o,l.filter (fun s=> !zbE x.rem s)=o:=⟨_,rfl⟩
 have hol:out0.length<=1000:=by rw[<-hout];exact yP (List.length_filter_le _ _) hl
 have HOUT:=yd hout;have HOL:=yd hol;have HV:=yd hv;have HD:=yd hd;have HOK:=yd hok;have HN:Hid (l.length=nv/\x.add.length=r.na/\x.rem.length<=1000):=⟨hnv,hna.symm,hr⟩;obtain⟨pr,nr,cr,pa,na,ca,tot⟩:=r;have hnv3:nv<=1000:=by omega
 have hna3:na<=1000:=by dsimp only at hna;omega
 have hA0:DAt 45 (w.alloc (.cells #[.slice pr nr cr,.slice pa na ca,.int .i64 tot] 45)) w.heap.size ⟨pr,nr,cr,pa,na,ca,tot⟩:=za rfl;have hB0:Below w.heap.size w (w.alloc (.cells #[.slice pr nr cr,.slice pa na ca,.int .i64 tot] 45)):=(yl _ _).alloc (yf _) _;dsimp only[RD.val]at*;clear hv hd hok hnv hna hl ha hr hout hol
 go_enter Tryz.func24,Tryz.ntmps24
 go_upto_region 1 with fail
 obtain⟨W0,hW0⟩:∃W0,(w.alloc (.cells #[.slice pr nr cr,.slice pa na ca,.int .i64 tot] 45))=W0:=⟨_,rfl⟩;rw[hW0]at hA0 hB0
 try rw[hW0]
 clear hW0;have hw0:=hB0.size;have HDA:Hid (∀W,Below W0.heap.size W0 W->DAt 45 W w.heap.size ⟨pr,nr,cr,pa,na,ca,tot⟩):=fun W h=>hA0.under h hA0.lt
 have HVA:Hid (∀W,Below W0.heap.size W0 W->Rd W W0.heap.size zg 1 (.slice pv nv cv) l/\RdD W W0.heap.size x ⟨pr,nr,cr,pa,na,ca,tot⟩):=fun W h=>⟨HV.out.below (hB0.trans (h.mono hw0)) hw0,HD.out.under (hB0.trans (h.mono hw0)) hw0⟩
 have HB0:=yd hB0;clear hA0 hB0 HV HD
 go_wp2_with fail
 go_loopw [6,7] (fun o i wr=>∃k:Nat,k<=nv/\i= .int .i64 k/\Hid (Own wr W0.heap.size 9 zg 1 o ((l.take k).filter (fun s=> !zbE x.rem s))/\Below W0.heap.size W0 wr)) (fun _ i _=>nv-(intOf i).toNat)
 case atStart=>exact⟨0,yT _,rfl,Own.nil _ _ _,yl _ _⟩
 case round=>
  obtain⟨k,hk,rfl,hS⟩:=hrel;have hda:=HDA.out wr hS.out.2;have c0:=hda.cell 0 (u:= .slice pr nr cr) rfl;have c1:=hda.cell 1 (u:= .slice pa na ca) rfl;have hbl:=hda.lt;clear hda;have hk0:(0:Int)<=(k:Int):=yu _;by_cases hlt:k<nv
  ·have hk1:(k:Int)<(nv:Int):=by omega
   obtain⟨s,hs⟩:∃s,l[k]? =some s:=⟨_,ya (by have:=HN.out;omega)⟩
   obtain⟨hra,hrd⟩:=HVA.out wr hS.out.2;obtain⟨b1,o1,rfl,hb1,hc1⟩:=zq hra hs;have f0:=hc1 0 _ rfl;rw[yU,Nat.mul_one]at f0;have hz:=hS.out.2.size;have hb1l:b1<wr.heap.size:=by omega
   have hfs:=zsW (p:=fun s=> !zbE x.rem s) hs
   have HS:=yd hS.out;have Q1:Hid (∀n,Calls yb 26 #[.slice pr nr cr,.string s] (wr.drewN n) fun e w'=>e= .returned (.bool (zbE x.rem s))/\∃m,w'=(wr.drewN n).drewN m):=fun n=>zf6 (wr.drewN n) W0.heap.size _ _ s (hrd.rem.drewN n) (by have:=HN.out;omega)
   by_cases hh:zbE x.rem s=true
   ·rw[hh]at Q1;rw[hh]at hfs;have HFS:=yd hfs;clear hs hra hrd hc1 hfs hh hS
    go_upto_region 5 with fail
    go_quiet ((go_at_call 26;with_reducible exact Calls.quiet_of (Q1.out _)))
    go_wp2_with fail
    go_roundw
    case rel=>exact⟨k+1,by omega,by go_num,by rw[HFS.out];simp only[Bool.not_true,Bool.false_eq_true,if_false,List.append_nil];exact HS.out.1,bdn HS.out.2 _⟩
    case measure=>simp[intOf];omega
   ·rw[Bool.eq_false_iff.2 hh]at Q1;rw[Bool.eq_false_iff.2 hh]at hfs;have HFS:=yd hfs;have HO2:Hid (∀m,Own ((wr.drewN m).alloc (.cells #[.string s] 9)) W0.heap.size 9 zg 1 u6 ((l.take k).filter (fun s=> !zbE x.rem s))):=fun m=>Own.alloc (w:=wr.drewN m) HS.out.1 _
    have HR2:Hid (∀m,Rd ((wr.drewN m).alloc (.cells #[.string s] 9)) (wr.heap.size+1) zg 1 (.slice (some ⟨wr.heap.size,0,none⟩) 1 1) [s]):=fun m=>Rd.one zn (za rfl) rfl (by omega)
    have k1:Hid (((l.take k).filter (fun s=> !zbE x.rem s)).length<=1000):=by
     have h1:=List.length_filter_le (fun s=> !zbE x.rem s) (l.take k)
     rw[yq]at h1;unfold Hid;omega
    clear hs hra hrd hc1 hfs hh hS
    go_upto_region 5 with fail
    go_quiet ((go_at_call 26;with_reducible exact Calls.quiet_of (Q1.out _)))
    go_wp2_with (at_builtin;refine zk slS zn _ rfl _ _ rfl rfl rfl (HO2.out _) (HR2.out _) (by have:=k1.out;simp only[yi];unfold maxLen;omega) (by have:=k1.out;simp only[yi];omega) (by have:=HS.out.2.size;simp;omega) ?_;intro v1 w1 ho1 hg1 hat1)
    go_roundw
    case rel=>exact⟨k+1,by omega,by go_num,by rw[HFS.out];exact ho1,Below.appended ((bdn HS.out.2 _).alloc HS.out.2.size _) hg1 (HO2.out _) (by have:=HS.out.2.size;simp;omega)⟩
    case measure=>simp[intOf];omega
  ·obtain rfl:k=nv:=by omega
   have hS1:=hS.out.1;rw[List.take_of_length_le (by have:=HN.out;omega),HOUT.out]at hS1
   have HS:Hid (Own wr W0.heap.size 9 zg 1 u6 out0/\Below W0.heap.size W0 wr):=⟨hS1,hS.out.2⟩;have HOK2:Hid (∀(j:Nat) y,x.add[j]? =some y->0<=y.2/\y.2<=((apL out0 (x.add.take j)).length:Int)):=by have h:=HOK.out;rw[HOUT.out]at h;exact h
   clear hS hS1 HOK
   go_wp2_with fail
   go_loopw [6,8,9,10] (fun o i a b wr=>∃k:Nat,k<=na/\i= .int .i64 k/\Hid (Own wr W0.heap.size 9 zg 1 o (apL out0 (x.add.take k))/\Below W0.heap.size W0 wr)) (fun _ i _ _ _=>na-(intOf i).toNat)
   case atStart=>exact⟨0,yT _,rfl,HS.out⟩
   case round=>
    clear HS c0 c1 hbl;obtain⟨j,hj,rfl,hS⟩:=hrel;have hda:=HDA.out wr hS.out.2;have c0:=hda.cell 0 (u:= .slice pr nr cr) rfl;have c1:=hda.cell 1 (u:= .slice pa na ca) rfl;have hbl:=hda.lt;clear hda;have hj0:(0:Int)<=(j:Int):=yu _;by_cases hlt2:j<na
    ·have hj1:(j:Int)<(na:Int):=by omega
     obtain⟨y,hy⟩:∃y,x.add[j]? =some y:=⟨_,ya (by have:=HN.out;(try dsimp only at this);omega)⟩
     obtain⟨hy1,hy2⟩:=HOK2.out j y hy;obtain⟨hra,hrd⟩:=HVA.out wr hS.out.2;obtain⟨b2,o2,rfl,hb2,hc2⟩:=zq hrd.add hy;have f0:=hc2 0 _ rfl;have f1:=hc2 1 _ rfl;rw[yU]at f0;have hz:=hS.out.2.size;have hb2l:b2<wr.heap.size:=by omega
     have hst:=ztc (out:=out0) hy;have hln:=ztq (x.add.take j) out0;rw[yq]at hln;obtain⟨t,q⟩:=y;obtain⟨q,rfl⟩:∃n:Nat,q=(n:Int):=⟨q.toNat,by dsimp only at hy1;omega⟩
     dsimp only at hy1 hy2 f0 f1;obtain⟨M,hM⟩:∃M,apL out0 (x.add.take j)=M:=⟨_,rfl⟩;have ho:=hS.out.1;rw[hM]at hst hln hy2 ho;have hMl:M.length<=2000:=by have:=HOL.out;omega
     obtain⟨po,co,rfl,hcl,hcm⟩:=ho.len;obtain⟨nm,hnm⟩:∃n,M.length=n:=⟨_,rfl⟩;rw[hnm]at ho hy2 hcl hMl;have hqm:q<=nm:=by omega
     obtain⟨vh,hsh,hrh⟩:=ztw slS (ho.rd zn) q hqm;obtain⟨vl,hsl,hrl⟩:=ztx slS (ho.rd zn) q hqm;rw[hnm];have q0:(0:Int)<=(q:Int):=yu _;have q1:¬((q:Int)<0):=by omega
     have q2:¬((nm:Int)<(q:Int)):=by omega
     have HRH:=yd hrh;have HRL:=yd hrl;have HST:=yd hst;have HBW:=yd hS.out.2;have k1:Hid (([]:List ByteArray).length+(M.take q).length<=2000):=by unfold Hid;simp only[List.length_nil,yq];omega
     have HNM:Hid (M.length=nm):=hnm;clear hy hy1 hy2 hra hrd hc2 hb2 hst hln hM ho hrh hrl hS hnm hcl hcm
     go_upto_region 14 with fail
     go_upto_region 15 with(at_builtin;refine zk slS zn _ rfl _ _ rfl rfl rfl (Own.nil wr wr.heap.size _) HRH.out (by have:=k1.out;unfold maxLen;omega) (by have:=k1.out;omega) (yf _) ?_;intro v1 w1 ho1 hg1 hat1)
     have hb1:Below wr.heap.size wr w1:=(yl _ _).grown hg1 (yf _) (fun k e=>by cases e)
     have hB1:=HBW.out.trans (hb1.mono hz);have hda:=HDA.out w1 hB1;have g0:=zc hb1 hb2l f0;have HB1:=yd hb1;have HO1:Hid (Own (w1.alloc (.cells #[.string t] 9)) wr.heap.size 9 zg 1 v1 ([]++M.take q)):=ho1.alloc _;have HR1:Hid (Rd (w1.alloc (.cells #[.string t] 9)) (w1.heap.size+1) zg 1 (.slice (some ⟨w1.heap.size,0,none⟩) 1 1) [t]):=Rd.one zn (za rfl) rfl (by omega)
     clear c0 c1 f0 f1 hbl hat1 hg1 ho1 hb1 hB1;have c1:=hda.cell 1 (u:= .slice (some ⟨b2,o2,none⟩) na ca) rfl;have hbl:=hda.lt;have hz1:=HB1.out.size;have hb2l1:b2<w1.heap.size:=by omega
     clear hda
     go_upto_region 16 with(at_builtin;refine zk slS zn _ rfl _ _ rfl rfl rfl HO1.out HR1.out (by have:=k1.out;simp only[yF,yi];simp only[List.length_nil]at this;unfold maxLen;omega) (by have:=k1.out;simp only[yF,yi];simp only[List.length_nil]at this;omega) (by simp;omega) ?_;intro v2 w2 ho2 hg2 hat2)
     have hb2:Below wr.heap.size wr w2:=Below.appended (HB1.out.alloc hz1 _) hg2 HO1.out (by simp;omega)
     have HB2:=yd hb2;have HO2:=yd ho2;have HR2:Hid (Rd w2 wr.heap.size zg 1 vl (M.drop q)):=HRL.out.below hb2 (yf _);have hz2:=hb2.size;clear c1 g0 hbl hat2 hg2 ho2 hb2 HR1
     go_wp2_with (at_builtin;refine zk slS zn _ rfl _ _ rfl rfl rfl HO2.out HR2.out (by have:=HNM.out;simp only[yF,yn,yq,yx,yi];unfold maxLen;omega) (by have:=HNM.out;simp only[yF,yn,yq,yx,yi];omega) hz2 ?_;intro v3 w3 ho3 hg3 hat3)
     go_roundw
     case rel=>
      refine⟨j+1,by omega,by go_num,?_,HBW.out.trans ((Below.appended HB2.out hg3 HO2.out hz2).mono hz)⟩
      have h:=ho3.mono hz;rw[HST.out];unfold zp1;simpa using h
     case measure=>simp[intOf];omega
    ·obtain rfl:j=na:=by omega
     go_wp2_with fail
     refine bodyPost_ret (v:= .tuple #[u6,.bool true]) (by simp[results,Tryz.results24,go_sem]) rfl ?_
     refine⟨_,rfl,?_,HB0.out.trans (hS.out.2.mono hw0)⟩;rw[HOUT.out];have h:=hS.out.1;rw[List.take_of_length_le (by have:=HN.out;(try dsimp only at this);omega)]at h
     exact h.mono hw0
end
section
open Go Go.RowKit
theorem zsJ{P:JV->Prop}{b:BoxD}{k:Int}{id:ByteArray}{v:JV}(hb:∀p∈b.objs,P p.2)(hv:P v):∀p∈(zR b k id v).objs,P p.2:=by
 unfold zR zbZ;by_cases k1:k=1
 ·rw[if_pos k1];unfold zbF;by_cases ha:zbj b.objs id=true
  ·rw[if_pos ha];by_cases hsm:SameT (zgt b.objs id) v
   ·rw[if_pos hsm,if_pos rfl];exact hb
   ·rw[if_neg hsm];by_cases hs:9007199254740991<=b.seq
    ·rw[if_pos hs,if_neg (show¬((180:Int)=0) by decide)]
     exact hb
    ·rw[if_neg hs,if_pos rfl];intro p hp
     rcases List.mem_or_eq_of_mem_set (show p∈b.objs.set (zx b.objs id) (id,v)from hp)with h|h
     ·exact hb p h
     ·rw[h];exact hv
  ·rw[if_neg ha];by_cases ht:ze4 b.trail id=true
   ·rw[if_pos ht,if_neg (show¬((181:Int)=0) by decide)]
    exact hb
   ·rw[if_neg ht];by_cases hs:9007199254740991<=b.seq
    ·rw[if_pos hs,if_neg (show¬((180:Int)=0) by decide)]
     exact hb
    ·rw[if_neg hs,if_pos rfl];intro p hp
     rcases yg.1 (show p∈b.objs.take (zx b.objs id)++(id,v)::b.objs.drop (zx b.objs id)from hp)with h|h
     ·exact hb p (List.mem_of_mem_take h)
     ·rcases ym.1 h with h|h
      ·rw[h];exact hv
      ·exact hb p (yE h)
 ·rw[if_neg k1];by_cases k2:k=2
  ·rw[if_pos k2];unfold zcy;by_cases ha:zbj b.objs id=false
   ·rw[if_pos ha,if_neg (show¬((81:Int)=0) by decide)]
    exact hb
   ·rw[if_neg ha];by_cases hs:9007199254740991<=b.seq
    ·rw[if_pos hs,if_neg (show¬((180:Int)=0) by decide)]
     exact hb
    ·rw[if_neg hs,if_pos rfl];intro p hp
     rcases yg.1 (show p∈b.objs.take (zx b.objs id)++b.objs.drop (zx b.objs id+1)from hp)with h|h
     ·exact hb p (List.mem_of_mem_take h)
     ·exact hb p (yE h)
  ·rw[if_neg k2,if_neg (show¬((81:Int)=0) by decide)]
   exact hb
theorem zrJ{P:JV->Prop}:∀(ops:List (RO×JV)) {b:BoxD},(∀p∈b.objs,P p.2)->(∀o∈ops,P o.2)->∀p∈(zex b ops).objs,P p.2
 |[],b,hb,_=>hb
 |o::r,b,hb,ho=>zrJ r (b:=zR b o.1.k o.1.id o.2) (zsJ hb (ho o (by simp))) (fun x hx=>ho x (by simp[hx]))
structure PlyF(b c:BoxD):Prop where
 inv:PlayI b c
 rise:ze6 b.objs
 ok:c.Ok
 objs:c.objs.length<=60
 trail:c.trail.length<=330
 vals:∀p∈c.objs,zf p.2<=100000/\zr p.2<=4000000000
 nodup:(c.objs.map (·.1)).Nodup
theorem FewF.good{b:BoxD}{f so:JV}{ops:List (RO×JV)}(h:FewF b f so ops)(ob:b.Ok)(tr:∀x∈b.trail,x.ok):Good b 30 300:=⟨ob,tr,rise_iff.1 h.right.1,h.objs,h.trail⟩
theorem FewF.play{b:BoxD}{f so:JV}{ops:List (RO×JV)}(h:FewF b f so ops)(ob:b.Ok)(tr:∀x∈b.trail,x.ok)(ho:∀o∈ops,zlV o.1 o.2):PlyF b (zex b ops):=by
 have hn:=h.nops;have g:=(h.good ob tr).play ho (by omega) (by omega) ops.length (yf _)
 rw[yL]at g;have hi:PlayI b (zex b ops):=zsr ops (PlayI.start h.right);have hv:=zrJ (P:=fun v=>zf v<=100000/\zr v<=4000000000) ops (b:=b) h.vals4 (fun o hm=>by have:=h.acts o hm;omega)
 exact⟨hi,rise_iff.1 h.right.1,g.ok,by have:=g.objs;omega,by have:=g.trail;omega,hv,zko hi.right.1⟩
theorem ztr{now:List ByteArray}{b:BoxD}{ys:List Pa}{seq most:Int}(h:seq<b.floor):(zdD now b ys seq most).2=190:=by
 unfold zdD;rw[if_pos (.inl h)]
theorem ztd{now:List ByteArray}{b:BoxD}{ys:List Pa}{seq:Int}(h:¬(seq<b.floor\/b.seq<seq)):zdD now b ys seq (-1)=(⟨zb2 (zbv ys),zcs now ys now.length,now.length⟩,0):=by
 unfold zdD;rw[if_neg h,if_neg (by omega)]
theorem zsT{now:List ByteArray}{b:BoxD}{ys:List Pa}{seq most:Int}(h:¬(seq<b.floor\/b.seq<seq))(h0:0<=most):(zdD now b ys seq most).2=if most<((zb2 (zbv ys)).length:Int)+((zcs now ys now.length).length:Int)then 230 else 0:=by
 unfold zdD;rw[if_neg h,(zh8 _).length_eq];by_cases hm:most<((zbv ys).length:Int)+((zcs now ys now.length).length:Int)
 ·rw[if_pos ⟨h0,hm⟩,if_pos hm]
 ·rw[if_neg (fun h=>hm h.2),if_neg hm]
theorem zsw{now:List ByteArray}{ys:List Pa}(hn:now.Nodup)(h:(ys.map (·.id)).Nodup):(zcs now ys now.length).length<=ys.length:=by
 rw[<-zm4 hn h];exact zkl now ys
end
section
open Go Go.RowKit Go.OpenShut
theorem ztn{n:Int}(h:(Lit.int .u8 n).wf=true):0<=n/\n<=255:=by
 simp[Lit.wf,IntKind.min,IntKind.max,IntKind.bits,IntKind.signed]at h;omega
theorem u8_lo{n:Int}(h:(Lit.int .u8 n).wf=true):0<=n:=(ztn h).1
theorem u8_hi{n:Int}(h:(Lit.int .u8 n).wf=true):n<=255:=(ztn h).2
theorem zsH(b:BoxD)(r:RB)(ops:List (RO×JV))(v:Value)(f so:JV)(rf rs:RV)(most:Int)(w:World)(hb:BoxOf w w.heap.size b r)(ob:b.Ok)(hv:Rd w w.heap.size zeU 7 v (ops.map (·.1)))(ht:∀o∈ops,TreeOf w w.heap.size o.2 o.1.v/\zlV o.1 o.2)(hf:TreeOf w w.heap.size f rf)(of:f.Ok)(hs:TreeOf w w.heap.size so rs)(os:so.Ok)(hall:AllAt w)(hmax:MaxAt w)(hm0:0<=most)(hm1:most<=255):
 Calls yb 5 #[r.val,v,rf.val,rs.val,.int .u8 most] w fun e w'=>e= .returned (.bool true)/\Below w.heap.size w w':=by
 obtain⟨pv,cv,rfl,_,_⟩:=zfq hv;obtain⟨nv,hnv⟩:∃n,(ops.map (·.1)).length=n:=⟨_,rfl⟩
 rw[hnv]at hv⊢;obtain⟨W0,hW0⟩:∃W0,((w.alloc r.obj).alloc rf.obj).alloc rs.obj=W0:=⟨_,rfl⟩;have hA0:BoxAt W0 w.heap.size r:=by rw[<-hW0];exact zb (by simp;omega) (zb (by simp) (za rfl))
 have hC0:VAt W0 (w.heap.size+1) rf:=by rw[<-hW0];exact zb (by simp) (za (by simp))
 have hD0:VAt W0 (w.heap.size+2) rs:=by rw[<-hW0];exact za (by simp)
 have hB0:Below w.heap.size w W0:=by rw[<-hW0];exact(zM w _ _).alloc (zM w _ _).size _
 have hw0:=hB0.size;have htr:=hb.trail;have htk:=(rdE_iff.1 htr).1;have hsq:r.sq=b.seq:=hb.seq.symm;obtain⟨c,hc⟩:∃c,zex b ops=c:=⟨_,rfl⟩;have HPF:Hid (FewF b f so ops->PlyF b c):=fun hw=>by rw[<-hc];exact hw.play ob htk (fun o h=>(ht o h).2)
 have HAW:Hid (∀W,Below W0.heap.size W0 W->Calls yb 16 #[] W fun e w'=>e= .returned (.bool true)/\Below W.heap.size W w'):=fun W h=>zkA W (hall.below (hB0.trans (h.mono hw0))) (hmax.below (hB0.trans (h.mono hw0)))
 have HFW:Hid (∀W,Below W0.heap.size W0 W->Calls yb 17 #[r.val,rf.val,rs.val,.slice pv nv cv] W (zm2 W b f so ops)):=fun W h=>by
  have hW:=hB0.trans (h.mono hw0);exact znw b r f so rf rs ops (.slice pv nv cv) W (hb.under hW hW.size) ob (hf.under hW hW.size) of (hs.under hW hW.size) os (hv.below hW hW.size) (fun o h=>⟨(ht o h).1.under hW hW.size,(ht o h).2⟩)
 have HQ1:Hid (FewF b f so ops->∀W,Below W0.heap.size W0 W->Calls yb 22 #[r.val,rf.val,rs.val] W fun e w'=>∃u,e= .returned u/\Own w' W.heap.size 9 zg 1 u (zcv f so b.objs)/\Below W.heap.size W w'):=fun hw W h=>by
  have hW:=hB0.trans (h.mono hw0);exact zeF b r f so rf rs W W.heap.size (yf _) (hb.under hW hW.size) ob (hf.under hW hW.size) of (hs.under hW hW.size) os (by have:=hw.cf;omega) hw.vals4 hw.null (hall.below hW) (hmax.below hW) (by have:=hw.objs;omega)
 have HPL:Hid (FewF b f so ops->∀W,Below W0.heap.size W0 W->Calls yb 23 #[r.val,.slice pv nv cv] W (zgG W c)):=fun hw W h=>by
  have hW:=hB0.trans (h.mono hw0);rw[<-hc];exact zhX b r ops (.slice pv nv cv) W 30 300 (hb.under hW hW.size) (hw.good ob htk) (hv.below hW hW.size) (fun o h=>⟨(ht o h).1.under hW hW.size,(ht o h).2⟩) (by have:=hw.nops;omega) (by have:=hw.nops;omega)
 have HQ2:Hid (FewF b f so ops->∀W q,Below W0.heap.size W0 W->BoxOf W W.heap.size c q->Calls yb 22 #[q.val,rf.val,rs.val] W fun e w'=>∃u,e= .returned u/\Own w' W.heap.size 9 zg 1 u (zcv f so c.objs)/\Below W.heap.size W w'):=fun hw W q h hq=>by
  have hW:=hB0.trans (h.mono hw0);have hp:=HPF.out hw;exact zeF c q f so rf rs W W.heap.size (yf _) hq hp.ok (hf.under hW hW.size) of (hs.under hW hW.size) os (by have:=hw.cf;omega) hp.vals hw.null (hall.below hW) (hmax.below hW) (by have:=hp.objs;omega)
 have HCH:Hid (FewF b f so ops->∀W q m,Below W0.heap.size W0 W->BoxOf W W.heap.size c q->Calls yb 18 #[q.val,rf.val,rs.val,.int .i64 r.sq,.int .i64 m] W fun e w'=>∃ys,(¬(b.seq<c.floor\/c.seq<b.seq)->IsStable cfP (zU b.seq c.trail) ys)/\DlRet W (zdD (zcv f so c.objs) c ys b.seq m) e w'):=fun hw W q m h hq=>by
  have hW:=hB0.trans (h.mono hw0);have hp:=HPF.out hw;rw[hsq];exact zfi c q f so rf rs b.seq m W hq hp.ok (hf.under hW hW.size) of (hs.under hW hW.size) os (by have:=hw.cf;omega) hp.vals hw.null (hall.below hW) (hmax.below hW) (by have:=hp.objs;omega) hp.nodup (by have:=hp.trail;omega)
 have HVA:Hid (∀W,Below W0.heap.size W0 W->BoxAt W w.heap.size r/\VAt W (w.heap.size+1) rf/\VAt W (w.heap.size+2) rs):=fun W hb=>⟨hA0.under hb hA0.lt,hC0.under hb hC0.lt,hD0.under hb hD0.lt⟩
 have HB0:=yd hB0;have HW:=yd hW0;have HSQ:Hid (r.sq=b.seq):=hsq;obtain⟨po,no,co,pt,nt,ct,sq,fl,kp⟩:=r;obtain⟨fk,fn,fs,fpl,fnl,fcl,fpm,fnm,fcm⟩:=rf;obtain⟨sk,sn,ss,spl,snl,scl,spm,snm,scm⟩:=rs;dsimp only[RB.val,RB.obj,RV.val,RV.obj]at*;clear hb ob hf of hs os hall hmax hA0 hC0 hD0 hB0 hW0 htr htk hsq hc hnv hv ht
 go_enter Tryz.func5,Tryz.ntmps5
 go_upto_region 1 with fail
 try rw[HW.out]
 clear HW
 go_upto_region 3 with(first
  |(go_at_call 16;(with_reducible refine(HAW.out _ hb2).mono ?_);rintro e w3 ⟨rfl,hb9⟩;(have hb3:=hb2.trans (hb9.mono hb2.size)))
  |(go_at_call 16;(with_reducible refine(HAW.out _ (yl _ _)).mono ?_);rintro e w1 ⟨rfl,hb1⟩;(have hva:=HVA.out _ hb1);(have hv1:=hva.1);(have hv2:=hva.2.1);(have hv3:=hva.2.2);(obtain⟨a0,a1,a2,a3,a4⟩:=hv1.cells5);(obtain⟨c0,c1,c2,c3,c4⟩:=hv2.cells5);(obtain⟨d0,d1,d2,d3,d4⟩:=hv3.cells5);clear hva hv1 hv2 hv3;dsimp only at a0 a1 a2 a3 a4 c0 c1 c2 c3 c4 d0 d1 d2 d3 d4)
  |(go_at_call 17;(with_reducible refine(HFW.out _ hb1).mono ?_);rintro e w2 ⟨y,rfl,HL,hb9⟩;(have hb2:=hb1.trans (hb9.mono hb1.size));cases y))
 ·go_ret;exact⟨rfl,HB0.out.trans (hb3.mono HB0.out.size)⟩
 have HF:=yd (HL.out (by trivial))
 have HB2:=yd hb2;have hva:=HVA.out _ hb2;have hv1:=hva.1;have hv2:=hva.2.1;have hv3:=hva.2.2;have hl1:=hv1.lt;have hl2:=hv2.lt;have hl3:=hv3.lt;clear a0 a1 a2 a3 a4 c0 c1 c2 c3 c4 d0 d1 d2 d3 d4 hva hb9 hb1 hb2 HL HFW HAW;obtain⟨a0,a1,a2,a3,a4⟩:=hv1.cells5;obtain⟨c0,c1,c2,c3,c4⟩:=hv2.cells5;obtain⟨d0,d1,d2,d3,d4⟩:=hv3.cells5;dsimp only at a0 a1 a2 a3 a4 c0 c1 c2 c3 c4 d0 d1 d2 d3 d4;clear hv1 hv2 hv3;have HP:=yd (HPF.out HF.out);clear HPF
 go_upto_region 4 with(go_at_call 22;(with_reducible refine(HQ1.out HF.out _ HB2.out).mono ?_);rintro e w3 ⟨u3,rfl,ho3,hb3⟩)
 obtain⟨py,cy,hv3,hcl3,hcm3⟩:=ho3.len;obtain⟨ny,hny⟩:∃n,(zcv f so b.objs).length=n:=⟨_,rfl⟩;rw[hny]at hv3;subst hv3;have HY:Hid (∀W,Below w3.heap.size w3 W->Rd W W.heap.size zg 1 (.slice py ny cy) (zcv f so b.objs)):=fun W h=>(ho3.rd zn).below h h.size
 have HNY:=yd hny;have hB3:=HB2.out.trans (hb3.mono HB2.out.size);have HB3:=yd hB3;have hva:=HVA.out _ hB3;have hv1:=hva.1;clear ho3 hb3 hcl3 hcm3 hny hB3 HB2 a0 a1 a2 a3 a4 c0 c1 c2 c3 c4 d0 d1 d2 d3 d4 hl1 hl2 hl3 hva HQ1;have hl1:=hv1.lt;obtain⟨a0,a1,a2,a3,a4⟩:=hv1.cells5;dsimp only at a0 a1 a2 a3 a4;clear hv1
 go_upto_region 5 with(go_at_call 23;(with_reducible refine(HPL.out HF.out _ HB3.out).mono ?_);rintro e w4 ⟨⟨po2,no2,co2,pt2,nt2,ct2,sq2,fl2,kp2⟩,rfl,hx4,hb4⟩;dsimp only[RB.val])
 have hal5:Below w4.heap.size w4 (w4.alloc (.cells #[.slice po2 no2 co2,.slice pt2 nt2 ct2,.int .i64 sq2,.int .i64 fl2,.int .i64 kp2] 40)):=(yl _ _).alloc (yf _) _;have hX5:BoxAt (w4.alloc (.cells #[.slice po2 no2 co2,.slice pt2 nt2 ct2,.int .i64 sq2,.int .i64 fl2,.int .i64 kp2] 40)) w4.heap.size ⟨po2,no2,co2,pt2,nt2,ct2,sq2,fl2,kp2⟩:=za rfl;have hQ5:=hx4.under hal5 hal5.size;have hK5:=hb4.trans (hal5.mono hb4.size);obtain⟨g5,hg5⟩:∃g,w4.heap.size=g:=⟨_,rfl⟩;obtain⟨W5,hW5⟩:∃W,w4.alloc (.cells #[.slice po2 no2 co2,.slice pt2 nt2 ct2,.int .i64 sq2,.int .i64 fl2,.int .i64 kp2] 40)=W:=⟨_,rfl⟩;rw[hW5]at hX5 hQ5 hK5;rw[hg5]at hX5
 try rw[hW5]
 try rw[hg5]
 have hB5:=HB3.out.trans (hK5.mono HB3.out.size);have HB5:=yd hB5;have HQA:Hid (∀W,Below W5.heap.size W5 W->BoxAt W g5 ⟨po2,no2,co2,pt2,nt2,ct2,sq2,fl2,kp2⟩/\BoxOf W W.heap.size c ⟨po2,no2,co2,pt2,nt2,ct2,sq2,fl2,kp2⟩):=fun W h=>⟨hX5.under h hX5.lt,hQ5.under h h.size⟩
 have HY5:Hid (∀W,Below W5.heap.size W5 W->Rd W W.heap.size zg 1 (.slice py ny cy) (zcv f so b.objs)):=fun W h=>HY.out W (hK5.trans (h.mono hK5.size))
 have HFL:Hid (fl2=c.floor):=hQ5.floor.symm;have hva:=HVA.out _ hB5;have hv2:=hva.2.1;have hv3:=hva.2.2;have hl5:=hX5.lt;clear hal5 hx4 hb4 hK5 hW5 hg5 hQ5 hB5 HB3 HY a0 a1 a2 a3 a4 hl1 hva HPL;have hl2:=hv2.lt;have hl3:=hv3.lt;obtain⟨c0,c1,c2,c3,c4⟩:=hv2.cells5;obtain⟨d0,d1,d2,d3,d4⟩:=hv3.cells5;obtain⟨x0,x1,x2,x3,x4⟩:=hX5.cells5;dsimp only at c0 c1 c2 c3 c4 d0 d1 d2 d3 d4 x0 x1 x2 x3 x4;clear hv2 hv3 hX5
 go_upto_region 6 with(go_at_call 22;(refine(HQ2.out HF.out _ ⟨po2,no2,co2,pt2,nt2,ct2,sq2,fl2,kp2⟩ HB5.out (HQA.out _ (yl _ _)).2).mono ?_);rintro e w6 ⟨u6,rfl,ho6,hb6⟩)
 obtain⟨pz,cz,hv6,hcl6,hcm6⟩:=ho6.len;obtain⟨nz,hnz⟩:∃n,(zcv f so c.objs).length=n:=⟨_,rfl⟩;rw[hnz]at hv6;subst hv6;have hB6:=HB5.out.trans (hb6.mono HB5.out.size);have HB6:=yd hB6;have HK6:Hid (Below W5.heap.size W5 w6):=hb6;have HZ6:Hid (∀W,Below w6.heap.size w6 W->Rd W W.heap.size zg 1 (.slice pz nz cz) (zcv f so c.objs)):=fun W h=>(ho6.rd zn).below h h.size
 have HNZ:=yd hnz;have hva:=HVA.out _ hB6;have hv1:=hva.1;have hv2:=hva.2.1;have hv3:=hva.2.2;have hx6:=(HQA.out _ hb6).1;clear ho6 hb6 hcl6 hcm6 hnz hB6 HB5 c0 c1 c2 c3 c4 d0 d1 d2 d3 d4 x0 x1 x2 x3 x4 hl2 hl3 hl5 hva HQ2;have hl1:=hv1.lt;have hl2:=hv2.lt;have hl3:=hv3.lt;have hl5:=hx6.lt;obtain⟨a0,a1,a2,a3,a4⟩:=hv1.cells5;obtain⟨c0,c1,c2,c3,c4⟩:=hv2.cells5;obtain⟨d0,d1,d2,d3,d4⟩:=hv3.cells5;obtain⟨x0,x1,x2,x3,x4⟩:=hx6.cells5;dsimp only at a0 a1 a2 a3 a4 c0 c1 c2 c3 c4 d0 d1 d2 d3 d4 x0 x1 x2 x3 x4;clear hv1 hv2 hv3 hx6
 go_upto_region 7 with(go_at_call 18;(refine(HCH.out HF.out _ ⟨po2,no2,co2,pt2,nt2,ct2,sq2,fl2,kp2⟩ (-1) HB6.out (HQA.out _ HK6.out).2).mono ?_);rintro e w7 ⟨ys,hys,hd⟩;obtain⟨⟨xr,nr,cr,xa,na,ca,tt⟩,rfl,hr7,ha7,ht7,hn7,hb7⟩:=hd;dsimp only at hr7 ha7 ht7 hn7⊢;(have HT7:=yd ht7);clear ht7)
 have hal8:Below w7.heap.size w7 (w7.alloc (.cells #[.slice xr nr cr,.slice xa na ca,.int .i64 tt] 45)):=(yl _ _).alloc (yf _) _;have hD8:DAt 45 (w7.alloc (.cells #[.slice xr nr cr,.slice xa na ca,.int .i64 tt] 45)) w7.heap.size ⟨xr,nr,cr,xa,na,ca,tt⟩:=za rfl;obtain⟨dl,hdl⟩:∃x,zdD (zcv f so c.objs) c ys b.seq (-1)=x:=⟨_,rfl⟩;rw[hdl]at hr7 ha7 HT7
 try rw[hdl]
 have hR8:RdD (w7.alloc (.cells #[.slice xr nr cr,.slice xa na ca,.int .i64 tt] 45)) (w7.alloc (.cells #[.slice xr nr cr,.slice xa na ca,.int .i64 tt] 45)).heap.size dl.1 ⟨xr,nr,cr,xa,na,ca,tt⟩:=⟨(hr7.rd zn).below hal8 hal8.size,(ha7.rd codecA).below hal8 hal8.size,HT7.out⟩;have hK8:=hb7.trans (hal8.mono hb7.size);obtain⟨g8,hg8⟩:∃g,w7.heap.size=g:=⟨_,rfl⟩;obtain⟨W8,hW8⟩:∃W,w7.alloc (.cells #[.slice xr nr cr,.slice xa na ca,.int .i64 tt] 45)=W:=⟨_,rfl⟩;rw[hW8]at hD8 hR8 hK8;rw[hg8]at hD8
 try rw[hW8]
 try rw[hg8]
 have hB8:=HB6.out.trans (hK8.mono HB6.out.size);have hQ8:=HK6.out.trans (hK8.mono HK6.out.size);have HB8:=yd hB8;have HK8:Hid (Below W5.heap.size W5 W8):=hQ8;have HY8:Hid (∀W,Below W8.heap.size W8 W->Rd W W.heap.size zg 1 (.slice py ny cy) (zcv f so b.objs)/\Rd W W.heap.size zg 1 (.slice pz nz cz) (zcv f so c.objs)):=fun W h=>⟨HY5.out W (hQ8.trans (h.mono hQ8.size)),HZ6.out W (hK8.trans (h.mono hK8.size))⟩
 have HDA:Hid (∀W,Below W8.heap.size W8 W->DAt 45 W g8 ⟨xr,nr,cr,xa,na,ca,tt⟩/\RdD W W.heap.size dl.1 ⟨xr,nr,cr,xa,na,ca,tt⟩):=fun W h=>⟨hD8.under h hD8.lt,hR8.under h h.size⟩
 have HYS:=yd hys;have HDL:=yd hdl;have HTT:Hid (tt=dl.1.tot):=HT7;have hva:=HVA.out _ hB8;have hv1:=hva.1;have hx8:=(HQA.out _ hQ8).1;clear hr7 ha7 HT7 hn7 hb7 hal8 hK8 hW8 hg8 hR8 hB8 hQ8 hdl hys HB6 HK6 HZ6 HY5 a0 a1 a2 a3 a4 c0 c1 c2 c3 c4 d0 d1 d2 d3 d4 x0 x1 x2 x3 x4 hl1 hl2 hl3 hl5 hva;have hl1:=hv1.lt;have hl5:=hx8.lt;have hl8:=hD8.lt;obtain⟨a0,a1,a2,a3,a4⟩:=hv1.cells5;obtain⟨x0,x1,x2,x3,x4⟩:=hx8.cells5;have y0:=hD8.cell 0 (u:= .slice xr nr cr) rfl;have y1:=hD8.cell 1 (u:= .slice xa na ca) rfl;have y2:=hD8.cell 2 (u:= .int .i64 tt) rfl;dsimp only at a0 a1 a2 a3 a4 x0 x1 x2 x3 x4;clear hv1 hx8 hD8;obtain⟨D,E⟩:=dl;dsimp only at HDA HTT⊢;have hseq:=HP.out.inv.seq;by_cases hfl:sq<fl2
 ·have hE:E=190:=by
   have h:=ztr (now:=zcv f so c.objs) (b:=c) (ys:=ys) (seq:=b.seq) (most:= -1) (by have:=HFL.out;have:=HSQ.out;(try dsimp only at this);omega)
   rw[HDL.out]at h;exact h
  subst hE;clear hseq;have q1:decide (sq<fl2)=true:=decide_eq_true hfl
  go_wp2_with fail
  go_ret;exact⟨rfl,HB0.out.trans (HB8.out.mono HB0.out.size)⟩
 have q1:decide (sq<fl2)=false:=decide_eq_false hfl
 have HNF:Hid (¬(b.seq<c.floor\/c.seq<b.seq)):=by
  have h1:=HFL.out;have h2:=HSQ.out
  try dsimp only at h2
  unfold Hid;omega
 have hde:=HDL.out;rw[ztd HNF.out]at hde;simp only[Prod.mk.injEq]at hde;obtain⟨hde1,hde2⟩:=hde;subst hde2;have HDE:Hid (D=⟨zb2 (zbv ys),zcs (zcv f so c.objs) ys (zcv f so c.objs).length,(zcv f so c.objs).length⟩):=hde1.symm;have hst:=HYS.out HNF.out;have hch:=zsI HP.out.inv HP.out.rise (by have:=HNF.out;omega) hst f so
 have hysl:ys.length<=330:=by
  rw[hst.perm.length_eq];exact yP (zh4 _ _) HP.out.trail
 have HCHA:=yd hch
 have HLN:Hid ((zb2 (zbv ys)).length<=1000/\(zcs (zcv f so c.objs) ys (zcv f so c.objs).length).length<=1000):=by
  refine⟨?_,?_⟩
  ·rw[(zh8 _).length_eq];exact yP (zkx ys) (by omega)
  ·exact yP (zsw (zmy f so HP.out.nodup) (zkr hst)) (by omega)
 have HTZ:Hid (tt=(nz:Int)):=by
  have h1:=HTT.out;have h2:=HDE.out;rw[h2]at h1;unfold Hid;rw[h1]
  show(((zcv f so c.objs).length:Nat):Int)=_
  rw[HNZ.out]
 have hta:=HTZ.out;subst hta
 have HAP:Hid (∀W,Below W8.heap.size W8 W->Calls yb 24 #[.slice py ny cy,(RD.val ⟨xr,nr,cr,xa,na,ca,(nz:Int)⟩)] W fun e w'=>∃u,e= .returned (.tuple #[u,.bool true])/\Own w' W.heap.size 9 zg 1 u (zcv f so c.objs)/\Below W.heap.size W w'):=fun W h=>by
  have h1:=HDA.out W h;have h2:=HCHA.out;have h3:=HLN.out;have hq:=zpL f so b.objs;have hq2:=HF.out.objs;have h4:=zsx (zcv f so b.objs) _ D ⟨xr,nr,cr,xa,na,ca,(nz:Int)⟩ W (HY8.out W h).1 h1.2 (by omega) (by rw[HDE.out];exact h3.2) (by rw[HDE.out];exact h3.1) (by rw[HDE.out];exact h2.2)
  rw[HDE.out]at h4;dsimp only at h4 h2;rw[h2.1]at h4;exact h4
 dsimp only[RD.val]at HAP;clear hde1 hst hch hseq HCHA HTT hysl
 go_upto_region 10 with(go_at_call 24;(with_reducible refine(HAP.out _ (yl _ _)).mono ?_);rintro e w9 ⟨u9,rfl,ho9,hb9⟩)
 obtain⟨pg,cg,hv9,hcl9,hcm9⟩:=ho9.len;obtain⟨ng,hng⟩:∃n,(zcv f so c.objs).length=n:=⟨_,rfl⟩;rw[hng]at hv9;subst hv9;have HSP:Hid (Calls yb 25 #[.slice pg ng cg,.slice pz nz cz] w9 fun e w'=>e= .returned (.bool true)/\∃n,w'=w9.drewN n):=(zga w9 w9.heap.size _ _ _ _ (ho9.rd zn) (HY8.out w9 hb9).2).mono (fun e w' h=>by rw[decide_eq_true rfl]at h;exact h)
 have HB9:Hid (Below W8.heap.size W8 w9):=hb9;have hd9:=(HDA.out _ hb9).1;have y2':=hd9.cell 2 (u:= .int .i64 (nz:Int)) rfl;have hl8':=hd9.lt;clear ho9 hb9 hcl9 hcm9 hng a0 a1 a2 a3 a4 x0 x1 x2 x3 x4 y0 y1 y2 hl1 hl5 hl8 hd9 HAP HY8
 go_upto_region 12 with(go_at_call 25;(with_reducible refine HSP.out.mono ?_);rintro e w10 ⟨rfl,n10,hw10⟩;subst hw10)
 have hB10:Below W8.heap.size W8 (w9.drewN n10):=bdn HB9.out _;obtain⟨W10,hW10⟩:∃W,w9.drewN n10=W:=⟨_,rfl⟩;rw[hW10]at hB10
 try rw[hW10]
 clear hW10 HSP HB9 y2' hl8';have hC10:=HB8.out.trans (hB10.mono HB8.out.size);have hQ10:=HK8.out.trans (hB10.mono HK8.out.size);have HC10:=yd hC10;have HQ10:=yd hQ10;have HB10:=yd hB10;have hva:=HVA.out _ hC10;have hv1:=hva.1;have hv2:=hva.2.1;have hv3:=hva.2.2;have hx10:=(HQA.out _ hQ10).1;have hl1:=hv1.lt;have hl2:=hv2.lt;have hl3:=hv3.lt;have hl5:=hx10.lt;obtain⟨a0,a1,a2,a3,a4⟩:=hv1.cells5;obtain⟨c0,c1,c2,c3,c4⟩:=hv2.cells5;obtain⟨d0,d1,d2,d3,d4⟩:=hv3.cells5;obtain⟨x0,x1,x2,x3,x4⟩:=hx10.cells5;dsimp only at a0 a1 a2 a3 a4 c0 c1 c2 c3 c4 d0 d1 d2 d3 d4 x0 x1 x2 x3 x4;clear hv1 hv2 hv3 hx10 hva hB10 hC10 hQ10
 go_upto_region 13 with(go_at_call 18;(refine(HCH.out HF.out _ ⟨po2,no2,co2,pt2,nt2,ct2,sq2,fl2,kp2⟩ most HC10.out (HQA.out _ HQ10.out).2).mono ?_);rintro e w11 ⟨zs,hzs,hd⟩;obtain⟨⟨zr,mr,dr,za,ma,da,t2⟩,rfl,hr1,ha1,ht1,hn1,hb11⟩:=hd;clear hr1 ha1 ht1 hn1;dsimp only)
 have hz:=zsU (now:=zcv f so c.objs) (most:=most) (HYS.out) hzs;rw[hz,zsT HNF.out hm0];have hal12:Below w11.heap.size w11 (w11.alloc (.cells #[.slice zr mr dr,.slice za ma da,.int .i64 t2] 45)):=(yl _ _).alloc (yf _) _;have hB12:=(HB10.out.trans (hb11.mono HB10.out.size)).trans (hal12.mono (yP HB10.out.size hb11.size));obtain⟨W12,hW12⟩:∃W,w11.alloc (.cells #[.slice zr mr dr,.slice za ma da,.int .i64 t2] 45)=W:=⟨_,rfl⟩;rw[hW12]at hB12
 try rw[hW12]
 have HB12:=yd hB12;have hda:=HDA.out _ hB12;have hd12:=hda.1;have y0:=hd12.cell 0 (u:= .slice xr nr cr) rfl;have y1:=hd12.cell 1 (u:= .slice xa na ca) rfl;have hl8:=hd12.lt;have hnr:nr=(zb2 (zbv ys)).length:=by have h:=zi hda.2.rem;rw[HDE.out]at h;exact h
 have hna:na=(zcs (zcv f so c.objs) ys (zcv f so c.objs).length).length:=by have h:=zi hda.2.add;rw[HDE.out]at h;exact h
 have hnr3:nr<=1000:=by rw[hnr];exact HLN.out.1
 have hna3:na<=1000:=by rw[hna];exact HLN.out.2
 rw[<-hnr,<-hna];clear hal12 hW12 hb11 hzs hz hda hd12 hB12 a0 a1 a2 a3 a4 c0 c1 c2 c3 c4 d0 d1 d2 d3 d4 x0 x1 x2 x3 x4 hl1 hl2 hl3 hl5 hnr hna;have hn0:(0:Int)<=(nr:Int):=yu _;have ha0:(0:Int)<=(na:Int):=yu _;by_cases hmo:most<(nr:Int)+(na:Int)
 ·rw[if_pos hmo]
  go_wp2_with fail
  go_ret;exact⟨by simp[hmo],HB0.out.trans ((HB8.out.trans (HB12.out.mono HB8.out.size)).mono HB0.out.size)⟩
 ·rw[if_neg hmo]
  go_wp2_with fail
  go_ret;exact⟨by simp[hmo],HB0.out.trans ((HB8.out.trans (HB12.out.mono HB8.out.size)).mono HB0.out.size)⟩
end
end Go.Proofs.YtemofofnkchmeaaGreatDoor
