import Derived.WalkKit
import Derived.Deep.Draws
import Derived.Test.YtemofofnkchmeaaGreatDoorProg
import Derived.WalkSpells
import Derived.WalkLawsBesides
import Derived.BigQuiet
import Derived.Deep.QuietTactic
import Derived.Lib.Hide
import Derived.Maps.OwnSet
import Derived.StringKeys
import Derived.OpenShut
import Derived.Laws.AppendOwnNone
set_option linter.unusedSimpArgs false
set_option linter.unusedVariables false
set_option maxRecDepth 200000
set_option maxHeartbeats 8000000
namespace Go.Proofs.YtemofofnkchmeaaGreatDoor
open _root_.Go.Lib renaming hid->yc,run_eql_slice_nil->ybg
open _root_.List renaming all_eq_true->yah,eq_nil_of_length_eq_zero->yx,find?_cons->yav,flatMap_cons->yaB,getElem?_cons_succ->yR,getElem?_eq_getElem->yf,getElem?_eq_some_iff->yi,length_drop->yF,take_of_length_le->yq
open _root_.Nat renaming add_assoc->ybz,add_mul->yag,le_refl->yd,mul_comm->ybB,zero_add->yal,zero_le->yu
open _root_.Go.Proofs.Tryz renaming prog->ye
section
open Go Go.RowKit
theorem zbl(b o j:Nat):(⟨b,o,none⟩:Addr).add j=⟨b,o+j,none⟩:=by
 unfold Addr.add
 split<;>simp_all
theorem zc{B:Nat}{w w':World}{b o:Nat}{v:Value}(hb:Below B w w')(hB:b<B)(h:w.cell? ⟨b,o,none⟩=some v):w'.cell? ⟨b,o,none⟩=some v:=(hb.cell (p:=⟨b,o,none⟩) hB).trans h
theorem bdn{B:Nat}{w w':World}(h:Below B w w')(n:Nat):Below B w (w'.drewN n):=⟨h.os,h.tape,h.output,h.size,h.block⟩
def cellsOf{α:Type}(enc:α->List Value)(xs:List α):List Value:=xs.flatMap enc
structure Codec{α:Type}(enc:α->List Value)(sz:Nat):Prop where
 len:∀x,(enc x).length=sz
 one:∀x,∀u∈enc x,u.oneCell'=true
 pos:0<sz
section
variable {α:Type} {enc:α->List Value} {sz:Nat}
theorem zm(C:Codec enc sz)(xs:List α):(cellsOf enc xs).length=xs.length*sz:=by
 induction xs with
 |nil=>simp[cellsOf]
 |cons x xs ih=>simp only[cellsOf,yaB,List.length_append,C.len,List.length_cons]at ih⊢;rw[ih,yag];omega
theorem zdp(C:Codec enc sz)(xs:List α):∀u∈cellsOf enc xs,u.oneCell'=true:=by
 intro u hu;obtain⟨x,_,hx⟩:=List.mem_flatMap.1 hu;exact C.one x u hx
theorem zv(xs ys:List α):cellsOf enc (xs++ys)=cellsOf enc xs++cellsOf enc ys:=by simp[cellsOf]
theorem zbG(x:α):cellsOf enc [x]=enc x:=by simp[cellsOf]
theorem zdo(C:Codec enc sz)(xs:List α):∀(i:Nat) (x:α),xs[i]? =some x->∀j,j<sz->(cellsOf enc xs)[i*sz+j]? =(enc x)[j]? :=by
 induction xs with
 |nil=>intro i x h;simp at h
 | cons y xs ih =>
   intro i x h j hj;cases i with
   | zero =>
     simp only[List.getElem?_cons_zero,Option.some.injEq]at h;subst h;simp only[cellsOf,yaB,Nat.zero_mul,yal];exact List.getElem?_append_left (by rw[C.len];exact hj)
   | succ i =>
     simp only[yR]at h;have:=ih i x h j hj;rw[<-this];simp only[cellsOf,yaB];rw[List.getElem?_append_right (by rw[C.len,yag];omega),C.len]
     congr 1
     rw[yag];omega
theorem zkG(C:Codec enc sz)(xs:List α)(k:Nat)(u:Value)(h:(cellsOf enc xs)[k]? =some u):∃x,xs[k/sz]? =some x/\(enc x)[k % sz]? =some u:=by
 have hk:k<xs.length*sz:=by rw[<-zm C];exact(yi.1 h).1
 have h1:k/sz<xs.length:=(Nat.div_lt_iff_lt_mul C.pos).2 hk;have h2:k/sz*sz+k % sz=k:=by rw[ybB];exact Nat.div_add_mod k sz
 refine⟨xs[k/sz],yf h1,?_⟩;rw[<-zdo C xs _ _ (yf h1) _ (Nat.mod_lt _ C.pos),h2,h]
def RowAt(w:World)(b o:Nat)(enc:α->List Value)(sz:Nat)(xs:List α):Prop:=
 ∀i x,xs[i]? =some x->∀j u,(enc x)[j]? =some u->w.cell? ⟨b,o+i*sz+j,none⟩=some u
def Rd(w:World)(B:Nat)(enc:α->List Value)(sz:Nat)(v:Value)(xs:List α):Prop:=
 ∃ (p : Option Addr) (cap : Nat), v = .slice p xs.length cap /\ xs.length <= cap /\ cap <= maxLen /\ (p = none -> cap = 0) /\
   ∀a,p=some a->0<xs.length->∃b o,a=⟨b,o,none⟩/\b<B/\RowAt w b o enc sz xs
def Own(w:World)(base:Nat)(e:TypeId)(enc:α->List Value)(sz:Nat)(v:Value)(xs:List α):Prop:=
 w.ownsRow base e sz v xs.length (cellsOf enc xs)
theorem RowAt.below{w w':World}{B b o:Nat}{xs:List α}(h:RowAt w b o enc sz xs)(hb:Below B w w')(hB:b<B):RowAt w' b o enc sz xs:=
 fun i x hx j u hu=>(hb.cell (p:=⟨b,_,none⟩) hB).trans (h i x hx j u hu)
theorem Rd.below{w w':World}{B B':Nat}{v:Value}{xs:List α}(h:Rd w B enc sz v xs)(hb:Below B w w')(hB:B<=B'):Rd w' B' enc sz v xs:=by
 obtain⟨p,cap,h1,h2,h3,h4,h5⟩:=h;refine⟨p,cap,h1,h2,h3,h4,fun a ha h0=> ?_⟩
 obtain⟨b,o,e,hb',hr⟩:=h5 a ha h0;exact⟨b,o,e,by omega,hr.below hb hb'⟩
theorem Rd.drewN{w:World}{B:Nat}{v:Value}{xs:List α}(h:Rd w B enc sz v xs)(n:Nat):Rd (w.drewN n) B enc sz v xs:=h
theorem Rd.nil(w:World)(B:Nat):Rd w B enc sz (.slice none 0 0) ([]:List α):=⟨none,0,rfl,yd _,yu _,fun _=>rfl,fun a h _=>by cases h⟩
theorem Rd.mono{w:World}{B B':Nat}{v:Value}{xs:List α}(h:Rd w B enc sz v xs)(hB:B<=B'):Rd w B' enc sz v xs:=by
 obtain⟨p,cap,h1,h2,h3,h4,h5⟩:=h;refine⟨p,cap,h1,h2,h3,h4,fun a ha h0=> ?_⟩
 obtain⟨b,o,e,hb',hr⟩:=h5 a ha h0;exact⟨b,o,e,by omega,hr⟩
theorem Own.nil(w:World)(base:Nat)(e:TypeId):Own w base e enc sz (.slice none 0 0) ([]:List α):=World.ownsRow_nil w base e sz
theorem Own.lt{w:World}{base:Nat}{e:TypeId}{v:Value}{xs:List α}(h:Own w base e enc sz v xs):∀k,v.ownBlock=some k->base<=k/\k<w.heap.size:=World.ownsRow.lt h
theorem Own.rd(C:Codec enc sz){w:World}{base:Nat}{e:TypeId}{v:Value}{xs:List α}(h:Own w base e enc sz v xs):Rd w w.heap.size enc sz v xs:=by
 have hlt:=h.lt;obtain⟨hl,h⟩:=h
 rcases h with⟨rfl,hn⟩|⟨g,cap,cur,rfl,hg,hh,hnc,hcm,hcs,ht⟩
 ·have:xs=[]:=yx hn;subst this;exact Rd.nil w _
 ·refine⟨_,cap,rfl,hnc,hcm,(fun e=>by cases e),fun a ha _=> ?_⟩
  cases ha;refine⟨g,0,rfl,(hlt g rfl).2,fun i x hx j u hu=> ?_⟩
  have hj:j<sz:=by rw[<-C.len x];exact(yi.1 hu).1
  have h1:=zdo C xs i x hx j hj
  have h2:w.cell? ((⟨g,0,none⟩:Addr).add (i*sz+j))=some u:=
   World.ownsRow.cells (w:=w) (base:=base) (e:=e) (size:=sz) (n:=xs.length) (xs:=cellsOf enc xs) ⟨hl,.inr ⟨g,cap,cur,rfl,hg,hh,hnc,hcm,hcs,ht⟩⟩ rfl _ u (h1.trans hu)
  rw[zbl]at h2;simpa[ybz]using h2
theorem Own.below{w w':World}{base B:Nat}{e:TypeId}{v:Value}{xs:List α}(h:Own w base e enc sz v xs)(hb:Below B w w')(hB:w.heap.size<=B):Own w' base e enc sz v xs:=by
 have hlt:=h.lt;obtain⟨hl,h⟩:=h;refine⟨hl,?_⟩
 rcases h with h|⟨g,cap,cur,rfl,hg,hh,r⟩
 ·exact .inl h
 ·exact .inr ⟨g,cap,cur,rfl,hg,(hb.block g (by have:=(hlt g rfl).2;omega)).trans hh,r⟩
theorem Own.kept{w w':World}{base:Nat}{e:TypeId}{v:Value}{xs:List α}{row:Option Nat}(h:Own w base e enc sz v xs)(hg:w.grownBy w' row)(hne:v.ownBlock=none\/v.ownBlock≠row):Own w' base e enc sz v xs:=World.ownsRow.kept h hg hne
theorem Own.alloc{w:World}{base:Nat}{e:TypeId}{v:Value}{xs:List α}(h:Own w base e enc sz v xs)(o:Obj):Own (w.alloc o) base e enc sz v xs:=World.ownsRow.alloc h o
theorem Own.mono{w:World}{base base':Nat}{e:TypeId}{v:Value}{xs:List α}(h:Own w base e enc sz v xs)(hb:base'<=base):Own w base' e enc sz v xs:=by
 obtain⟨hl,h⟩:=h;refine⟨hl,?_⟩
 rcases h with h|⟨g,cap,cur,rfl,hg,r⟩
 ·exact .inl h
 ·exact .inr ⟨g,cap,cur,rfl,by omega,r⟩
theorem Own.len{w:World}{base:Nat}{e:TypeId}{v:Value}{xs:List α}(h:Own w base e enc sz v xs):∃p cap,v= .slice p xs.length cap/\xs.length<=cap/\cap<=maxLen:=by
 obtain⟨_,h⟩:=h
 rcases h with⟨rfl,hn⟩|⟨g,cap,cur,rfl,hg,hh,hnc,hcm,_⟩
 ·exact⟨none,0,by rw[hn],by omega,yu _⟩
 ·exact⟨_,cap,rfl,hnc,hcm⟩
theorem RowAt.news{w:World}{b o:Nat}{xs:List α}(C:Codec enc sz)(h:RowAt w b o enc sz xs):∀j u,(cellsOf enc xs)[j]? =some u->w.cell? ((⟨b,o,none⟩:Addr).add j)=some u:=by
 intro j u hu;obtain⟨x,hx,hj⟩:=zkG C xs j u hu;have:=h _ x hx _ u hj;rw[ybz,show j/sz*sz+j % sz=j from by rw[ybB];exact Nat.div_add_mod j sz]at this
 rw[zbl];exact this
theorem RowAt.drop{w:World}{b o:Nat}{xs:List α}(h:RowAt w b o enc sz xs)(k:Nat):RowAt w b (o+k*sz) enc sz (xs.drop k):=by
 intro i x hx j u hu;rw[List.getElem?_drop]at hx;have:=h _ x hx j u hu;rw[yag]at this;rw[ybz o];exact this
theorem RowAt.take{w:World}{b o:Nat}{xs:List α}(h:RowAt w b o enc sz xs)(k:Nat):RowAt w b o enc sz (xs.take k):=by
 intro i x hx j u hu;rw[List.getElem?_take]at hx
 split at hx
 ·exact h i x hx j u hu
 ·cases hx
theorem Rd.sliced{w:World}{B:Nat}{a:Option Addr}{n cap:Nat}{xs:List α}(h:Rd w B enc sz (.slice a n cap) xs)(l:Nat)(hl:l<=n):Rd w B enc sz (sliced a l n cap sz) (xs.drop l):=by
 obtain⟨p,c,hv,h1,h2,h3,h4⟩:=h;simp only[Value.slice.injEq]at hv;obtain⟨rfl,rfl,rfl⟩:=hv;refine⟨if cap=l then a else a.map (·.add (l*sz)),cap-l,by simp[Go.sliced,yF],by simp only[yF];omega,by omega,fun hn=> ?_,fun ad ha h0=> ?_⟩
 ·have hp:a=none:=by
   split at hn
   ·exact hn
   ·simpa using hn
  have:=h3 hp;omega
 ·split at ha
  ·rename_i e;rw[yF]at h0;obtain⟨b,o,rfl,hb,hr⟩:=h4 ad ha (by omega)
   refine⟨b,o,rfl,hb,fun i x hx j u hu=> ?_⟩
   have:=(yi.1 hx).1;simp only[yF]at this;omega
  ·cases a with
   |none=>simp at ha
   | some a' =>
     rw[yF]at h0;obtain⟨b,o,rfl,hb,hr⟩:=h4 a' rfl (by omega)
     simp only[Option.map_some,Option.some.injEq,zbl]at ha;exact⟨b,o+l*sz,ha.symm,hb,hr.drop l⟩
theorem zh5{P:Program}{t e:TypeId}{i:TypeInfo}(ht:P.underlying t=some (.slice e))(hi:P.info? e=some i)(hsz:i.size=sz){w:World}{B:Nat}{a:Option Addr}{n cap:Nat}{xs:List α}(h:Rd w B enc sz (.slice a n cap) xs)(l:Nat)(hl:l<=n):
 ∃v,(∀W,(Instr.sliceAt t (.slice a n cap) (some (.int .i64 l)) none none).run P W= .ok v W)/\Rd w B enc sz v (xs.drop l):=by
 refine⟨_,fun W=> ?_,h.sliced l hl⟩
 have he:P.elem t=e:=by simp[Program.elem,ht]
 have ht':P.underlying t=some (.slice (P.elem t)):=by rw[he];exact ht
 rw[run_sliceAt_slice _ _ _ _ _ _ ht',run_slice_l W t a n cap ht' .i64 l (by omega) (by omega),he]
 simp[sizeOf,typeInfo,hi,hsz,Result.andThen]
end
end
section
open Go.RowKit
theorem zbU{a b:Bool}(h:a=b):Ending.returned (.bool a)= .returned (.bool b):=by rw[h]
def zhk(was what:Int):Bool:=if what=1 then was==0 else if what=2\/what=3 then was !=3 else false
theorem zlK(was what:Int)(w:World):
 Calls ye 129 #[.int .i64 was,.int .i64 what] w fun e w'=>e= .returned (.bool (zhk was what))/\w=w':=by
 go_enter Tryz.func129,Tryz.ntmps129
 go_wp2
 all_goals (go_ret;refine⟨zbU ?_,rfl⟩;simp_all [zhk])
structure En where
 seq:Int
 id:ByteArray
 what:Int
deriving DecidableEq
def En.ok(e:En):Prop:=(Lit.int .i64 e.seq).wf=true/\e.id.size<=maxLen/\(Lit.int .i64 e.what).wf=true
theorem zmU(a b:ByteArray):(a.toList==b.toList)=decide (a=b):=by
 rw[ByteArray.toList_eq,ByteArray.toList_eq];obtain⟨⟨x⟩⟩:=a;obtain⟨⟨y⟩⟩:=b;by_cases h:x=y
 ·simp[h]
 ·simp[h]
def En.eqv(a b:En):Bool:=a.seq==b.seq&&a.id.toList==b.id.toList&&a.what==b.what
def enAt(w:World)(b o:Nat)(e:Option En):Prop:=∃x,e=some x/\w.cell? ⟨b,o,none⟩=some (.int .i64 x.seq)/\w.cell? ⟨b,o+1,none⟩=some (.string x.id)/\w.cell? ⟨b,o+2,none⟩=some (.int .i64 x.what)
def RdE(w:World)(B:Nat)(v:Value)(es:List En):Prop:=
 (∀e∈es,e.ok)/\∃(p:Option Addr) (cap:Nat),v= .slice p es.length cap/\es.length<=cap/\cap<=maxLen/\(p=none->cap=0)/\
  ∀a,p=some a->0<es.length->∃b o,a=⟨b,o,none⟩/\b<B/\∀i,i<es.length->enAt w b (o+i*3) es[i]?
def zb1:List En->List En->Bool
 |[],[]=>true
 |a::l,b::m=>a.eqv b&&zb1 l m
 |_,_=>false
theorem zhr{p:Option Addr}{cap n k B:Nat}{C:Nat->Nat->Nat->Prop}(h0:p=none->cap=0)
 (h:∀a,p=some a->0<n->∃b o,a=⟨b,o,none⟩/\b<B/\∀i,i<n->C b o i) (hk:k<n/\n<=cap):∃b o,p=some ⟨b,o,none⟩/\b<B/\∀i,i<n->C b o i:=by
 cases p with
 |none=>have:=h0 rfl;omega
 |some a=>obtain⟨b,o,rfl,hb,hc⟩:=h a rfl (by omega);exact⟨b,o,rfl,hb,hc⟩
theorem zrM:ye.eqGuardType ye.depth 144=false:=by kernel_rfl
theorem zr9:ye.stoodInHeld 144=false:=by kernel_rfl
theorem neqE(a b:Int)(s t:ByteArray)(c d:Int)(w:World):(Go.binOp .neq 144 (.agg #[.int .i64 a,.string s,.int .i64 c]) (.agg #[.int .i64 b,.string t,.int .i64 d])).run ye w=
 .ok (.bool (!(a==b&&s.toList==t.toList&&c==d))) w:=by
 have h1:=zr9;rw[run_neq_struct];simp[go_sem,h1,Tryz.underlying144];by_cases e1:a=b<;>by_cases e2:s.toList=t.toList<;>by_cases e3:c=d<;>simp[e1,e2,e3]
theorem zmJ{l m:List En}{k:Nat}{x y:En}(hx:l[k]? =some x)(hy:m[k]? =some y):zb1 (l.take (k+1)) (m.take (k+1))=(zb1 (l.take k) (m.take k)&&x.eqv y):=by
 induction k generalizing l m with
 |zero=>cases l<;>cases m<;>simp_all [zb1]
 | succ k ih =>
   cases l with
   |nil=>simp at hx
   | cons a l => cases m with
     |nil=>simp at hy
     |cons b m=>simp only[yR]at hx hy;simp only[List.take_succ_cons,zb1];rw[ih hx hy,Bool.and_assoc]
theorem zli{l m:List En}{k:Nat}{x y:En}(hx:l[k]? =some x)(hy:m[k]? =some y)(h:x.eqv y=false):zb1 l m=false:=by
 induction k generalizing l m with
 |zero=>cases l<;>cases m<;>simp_all [zb1]
 | succ k ih =>
   cases l with
   |nil=>simp at hx
   | cons a l => cases m with
     |nil=>simp at hy
     |cons b m=>simp only[yR]at hx hy;simp only[zb1];rw[ih hx hy,Bool.and_false]
theorem zoc{l m:List En}(h:l.length≠m.length):zb1 l m=false:=by
 induction l generalizing m with
 |nil=>cases m<;>simp_all [zb1]
 | cons a l ih => cases m with
   |nil=>simp[zb1]
   |cons b m=>simp only[zb1];rw[ih (by simpa using h),Bool.and_false]
theorem zh3(w:World)(B:Nat)(v u:Value)(l m:List En)(hv:RdE w B v l)(hu:RdE w B u m):
 Calls ye 55 #[v,u] w fun e w'=>e= .returned (.bool (zb1 l m))/\∃n,w'=w.drewN n:=by
 obtain⟨_,p,c,rfl,hlc,hcm,hp0,hp⟩:=hv;obtain⟨_,q,d,rfl,hmd,hdm,hq0,hq⟩:=hu;unfold maxLen at hcm hdm;by_cases hlen:l.length=m.length
 ·have hb:((l.length:Int) !=(m.length:Int))=false:=by simp[hlen]
  have hle1:l.length<=m.length:=by omega
  have hle2:m.length<=l.length:=by omega
  have HL:=yc hlen;clear hlen
  go_enter Tryz.func55,Tryz.ntmps55
  go_wp2
  go_loopw [5] (fun i wr=>∃k:Nat,k<=l.length/\i= .int .i64 k/\zb1 (l.take k) (m.take k)=true/\∃n,wr=w.drewN n) (fun i _=>l.length-(intOf i).toNat)
  case atStart=>exact⟨0,yu _,rfl,by simp[zb1],0,rfl⟩
  case round=>
   obtain⟨k,hk,rfl,hsm,nr,rfl⟩:=hrel;by_cases hlt:k<l.length
   ·obtain⟨b1,o1,rfl,hb1,hc1⟩:=zhr (k:=k) hp0 hp (by omega)
    obtain⟨b2,o2,rfl,hb2,hc2⟩:=zhr (k:=k) hq0 hq (by omega)
    have hkm:k<m.length:=by omega
    obtain⟨x,hx,g10,g11,g12⟩:=hc1 k hlt;obtain⟨y,hy,g20,g21,g22⟩:=hc2 k (by omega)
    have HX:=yc hx;have HY:=yc hy;clear hx hy;clear hp hq hc1 hc2 hp0 hq0;have hg:=zrM;have hq:=fun W=>neqE x.seq y.seq x.id y.id x.what y.what W
    cases hxy:x.eqv y with
    | true =>
      have hq2:(!(x.seq==y.seq&&x.id.toList==y.id.toList&&x.what==y.what))=false:=by unfold En.eqv at hxy;rw[hxy];rfl
      have HS:=yc (zmJ HX.out HY.out);rw[hsm,hxy]at HS;clear hxy
      go_wp2
      go_quiet (fail)
      go_wp2
      go_roundw
      case rel=>exact⟨k+1,by omega,by go_num,HS.out,_,rfl⟩
      case measure=>simp[intOf];omega
    | false =>
      have hq2:(!(x.seq==y.seq&&x.id.toList==y.id.toList&&x.what==y.what))=true:=by unfold En.eqv at hxy;rw[hxy];rfl
      have HS:=yc (zli HX.out HY.out hxy);clear hxy
      go_wp2
      go_quiet (fail)
      go_wp2
      go_ret;exact⟨zbU HS.out.symm,_,World.drewN_drewN _ _ _⟩
   ·go_wp2
    go_ret;refine⟨zbU ?_,_,rfl⟩;have e:=HL.out;rw[yq (by omega),yq (by omega)]at hsm
    exact hsm.symm
 ·have hb:((l.length:Int) !=(m.length:Int))=true:=by simp;omega
  go_enter Tryz.func55,Tryz.ntmps55
  go_wp2
  go_ret;exact⟨zbU (zoc hlen).symm,0,rfl⟩
theorem zrI(a b:En):a.eqv b=decide (a=b):=by
 obtain⟨s,i,x⟩:=a;obtain⟨t,j,y⟩:=b;unfold En.eqv;rw[zmU];by_cases h1:s=t<;>by_cases h2:i=j<;>by_cases h3:x=y<;>simp[h1,h2,h3]
theorem zpO(l m:List En):zb1 l m=decide (l=m):=by
 induction l generalizing m with
 |nil=>cases m<;>simp[zb1]
 | cons a l ih => cases m with
   |nil=>simp[zb1]
   |cons b m=>simp only[zb1,ih,zrI];by_cases h1:a=b<;>by_cases h2:l=m<;>simp[h1,h2]
theorem zpQ(w:World)(B:Nat)(v u:Value)(l m:List En)(hv:RdE w B v l)(hu:RdE w B u m):
 Calls ye 55 #[v,u] w fun e w'=>e= .returned (.bool (decide (l=m)))/\∃n,w'=w.drewN n:=by
 rw[<-zpO];exact zh3 w B v u l m hv hu
end
section
open Go Go.Maps Go.WideMaps Go.ChangeMaps Go.MapKept Go.WideShapes Go.RowKit
def zgJ(v:Value):Option (DataW Value×List MemPlace):=some (.held v,[])
def ziE(D:DataW Value)(s:List UInt8):Option Value:=match D.atKey (.string s) .nil with
 | .held v=>some v
 |_=>none
theorem zgY{H:Type}(x:Lit×DataW H)(q:Lit×DataW H->Bool)(hq:q x=false):∀l:List (Lit×DataW H),(DataW.insert x l).find? q=l.find? q
 |[]=>by simp[DataW.insert,hq]
 | y :: r => by
   unfold DataW.insert
   split
   ·simp[yav,hq]
   ·simp only[yav];split
    ·rfl
    ·exact zgY x q hq r
theorem zeK{H:Type}(x:Lit×DataW H)(q:Lit×DataW H->Bool)(hq:q x=true):∀l:List (Lit×DataW H),(∀y∈l,q y=false)->(DataW.insert x l).find? q=some x
 |[],_=>by simp[DataW.insert,hq]
 | y :: r, h => by
   unfold DataW.insert
   split
   ·simp[yav,hq]
   ·simp only[yav,h y (by simp)]
    exact zeK x q hq r (fun z hz=>h z (by simp[hz]))
theorem zfa{α:Type}(p q:α->Bool)(h:∀x,q x=true->p x=true):∀l:List α,(l.filter p).find? q=l.find? q
 |[]=>rfl
 | y :: r => by
   simp only[List.filter_cons,yav];cases hp:p y with
   | true =>
     simp only[if_true,yav];cases hq:q y with
     |true=>rfl
     |false=>exact zfa p q h r
   | false =>
     cases hq:q y with
     |true=>rw[h y hq]at hp;cases hp
     |false=>simpa using zfa p q h r
theorem zpt(E:List (Lit×DataW Value))(s t:List UInt8)(v:Value):ziE ((DataW.map E).put (.string s) (.held v)) t=if t=s then some v else ziE (.map E) t:=by
 unfold ziE DataW.atKey DataW.put;dsimp only;by_cases h:t=s
 ·subst h;rw[zeK _ _ (by simp[Lit.sameKey]) _ (fun y hy=>by simpa using(List.mem_filter.1 hy).2)]
  simp
 ·rw[zgY _ _ (by simp[Lit.sameKey];exact fun e=>h e.symm),zfa _ _ (fun x hx=>by
   cases hxk:x.1<;>simp_all [Lit.sameKey])]
  simp[h]
def MapF(w:World)(P:Program)(k:TypeId)(b n:Nat)(f:List UInt8->Option Value):Prop:=
 ∃E:List (Lit×DataW Value),w.ownsMap P k zgJ b n (.map E)/\∀s,ziE (.map E) s=f s
section
variable {P:Program} {k:TypeId} {w:World} {b n:Nat} {f:List UInt8->Option Value}
theorem MapF.made(w:World)(P:Program)(k:TypeId):MapF (w.alloc (.map #[] 0)) P k w.heap.size 0 (fun _=>none):=
 ⟨[],World.ownsMap_made w P k zgJ,fun _=>rfl⟩
theorem MapF.lt(h:MapF w P k b n f):b<w.heap.size:=by
 obtain⟨E,h,_⟩:=h;exact h.lt
theorem MapF.kept{w':World}{row:Option Nat}(h:MapF w P k b n f)(hg:w.grownBy w' row)(hne:some b≠row):MapF w' P k b n f:=by
 obtain⟨E,h,he⟩:=h;exact⟨E,h.kept hg hne,he⟩
theorem MapF.alloc(h:MapF w P k b n f)(o:Obj):MapF (w.alloc o) P k b n f:=by
 obtain⟨E,h,he⟩:=h;exact⟨E,h.alloc o,he⟩
theorem MapF.drewN(h:MapF w P k b n f)(m:Nat):MapF (w.drewN m) P k b n f:=h
theorem MapF.of_block{w':World}(h:MapF w P k b n f)(hb:w'.heap[b]? =w.heap[b]?):MapF w' P k b n f:=by
 obtain⟨E,⟨es,clock,h1,h2⟩,he⟩:=h;exact⟨E,⟨es,clock,hb.trans h1,h2⟩,he⟩
theorem MapF.below{B:Nat}{w':World}(h:MapF w P k b n f)(hb:Below B w w')(hB:b<B):MapF w' P k b n f:=h.of_block (hb.block b hB)
theorem MapF.mono(h:MapF w P k b n f){m:Nat}(hm:n<=m):MapF w P k b m f:=by
 obtain⟨E,h,he⟩:=h;exact⟨E,h.mono hm,he⟩
theorem zi0(E:List (Lit×DataW Value))(s:List UInt8):(∃p,E.find? (fun p=>p.1.sameKey (.string s))=some p/\∀z:DataW Value,(DataW.map E).atKey (.string s) z=p.2)\/
 (E.find? (fun p=>p.1.sameKey (.string s))=none/\∀z:DataW Value,(DataW.map E).atKey (.string s) z=z):=by
 unfold DataW.atKey;cases h:E.find? (fun p=>p.1.sameKey (.string s))with
 |none=>exact .inr ⟨rfl,fun z=>by simp[h]⟩
 |some p=>exact .inl ⟨p,rfl,fun z=>by simp[h]⟩
theorem MapF.look{t e:TypeId}(h:MapF w P k b n f)(hk:P.underlying k=some .string)(ht:P.underlying t=some (.map k e)){z:Value}(hz:(zeroValue e).run P w= .ok z w){s:ByteArray}(hs:s.size<=maxLen):
 (Instr.lookup t (.map (some b)) (.string s) false).run P w= .ok ((f s.data.toList).getD z) w:=by
 obtain⟨E,h,he⟩:=h;obtain⟨v,ps,hrun,hv⟩:=h.lookup (string_keyed hk) ht hz (zd:= .held z) (zp:=[]) rfl (keyOf_string_mk hk hs);rw[hrun,<-he];simp only[zgJ,Option.some.injEq,Prod.mk.injEq]at hv;have hv1:=hv.1;unfold ziE
 rcases zi0 E s.data.toList with⟨p,_,hp⟩|⟨_,hp⟩
 ·rw[hp]at hv1⊢;rw[<-hv1];rfl
 ·rw[hp]at hv1⊢;cases hv1;rfl
theorem MapF.look_ok{t e:TypeId}(h:MapF w P k b n f)(hk:P.underlying k=some .string)(ht:P.underlying t=some (.map k e)){z:Value}(hz:(zeroValue e).run P w= .ok z w){s:ByteArray}(hs:s.size<=maxLen):
 (Instr.lookup t (.map (some b)) (.string s) true).run P w= .ok (.tuple #[(f s.data.toList).getD z,.bool (f s.data.toList).isSome]) w:=by
 obtain⟨E,h,he⟩:=h;obtain⟨v,ps,hrun,hv⟩:=h.look_ok (string_keyed hk) ht hz (zd:= .held z) (zp:=[]) rfl (keyOf_string_mk hk hs);rw[hrun,<-he];simp only[zgJ,Option.some.injEq,Prod.mk.injEq]at hv;have hv1:=hv.1;unfold ziE
 rcases zi0 E s.data.toList with⟨p,_,hp⟩|⟨_,hp⟩
 ·rw[has_true_of_atKey hp];rw[hp]at hv1⊢;rw[<-hv1];rfl
 ·rw[has_false_of_atKey hp];rw[hp]at hv1⊢;cases hv1;rfl
theorem MapF.store{t e:TypeId}(h:MapF w P k b n f)(hk:P.underlying k=some .string)(ht:P.underlying t=some (.map k e))(hn:n<maxLen){s:ByteArray}(hs:s.size<=maxLen)(v:Value):
 ∃w',(Instr.mapUpdate t (.map (some b)) (.string s) v).run P w= .ok () w'/\MapF w' P k b (n+1) (fun u=>if u=s.data.toList then some v else f u)/\w.grownBy w' (some b):=by
 obtain⟨E,h,he⟩:=h;obtain⟨w',hrun,hown,hg⟩:=h.update (string_keyed hk) ht hn (kl:= .string s.data.toList) (keyOf_string_mk hk hs) (d:= .held v) (ps:=[]) rfl;refine⟨w',hrun,⟨_,hown,fun u=> ?_⟩,hg⟩
 refine(zpt E s.data.toList u v).trans ?_;rw[he u]
end
section
variable {P:Program} (w:World) {ops:Array Oper} {rest:List Oper} {o:Oper} {a:Act} {Q:Exit->Act->World->Prop}
theorem zdx(hg:o.guard=none)(m x:Operand)(t:TypeId)(hop:o.op=Op.lookup t m x false)(k e:TypeId)(hk:P.underlying k=some .string)(ht:P.underlying t=some (.map k e)){z:Value}(hz:(zeroValue e).run P w= .ok z w)
 (b n:Nat) (f:List UInt8->Option Value) (hm:a.eval m= .map (some b)) (hown:MapF w P k b n f) (s:ByteArray) (hx:a.eval x= .string s) (hs:s.size<=maxLen) {v:Value} (hv:(f s.data.toList).getD z=v)
 (hK:wpList P ops Q rest (a.put o.dst v) w):wpList P ops Q (o::rest) a w:=by
 refine wpList_plain hg fun K' hK'=> ?_
 have hrun:=hown.look hk ht hz hs;rw[hv]at hrun;unfold Oper.wp;simp[execOp,hop,hm,hx,hrun,Result.andThen];exact hK' _ _ hK
theorem zfu(hg:o.guard=none)(m x v:Operand)(t:TypeId)(hop:o.op=Op.mapUpdate t m x v)(k e:TypeId)(hk:P.underlying k=some .string)(ht:P.underlying t=some (.map k e))
 (b n:Nat) (f:List UInt8->Option Value) (hm:a.eval m= .map (some b)) (hown:MapF w P k b n f) (hn:n<maxLen) (s:ByteArray) (hx:a.eval x= .string s) (hs:s.size<=maxLen) (val:Value) (hv:a.eval v=val)
 (hK:∀w',MapF w' P k b (n+1) (fun u=>if u=s.data.toList then some val else f u)->w.grownBy w' (some b)->wpList P ops Q rest (a.put o.dst undef) w'):wpList P ops Q (o::rest) a w:=by
 refine wpList_plain hg fun K' hK'=> ?_
 obtain⟨w',hrun,h1,h2⟩:=hown.store hk ht hn hs val;unfold Oper.wp;simp[execOp,hop,hm,hx,hv,hrun,Result.andThen];exact hK' _ _ (hK w' h1 h2)
end
end
section
open Go.RowKit Go.OpenShut
def zhR(l:List En)(id:ByteArray):Int:=l.foldl (fun a e=>if e.id=id then e.what else a) 0
def zfc(l:List En)(floor:Int)(k:Nat):Bool:=match l[k]? with
 |some e=>e.seq==floor+1+k&&zhk (zhR (l.take k) e.id) e.what
 |none=>true
def zeW(n:Nat)(floor seq:Int):Bool:=decide (0<=floor/\floor<=seq/\seq<=9007199254740991/\seq-floor=n)
def zdd(l:List En)(floor seq:Int):Bool:=zeW l.length floor seq&&(List.range l.length).all (zfc l floor)
theorem zn7{l:List En}{floor seq:Int}(h:zeW l.length floor seq=false):zdd l floor seq=false:=by simp[zdd,h]
theorem zmA{l:List En}{floor seq:Int}(h:zeW l.length floor seq=true)(ha:∀k,k<l.length->zfc l floor k=true):zdd l floor seq=true:=by
 simp only[zdd,h,Bool.true_and,yah,List.mem_range];exact ha
theorem zh0{l:List En}{floor seq:Int}{k:Nat}(hk:k<l.length)(h:zfc l floor k=false):zdd l floor seq=false:=by
 unfold zdd;rw[Bool.and_eq_false_iff]
 right
 rw[Bool.eq_false_iff];intro ha;rw[yah]at ha;have:=ha k (by simpa using hk)
 rw[h]at this;cases this
theorem zlL{l:List En}{floor:Int}{k:Nat}{x:En}(hx:l[k]? =some x):zfc l floor k=(x.seq==floor+1+k&&zhk (zhR (l.take k) x.id) x.what):=by simp[zfc,hx]
theorem zpz{l:List En}{floor:Int}{k:Nat}{x:En}(hx:l[k]? =some x)(h:x.seq≠floor+1+k\/x.what<1\/3<x.what):zfc l floor k=false:=by
 rw[zlL hx]
 rcases h with h|h|h
 ·simp[h]
 ·simp[zhk,show¬x.what=1 by omega,show¬x.what=2 by omega,show¬x.what=3 by omega]
 ·simp[zhk,show¬x.what=1 by omega,show¬x.what=2 by omega,show¬x.what=3 by omega]
theorem zrK{l:List En}{k:Nat}{x:En}(h:∀e∈l,e.ok)(hx:l[k]? =some x):x.ok:=h x (List.mem_of_getElem? hx)
end
section
open Go.RowKit
def zD{α:Type}(w:World)(t:TypeId)(enc:α->List Value)(sz:Nat)(xs:List α)(e:Ending)(w':World):Prop:=
 ∃u,e= .returned u/\Own w' w.heap.size t enc sz u xs/\Below w.heap.size w w'
theorem zmj:(ye.info? 144).map (fun i=>(i.zero,i.size,i.bytes))=some (some (.agg #[.int .i64 0,.string ByteArray.empty,.int .i64 0]),3,32):=by kernel_rfl
theorem zfB{α:Type}{enc:α->List Value}(C:Codec enc 3)(w:World)(v:Value)(xs:List α)(hv:Rd w w.heap.size enc 3 v xs)(hsz:xs.length*32<=140737488355328):
 Calls ye 161 #[v] w (zD w 144 enc 3 xs):=by
 obtain⟨p,cap,rfl,hlc,hcm,hp0,hp⟩:=hv;have HS:=yc hsz;have HC:=yc hcm;clear hsz hcm;cases p with
 | none =>
   have h0:xs.length=0:=by have:=hp0 rfl;omega
   obtain rfl:=yx h0;obtain rfl:cap=0:=hp0 rfl;have hnil:∀W n,(Go.binOp .eql 38 (.slice none n 0) (.slice none 0 0)).run ye W= .ok (.bool true) W:=fun W n=>ybg W 38 144 none n 0 0 0 Tryz.underlying38
   clear hp hp0 h0 hlc
   go_enter Tryz.func161,Tryz.ntmps161
   go_wp2
   go_ret;exact⟨_,rfl,Own.nil w _ _,Below.refl _ _⟩
 | some a =>
   obtain⟨i0,hi,hz0,hz1,hz2⟩:=info_parts zmj;have hnil:∀W n c,(Go.binOp .eql 38 (.slice (some a) n c) (.slice none 0 0)).run ye W= .ok (.bool false) W:=fun W n c=>ybg W 38 144 (some a) n c 0 0 Tryz.underlying38
   have hO:=World.ownsRow_made (base:=w.heap.size) (e:=144) (size:=3) w #[] 0 (yd _) (yu _) rfl
   have hN:∀ob j u,(cellsOf enc xs)[j]? =some u->(w.alloc ob).cell? (a.add j)=some u:=by
    intro ob j u hu;by_cases h0:0<xs.length
    ·obtain⟨b,o,rfl,hb,hr⟩:=hp a rfl h0;exact(hr.below ((Below.refl w.heap.size w).alloc (yd _) ob) hb).news C j u hu
    ·have:xs=[]:=yx (by omega)
     subst this;simp[cellsOf]at hu
   clear hp hp0;have hL:=zm C xs;have h1:=zdp C xs;have HK:Hid (0+xs.length<=maxLen):=by have:=HC.out;unfold Hid;omega
   have HY:Hid ((0+xs.length)*32<=140737488355328):=by have:=HS.out;unfold Hid;omega
   go_enter Tryz.func161,Tryz.ntmps161
   go_wp2_with (at_builtin;refine wpList_append_own _ rfl _ _ 38 rfl w.heap.size 144 i0 _ 3 32 Tryz.underlying38 hi hz0 hz1 hz2 rfl (by decide) (.slice (some ⟨w.heap.size,0,none⟩) 0 0) 0 [] rfl hO a xs.length cap (cellsOf enc xs) rfl hL (hN _) h1 HK.out HY.out (by simp) ?_;intro v1 w1 hown1 hg1 _)
   go_ret;rw[yal,List.nil_append]at hown1;exact⟨v1,rfl,hown1,((Below.refl w.heap.size w).alloc (yd _) _).grown hg1 (by simp) (fun k e=>by cases e;exact yd _)⟩
end
end Go.Proofs.YtemofofnkchmeaaGreatDoor
