import Derived.Test.YtemofofnkchmeaaGreatDoorL12
import Derived.Test.YtemofofnkchmeaaGreatDoorL07
import Derived.Test.YtemofofnkchmeaaGreatDoorL11
import Derived.Test.YtemofofnkchmeaaGreatDoorL09
import Derived.Test.YtemofofnkchmeaaGreatDoorL01
import Derived.Deep.RegionLaw
import Derived.Test.YtemofofnkchmeaaGreatDoorL05
import Derived.Test.YtemofofnkchmeaaGreatDoorL04
import Derived.Test.YtemofofnkchmeaaGreatDoorL10
import Derived.Laws.CopyRow
import Derived.Laws.CopyOwn
import Derived.Shelf.Spec.SlicesInsertGrow
import Derived.Outline
import Derived.Shelf.Small.Strs
import Derived.Shelf.Strings.Prefix
import Derived.Test.YtemofofnkchmeaaGreatDoorProg
import Derived.BigQuiet
set_option linter.unusedSimpArgs false
set_option linter.unusedVariables false
set_option maxRecDepth 200000
set_option maxHeartbeats 8000000
namespace Go.Proofs.YtemofofnkchmeaaGreatDoor
open _root_.Array renaming getElem?_eq_some_iff->yl,getElem?_modify->yC,getElem?_toList->yK,length_toList->yH
open _root_.Go.Lib renaming hid->yc
open _root_.List renaming append_assoc->yV,drop_eq_getElem_cons->yU,find?_cons->yav,getElem?_append_right->yN,getElem?_eq_some_iff->yi,getElem?_of_mem->yQ,getElem?_take->yac,length_append->yp,length_drop->yF,length_take->yz,size_toArray->yP,take_append_drop->y9,take_append_of_le_length->yaW,take_left->ya5,take_of_length_le->yq,take_take->ybh
open _root_.Nat renaming add_mul->yag,le_refl->yd,le_trans->yg,min_def->ybD,min_eq_left->yaw,one_mul->ybd,zero_add->yal
open _root_.Go.Proofs.Tryz renaming prog->ye
section
open Go Go.RowKit
def zbq:ByteArray:=⟨#[105,110,65,100,100,114,101,115,115,66,111,111,107]⟩
def zcH:ByteArray:=⟨#[97,100,100,114,101,115,115,66,111,111,107,73,100,115]⟩
def zbo:ByteArray:=⟨#[117,105,100]⟩
def zcP:ByteArray:=⟨#[104,97,115,77,101,109,98,101,114]⟩
def zcI:ByteArray:=⟨#[109,101,109,98,101,114,115]⟩
def zfs:ByteArray:=⟨#[105,110,100,105,118,105,100,117,97,108]⟩
def zcY:ByteArray:=⟨#[99,114,101,97,116,101,100,66,101,102,111,114,101]⟩
def zcX:ByteArray:=⟨#[99,114,101,97,116,101,100,65,102,116,101,114]⟩
def zc3:ByteArray:=⟨#[117,112,100,97,116,101,100,66,101,102,111,114,101]⟩
def zc2:ByteArray:=⟨#[117,112,100,97,116,101,100,65,102,116,101,114]⟩
def zJ:ByteArray:=⟨#[111,112,101,114,97,116,111,114]⟩
def zbb:ByteArray:=⟨#[99,111,110,100,105,116,105,111,110,115]⟩
def zch:ByteArray:=⟨#[65,78,68]⟩
def zdS:ByteArray:=⟨#[79,82]⟩
def ze3:ByteArray:=⟨#[78,79,84]⟩
def zb9(n:ByteArray):Bool:=decide (n=zdT)||(decide (n=zbg)||(decide (n=zcj)||allF.any (fun y=>decide (y=n))))
def zde(n:ByteArray):Bool:=decide (n=zcY)||(decide (n=zcX)||(decide (n=zc3)||decide (n=zc2)))
def zfx(n:ByteArray):Bool:=decide (n=zbq)||(decide (n=zbo)||(decide (n=zcP)||(decide (n=zL)||zde n)))
def zh1(n:ByteArray)(x:JV):Bool:=decide (x.k=4)&&(decide (x.s.size<=255)&&((!zb9 n||decide (x.s.size<=64))&&((!decide (n=zbq)||idB x.s)&&(!zde n||(zbm x.s.data.toList).isSome))))
def zdh(n:ByteArray)(x:JV):Int:=if zfx n||zb9 n then(if zh1 n x then 0 else 1)else 200
def zck:List (ByteArray×JV)->Int
 |[]=>0
 |p::r=>if zdh p.1 p.2=0 then zck r else zdh p.1 p.2
def zdP(t:JV):Bool:=decide (t.m.length=2)&&(decide (((t.get zJ).getD JV.zero).k=4)&&((decide (((t.get zJ).getD JV.zero).s=zch)||(decide (((t.get zJ).getD JV.zero).s=zdS)||decide (((t.get zJ).getD JV.zero).s=ze3)))&&decide (((t.get zbb).getD JV.zero).k=5)))
def zbx(t:JV):List JV:=((t.get zbb).getD JV.zero).l
mutual
def zc4:JV->Int
 | .mk k n s l m=>if k=6 then(if((JV.mk k n s l m).get zJ).isSome then(if zdP (.mk k n s l m)then zjP m else 1)else zck m)else 1
def zjP:List (ByteArray×JV)->Int
 |[]=>0
 |(a,v)::r=>if a=zbb then chkV v else zjP r
def chkV:JV->Int
 | .mk _ _ _ l _=>zcf l
def zcf:List JV->Int
 |[]=>0
 |x::r=>if zc4 x=0 then zcf r else zc4 x
end
def zdq(f:JV):Int:=if f.k=1 then 0 else if 30<zf f then 200 else zc4 f
def zd3(v:JV)(name s:ByteArray):Bool:=match v.get name with|some x=>(x.get s).isSome|none=>false
def zP(v:JV)(name s:ByteArray):Option Bool:=match zj v name with|[]=>none|x::_=>some (decide (zc5 x.data.toList s.data.toList<0))
def zbw(v:JV)(n s:ByteArray):Bool:=
 if n=zbq then zd3 v zcH s else
 if n=zbo then decide (zj v zbo=[s])else
 if n=zcP then zd3 v zcI s else
 if n=zL then(if(v.get zL).isSome then decide (zj v zL=[s])else decide (s=zfs))else
 if n=zcY then decide (zP v createdN s=some true)else
 if n=zcX then decide (zP v createdN s=some false)else
 if n=zc3 then decide (zP v zG s=some true)else
 if n=zc2 then decide (zP v zG s=some false)else zel s.data.toList (zbC v n)
def zhH(o:ByteArray)(bs:List Bool):Bool:=if o=zch then bs.all id else if o=zdS then bs.any id else !bs.any id
mutual
def zcL(v:JV):JV->Bool
 | .mk k n s l m => match (JV.mk k n s l m).get zJ with
   |some o=>zhH o.s (zj5 v m)
   |none=>m.all (fun p=>zbw v p.1 p.2.s)
def zj5(v:JV):List (ByteArray×JV)->List Bool
 |[]=>[]
 |(a,x)::r=>if a=zbb then holV v x else zj5 v r
def holV(v:JV):JV->List Bool
 | .mk _ _ _ l _=>zhi v l
def zhi(v:JV):List JV->List Bool
 |[]=>[]
 |x::r=>zcL v x::zhi v r
end
def zcn(f v:JV):Bool:=decide (v.k=6)&&(decide (zdq f=0)&&zcL v f)
theorem zps{t:JV}(h:t.k=6):t.mem=t.m:=by cases t;exact if_pos h
theorem zpr{t:JV}(h:t.k≠6):t.mem=[]:=by cases t;exact if_neg h
theorem zhf{t:JV}(h:t.k≠6)(n:ByteArray):t.get n=none:=by
 unfold JV.get JV.place;rw[zpr h]
 rfl
theorem zkf(p:ByteArray×JV)(m:List (ByteArray×JV))(n:ByteArray):((p::m).findIdx? (fun q=>decide (q.1=n))).bind (fun i=>(p::m)[i]?.map (·.2))=if p.1=n then some p.2 else(m.findIdx? (fun q=>decide (q.1=n))).bind (fun i=>m[i]?.map (·.2)):=by
 rw[List.findIdx?_cons];by_cases h:p.1=n
 ·rw[if_pos h,if_pos (by simpa using h)]
  rfl
 ·rw[if_neg h,if_neg (by simpa using h)]
  cases m.findIdx? (fun q=>decide (q.1=n))<;>rfl
theorem zj3{t:JV}(h:t.k=6)(n:ByteArray):t.get n=mOf t.m n:=by
 unfold JV.get JV.place mOf;rw[zps h]
 induction t.m with
 |nil=>rfl
 | cons p r ih =>
   rw[zkf,yav];by_cases hp:p.1=n
   ·rw[if_pos hp,decide_eq_true hp]
    rfl
   ·rw[if_neg hp,decide_eq_false hp];exact ih
theorem ziZ(p:ByteArray×JV)(m:List (ByteArray×JV))(n:ByteArray):mOf (p::m) n=if p.1=n then some p.2 else mOf m n:=by
 unfold mOf;rw[yav];by_cases hp:p.1=n
 ·rw[if_pos hp,decide_eq_true hp]
  rfl
 ·rw[if_neg hp,decide_eq_false hp]
theorem get_k{t x:JV}{n:ByteArray}(h:t.get n=some x):t.k=6:=by
 by_cases hk:t.k=6
 ·exact hk
 ·rw[zhf hk]at h;cases h
theorem zqz(v:JV):chkV v=zcf v.l:=by cases v;rw[chkV];rfl
theorem zqV(v x:JV):holV v x=zhi v x.l:=by cases x;rw[holV];rfl
theorem zqy(m:List (ByteArray×JV)):zjP m=zcf ((mOf m zbb).getD JV.zero).l:=by
 induction m with
 |nil=>rw[zjP];rfl
 | cons p r ih =>
   obtain⟨a,v⟩:=p;rw[zjP,ziZ];by_cases h:a=zbb
   ·rw[if_pos h,if_pos h,zqz]
    rfl
   ·rw[if_neg h,if_neg h,ih]
theorem zqS(v:JV)(m:List (ByteArray×JV)):zj5 v m=zhi v ((mOf m zbb).getD JV.zero).l:=by
 induction m with
 |nil=>rw[zj5];rfl
 | cons p r ih =>
   obtain⟨a,x⟩:=p;rw[zj5,ziZ];by_cases h:a=zbb
   ·rw[if_pos h,if_pos h,zqV]
    rfl
   ·rw[if_neg h,if_neg h,ih]
theorem zqU(v:JV)(l:List JV):zhi v l=l.map (zcL v):=by
 induction l with
 |nil=>rw[zhi];rfl
 |cons x r ih=>rw[zhi,ih];rfl
theorem ziq(t:JV):zc4 t=if t.k=6 then(if(t.get zJ).isSome then(if zdP t then zcf (zbx t)else 1)else zck t.m)else 1:=by
 cases t with
 | mk k n s l m =>
   rw[zc4]
   show(if k=6 then _ else _)=if k=6 then _ else _
   by_cases h:k=6
   ·rw[if_pos h,if_pos h,zqy];unfold zbx;rw[zj3 (t:=JV.mk k n s l m) h zbb]
    rfl
   ·rw[if_neg h,if_neg h]
theorem zqT(v t:JV):zcL v t=match t.get zJ with|some o=>zhH o.s ((zbx t).map (zcL v))|none=>t.m.all (fun p=>zbw v p.1 p.2.s):=by
 cases t with
 | mk k n s l m =>
   rw[zcL];cases h:(JV.mk k n s l m).get zJ with
   |none=>rfl
   | some o =>
     dsimp only;rw[zqS,zqU];unfold zbx;rw[zj3 (t:=JV.mk k n s l m) (get_k h) zbb]
     rfl
theorem zl2{l:List JV}{j:Nat}{x:JV}(h:l[j]? =some x):zcf (l.drop j)=if zc4 x=0 then zcf (l.drop (j+1))else zc4 x:=by
 obtain⟨h1,h2⟩:=yi.1 h;rw[yU h1,h2,zcf]
theorem zkK{l:List (ByteArray×JV)}{j:Nat}{x:ByteArray×JV}(h:l[j]? =some x):zck (l.drop j)=if zdh x.1 x.2=0 then zck (l.drop (j+1))else zdh x.1 x.2:=by
 obtain⟨h1,h2⟩:=yi.1 h;rw[yU h1,h2]
 rfl
theorem zoE{α:Type}{p:α->Bool}{l:List α}{j:Nat}{x:α}(h:l[j]? =some x):(l.drop j).all p=(p x&&(l.drop (j+1)).all p):=by
 obtain⟨h1,h2⟩:=yi.1 h;rw[yU h1,h2,List.all_cons]
theorem ziQ{t x:JV}(h:x∈zbx t):SizeOf.sizeOf x<SizeOf.sizeOf t:=by
 unfold zbx at h;cases hg:t.get zbb with
 | none =>
   rw[hg]at h;cases h
 | some c =>
   rw[hg]at h;obtain⟨p,h1,rfl,_⟩:=zhh hg;obtain⟨i,hi⟩:=yQ h1;obtain⟨j,hj⟩:=yQ (show x∈p.2.l from h)
   cases t with
   | mk k n s l m =>
     change m[i]? =some p at hi;have h3:=JV.lt_m (k:=k) (n:=n) (s:=s) (l:=l) hi;cases hp:p.2 with
     | mk k' n' s' l' m' =>
       rw[hp]at hj h3;change l'[j]? =some x at hj;have h4:=JV.lt_l (k:=k') (n:=n') (s:=s') (m:=m') hj;omega
theorem chkFL_zero{l:List JV}:zcf l=0↔∀x∈l,zc4 x=0:=by
 induction l with
 |nil=>simp[zcf]
 | cons a r ih =>
   rw[zcf];by_cases h:zc4 a=0
   ·rw[if_pos h,ih];simp[h]
   ·rw[if_neg h]
    constructor
    ·intro e;exact absurd e h
    ·intro e;exact absurd (e a (by simp)) h
theorem condsE_zero{m:List (ByteArray×JV)}:zck m=0↔∀p∈m,zdh p.1 p.2=0:=by
 induction m with
 |nil=>simp[zck]
 | cons a r ih =>
   unfold zck;by_cases h:zdh a.1 a.2=0
   ·rw[if_pos h,ih]
    constructor
    ·intro e p hp
     rcases List.mem_cons.1 hp with rfl|hp
     ·exact h
     ·exact e p hp
    ·intro e p hp;exact e p (List.mem_cons_of_mem _ hp)
   ·rw[if_neg h]
    constructor
    ·intro e;exact absurd e h
    ·intro e;exact absurd (e a (by simp)) h
end
section
open Go.RowKit Go.OpenShut
structure NewBox(W:World)(base B:Nat)(b:BoxD)(r:RB):Prop where
 objs:∃ros,Own W base 62 zl 6 (.slice r.po r.no r.co) ros/\MemsOf W B b.objs ros
 trail:Own W base 144 zbh 3 (.slice r.pt r.nt r.ct) b.trail
 ok:∀e∈b.trail,e.ok
 seq:b.seq=r.sq
 floor:b.floor=r.fl
 keep:b.keep=r.kp
theorem NewBox.box{W:World}{base B:Nat}{b:BoxD}{r:RB}(h:NewBox W base B b r)(hB:B<=W.heap.size):BoxOf W W.heap.size b r:=by
 obtain⟨ros,h1,h2⟩:=h.objs;exact⟨⟨ros,h1.rd codecM,h2.len,h2.name,fun i p q a c=>(h2.val i p q a c).mono hB⟩,rdE_iff.2 ⟨h.ok,h.trail.rd codecE⟩,h.seq,h.floor,h.keep⟩
theorem NewBox.below{W W':World}{base B:Nat}{b:BoxD}{r:RB}(h:NewBox W base B b r)(hb:Below W.heap.size W W')(hB:B<=W.heap.size):NewBox W' base B b r:=by
 obtain⟨ros,h1,h2⟩:=h.objs;exact⟨⟨ros,h1.below hb (yd _),h2.under (hb.mono hB) (yd _)⟩,h.trail.below hb (yd _),h.ok,h.seq,h.floor,h.keep⟩
theorem NewBox.mono{W:World}{base base' B B':Nat}{b:BoxD}{r:RB}(h:NewBox W base B b r)(hb:base'<=base)(hB:B<=B'):NewBox W base' B' b r:=by
 obtain⟨ros,h1,h2⟩:=h.objs;exact⟨⟨ros,h1.mono hb,h2.len,h2.name,fun i p q a c=>(h2.val i p q a c).mono hB⟩,h.trail.mono hb,h.ok,h.seq,h.floor,h.keep⟩
theorem NewBox.kept{W W':World}{base B g:Nat}{b:BoxD}{r:RB}(h:NewBox W base B b r)(hg:W.grownBy W' (some g))(h1:(Value.slice r.po r.no r.co).ownBlock≠some g)(h2:(Value.slice r.pt r.nt r.ct).ownBlock≠some g)(hBW:B<=W.heap.size)(hB:B<=g):NewBox W' base B b r:=by
 obtain⟨ros,h3,h4⟩:=h.objs;exact⟨⟨ros,h3.kept hg (.inr h1),h4.under ((Below.refl B W).grown hg hBW (fun a e=>by cases e;exact hB)) (yd _)⟩,h.trail.kept hg (.inr h2),h.ok,h.seq,h.floor,h.keep⟩
theorem BoxAt.set{W:World}{g:Nat}{r:RB}(h:BoxAt W g r)(p p':Option Addr)(n n' c c':Nat):
 BoxAt ((W.setCell ⟨g,0,none⟩ (.slice p n c)).setCell ⟨g,1,none⟩ (.slice p' n' c')) g {r with po:=p,no:=n,co:=c,pt:=p',nt:=n',ct:=c'}:=by
 unfold BoxAt at h⊢;simp[World.setCell,yC,h]
theorem BoxAt.stored{W:World}{g:Nat}{r:RB}(h:BoxAt W g r)(q:RB):
 BoxAt (((((W.setCell ⟨g,0,none⟩ (.slice q.po q.no q.co)).setCell ⟨g,1,none⟩ (.slice q.pt q.nt q.ct)).setCell ⟨g,2,none⟩ (.int .i64 q.sq)).setCell ⟨g,3,none⟩ (.int .i64 q.fl)).setCell ⟨g,4,none⟩ (.int .i64 q.kp)) g q:=by
 unfold BoxAt at h⊢;simp[World.setCell,yC,h]
theorem BoxAt.kept{W W':World}{g x:Nat}{r:RB}(h:BoxAt W x r)(hg:W.grownBy W' (some g))(hne:x≠g):BoxAt W' x r:=(hg.block x h.lt (by simpa using hne)).trans h
theorem zt(W:World)(g:Nat)(q:RB):
 W.grownBy (((((W.setCell ⟨g,0,none⟩ (.slice q.po q.no q.co)).setCell ⟨g,1,none⟩ (.slice q.pt q.nt q.ct)).setCell ⟨g,2,none⟩ (.int .i64 q.sq)).setCell ⟨g,3,none⟩ (.int .i64 q.fl)).setCell ⟨g,4,none⟩ (.int .i64 q.kp)) (some g):=
 ((((zz W g 0 _).trans (zz _ g 1 _)).trans (zz _ g 2 _)).trans (zz _ g 3 _)).trans (zz _ g 4 _)
def zrs(w:World)(B:Nat)(b:BoxD)(e:Ending)(w':World):Prop:=∃r,e= .returned (RB.val r)/\NewBox w' w.heap.size B b r/\Below w.heap.size w w'
structure OwnMid(w W:World)(B:Nat)(b:BoxD)(q:RB):Prop where
 box:BoxAt W w.heap.size q
 zero:BoxAt W (w.heap.size+1) RB.zero
 new:NewBox W w.heap.size B b q
 below:Below w.heap.size w W
 b1:(Value.slice q.po q.no q.co).ownBlock≠some (w.heap.size+1)
 b2:(Value.slice q.pt q.nt q.ct).ownBlock≠some (w.heap.size+1)
theorem OwnMid.mk'{w w0 w1 w2:World}{B:Nat}{b:BoxD}{po p' p2 pt:Option Addr}{no co nt ct c' c2:Nat}{sq fl kp:Int}{ros:List RM}(hA:BoxAt w0 w.heap.size ⟨po,no,co,pt,nt,ct,sq,fl,kp⟩)(hZ:BoxAt w0 (w.heap.size+1) RB.zero)(hB0:Below w.heap.size w w0)(hw:w0.heap.size=w.heap.size+1+1)
 (ho1:Own w1 w0.heap.size 62 zl 6 (.slice p' no c') ros) (hb1:Below w0.heap.size w0 w1) (ho2:Own w2 w1.heap.size 144 zbh 3 (.slice p2 nt c2) b.trail) (hb2:Below w1.heap.size w1 w2) (hms:MemsOf w B b.objs ros) (hBw:B<=w.heap.size) (hok:∀e∈b.trail,e.ok) (he:b.seq=sq/\b.floor=fl/\b.keep=kp):
 OwnMid w ((w2.setCell ⟨w.heap.size,0,none⟩ (.slice p' no c')).setCell ⟨w.heap.size,1,none⟩ (.slice p2 nt c2)) B b ⟨p',no,c',p2,nt,c2,sq,fl,kp⟩:=by
 have hz1:=hb1.size;have hz2:=hb2.size;have hA2:BoxAt w2 w.heap.size ⟨po,no,co,pt,nt,ct,sq,fl,kp⟩:=(hA.under hb1 (by omega)).under hb2 (by omega)
 have hZ2:BoxAt w2 (w.heap.size+1) RB.zero:=(hZ.under hb1 (by omega)).under hb2 (by omega)
 have hg:w2.grownBy ((w2.setCell ⟨w.heap.size,0,none⟩ (.slice p' no c')).setCell ⟨w.heap.size,1,none⟩ (.slice p2 nt c2)) (some w.heap.size):=(zz w2 _ 0 _).trans (zz _ _ 1 _);have ho1':Own w2 w.heap.size 62 zl 6 (.slice p' no c') ros:=(ho1.below hb2 (yd _)).mono (by omega)
 have hbb:Below w.heap.size w w2:=(hB0.trans (hb1.mono (by omega))).trans (hb2.mono (by omega))
 have n1:(Value.slice p' no c').ownBlock≠some w.heap.size:=fun e=>by have:=(ho1.lt _ e).1;omega
 have n2:(Value.slice p2 nt c2).ownBlock≠some w.heap.size:=fun e=>by have:=(ho2.lt _ e).1;omega
 refine⟨hA2.set _ _ _ _ _ _,hZ2.kept hg (by omega),?_,hbb.grown hg (by omega) (fun a e=>by cases e;exact yd _),fun e=>by have:=(ho1.lt _ e).1;omega,fun e=>by have:=(ho2.lt _ e).1;omega⟩
 exact NewBox.kept (W:=w2) (g:=w.heap.size) ⟨⟨ros,ho1',hms.under (hbb.mono hBw) (yd _)⟩,ho2.mono (by omega),hok,he.1,he.2.1,he.2.2⟩ hg n1 n2 (by omega) hBw
theorem zgQ(b:BoxD)(r:RB)(w:World)(B:Nat)(hBw:B<=w.heap.size)(hb:BoxOf w B b r)(ob:b.Ok):
 Calls ye 99 #[r.val] w (zrs w B b):=by
 obtain⟨po,no,co,pt,nt,ct,sq,fl,kp⟩:=r;obtain⟨⟨ros,hro,hms⟩,htr,hsq,hfl,hkp⟩:=hb;dsimp only[RB.val]at*;have hlo:=hms.len;have hno:=zi hro;have hnt:=htr.nlen;have hzo:=ob.objs;have hzt:=ob.trail;obtain⟨hok,hrt⟩:=rdE_iff.1 htr;have hA0:BoxAt ((w.alloc (.cells #[.slice po no co,.slice pt nt ct,.int .i64 sq,.int .i64 fl,.int .i64 kp] 40)).alloc (.cells #[.slice none 0 0,.slice none 0 0,.int .i64 0,.int .i64 0,.int .i64 0] 40)) w.heap.size ⟨po,no,co,pt,nt,ct,sq,fl,kp⟩:=zb (by simp) (za rfl)
 have hZ0:BoxAt ((w.alloc (.cells #[.slice po no co,.slice pt nt ct,.int .i64 sq,.int .i64 fl,.int .i64 kp] 40)).alloc (.cells #[.slice none 0 0,.slice none 0 0,.int .i64 0,.int .i64 0,.int .i64 0] 40)) (w.heap.size+1) RB.zero:=za (by simp)
 have hB0:=zM w (.cells #[.slice po no co,.slice pt nt ct,.int .i64 sq,.int .i64 fl,.int .i64 kp] 40) (.cells #[.slice none 0 0,.slice none 0 0,.int .i64 0,.int .i64 0,.int .i64 0] 40);have HRO:=yc hro;have HRT:=yc hrt;have HOK:=yc hok;have HMS:=yc hms;have HZO:Hid (ros.length*96<=140737488355328):=by unfold Hid;omega
 have HZT:Hid (b.trail.length*32<=140737488355328):=by unfold Hid;omega
 have HEQ:Hid (b.seq=sq/\b.floor=fl/\b.keep=kp):=⟨hsq,hfl,hkp⟩;have HNT:=yc hnt;clear hlo hno hnt hzo hzt hok hrt htr hro hms hsq hfl hkp ob
 go_enter Tryz.func99,Tryz.ntmps99
 go_upto_region 1 with fail
 obtain⟨W0,hW0⟩:∃W0,((w.alloc (.cells #[.slice po no co,.slice pt nt ct,.int .i64 sq,.int .i64 fl,.int .i64 kp] 40)).alloc (.cells #[.slice none 0 0,.slice none 0 0,.int .i64 0,.int .i64 0,.int .i64 0] 40))=W0:=⟨_,rfl⟩;have hws:W0.heap.size=w.heap.size+1+1:=by rw[<-hW0];simp
 rw[hW0]at hA0 hZ0 hB0⊢;clear hW0;have HWS:=yc hws;have c0:=hA0.cell 0 rfl;have c1:=hA0.cell 1 rfl;dsimp only at c0 c1;have hz:=hA0.lt;have HAD:Hid (BoxAt W0.drew w.heap.size ⟨po,no,co,pt,nt,ct,sq,fl,kp⟩):=hA0;have HZD:Hid (BoxAt W0.drew (w.heap.size+1) RB.zero):=hZ0;have HB0:=yc hB0;clear hA0 hZ0 hB0 hws
 go_region_law (first
  |(go_simp;go_at_call 52;refine(zhG codecM _ po no co ros (HRO.out.below (HB0.out.drew.mono hBw) (yg hBw HB0.out.size)) HZO.out).mono ?_;rintro e w1 ⟨p',c',rfl,hpn1,ho1,hb1⟩;(have c0':=zc hb1 hz c0);(have c1':=zc hb1 hz c1))
  |(go_simp;go_at_call 161;refine(zfB codecE _ _ b.trail (HRT.out.below ((HB0.out.drew.trans (hb1.mono HB0.out.size)).mono hBw) (yg hBw (HB0.out.drew.trans (hb1.mono HB0.out.size)).size)) HZT.out).mono ?_;rintro e w2 ⟨u2,rfl,ho2,hb2⟩;obtain⟨p2,c2,hu2,_,_⟩:=ho2.len;rw[HNT.out]at hu2;subst hu2;(have hA2:=(HAD.out.under hb1 hz).under hb2 (Nat.lt_of_lt_of_le hz hb1.size));(have d0:=hA2.cell 0 rfl);(have d1:=hA2.cell 1 rfl);(have x0:=hA2.frozen 0);(have x1:=hA2.frozen 1)))
 all_goals (
  have hM:=OwnMid.mk' (w:=w) HAD.out HZD.out HB0.out.drew HWS.out ho1 hb1 ho2 hb2 HMS.out hBw HOK.out HEQ.out;obtain⟨W3,hW3⟩:∃W3,(w2.setCell ⟨w.heap.size,0,none⟩ (.slice p' no c')).setCell ⟨w.heap.size,1,none⟩ (.slice p2 nt c2)=W3:=⟨_,rfl⟩;rw[hW3]at hM⊢;clear hW3 c0 c1 c0' c1' d0 d1 x0 x1 hA2 ho1 ho2 hb1 hb2 hz;have HM:=yc hM;obtain⟨a0,a1,a2,a3,a4⟩:=hM.box.cells5;obtain⟨z0,z1,z2,z3,z4⟩:=hM.zero.cells5;dsimp only[RB.zero]at a0 a1 a2 a3 a4 z0 z1 z2 z3 z4;have y0:=hM.zero.frozen 0;have y1:=hM.zero.frozen 1;have y2:=hM.zero.frozen 2;have y3:=hM.zero.frozen 3;have y4:=hM.zero.frozen 4;clear hM
  go_wp2_with fail
  have hS:=HM.out.zero.stored ⟨p',no,c',p2,nt,c2,sq,fl,kp⟩;have hg:=zt W3 (w.heap.size+1) ⟨p',no,c',p2,nt,c2,sq,fl,kp⟩;refine bodyPost_ret (v:=RB.val ⟨p',no,c',p2,nt,c2,sq,fl,kp⟩) (by simp[results,Tryz.results99,go_sem,z0,z1,z2,z3,z4]) rfl ⟨⟨p',no,c',p2,nt,c2,sq,fl,kp⟩,rfl,HM.out.new.kept hg HM.out.b1 HM.out.b2 (by have:=HM.out.below.size;omega) (by omega),HM.out.below.grown hg (by have:=HM.out.below.size;omega) (fun a e=>by cases e;omega)⟩)
def zeG(b:BoxD)(os:List (ByteArray×JV))(id:ByteArray)(what:Int):BoxD:=
 ⟨os,zdC b.trail b.keep ⟨b.seq+1,id,what⟩,b.seq+1,zdB b.trail b.floor b.keep ⟨b.seq+1,id,what⟩,b.keep⟩
theorem zjK{l:List En}{keep:Int}{e:En}(hl:∀x∈l,x.ok)(he:e.ok):∀x∈zdC l keep e,x.ok:=fun x hx=>by
 rcases List.mem_append.1 (List.mem_of_mem_drop hx)with h|h
 ·exact hl x h
 ·obtain rfl:x=e:=by simpa using h
  exact he
theorem BoxAt.set2{W:World}{g:Nat}{r:RB}(h:BoxAt W g r)(q:Int):BoxAt (W.setCell ⟨g,2,none⟩ (.int .i64 q)) g {r with sq:=q}:=by
 unfold BoxAt at h⊢;simp[World.setCell,yC,h]
theorem BoxAt.set13{W:World}{g:Nat}{r:RB}(h:BoxAt W g r)(p:Option Addr)(n c:Nat)(f:Int):BoxAt ((W.setCell ⟨g,1,none⟩ (.slice p n c)).setCell ⟨g,3,none⟩ (.int .i64 f)) g {r with pt:=p,nt:=n,ct:=c,fl:=f}:=by
 unfold BoxAt at h⊢;simp[World.setCell,yC,h]
theorem zgE{n:Int}(h:(Lit.int .i64 n).wf=true):-9223372036854775808<=n/\n<=9223372036854775807:=by
 simp[Lit.wf,IntKind.min,IntKind.max,IntKind.signed,IntKind.bits]at h;omega
theorem zmZ{n:Int}(h0:-9223372036854775808<=n)(h1:n<=9223372036854775807):(Lit.int .i64 n).wf=true:=by
 simp[Lit.wf,IntKind.min,IntKind.max,IntKind.signed,IntKind.bits];omega
structure ChgMid(w W:World)(base B:Nat)(b:BoxD)(q:RB):Prop where
 box:BoxAt W w.heap.size q
 zero:BoxAt W (w.heap.size+1) RB.zero
 new:NewBox W base B b q
 below:Below w.heap.size w W
 b1:(Value.slice q.po q.no q.co).ownBlock≠some (w.heap.size+1)
 b2:(Value.slice q.pt q.nt q.ct).ownBlock≠some (w.heap.size+1)
theorem ze9(b:BoxD)(r:RB)(w:World)(base B:Nat)(id:ByteArray)(what:Int)(hBw:B<=w.heap.size)(hbase:base<=w.heap.size)(hb:NewBox w base B b r)(hs0:(Lit.int .i64 b.seq).wf=true)(hs1:b.seq<9007199254740991)(hf:(Lit.int .i64 b.floor).wf=true)(hk:(Lit.int .i64 b.keep).wf=true)
 (hid:id.size<=maxLen) (hwh:(Lit.int .i64 what).wf=true) (hlen:(b.trail.length+1)*32<=140737488355328):
 Calls ye 102 #[r.val,.string id,.int .i64 what] w fun e w'=>∃q,e= .returned (RB.val q)/\NewBox w' base B (zeG b b.objs id what) q/\Below w.heap.size w w':=by
 obtain⟨po,no,co,pt,nt,ct,sq,fl,kp⟩:=r;obtain⟨⟨ros,hro,hms⟩,htr,hok,hsq,hfl,hkp⟩:=hb;dsimp only[RB.val]at*;have hws:=zgE hs0;rw[hsq]at hws hs1;have hA0:BoxAt ((w.alloc (.cells #[.slice po no co,.slice pt nt ct,.int .i64 sq,.int .i64 fl,.int .i64 kp] 40)).alloc (.cells #[.slice none 0 0,.slice none 0 0,.int .i64 0,.int .i64 0,.int .i64 0] 40)) w.heap.size ⟨po,no,co,pt,nt,ct,sq,fl,kp⟩:=zb (by simp) (za rfl)
 have hZ0:BoxAt ((w.alloc (.cells #[.slice po no co,.slice pt nt ct,.int .i64 sq,.int .i64 fl,.int .i64 kp] 40)).alloc (.cells #[.slice none 0 0,.slice none 0 0,.int .i64 0,.int .i64 0,.int .i64 0] 40)) (w.heap.size+1) RB.zero:=za (by simp)
 have hB0:=zM w (.cells #[.slice po no co,.slice pt nt ct,.int .i64 sq,.int .i64 fl,.int .i64 kp] 40) (.cells #[.slice none 0 0,.slice none 0 0,.int .i64 0,.int .i64 0,.int .i64 0] 40);have hwq:(Lit.int .i64 (b.seq+1)).wf=true:=zmZ (by rw[hsq];omega) (by rw[hsq];omega)
 have HQ:Hid (En.ok ⟨b.seq+1,id,what⟩):=⟨hwq,hid,hwh⟩;have HRO:=yc hro;have HRT:=yc htr;have HOK:=yc hok;have HMS:=yc hms;have HEQ:Hid (b.seq=sq/\b.floor=fl/\b.keep=kp):=⟨hsq,hfl,hkp⟩;have HF:Hid ((Lit.int .i64 b.floor).wf=true/\(Lit.int .i64 b.keep).wf=true/\(b.trail.length+1)*32<=140737488355328):=⟨hf,hk,hlen⟩;clear hok hro hms hsq hfl hkp hs0 hf hk hwq hid hwh hlen
 go_enter Tryz.func102,Tryz.ntmps102
 go_upto_region 1 with fail
 obtain⟨W0,hW0⟩:∃W0,((w.alloc (.cells #[.slice po no co,.slice pt nt ct,.int .i64 sq,.int .i64 fl,.int .i64 kp] 40)).alloc (.cells #[.slice none 0 0,.slice none 0 0,.int .i64 0,.int .i64 0,.int .i64 0] 40))=W0:=⟨_,rfl⟩;have hws0:W0.heap.size=w.heap.size+1+1:=by rw[<-hW0];simp
 rw[hW0]at hA0 hZ0 hB0⊢;clear hW0;have c2:=hA0.cell 2 rfl;have x2:=hA0.frozen 2;dsimp only at c2;have hws1:=hws.1;clear hws
 go_upto_region 2 with fail
 have hA1:=hA0.set2 (sq+1);have hZ1:=hZ0.kept (zz W0 w.heap.size 2 (.int .i64 (sq+1))) (by omega)
 have hB1:Below w.heap.size w (W0.setCell ⟨w.heap.size,2,none⟩ (.int .i64 (sq+1))):=hB0.setCell (yd _) _;obtain⟨W1,hW1⟩:∃W1,W0.setCell ⟨w.heap.size,2,none⟩ (.int .i64 (sq+1))=W1:=⟨_,rfl⟩;have hz1:W1.heap.size=w.heap.size+1+1:=by rw[<-hW1];simp[hws0]
 rw[hW1]at hA1 hZ1 hB1⊢;clear hW1 hA0 hZ0 hB0 hws0 c2 x2 hws1;obtain⟨a0,a1,a2,a3,a4⟩:=hA1.cells5;dsimp only at a0 a1 a2 a3 a4;have hadd:=zqu W1 (.slice pt nt ct) b.trail fl kp ⟨sq+1,id,what⟩ ((HRT.out.rd codecE).below hB1 hB1.size) (by rw[<-HEQ.out.2.1];exact HF.out.1) (by rw[<-HEQ.out.2.2];exact HF.out.2.1) HF.out.2.2
 have HADD:=yc hadd;have HA:=yc hA1;have HZ:=yc hZ1;have HB:=yc hB1;have HZ1:=yc hz1;have hz:=hA1.lt;clear hadd hA1 hZ1 hB1 hz1
 go_upto_region 3 with(go_at_call 163;refine HADD.out.mono ?_;rintro e w2 ⟨u,rfl,ho2,hb2⟩;obtain⟨p2,c2,hu2,_,_⟩:=ho2.len;subst hu2;(have hA2:=HA.out.under hb2 hz);(have d1:=hA2.cell 1 rfl);(have d3:=hA2.cell 3 rfl);(have x1:=hA2.frozen 1);(have x3:=hA2.frozen 3))
 have hA3:=hA2.set13 p2 (zdC b.trail kp ⟨sq+1,id,what⟩).length c2 (zdB b.trail fl kp ⟨sq+1,id,what⟩);obtain⟨W3,hW3⟩:∃W3,(w2.setCell ⟨w.heap.size,1,none⟩ (.slice p2 (zdC b.trail kp ⟨sq+1,id,what⟩).length c2)).setCell ⟨w.heap.size,3,none⟩ (.int .i64 (zdB b.trail fl kp ⟨sq+1,id,what⟩))=W3:=⟨_,rfl⟩;have hg3:w2.grownBy W3 (some w.heap.size):=by rw[<-hW3];exact(zz w2 _ 1 _).trans (zz _ _ 3 _)
 rw[hW3]at hA3⊢;clear hW3;have hz2:=hb2.size;have hZ3:BoxAt W3 (w.heap.size+1) RB.zero:=(HZ.out.under hb2 (by have:=HZ1.out;omega)).kept hg3 (by omega)
 have hbb2:Below w.heap.size w w2:=HB.out.trans (hb2.mono (by have:=HZ1.out;omega))
 have hlt1:=fun k (e:(Value.slice po no co).ownBlock=some k)=>(HRO.out.lt k e).2
 have n1:(Value.slice po no co).ownBlock≠some w.heap.size:=fun e=>by have:=hlt1 _ e;omega
 have n2:(Value.slice p2 (zdC b.trail kp ⟨sq+1,id,what⟩).length c2).ownBlock≠some w.heap.size:=fun e=>by have:=(ho2.lt _ e).1;have:=HZ1.out;omega
 have hM:ChgMid w W3 base B (zeG b b.objs id what) ⟨po,no,co,p2,(zdC b.trail kp ⟨sq+1,id,what⟩).length,c2,sq+1,zdB b.trail fl kp ⟨sq+1,id,what⟩,kp⟩:=by
  obtain⟨e1,e2,e3⟩:=HEQ.out;refine⟨hA3,hZ3,?_,hbb2.grown hg3 (by have:=HZ1.out;omega) (fun a e=>by cases e;exact yd _),fun e=>by have:=hlt1 _ e;omega,fun e=>by have:=(ho2.lt _ e).1;have:=HZ1.out;omega⟩
  refine NewBox.kept (W:=w2) (g:=w.heap.size) ⟨⟨ros,HRO.out.below hbb2 (yd _),HMS.out.under (hbb2.mono hBw) (yd _)⟩,?_,?_,?_,?_,?_⟩ hg3 n1 n2 (by have:=hbb2.size;omega) hBw
  ·show Own w2 base 144 zbh 3 _ (zdC b.trail b.keep ⟨b.seq+1,id,what⟩)
   rw[e1,e3];exact ho2.mono (by have:=HZ1.out;omega)
  ·exact zjK HOK.out HQ.out
  ·show b.seq+1=sq+1
   rw[e1]
  ·show zdB b.trail b.floor b.keep ⟨b.seq+1,id,what⟩=_
   rw[e1,e2,e3]
  ·exact e3
 have HM:=yc hM;obtain⟨g0,g1,g2,g3,g4⟩:=hM.box.cells5;obtain⟨z0,z1,z2,z3,z4⟩:=hM.zero.cells5;dsimp only[RB.zero]at g0 g1 g2 g3 g4 z0 z1 z2 z3 z4;have y0:=hM.zero.frozen 0;have y1:=hM.zero.frozen 1;have y2:=hM.zero.frozen 2;have y3:=hM.zero.frozen 3;have y4:=hM.zero.frozen 4;clear hM a0 a1 a2 a3 a4 d1 d3 x1 x3 hA2 hA3 hZ3 hbb2 hlt1 n1 n2 ho2 hb2 hg3 hz hz2
 go_wp2_with fail
 have hg:=zt W3 (w.heap.size+1) ⟨po,no,co,p2,(zdC b.trail kp ⟨sq+1,id,what⟩).length,c2,sq+1,zdB b.trail fl kp ⟨sq+1,id,what⟩,kp⟩;refine bodyPost_ret (v:=RB.val ⟨po,no,co,p2,(zdC b.trail kp ⟨sq+1,id,what⟩).length,c2,sq+1,zdB b.trail fl kp ⟨sq+1,id,what⟩,kp⟩) (by simp[results,Tryz.results102,go_sem,z0,z1,z2,z3,z4]) rfl ⟨_,rfl,HM.out.new.kept hg HM.out.b1 HM.out.b2 (by have:=HM.out.below.size;omega) (by omega),HM.out.below.grown hg (by have:=HM.out.below.size;omega) (fun a e=>by cases e;omega)⟩
end
section
open Go Go.RowKit
theorem ze2(w:World)(g:Nat)(cur c:Array Value)(t:TypeId)(fr:Nat×Nat)(h:w.heap[g]? =some (.cells cur t fr)):(w.setRow g c).heap[g]? =some (.cells c t fr):=by
 simp[World.setRow,yC,h]
theorem zcE(w:World)(g:Nat)(c:Array Value):w.grownBy (w.setRow g c) (some g):=
 ⟨rfl,rfl,rfl,by simp,fun k _ hk=>by
  simp only[World.setRow,yC];rw[if_neg (fun e=>hk (by rw[e]))]⟩
section
variable {P:Program} {α:Type} {enc:α->List Value} {sz bytes:Nat} {t e:TypeId}
theorem zdv(w:World)(dT sT ty elem:TypeId)(g o dLen dCap:Nat)(a:Addr)(sLen sCap n:Nat)(cur:Array Value)(t:TypeId)(cs:List Value)
 (hu:P.underlying dT=some (.slice elem)) (hs:(P.info? elem).map (·.size)=some sz)
 (hg:w.heap[g]? =some (.cells cur t (0,0))) (hm:Nat.min sLen dLen=n) (hn:cs.length=n*sz)
 (hsrc:∀j v,cs[j]? =some v->w.cell? (a.add j)=some v) (hfit:o+cs.length<=cur.size) (h1:∀v∈cs,v.oneCell'=true):
 (Builtin.copy_ #[dT,sT] ty #[.slice (some ⟨g,o,none⟩) dLen dCap,.slice (some a) sLen sCap]).run P w=
  .ok (goInt n) (w.setRow g (cur.toList.take o++cs++cur.toList.drop (o+cs.length)).toArray):=by
 have hl:=run_loadCells_list (P:=P) w a cs hsrc;have hst:=run_storeCells_at P g o t cs 0 cur w hg (by simpa using hfit) h1
 cases hq:P.info? elem with
 |none=>simp[hq]at hs
 | some i =>
   have hi:i.size=sz:=by simpa[hq]using hs
   simp[Builtin.copy_,run_underlying hu,Builtin.lenOf,Builtin.firstCells,sizeOf,typeInfo,hq,hi,hm,<-hn,hl,hst]
theorem Own.ofRow{w:World}{base g n cap:Nat}{xs:List α}{cs:Array Value}(C:Codec enc sz)(h:w.heap[g]? =some (.cells cs e (0,0)))(hc:cs.toList.take (n*sz)=cellsOf enc xs)(hn:n=xs.length)(hg:base<=g)(hnc:n<=cap)(hm:cap<=maxLen)(hs:cs.size=cap*sz):
 Own w base e enc sz (.slice (some ⟨g,0,none⟩) n cap) xs:=by
 subst hn;exact⟨zm C xs,.inr ⟨g,cap,cs,rfl,hg,h,hnc,hm,hs,hc⟩⟩
theorem Own.row{w:World}{base n cap:Nat}{p:Option Addr}{xs:List α}(h:Own w base e enc sz (.slice p n cap) xs)(hp:0<cap\/p≠none):
 ∃g cur,p=some ⟨g,0,none⟩/\base<=g/\w.heap[g]? =some (.cells cur e (0,0))/\n=xs.length/\n<=cap/\cap<=maxLen/\cur.size=cap*sz/\cur.toList.take (n*sz)=cellsOf enc xs:=by
 obtain⟨_,h⟩:=h
 rcases h with⟨hv,_⟩|⟨g,cap',cur,hv,hg,hh,hnc,hcm,hcs,ht⟩
 ·simp only[Value.slice.injEq]at hv;obtain⟨rfl,_,rfl⟩:=hv
  rcases hp with h|h
  ·omega
  ·exact absurd rfl h
 ·simp only[Value.slice.injEq]at hv;obtain⟨rfl,rfl,rfl⟩:=hv;exact⟨g,cur,rfl,hg,hh,rfl,hnc,hcm,hcs,ht⟩
theorem zfz(C:Codec enc sz)(xs:List α)(k:Nat):(cellsOf enc xs).take (k*sz)=cellsOf enc (xs.take k):=by
 have h1:cellsOf enc xs=cellsOf enc (xs.take k)++cellsOf enc (xs.drop k):=by rw[<-zv,y9]
 by_cases h:k<=xs.length
 ·have h3:(cellsOf enc (xs.take k)).length=k*sz:=by rw[zm C,yz,yaw h]
  rw[h1,<-h3,ya5]
 ·rw[yq (l:=xs) (by omega),yq]
  rw[zm C];exact Nat.mul_le_mul_right _ (by omega)
theorem zmG(C:Codec enc sz){cur:List Value}{xs:List α}{n cap i:Nat}{x:α}(hn:n=xs.length)(ht:cur.take (i*sz)=cellsOf enc (xs.take i))(hi:i<=n)(hl:(n+1)*sz<=cur.length):
 let row1:=cur.take ((i+1)*sz)++cellsOf enc (xs.drop i)++cur.drop ((i+1)*sz+(cellsOf enc (xs.drop i)).length)
 (row1.take (i*sz)++enc x++row1.drop (i*sz+(enc x).length)).take ((n+1)*sz)=cellsOf enc (xs.take i++x::xs.drop i):=by
 intro row1;have hx:=C.len x;have hd:(cellsOf enc (xs.drop i)).length=(n-i)*sz:=by rw[zm C,yF,hn]
 have hi1:(i+1)*sz=i*sz+sz:=by rw[yag,ybd]
 have hn1:(n+1)*sz=i*sz+sz+(n-i)*sz:=by
  have:n+1=i+1+(n-i):=by omega
  rw[this,yag,yag,ybd]
 have h1:row1.take (i*sz)=cellsOf enc (xs.take i):=by
  rw[<-ht]
  show(cur.take ((i+1)*sz)++cellsOf enc (xs.drop i)++_).take (i*sz)=_
  rw[yV,yaW (by rw[yz];omega),ybh,yaw (by omega)]
 have hlt:(cur.take ((i+1)*sz)).length=i*sz+sz:=by rw[yz];omega
 have h2:row1.drop (i*sz+(enc x).length)=cellsOf enc (xs.drop i)++cur.drop ((i+1)*sz+(cellsOf enc (xs.drop i)).length):=by
  rw[hx,<-hlt]
  show(cur.take ((i+1)*sz)++cellsOf enc (xs.drop i)++_).drop _=_
  rw[yV,List.drop_left]
 rw[h1,h2,zv];have e1:cellsOf enc (x::xs.drop i)=enc x++cellsOf enc (xs.drop i):=by simp[cellsOf]
 have hl1:(cellsOf enc (xs.take i)).length=i*sz:=by rw[<-ht,yz];omega
 rw[e1,<-yV (cellsOf enc (xs.take i)),<-yV (cellsOf enc (xs.take i)++enc x),yaW (by simp only[yp];omega),yq (by simp only[yp];omega)]
theorem zlg(C:Codec enc sz){cur:List Value}{xs:List α}{n cap i:Nat}{x:α}(hn:n=xs.length)(ht:cur.take (i*sz)=cellsOf enc (xs.take i))(hi:i<=n)(hl:(n+1)*sz<=cur.length):
 let row1:=cur.take (i*sz)++enc x++cur.drop (i*sz+(enc x).length)
 (row1.take ((i+1)*sz)++cellsOf enc (xs.drop i)++row1.drop ((i+1)*sz+(cellsOf enc (xs.drop i)).length)).take ((n+1)*sz)=cellsOf enc (xs.take i++x::xs.drop i):=by
 intro row1;have hx:=C.len x;have hd:(cellsOf enc (xs.drop i)).length=(n-i)*sz:=by rw[zm C,yF,hn]
 have hi1:(i+1)*sz=i*sz+sz:=by rw[yag,ybd]
 have hn1:(n+1)*sz=i*sz+sz+(n-i)*sz:=by
  have:n+1=i+1+(n-i):=by omega
  rw[this,yag,yag,ybd]
 have hl1:(cur.take (i*sz)).length=i*sz:=by rw[yz];omega
 have h1:row1.take ((i+1)*sz)=cellsOf enc (xs.take i)++enc x:=by
  rw[<-ht,hi1]
  show(cur.take (i*sz)++enc x++_).take (i*sz+sz)=_
  rw[yaW (by simp only[yp];omega),yq (by simp only[yp];omega)]
 rw[h1,zv];have e1:cellsOf enc (x::xs.drop i)=enc x++cellsOf enc (xs.drop i):=by simp[cellsOf]
 have hl2:(cellsOf enc (xs.take i)).length=i*sz:=by rw[<-ht,hl1]
 rw[e1,yaW (by simp only[yp];omega),yq (by simp only[yp];omega),yV]
end
end
section
open Go.RowKit Go.OpenShut
theorem zlA{w w':World}{row:Option Nat}(h:w.drew.grownBy w' row):w.grownBy w' row:=⟨h.os,h.tape,h.output,h.size,h.block⟩
def zhu(w:World)(base:Nat)(row:Option Nat)(n:Nat)(ys:List RM)(e:Ending)(w':World):Prop:=
 ∃p' c',e= .returned (.slice p' n c')/\Own w' base 62 zl 6 (.slice p' n c') ys/\w.grownBy w' row
def zfv(W:World)(g:Nat)(x:RM):Prop:=W.heap[g]? =some (.cells #[.string x.name,.int .i64 x.v.k,.int .i64 x.v.n,.string x.v.s,.slice x.v.pl x.v.nl x.v.cl,.slice x.v.pm x.v.nm x.v.cm] 62 (0,0))
theorem zml(w:World)(base:Nat)(p:Option Addr)(n c vb:Nat)(xs:List RM)(x:RM)(ho:Own w base 62 zl 6 (.slice p n c) xs)(hb:base<=w.heap.size)(hx:zfv w vb x)(hsz:(n+1)*96<=140737488355328):
 Calls ye 103 #[.slice p n c,.int .i64 n,.slice (some ⟨vb,0,none⟩) 1 1] w (zhu w base (Value.slice p n c).ownBlock (n+1) (xs++[x])):=by
 have hn:=zi (ho.rd codecM);have hvb:vb<w.heap.size:=(yl.1 hx).1;have hR:Rd w w.heap.size zl 6 (.slice (some ⟨vb,0,none⟩) 1 1) [x]:=Rd.one codecM hx rfl hvb;have HO:=yc ho;have HR:=yc hR;have HN:=yc hn;have HX:=yc hsz;have hn63:(n:Int)<=9223372036854775806:=by omega
 have hsl:=fun W=>zer (P:=ye) slO p n c n (yd _) W
 obtain⟨row,hrow⟩:∃row,(Value.slice p n c).ownBlock=row:=⟨_,rfl⟩;rw[hrow];have HROW:=yc hrow;clear ho hR hn hx hsz hrow
 go_enter Tryz.func103,Tryz.ntmps103
 go_wp2_with (at_builtin;refine zk slO codecM w rfl (.tmp 23) (.tmp 24) rfl (v:= .slice p n c) rfl rfl HO.out HR.out (by have:=HN.out;have:=HX.out;simp;unfold maxLen;omega) (by have:=HN.out;have:=HX.out;simp;omega) hb ?_;intro v1 w1 ho1 hg1 hat1)
 all_goals obtain⟨p1,c1,hv1,_,_⟩:=ho1.len
 all_goals have hl:(xs++[x]).length=n+1:=by have:=HN.out;simp;omega
 all_goals rw[hl]at hv1
 all_goals subst hv1
 all_goals go_ret
 all_goals exact⟨p1,c1,rfl,ho1,by rw[<-HROW.out];exact hg1⟩
theorem zj9(w:World)(base:Nat)(g n c vb i:Nat)(cur:Array Value)(xs:List RM)(x:RM)(hh:w.heap[g]? =some (.cells cur 62 (0,0)))(hg:base<=g)(hn:n=xs.length)(hcm:c<=maxLen)(hcs:cur.size=c*6)(ht:cur.toList.take (n*6)=cellsOf zl xs)
 (hi:i<n) (hroom:n+1<=c) (hx:zfv w vb x) (hne:vb≠g):
 Calls ye 103 #[.slice (some ⟨g,0,none⟩) n c,.int .i64 i,.slice (some ⟨vb,0,none⟩) 1 1] w (zhu w base (some g) (n+1) (xs.take i++x::xs.drop i)):=by
 have hcn:cur.toList.length=c*6:=by simpa using hcs
 have htk:cur.toList.take (i*6)=cellsOf zl (xs.take i):=by
  rw[<-zfz codecM,<-ht,ybh,yaw (by omega)]
 have hszO:(ye.info? 62).map (·.size)=some 6:=by kernel_rfl
 have hshA:w.shape? vb=some (62,6):=by
  unfold zfv at hx;simp[World.shape?,hx]
 have hshB:w.shape? g=some (62,c*6):=by simp[World.shape?,hh,hcs]
 have hsizeO:∀w,(Go.sizeOf 62).run ye w= .ok 6 w:=fun w=>by kernel_rfl
 have hov:∀lb cb,(callFunc 164 #[.slice (some ⟨vb,0,none⟩) 1 1,.slice (some ⟨g,(i+1)*6,none⟩) lb cb]).run ye w= .ok (.value (.bool false)) w:=fun lb cb=>by
  rw[run_callFunc_extern Tryz.func164 (by kernel_rfl) (by kernel_rfl) (by kernel_rfl) (e:=Extern.SlicesOverlaps.overlaps #[37,37] #[4]) (by kernel_rfl),
   Lib.run_overlaps_apart w 37 4 62 Tryz.underlying37 6 hsizeO ⟨vb,0,none⟩ ⟨g,(i+1)*6,none⟩ 1 1 lb cb hne 62 62 6 (c*6) hshA hshB (by omega) (by unfold zfv at hx;simp[World.frozen?,hx]) (by unfold zfv at hx;simp[World.frozen?,hx])]
  rfl
 have hd:(cellsOf zl (xs.drop i)).length=(n-i)*6:=by rw[zm codecM,yF,hn]
 have hcell:∀j,w.cell? ⟨g,j,none⟩=cur.toList[j]? :=fun j=>by rw[cell_of_row w g j _ _ _ hh,yK]
 have hcells:∀j v,(cellsOf zl (xs.drop i))[j]? =some v->w.cell? ((⟨g,i*6,none⟩:Addr).add j)=some v:=fun j v hv=>by
  rw[zbl,hcell]
  have h1:(cellsOf zl xs)[i*6+j]? =some v:=by
   have e:cellsOf zl xs=cellsOf zl (xs.take i)++cellsOf zl (xs.drop i):=by rw[<-zv,y9]
   have hl:(cellsOf zl (xs.take i)).length=i*6:=by rw[zm codecM,yz];omega
   rw[e,yN (by omega),hl]
   simpa using hv
  rw[<-ht,yac]at h1
  split at h1
  ·exact h1
  ·cases h1
 obtain⟨row1,hrow1⟩:∃r:Array Value,r=(cur.toList.take ((i+1)*6)++cellsOf zl (xs.drop i)++cur.toList.drop ((i+1)*6+(cellsOf zl (xs.drop i)).length)).toArray:=⟨_,rfl⟩
 have hr1s:row1.size=c*6:=by
  rw[hrow1];simp only[yP,yp,yz,yF,hd,hcn];omega
 have hcp1:∀ty dc sc,(Builtin.copy_ #[37,37] ty #[.slice (some ⟨g,(i+1)*6,none⟩) (n-i) dc,.slice (some ⟨g,i*6,none⟩) (n+1-i) sc]).run ye w.drew= .ok (goInt ((n-i:Nat):Int)) (w.drew.setRow g row1):=fun ty dc sc=>by
  rw[hrow1];exact zdv w.drew _ _ ty 62 g ((i+1)*6) (n-i) dc ⟨g,i*6,none⟩ (n+1-i) sc (n-i) cur 62 _ Tryz.underlying37 hszO hh (by simp only[ybD];split<;>omega) hd hcells (by rw[hd];omega) (zdp codecM _)
 obtain⟨row2,hrow2⟩:∃r:Array Value,r=(row1.toList.take (i*6)++zl x++row1.toList.drop (i*6+(zl x).length)).toArray:=⟨_,rfl⟩
 have hxc:∀j v,(zl x)[j]? =some v->w.cell? ((⟨vb,0,none⟩:Addr).add j)=some v:=fun j v hv=>by
  unfold zfv at hx;rw[zbl,yal,cell_of_row w vb j _ _ _ hx,<-yK];exact hv
 have hcp2:∀(W:World),W.heap[g]? =some (.cells row1 62 (0,0))->W.heap[vb]? =w.heap[vb]? ->∀ty dc,(Builtin.copy_ #[37,37] ty #[.slice (some ⟨g,i*6,none⟩) (n+1-i) dc,.slice (some ⟨vb,0,none⟩) 1 1]).run ye W= .ok (goInt 1) (W.setRow g row2):=fun W hW hV ty dc=>by
  rw[hrow2];exact zdv W _ _ ty 62 g (i*6) (n+1-i) dc ⟨vb,0,none⟩ 1 1 1 row1 62 (zl x) Tryz.underlying37 hszO hW (by simp only[ybD];split<;>omega) rfl (fun j v hv=>(World.cell?_of_block (w:=w) (a:=(⟨vb,0,none⟩:Addr).add j) (by rw[zbl];exact hV)).trans (hxc j v hv)) (by rw[hr1s];show i*6+6<=_;omega) (codecM.one x)
 have hfin:row2.toList.take ((n+1)*6)=cellsOf zl (xs.take i++x::xs.drop i):=by
  rw[hrow2,hrow1];exact zmG (cap:=c) codecM hn htk (by omega) (by omega)
 have hr2s:row2.size=c*6:=by
  rw[hrow2];have:(zl x).length=6:=rfl;simp only[yP,yp,yz,yF,this,yH,hr1s];omega
 have HFIN:Hid (∀W:World,W.heap[g]? =some (.cells row2 62 (0,0))->Own W base 62 zl 6 (.slice (some ⟨g,0,none⟩) (n+1) c) (xs.take i++x::xs.drop i)):=fun W hW=>
  Own.ofRow codecM hW hfin (by simp;omega) hg hroom hcm hr2s
 have HH:=yc hh;have HHX:=yc hx;have HNE:=yc hne;have hw1:IntKind.i64.wrap ((i:Int)+1)=(i:Int)+1:=by rw[IntKind.wrap_i64];unfold maxLen at hcm;omega
 have hb1:(0:Int)<=(i:Int)+1:=by omega
 have hin:i<=n:=by omega
 have htn:((i:Int)+1).toNat=i+1:=by omega
 have htn2:((n:Int)+1).toNat=n+1:=by omega
 have hz2:¬((i:Int)=(n:Int)):=by omega
 have hb2:¬(c=i+1):=by omega
 have hb3:(i:Int)<=(n:Int)+1:=by omega
 have hb4:¬(c=i):=by omega
 have hcm2:c<=9223372036854775807:=by unfold maxLen at hcm;omega
 clear hh hx hne hcm hcn htk hszO hshA hshB hsizeO hd hcell hcells hrow1 hrow2 hxc hfin hr1s hr2s hcs ht hn
 go_enter Tryz.func103,Tryz.ntmps103
 go_wp2_with (simp only[hov])
 go_region_law (refine step_copy_runI rfl _ _ 37 37 rfl _ _ (by simp[Act.eval,Act.put]) (by simp[Act.eval,Act.put]) (hcp1 _ _ _) ?_)
 have hW1:=ze2 w.drew g cur row1 62 (0,0) HH.out;have hV1:(w.drew.setRow g row1).heap[vb]? =w.heap[vb]? :=(zcE w.drew g row1).block vb (by have:=(yl.1 HHX.out).1;exact this) (by simpa using HNE.out)
 have hc2:=hcp2 _ hW1 hV1;have hW2:=ze2 _ g row1 row2 62 (0,0) hW1;have HW2:=yc hW2;have hg0:w.grownBy (w.drew.setRow g row1) (some g):=zlA (zcE w.drew g row1);have hG2:w.grownBy ((w.drew.setRow g row1).setRow g row2) (some g):=hg0.trans (zcE _ g row2);clear hg0;have HG2:=yc hG2;clear hW1 hV1 hW2 hG2
 go_wp2_with (at_builtin;refine wpList_copy_runI _ rfl _ _ 37 37 rfl _ _ rfl rfl (hc2 _ _) ?_)
 go_ret;exact⟨_,_,rfl,HFIN.out _ HW2.out,HG2.out⟩
theorem zkZ(w:World)(base:Nat)(g n c vb i:Nat)(cur:Array Value)(xs:List RM)(x:RM)(hh:w.heap[g]? =some (.cells cur 62 (0,0)))(hb:base<=w.heap.size)(hn:n=xs.length)(hnc:n<=c)(hcm:c<=maxLen)(hcs:cur.size=c*6)(ht:cur.toList.take (n*6)=cellsOf zl xs)
 (hi:i<n) (hroom:c<n+1) (hx:zfv w vb x) (hsz:(n+1)*96<=140737488355328):
 Calls ye 103 #[.slice (some ⟨g,0,none⟩) n c,.int .i64 i,.slice (some ⟨vb,0,none⟩) 1 1] w (zhu w base (some g) (n+1) (xs.take i++x::xs.drop i)):=by
 obtain rfl:c=n:=by omega
 have hcn:cur.toList.length=c*6:=by simpa using hcs
 have htk:cur.toList.take (i*6)=cellsOf zl (xs.take i):=by
  rw[<-zfz codecM,<-ht,ybh,yaw (by omega)]
 have hgl:g<w.heap.size:=(yl.1 hh).1;have hvl:vb<w.heap.size:=(yl.1 hx).1;have hi0:(ye.info? 62).map (fun i=>(i.zero,i.size,i.bytes))=some (some (.agg #[.string ByteArray.empty,.int .i64 0,.int .i64 0,.string ByteArray.empty,.slice none 0 0,.slice none 0 0]),6,96):=by kernel_rfl
 obtain⟨i0,hi0,hz0,hzs,hzb⟩:=info_parts hi0;have hszO:(ye.info? 62).map (·.size)=some 6:=by rw[hi0];simp[hzs]
 have hcell:∀j,w.cell? ⟨g,j,none⟩=cur.toList[j]? :=fun j=>by rw[cell_of_row w g j _ _ _ hh,yK]
 have hold:(Builtin.firstCells i0.size i (.slice (some ⟨g,0,none⟩) i c)).run ye w.drew= .ok (cellsOf zl (xs.take i)).toArray w.drew:=by
  rw[hzs];refine run_firstCells_some w.drew 6 i ⟨g,0,none⟩ i c (cellsOf zl (xs.take i)) (by rw[zm codecM,yz];omega) (fun j v hj=> ?_)
  rw[zbl,yal]
  show w.cell? _=_
  rw[hcell];rw[<-htk,yac]at hj
  split at hj
  ·exact hj
  ·cases hj
 have hkk:(c:Int)+1-(i:Int)=((c+1-i:Nat):Int):=by omega
 have hik:i+(c+1-i)=c+1:=by omega
 obtain⟨Z,hZ⟩:∃Z:Value,Z= .agg #[.string ByteArray.empty,.int .i64 0,.int .i64 0,.string ByteArray.empty,.slice none 0 0,.slice none 0 0]:=⟨_,rfl⟩;have hZs:Z.cells.size=6:=by rw[hZ];rfl
 rw[<-hZ]at hz0;obtain⟨G,hG⟩:∃G,G=grownCap w (c+1) c 62:=⟨_,rfl⟩;obtain⟨ROW,hROW⟩:∃ROW:Array Value,ROW=(cellsOf zl (xs.take i)).toArray++Builtin.zeroCells Z.cells (c+1-i)++Builtin.zeroCells Z.cells (G-(c+1)):=⟨_,rfl⟩
 have hrz:∀ty,(Builtin.append_ #[37,3] ty #[.slice (some ⟨g,0,none⟩) i c,.int .i64 ((c:Int)+1-(i:Int))]).run ye w=
  .ok (.slice (some ⟨w.heap.size,0,none⟩) (c+1) G) (w.drew.alloc (.cells ROW 62)):=fun ty=>by
  have h:=Lib.run_append_grow_zeros w 37 3 ty 62 i0 Z .i64 .i64 Tryz.underlying37 Tryz.underlying3 hi0 hz0 (some ⟨g,0,none⟩) i c _ hold (c+1-i) (by omega) (by omega) (by omega) (by omega) (by rw[hzb];omega) (by rw[hzb,hik];exact growslice_fits (by omega) hsz)
  rw[hik]at h;rw[hkk,hROW,hG];exact h
 have hGn:c+1<=G:=by rw[hG];exact grownCap_ge w _ _ _
 have hG63:G<=maxLen:=by rw[hG];exact grownCap_le_maxLen w (c+1) c 62 (by unfold maxLen;omega)
 have hRs:ROW.size=G*6:=by
  rw[hROW];simp only[Array.size_append,size_zeroCells,hZs,yP,zm codecM,yz];omega
 have hRl:ROW.toList.length=G*6:=by simpa using hRs
 have hRt:ROW.toList.take (i*6)=cellsOf zl (xs.take i):=by
  have hl:(cellsOf zl (xs.take i)).length=i*6:=by rw[zm codecM,yz];omega
  rw[hROW];simp only[Array.toList_append];rw[yV,<-hl,ya5]
 obtain⟨W1,hW1⟩:∃W1,W1=w.drew.alloc (.cells ROW 62):=⟨_,rfl⟩;rw[<-hW1]at hrz;have hN1:W1.heap[w.heap.size]? =some (.cells ROW 62 (0,0)):=by rw[hW1];exact za (w:=w.drew) rfl
 have hold1:∀k,k<w.heap.size->W1.heap[k]? =w.heap[k]? :=fun k hk=>by rw[hW1];exact Below.heap_alloc w.drew _ k hk
 have hd:(cellsOf zl (xs.drop i)).length=(c-i)*6:=by rw[zm codecM,yF,hn]
 have hxc:∀j v,(zl x)[j]? =some v->w.cell? ((⟨vb,0,none⟩:Addr).add j)=some v:=fun j v hv=>by
  unfold zfv at hx;rw[zbl,yal,cell_of_row w vb j _ _ _ hx,<-yK];exact hv
 have hcells:∀j v,(cellsOf zl (xs.drop i))[j]? =some v->w.cell? ((⟨g,i*6,none⟩:Addr).add j)=some v:=fun j v hv=>by
  rw[zbl,hcell]
  have h1:(cellsOf zl xs)[i*6+j]? =some v:=by
   have e:cellsOf zl xs=cellsOf zl (xs.take i)++cellsOf zl (xs.drop i):=by rw[<-zv,y9]
   have hl:(cellsOf zl (xs.take i)).length=i*6:=by rw[zm codecM,yz];omega
   rw[e,yN (by omega),hl]
   simpa using hv
  rw[<-ht,yac]at h1
  split at h1
  ·exact h1
  ·cases h1
 obtain⟨row1,hrow1⟩:∃r:Array Value,r=(ROW.toList.take (i*6)++zl x++ROW.toList.drop (i*6+(zl x).length)).toArray:=⟨_,rfl⟩
 have hr1s:row1.size=G*6:=by
  rw[hrow1];have:(zl x).length=6:=rfl;simp only[yP,yp,yz,yF,this,hRl];omega
 obtain⟨row2,hrow2⟩:∃r:Array Value,r=(row1.toList.take ((i+1)*6)++cellsOf zl (xs.drop i)++row1.toList.drop ((i+1)*6+(cellsOf zl (xs.drop i)).length)).toArray:=⟨_,rfl⟩
 have hr2s:row2.size=G*6:=by
  rw[hrow2];simp only[yP,yp,yz,yF,hd,yH,hr1s];omega
 have hcpA:∀(W:World),(∀k:Nat,W.heap[k]? =W1.heap[k]?)->∀ty dc,(Builtin.copy_ #[37,37] ty #[.slice (some ⟨w.heap.size,i*6,none⟩) (c+1-i) dc,.slice (some ⟨vb,0,none⟩) 1 1]).run ye W= .ok (goInt 1) (W.setRow w.heap.size row1):=fun W hW ty dc=>by
  rw[hrow1];exact zdv W _ _ ty 62 w.heap.size (i*6) (c+1-i) dc ⟨vb,0,none⟩ 1 1 1 ROW 62 (zl x) Tryz.underlying37 hszO ((hW _).trans hN1) (by simp only[ybD];split<;>omega) rfl (fun j v hv=>(World.cell?_of_block (w:=w) (a:=(⟨vb,0,none⟩:Addr).add j) (by rw[zbl];exact(hW _).trans (hold1 _ hvl))).trans (hxc j v hv)) (by rw[hRs];show i*6+6<=_;omega) (codecM.one x)
 have hcpB:∀(W:World),W.heap[w.heap.size]? =some (.cells row1 62 (0,0))->W.heap[g]? =w.heap[g]? ->∀ty dc sc,(Builtin.copy_ #[37,37] ty #[.slice (some ⟨w.heap.size,(i+1)*6,none⟩) (c-i) dc,.slice (some ⟨g,i*6,none⟩) (c-i) sc]).run ye W= .ok (goInt ((c-i:Nat):Int)) (W.setRow w.heap.size row2):=fun W hW hV ty dc sc=>by
  rw[hrow2];exact zdv W _ _ ty 62 w.heap.size ((i+1)*6) (c-i) dc ⟨g,i*6,none⟩ (c-i) sc (c-i) row1 62 _ Tryz.underlying37 hszO hW (by simp only[ybD];split<;>omega) hd (fun j v hv=>(World.cell?_of_block (w:=w) (a:=(⟨g,i*6,none⟩:Addr).add j) (by rw[zbl];exact hV)).trans (hcells j v hv)) (by rw[hr1s,hd];omega) (zdp codecM _)
 have hfin:row2.toList.take ((c+1)*6)=cellsOf zl (xs.take i++x::xs.drop i):=by
  rw[hrow2,hrow1];exact zlg (cap:=G) codecM hn hRt (by omega) (by omega)
 have HFIN:Hid (∀W:World,W.heap[w.heap.size]? =some (.cells row2 62 (0,0))->Own W base 62 zl 6 (.slice (some ⟨w.heap.size,0,none⟩) (c+1) G) (xs.take i++x::xs.drop i)):=fun W hW=>
  Own.ofRow codecM hW hfin (by simp;omega) hb hGn hG63 hr2s
 have HG1:Hid (w.grownBy W1 none):=by rw[hW1];exact⟨rfl,rfl,rfl,by simp,fun k hk _=>Below.heap_alloc w.drew _ k hk⟩
 have HN1:=yc hN1;have HO1:=yc hold1;have HB:=yc hb;have HGL:=yc hgl;have hG63':G<=9223372036854775807:=by unfold maxLen at hG63;omega
 have hw1:IntKind.i64.wrap ((i:Int)+1)=(i:Int)+1:=by rw[IntKind.wrap_i64];omega
 have hb1:(0:Int)<=(i:Int)+1:=by omega
 have hin:i<=c:=by omega
 have htn:((i:Int)+1).toNat=i+1:=by omega
 have htn2:((c:Int)+1).toNat=c+1:=by omega
 have hz3:¬((i:Int)=(c:Int)):=by omega
 have hb2:¬(G=i+1):=by omega
 have hb3:(i:Int)<=(c:Int)+1:=by omega
 have hb4:¬(c=i):=by omega
 have hb5:¬(G=i):=by omega
 have hc63:(c:Int)<=9223372036854775806:=by omega
 have hq:decide ((c:Int)<(c:Int)+1)=true:=by simp;omega
 have hz1:W1.heap.size=w.heap.size+1:=by rw[hW1];simp
 have hBW:Below w.heap.size w W1:=by rw[hW1];exact(Below.refl w.heap.size w).drew.alloc (yd _) _
 have hcA:=hcpA W1 (fun _=>rfl)
 have hN2:(W1.setRow w.heap.size row1).heap[w.heap.size]? =some (.cells row1 62 (0,0)):=ze2 _ _ ROW row1 _ (0,0) hN1;have hK2:(W1.setRow w.heap.size row1).heap[g]? =w.heap[g]? :=((zcE _ _ row1).block g (by omega) (by simp;omega)).trans (hold1 g hgl)
 obtain⟨W2,hW2⟩:∃W2,W1.setRow w.heap.size row1=W2:=⟨_,rfl⟩;have hBW2:Below w.heap.size w W2:=by rw[<-hW2];exact hBW.grown (zcE _ _ row1) (by omega) (fun a e=>by cases e;exact yd _)
 have hz2:W2.heap.size=w.heap.size+1:=by rw[<-hW2];simp[hz1]
 rw[hW2]at hN2 hK2;have HF2:Hid ((W2.drew.setRow w.heap.size row2).heap[w.heap.size]? =some (.cells row2 62 (0,0))):=ze2 W2.drew _ row1 row2 _ (0,0) hN2;have HB2:Hid (Below w.heap.size w (W2.drew.setRow w.heap.size row2)):=hBW2.drew.grown (zcE _ _ row2) (by show w.heap.size<=W2.heap.size;omega) (fun a e=>by cases e;exact yd _)
 have hcB:=hcpB W2.drew hN2 hK2;clear hN2 hK2 hW1 hz1 hz2 hBW hBW2;clear hh hx hcm hcn htk hi0 hz0 hzs hzb hszO hcell hold hkk hik hZs hZ hRs hRl hRt hd hxc hcells hr1s hr2s hfin hcs ht hn hG hROW hrow1 hrow2 hN1 hold1 hcpA hcpB hroom hnc hb hgl hvl hsz
 go_enter Tryz.func103,Tryz.ntmps103
 go_wp2_with (first
  |(at_builtin;refine Lib.wpList_append_run _ rfl _ _ _ _ rfl _ _ rfl rfl _ _ (hrz _) ?_)
  |(at_builtin;refine wpList_copy_runI _ rfl _ _ 37 37 rfl _ _ rfl rfl (hcA _ _) ?_;rw[hW2]))
 clear hW2
 go_region_law (refine step_copy_runI rfl _ _ 37 37 rfl _ _ (by simp[Act.eval,Act.put]) (by simp[Act.eval,Act.put]) (hcB _ _ _) ?_)
 go_wp2_with fail
 go_ret;exact⟨_,_,rfl,HFIN.out _ HF2.out,⟨HB2.out.os,HB2.out.tape,HB2.out.output,HB2.out.size,fun k hk _=>HB2.out.block k hk⟩⟩
theorem zkY(w:World)(base:Nat)(p:Option Addr)(n c vb i:Nat)(xs:List RM)(x:RM)(ho:Own w base 62 zl 6 (.slice p n c) xs)(hb:base<=w.heap.size)(hi:i<=n)(hx:zfv w vb x)(hne:p≠some ⟨vb,0,none⟩)(hsz:(n+1)*96<=140737488355328):
 Calls ye 103 #[.slice p n c,.int .i64 i,.slice (some ⟨vb,0,none⟩) 1 1] w (zhu w base (Value.slice p n c).ownBlock (n+1) (xs.take i++x::xs.drop i)):=by
 have hn:=zi (ho.rd codecM);by_cases h:i=n
 ·subst h;have e:xs.take i++x::xs.drop i=xs++[x]:=by rw[yq (by omega),List.drop_of_length_le (by omega)]
  rw[e];exact zml w base p i c vb xs x ho hb hx hsz
 ·obtain⟨g,cur,rfl,hg,hh,hnx,hnc,hcm,hcs,ht⟩:=ho.row (.inl (by
   obtain⟨_,_,e,h1,_⟩:=ho.rd codecM;simp only[Value.slice.injEq]at e;omega))
  by_cases hr:n+1<=c
  ·exact zj9 w base g n c vb i cur xs x hh hg hn hcm hcs ht (by omega) hr hx (fun e=>hne (by rw[e]))
  ·exact zkZ w base g n c vb i cur xs x hh hb hn hnc hcm hcs ht (by omega) (by omega) hx hsz
end
section
open Go Go.RowKit Go.OpenShut
def ScAt(W:World)(g:Nat)(s:ByteArray)(i:Nat)(v:Value):Prop:=W.heap[g]? =some (.cells #[.string s,.int .i64 i,v] 179 (0,0))
theorem ScAt.lt{W:World}{g i:Nat}{s:ByteArray}{v:Value}(h:ScAt W g s i v):g<W.heap.size:=(yl.1 h).1
theorem ScAt.cell{W:World}{g i:Nat}{s:ByteArray}{v:Value}(h:ScAt W g s i v)(j:Nat){u:Value}(hu:[Value.string s,.int .i64 i,v][j]? =some u):W.cell? ⟨g,j,none⟩=some u:=by
 unfold ScAt at h;rw[cell_of_row W g j _ _ _ h,<-yK];exact hu
theorem ScAt.frozen{W:World}{g i:Nat}{s:ByteArray}{v:Value}(h:ScAt W g s i v)(j:Nat):W.frozen? ⟨g,j,none⟩=false:=by
 unfold ScAt at h;simp[World.frozen?,h]
theorem ScAt.under{W W':World}{g i B:Nat}{s:ByteArray}{v:Value}(h:ScAt W g s i v)(hb:Below B W W')(hg:g<B):ScAt W' g s i v:=(hb.block g hg).trans h
theorem ScAt.keptR{W W':World}{g i:Nat}{s:ByteArray}{v:Value}{row:Option Nat}(h:ScAt W g s i v)(hg:W.grownBy W' row)(hne:row≠some g):ScAt W' g s i v:=(hg.block g h.lt (fun e=>hne e.symm)).trans h
theorem ScAt.set1{W:World}{g i:Nat}{s:ByteArray}{v:Value}(h:ScAt W g s i v)(k:Nat):ScAt (W.setCell ⟨g,1,none⟩ (.int .i64 k)) g s k v:=by
 unfold ScAt at h⊢;simp[World.setCell,yC,h]
theorem ScAt.set2{W:World}{g i:Nat}{s:ByteArray}{v:Value}(h:ScAt W g s i v)(u:Value):ScAt (W.setCell ⟨g,2,none⟩ u) g s i u:=by
 unfold ScAt at h⊢;simp[World.setCell,yC,h]
structure ScS(w W:World)(g:Nat)(s:ByteArray)(i:Nat)(l:List Tok):Prop where
 ex:∃v,ScAt W g s i v/\Own W (g+1) 116 zhK 4 v l
 below:Below g w W
def sortN(n:ByteArray):Int:=if zb9 n then 1 else if n=zbq then 2 else if zde n then 3 else if(n=zbo\/n=zcP\/n=zL)then 4 else 0
end
end Go.Proofs.YtemofofnkchmeaaGreatDoor
