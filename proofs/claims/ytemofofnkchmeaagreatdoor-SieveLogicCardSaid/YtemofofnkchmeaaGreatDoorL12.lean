import Derived.Test.YtemofofnkchmeaaGreatDoorL11
import Derived.Test.YtemofofnkchmeaaGreatDoorL10
import Derived.Lib.IndexMore
import Derived.Test.YtemofofnkchmeaaGreatDoorL09
import Derived.Test.YtemofofnkchmeaaGreatDoorL04
import Derived.BigQuiet
import Derived.WalkLawsBesides
set_option linter.unusedSimpArgs false
set_option linter.unusedVariables false
set_option maxRecDepth 200000
set_option maxHeartbeats 8000000
namespace Go.Proofs.YtemofofnkchmeaaGreatDoor
open _root_.Array renaming length_toList->yH,toList_inj->ybj
open _root_.Go.RowKit.Below renaming refl->yh
open _root_.Int renaming natCast_nonneg->yj
open _root_.Go.Lib renaming compareBytes->yZ,hid->yc
open _root_.List renaming append_nil->yau,dropWhile_cons->yaI,drop_eq_getElem_cons->yU,flatMap_append->ybl,flatMap_cons->yaB,getElem?_eq_getElem->yf,getElem?_eq_some_iff->yi,getElem?_map->yG,length_append->yp,length_cons->yB,length_drop->yF,length_map->yy,length_singleton->y7,map_cons->yaF,mem_append->yT,mem_cons->yA,mem_flatMap->yay,mem_map->y8,mem_singleton->yai,takeWhile_cons->yaX,take_add_one->yD,take_of_length_le->yq,take_zero->yM
open _root_.Nat renaming add_zero->yw,le_refl->yd,le_trans->yg,mul_one->ya4
open _root_.Option renaming map_eq_some_iff->yaZ
open _root_.Go.Proofs.Tryz renaming prog->ye
section
open Go Go.RowKit
def zep:ByteArray:=⟨#[102,117,108,108]⟩
def zc1:ByteArray:=⟨#[117,110,105,116,115]⟩
def zcF:ByteArray:=⟨#[110,105,99,107,110,97,109,101]⟩
def zcZ:ByteArray:=⟨#[110,105,99,107,110,97,109,101,115]⟩
def zdw:ByteArray:=⟨#[111,114,103,97,110,105,122,97,116,105,111,110]⟩
def zcr:ByteArray:=⟨#[111,114,103,97,110,105,122,97,116,105,111,110,115]⟩
def zb6:ByteArray:=⟨#[101,109,97,105,108]⟩
def zcw:ByteArray:=⟨#[101,109,97,105,108,115]⟩
def zX:ByteArray:=⟨#[97,100,100,114,101,115,115]⟩
def zbS:ByteArray:=⟨#[97,100,100,114,101,115,115,101,115]⟩
def zb7:ByteArray:=⟨#[112,104,111,110,101]⟩
def zcx:ByteArray:=⟨#[112,104,111,110,101,115]⟩
def zbr:ByteArray:=⟨#[110,117,109,98,101,114]⟩
def zbJ:ByteArray:=⟨#[111,110,108,105,110,101,83,101,114,118,105,99,101]⟩
def zb3:ByteArray:=⟨#[111,110,108,105,110,101,83,101,114,118,105,99,101,115]⟩
def zbe:ByteArray:=⟨#[115,101,114,118,105,99,101]⟩
def zcQ:ByteArray:=⟨#[117,114,105]⟩
def zcc:ByteArray:=⟨#[117,115,101,114]⟩
def zZ:ByteArray:=⟨#[110,111,116,101]⟩
def zc0:ByteArray:=⟨#[110,111,116,101,115]⟩
def zdT:ByteArray:=⟨#[116,101,120,116]⟩
def zY(t:JV)(name:ByteArray):List JV:=match t.get name with|some x=>if x.k=6 then x.m.map (·.2)else[]|none=>[]
theorem zoY(t:JV)(name:ByteArray):zY t name=if((t.get name).getD JV.zero).k=6 then((t.get name).getD JV.zero).m.map (·.2)else[]:=by
 unfold zY;cases t.get name with
 |none=>exact(if_neg (by decide)).symm
 |some x=>rfl
def zbn(t:JV):List ByteArray:=zj t zep++zbP t ⟨#[]⟩
def zO(t:JV)(nm:ByteArray)(fs:List ByteArray):List ByteArray:=(zY t nm).flatMap (fun x=>fs.flatMap (zj x))
def zdQ(o:JV):List ByteArray:=zj o zh++(inJ o zc1).flatMap (fun u=>zj u zh)
def ze(t:JV)(f:ByteArray):List ByteArray:=
 if f=zh then zbn (zba t)else
 if f=zbg\/f=zcj\/f=zbO then zbP (zba t) (f.extract 5 f.size)else
 if f=zcF then zO t zcZ [zh]else
 if f=zdw then(zY t zcr).flatMap zdQ else
 if f=zb6 then zO t zcw [zX]else
 if f=zb7 then zO t zcx [zbr]else
 if f=zbJ then zO t zb3 [zbe,zcQ,zcc]else
 if f=zX then(zY t zbS).flatMap zbn else
 if f=zZ then zO t zc0 [zZ]else[]
def allF:List ByteArray:=[zh,zcF,zdw,zb6,zb7,zbJ,zX,zZ]
def zbC(t:JV)(f:ByteArray):List ByteArray:=if f=zdT then allF.flatMap (ze t)else ze t f
mutual
def zr:JV->Nat
 | .mk _ _ s l m=>s.size+zbN l+zcg m
def zbN:List JV->Nat
 |[]=>0
 |t::l=>zr t+zbN l
def zcg:List (ByteArray×JV)->Nat
 |[]=>0
 |(_,t)::m=>zr t+zcg m
end
theorem zrg(t:JV):t.s.size<=zr t:=by
 cases t;rw[zr];simp only[JV.s];omega
theorem zoe{l:List JV}{x:JV}(h:x∈l):zr x<=zbN l:=by
 induction l with
 |nil=>cases h
 | cons a r ih =>
   unfold zbN
   rcases yA.1 h with rfl|h
   ·omega
   ·have:=ih h;omega
theorem zof{m:List (ByteArray×JV)}{p:ByteArray×JV}(h:p∈m):zr p.2<=zcg m:=by
 induction m with
 |nil=>cases h
 | cons a r ih =>
   obtain⟨a,b⟩:=a;rw[zcg]
   rcases yA.1 h with rfl|h
   ·exact Nat.le_add_right _ _
   ·have:=ih h;omega
theorem zrf{t x:JV}(h:x∈t.l):zr x<=zr t:=by
 cases t;have:=zoe h;rw[zr];simp only[JV.l]at this;omega
theorem zlR{t:JV}{p:ByteArray×JV}(h:p∈t.m):zr p.2<=zr t:=by
 cases t;have:=zof h;rw[zr];simp only[JV.m]at this;omega
theorem zcJ(t:JV):1<=zf t:=by
 cases t;unfold zf;omega
theorem zhI(l:List JV):l.length<=zH l:=by
 induction l with
 |nil=>simp
 | cons a r ih =>
   unfold zH;have:=zcJ a;rw[yB];omega
theorem zfC{l:List JV}{x:JV}(h:x∈l):zf x<=zH l:=by
 induction l with
 |nil=>cases h
 | cons a r ih =>
   unfold zH
   rcases yA.1 h with rfl|h
   ·omega
   ·have:=ih h;omega
theorem zl6(m:List (ByteArray×JV)):z8 m=zH (m.map (·.2)):=by
 induction m with
 |nil=>rfl
 | cons a r ih =>
   obtain⟨a,b⟩:=a;unfold z8;rw[yaF];unfold zH;rw[ih]
theorem zoU(t:JV):zH t.l+1<=zf t:=by
 cases t;unfold zf;simp only[JV.l];omega
theorem zjT(t:JV):zH (t.m.map (·.2))+1<=zf t:=by
 cases t;rw[zf];simp only[JV.m];rw[<-zl6];omega
theorem zq4{t:JV}{p:ByteArray×JV}(h:p∈t.mem):p∈t.m:=by
 cases t with
 | mk k n s l m =>
   change p∈(if k=6 then m else[])at h
   by_cases hk:k=6
   ·rw[if_pos hk]at h;exact h
   ·rw[if_neg hk]at h;cases h
theorem zhh{t x:JV}{name:ByteArray}(h:t.get name=some x):∃p∈t.m,p.2=x/\p.1=name:=by
 unfold JV.get JV.place at h;rw[Option.bind_eq_some_iff]at h;obtain⟨i,h1,h2⟩:=h;rw[yaZ]at h2;obtain⟨p,h3,h4⟩:=h2;rw[List.findIdx?_eq_some_iff_getElem]at h1;obtain⟨hi,h5,_⟩:=h1;rw[yf hi]at h3;have h6:t.mem[i]=p:=Option.some.inj h3;rw[h6]at h5;refine⟨p,?_,h4,by simpa using h5⟩
 exact zq4 (h6▸List.getElem_mem hi)
theorem zgl{t x:JV}{name:ByteArray}(h:t.get name=some x):zf x+1<=zf t:=by
 obtain⟨p,h1,rfl,_⟩:=zhh h;have h2:=zfC (List.mem_map_of_mem (f:=(·.2)) h1)
 have h3:=zjT t;omega
theorem zfY{t x:JV}{name:ByteArray}(h:t.get name=some x):zr x<=zr t:=by
 obtain⟨p,h1,rfl,_⟩:=zhh h;exact zlR h1
theorem zfD(t:JV):zf (zba t)<=zf t:=by
 unfold zba;cases h:t.get zh with
 |none=>exact zcJ t
 |some x=>have:=zgl h;exact Nat.le_of_lt this
theorem zja(t:JV):zr (zba t)<=zr t:=by
 unfold zba;cases h:t.get zh with
 |none=>exact Nat.zero_le _
 |some x=>exact zfY h
theorem znF(t:JV)(name:ByteArray):zH (inJ t name)+1<=zf t:=by
 unfold inJ;cases h:t.get name with
 |none=>exact zcJ t
 | some x =>
   have h1:=zgl h;have h2:=zoU x;dsimp only
   split
   ·omega
   ·exact zcJ t
theorem zlB(t:JV)(name:ByteArray):(inJ t name).length+1<=zf t:=yg (Nat.succ_le_succ (zhI _)) (znF t name)
theorem zdr(t:JV)(name:ByteArray):zH (zY t name)+1<=zf t:=by
 unfold zY;cases h:t.get name with
 |none=>exact zcJ t
 | some x =>
   have h1:=zgl h;have h2:=zjT x;dsimp only
   split
   ·omega
   ·exact zcJ t
theorem znt(t:JV)(name:ByteArray):(zY t name).length+1<=zf t:=yg (Nat.succ_le_succ (zhI _)) (zdr t name)
theorem zfI{t x:JV}{name:ByteArray}(h:x∈zY t name):zr x<=zr t:=by
 unfold zY at h;cases hg:t.get name with
 |none=>rw[hg]at h;cases h
 | some y =>
   rw[hg]at h;dsimp only at h
   split at h
   ·obtain⟨p,h1,rfl⟩:=y8.1 h;exact yg (zlR h1) (zfY hg)
   ·cases h
theorem zj7{t x:JV}{name:ByteArray}(h:x∈inJ t name):zr x<=zr t:=by
 unfold inJ at h;cases hg:t.get name with
 |none=>rw[hg]at h;cases h
 | some y =>
   rw[hg]at h;dsimp only at h
   split at h
   ·exact yg (zrf h) (zfY hg)
   ·cases h
theorem zfH{t:JV}{name:ByteArray}(h:t.Ok):(zY t name).length<=1466015503658/\∀(i:Nat) (x:JV),(zY t name)[i]? =some x->x.Ok:=by
 unfold zY;cases hx:t.get name with
 |none=>exact⟨by simp,fun i x a=>by simp at a⟩
 | some v =>
   have hv:=h.get hx;dsimp only
   split
   ·cases hv with
    | mk _ _ _ _ hm _ _ cm =>
      refine⟨by rw[yy];exact hm,fun i x a=> ?_⟩
      rw[yG,yaZ]at a;obtain⟨p,h1,rfl⟩:=a;exact cm i p h1
   ·exact⟨by simp,fun i x a=>by simp at a⟩
theorem zdV{t:JV}{name x:ByteArray}(h:x∈zj t name):x.size<=zr t:=by
 unfold zj at h;cases hg:t.get name with
 |none=>rw[hg]at h;cases h
 | some y =>
   rw[hg]at h;dsimp only at h
   split at h
   ·rw[yai]at h;subst h;exact yg (zrg y) (zfY hg)
   ·cases h
theorem zfM{α β:Type}{f:α->List β}{n:Nat}(h:∀x,(f x).length<=n)(l:List α):(l.flatMap f).length<=n*l.length:=by
 induction l with
 |nil=>simp
 | cons a r ih =>
   rw[yaB,yp,yB,Nat.mul_add,ya4];have:=h a;omega
theorem zeu{β:Type}{f:JV->List β}(h:∀x,(f x).length<=zf x)(l:List JV):(l.flatMap f).length<=zH l:=by
 induction l with
 |nil=>simp
 | cons a r ih =>
   rw[yaB,yp];unfold zH;have:=h a;omega
theorem znx{α β:Type}(f:α->List β)(l:List α)(j:Nat):((l.take j).flatMap f).length<=(l.flatMap f).length:=by
 have h:l.flatMap f=(l.take j).flatMap f++(l.drop j).flatMap f:=by rw[<-ybl,List.take_append_drop]
 rw[h,yp];omega
theorem zbk{α β:Type}{f:α->List β}{l:List α}{j:Nat}{x:α}(h:l[j]? =some x):(l.take (j+1)).flatMap f=(l.take j).flatMap f++f x:=by
 rw[yD,h,Option.toList_some,ybl];simp
theorem zbH{α β:Type}{f:α->List β}{l:List α}{j:Nat}{x:α}(h:l[j]? =some x):((l.take j).flatMap f).length+(f x).length<=(l.flatMap f).length:=by
 have h1:=zbk (f:=f) h;have h2:=znx f l (j+1);rw[h1,yp]at h2;exact h2
theorem zeP(t:JV)(kind:ByteArray):(zbP t kind).length+1<=zf t:=by
 rw[ze0];exact yg (Nat.succ_le_succ (zhW _ _)) (zlB t zee)
theorem zf0(t:JV):(zbn t).length<=zf t:=by
 unfold zbn;rw[yp];have h1:=zb4 t zep;have h2:=zeP t ⟨#[]⟩;omega
theorem zkj(t:JV):(zdQ t).length<=zf t:=by
 unfold zdQ;rw[yp];have h1:=zb4 t zh;have h2:=zfM (f:=fun u=>zj u zh) (n:=1) (fun u=>zb4 u zh) (inJ t zc1)
 have h3:=zlB t zc1;omega
theorem zp8(x:JV)(fs:List ByteArray):(fs.flatMap (zj x)).length<=fs.length:=by
 have:=zfM (f:=zj x) (n:=1) (fun n=>zb4 x n) fs
 omega
theorem zdi(t:JV)(nm:ByteArray)(fs:List ByteArray):(zO t nm fs).length<=fs.length*zf t:=by
 unfold zO;have h1:=zfM (f:=fun x=>fs.flatMap (zj x)) (n:=fs.length) (fun x=>zp8 x fs) (zY t nm)
 have h2:=znt t nm;exact yg h1 (Nat.mul_le_mul_left _ (by omega))
theorem zhN(t:JV)(f:ByteArray):(ze t f).length<=3*zf t:=by
 have hc:=zcJ t;unfold ze
 split
 ·have h1:=zf0 (zba t);have h2:=zfD t;omega
 ·split
  ·have h1:=zeP (zba t) (f.extract 5 f.size);have h2:=zfD t;omega
  ·split
   ·have h:=zdi t zcZ [zh];simp only[y7]at h;omega
   ·split
    ·have h:=zeu zkj (zY t zcr);have h2:=zdr t zcr;omega
    ·split
     ·have h:=zdi t zcw [zX];simp only[y7]at h;omega
     ·split
      ·have h:=zdi t zcx [zbr];simp only[y7]at h;omega
      ·split
       ·exact zdi t zb3 [zbe,zcQ,zcc]
       ·split
        ·have h:=zeu zf0 (zY t zbS);have h2:=zdr t zbS;omega
        ·split
         ·have h:=zdi t zc0 [zZ];simp only[y7]at h;omega
         ·simp
theorem zii(t:JV)(f:ByteArray):(zbC t f).length<=24*zf t:=by
 unfold zbC
 split
 ·have h:=zfM (f:=ze t) (n:=3*zf t) (zhN t) allF;have e:allF.length=8:=rfl;rw[e]at h;omega
 ·have:=zhN t f;omega
theorem zg3{t:JV}{kind x:ByteArray}(h:x∈zbP t kind):x.size<=zr t:=by
 rw[ze0]at h;unfold zcU at h;obtain⟨c,h1,h2⟩:=yay.1 h;exact yg (zdV h2) (zj7 ((List.mem_filter.1 h1).1))
theorem zg6{t:JV}{x:ByteArray}(h:x∈zbn t):x.size<=zr t:=by
 unfold zbn at h
 rcases yT.1 h with h|h
 ·exact zdV h
 ·exact zg3 h
theorem zn1{t:JV}{x:ByteArray}(h:x∈zdQ t):x.size<=zr t:=by
 unfold zdQ at h
 rcases yT.1 h with h|h
 ·exact zdV h
 ·obtain⟨c,h1,h2⟩:=yay.1 h;exact yg (zdV h2) (zj7 h1)
theorem zdt{t:JV}{nm x:ByteArray}{fs:List ByteArray}(h:x∈zO t nm fs):x.size<=zr t:=by
 unfold zO at h;obtain⟨c,h1,h2⟩:=yay.1 h;obtain⟨n,h3,h4⟩:=yay.1 h2;exact yg (zdV h4) (zfI h1)
theorem zgX{t:JV}{f x:ByteArray}(h:x∈ze t f):x.size<=zr t:=by
 unfold ze at h
 split at h
 ·exact yg (zg6 h) (zja t)
 ·split at h
  ·exact yg (zg3 h) (zja t)
  ·split at h
   ·exact zdt h
   ·split at h
    ·obtain⟨c,h1,h2⟩:=yay.1 h;exact yg (zn1 h2) (zfI h1)
    ·split at h
     ·exact zdt h
     ·split at h
      ·exact zdt h
      ·split at h
       ·exact zdt h
       ·split at h
        ·obtain⟨c,h1,h2⟩:=yay.1 h;exact yg (zg6 h2) (zfI h1)
        ·split at h
         ·exact zdt h
         ·cases h
theorem zls{t:JV}{f x:ByteArray}(h:x∈zbC t f):x.size<=zr t:=by
 unfold zbC at h
 split at h
 ·obtain⟨c,h1,h2⟩:=yay.1 h;exact zgX h2
 ·exact zgX h
def zbT(c:UInt8):Bool:= !decide (c=34)
def zbI(c:UInt8):Bool:= !(decide (c=32)||decide (c=34))
def zbY:Nat->List UInt8->List (List UInt8)
 |0,_=>[]
 |_+1,[]=>[]
 | n + 1, c :: r =>
   if c=32 then zbY n r
   else if c=34 then(if r.takeWhile zbT=[]then[]else[r.takeWhile zbT])++zbY n ((r.dropWhile zbT).drop 1)
   else(c::r).takeWhile zbI::zbY n ((c::r).dropWhile zbI)
def zI(l:List UInt8):List (List UInt8):=zbY l.length l
theorem zcG{p:UInt8->Bool}(l:List UInt8):(l.dropWhile p).length<=l.length:=(List.dropWhile_sublist p).length_le
theorem zfG{c:UInt8}{r:List UInt8}(h:zbI c=true):(c::r).dropWhile zbI=r.dropWhile zbI:=by rw[yaI,if_pos h]
theorem zfQ{c:UInt8}(h1:c≠32)(h2:c≠34):zbI c=true:=by unfold zbI;rw[decide_eq_false h1,decide_eq_false h2];rfl
theorem zdu:∀(n m:Nat) (l:List UInt8),l.length<=n->l.length<=m->zbY n l=zbY m l
 |0,m,[],_,_=>by cases m<;>rfl
 |n+1,0,[],_,_=>rfl
 |n+1,m+1,[],_,_=>rfl
 |0,m,c::r,h,_=>by simp at h
 |n+1,0,c::r,_,h=>by simp at h
 | n + 1, m + 1, c :: r, h1, h2 => by
   rw[yB]at h1 h2;rw[zbY,zbY];by_cases ha:c=32
   ·rw[if_pos ha,if_pos ha];exact zdu n m r (by omega) (by omega)
   ·rw[if_neg ha,if_neg ha];by_cases hb:c=34
    ·rw[if_pos hb,if_pos hb]
     congr 1
     have hd:=zcG (p:=zbT) r;exact zdu n m _ (by rw[yF];omega) (by rw[yF];omega)
    ·rw[if_neg hb,if_neg hb,zfG (zfQ ha hb)];have hd:=zcG (p:=zbI) r;rw[zdu n m _ (by omega) (by omega)]
theorem zmT:zI []=[]:=rfl
theorem zot(r:List UInt8):zI (32::r)=zI r:=by
 unfold zI;rw[yB,zbY,if_pos rfl]
theorem zp6(r:List UInt8):zI (34::r)=(if r.takeWhile zbT=[]then[]else[r.takeWhile zbT])++zI ((r.dropWhile zbT).drop 1):=by
 unfold zI;rw[yB,zbY,if_neg (by decide),if_pos rfl]
 congr 1
 have hd:=zcG (p:=zbT) r;exact zdu _ _ _ (by rw[yF];omega) (by omega)
theorem zp5{c:UInt8}(h1:c≠32)(h2:c≠34)(r:List UInt8):zI (c::r)=(c::r).takeWhile zbI::zI ((c::r).dropWhile zbI):=by
 unfold zI;rw[yB,zbY,if_neg h1,if_neg h2]
 congr 1
 have hd:=zcG (p:=zbI) r;exact zdu _ _ _ (by rw[zfG (zfQ h1 h2)];omega) (by omega)
theorem zp3{c:UInt8}(h1:c≠32)(h2:c≠34)(r:List UInt8):(c::r).takeWhile zbI≠[]:=by
 rw[yaX,if_pos (zfQ h1 h2)];simp
theorem zje{p:UInt8->Bool}(l:List UInt8):(l.takeWhile p).length<=l.length:=(List.takeWhile_sublist p).length_le
theorem zdU:∀(n:Nat) (l:List UInt8),(zbY n l).length<=n/\∀t∈zbY n l,t.length<=l.length
 |0,l=>by simp[zbY]
 |n+1,[]=>by simp[zbY]
 | n + 1, c :: r => by
   rw[zbY];by_cases ha:c=32
   ·rw[if_pos ha];have ih:=zdU n r;refine⟨by omega,fun t ht=> ?_⟩
    have:=ih.2 t ht;rw[yB];omega
   ·rw[if_neg ha];by_cases hb:c=34
    ·rw[if_pos hb];have ih:=zdU n ((r.dropWhile zbT).drop 1);have hd:=zcG (p:=zbT) r;have ht:=zje (p:=zbT) r;refine⟨?_,fun t h=> ?_⟩
     ·rw[yp]
      split
      ·rw[List.length_nil];omega
      ·rw[y7];omega
     ·rw[yB]
      rcases yT.1 h with h|h
      ·split at h
       ·cases h
       ·rw[yai]at h;subst h;omega
      ·have:=ih.2 t h;rw[yF]at this;omega
    ·rw[if_neg hb];have ih:=zdU n ((c::r).dropWhile zbI);have hd:=zcG (p:=zbI) (c::r);have ht:=zje (p:=zbI) (c::r);refine⟨by rw[yB];omega,fun t h=> ?_⟩
     rcases yA.1 h with rfl|h
     ·exact ht
     ·have:=ih.2 t h;omega
theorem zeB(l:List UInt8):(zI l).length<=l.length:=(zdU _ l).1
theorem zlq{l t:List UInt8}(h:t∈zI l):t.length<=l.length:=(zdU _ l).2 t h
def zfb(s t:List UInt8):Bool:=Go.Lib.contains (zN s) (zN t)
def zel(q:List UInt8)(ts:List ByteArray):Bool:=(zI q).all (fun t=>ts.any (fun s=>zfb s.data.toList t))
end
section
open Go Go.RowKit Go.OpenShut
theorem zrk{p:UInt8->Bool}{l:List UInt8}{j:Nat}{c:UInt8}(hc:l[j]? =some c)(hp:p c=true):(l.drop j).takeWhile p=c::(l.drop (j+1)).takeWhile p/\(l.drop j).dropWhile p=(l.drop (j+1)).dropWhile p:=by
 obtain⟨h1,h2⟩:=yi.1 hc;rw[yU h1,h2,yaX,yaI,if_pos hp,if_pos hp];exact⟨rfl,rfl⟩
theorem zrl{p:UInt8->Bool}{l:List UInt8}{j:Nat}{c:UInt8}(hc:l[j]? =some c)(hp:p c=false):(l.drop j).takeWhile p=[]/\(l.drop j).dropWhile p=l.drop j:=by
 obtain⟨h1,h2⟩:=yi.1 hc;rw[yU h1,h2,yaX,yaI,hp];exact⟨rfl,rfl⟩
def TwAt(p:UInt8->Bool)(l:List UInt8)(j:Nat):Prop:=l.takeWhile p=l.take j++(l.drop j).takeWhile p/\l.dropWhile p=(l.drop j).dropWhile p
theorem TwAt.zero(p:UInt8->Bool)(l:List UInt8):TwAt p l 0:=⟨rfl,rfl⟩
theorem TwAt.next{p:UInt8->Bool}{l:List UInt8}{j:Nat}{c:UInt8}(h:TwAt p l j)(hc:l[j]? =some c)(hp:p c=true):TwAt p l (j+1):=by
 obtain⟨h1,h2⟩:=h;obtain⟨h3,h4⟩:=zrk hc hp;refine⟨?_,h2.trans h4⟩;rw[h1,h3,yD,hc];simp
theorem TwAt.stop{p:UInt8->Bool}{l:List UInt8}{j:Nat}{c:UInt8}(h:TwAt p l j)(hc:l[j]? =some c)(hp:p c=false):l.takeWhile p=l.take j/\l.dropWhile p=l.drop j:=by
 obtain⟨h1,h2⟩:=h;obtain⟨h3,h4⟩:=zrl hc hp;rw[h1,h2,h3,h4,yau];exact⟨rfl,rfl⟩
theorem TwAt.done{p:UInt8->Bool}{l:List UInt8}(h:TwAt p l l.length):l.takeWhile p=l/\l.dropWhile p=[]:=by
 obtain⟨h1,h2⟩:=h;rw[h1,h2,List.drop_length,List.take_length];simp
theorem extB(s:ByteArray)(j:Nat):s.extract 0 j=zy (s.data.toList.take j):=by
 apply ByteArray.ext;apply ybj.1;rw[zjY];simp[zy]
theorem zma(s:ByteArray)(j:Nat):s.extract j s.size=zy (s.data.toList.drop j):=by
 apply ByteArray.ext;apply ybj.1;rw[zjY];have:s.data.toList.length=s.size:=by rw[yH];rfl
 simp only[zy];exact yq (by rw[yF];omega)
theorem zol(c:UInt8)(w:World):Calls ye 205 #[.int .u8 c.toNat] w fun e w'=>e= .returned (.bool (!zbT c))/\w=w':=by
 have hq:(((c.toNat:Nat):Int)==34)= !zbT c:=by
  unfold zbT;rw[Bool.not_not,Bool.eq_iff_iff,beq_iff_eq,decide_eq_true_iff]
  constructor
  ·intro h;exact UInt8.toNat_inj.1 (show c.toNat=(34:UInt8).toNat from by have:(34:UInt8).toNat=34:=rfl;omega)
  ·rintro rfl
   rfl
 obtain⟨b,hb⟩:∃b,(!zbT c)=b:=⟨_,rfl⟩;rw[hb]at hq;rw[hb];clear hb
 go_enter Tryz.func205,Tryz.ntmps205
 go_wp2_with fail
 go_ret;exact⟨rfl,rfl⟩
theorem zok(c:UInt8)(w:World):Calls ye 206 #[.int .u8 c.toNat] w fun e w'=>e= .returned (.bool (!zbI c))/\w=w':=by
 have h34:(((c.toNat:Nat):Int)==34)=decide (c=34):=by
  rw[Bool.eq_iff_iff,beq_iff_eq,decide_eq_true_iff]
  constructor
  ·intro h;exact UInt8.toNat_inj.1 (show c.toNat=(34:UInt8).toNat from by have:(34:UInt8).toNat=34:=rfl;omega)
  ·rintro rfl
   rfl
 have h32:(((c.toNat:Nat):Int)==32)=decide (c=32):=by
  rw[Bool.eq_iff_iff,beq_iff_eq,decide_eq_true_iff]
  constructor
  ·intro h;exact UInt8.toNat_inj.1 (show c.toNat=(32:UInt8).toNat from by have:(32:UInt8).toNat=32:=rfl;omega)
  ·rintro rfl
   rfl
 unfold zbI;rw[Bool.not_not];obtain⟨a,ha⟩:∃b,decide (c=32)=b:=⟨_,rfl⟩;obtain⟨b,hb⟩:∃b,decide (c=34)=b:=⟨_,rfl⟩;rw[ha]at h32;rw[hb]at h34;rw[ha,hb];clear ha hb;cases a
 all_goals
  go_enter Tryz.func206,Tryz.ntmps206
  go_wp2_with fail
  go_ret;exact⟨rfl,rfl⟩
theorem zmY(s:ByteArray)(w:World)(hs:s.size<=maxLen):Calls ye 208 #[.string s,.func (.func 205) #[] #[]] w fun e w'=>e= .returned (.tuple #[.string (zy (s.data.toList.takeWhile zbT)),.string (zy (s.data.toList.dropWhile zbT))])/\∃n,w'=w.drewN n:=by
 have hsz:s.data.toList.length=s.size:=by rw[yH];rfl
 have HGE:Hid (∀k,(h:k<s.size)->s.data.toList[k]? =some s[k]):=fun k h=>zd2 h
 have HSZ:=yc hsz;have s0:(0:Int)<=(s.size:Int):=yj _;unfold maxLen at hs;obtain⟨A,hA⟩:∃A,s.data.toList.takeWhile zbT=A:=⟨_,rfl⟩;obtain⟨D,hD⟩:∃A,s.data.toList.dropWhile zbT=A:=⟨_,rfl⟩;rw[hA,hD];have HAD:Hid (∀j,TwAt zbT s.data.toList j->TwAt zbT s.data.toList j):=fun j h=>h
 have HA:=yc hA;have HD:=yc hD;clear hsz hA hD
 go_enter Tryz.func208,Tryz.ntmps208
 go_wp2_with fail
 go_loopw [9] (fun i wr=>∃k:Nat,k<=s.size/\i= .int .i64 (k:Int)/\Hid (TwAt zbT s.data.toList k)/\w=wr) (fun i _=>s.size-(intOf i).toNat)
 case atStart=>exact⟨0,by omega,rfl,TwAt.zero _ _,rfl⟩
 case round=>
  obtain⟨k,hk,rfl,HT,rfl⟩:=hrel;have hk0:(0:Int)<=(k:Int):=yj _;by_cases hlt:k<s.size
  ·have hk1:(k:Int)<(s.size:Int):=by omega
   have hg:=HGE.out k hlt;obtain⟨c,hc⟩:∃c,s[k]=c:=⟨_,rfl⟩;rw[hc]at hg;have HG:=yc hg;have HSC:=yc (zol c w);clear hg;cases hp:zbT c with
   | true =>
     rw[hp]at HSC;have HT2:=yc (HT.out.next HG.out hp);clear hp
     go_wp2_with (go_at_call 205;(with_reducible refine HSC.out.mono ?_);rintro e w1 ⟨rfl,rfl⟩)
     go_roundw
     case rel=>exact⟨k+1,by omega,by go_num,HT2.out,by trivial⟩
     case measure=>simp[intOf];omega
   | false =>
     rw[hp]at HSC;have HT2:=yc (HT.out.stop HG.out hp);have e1:Hid (s.extract 0 k=zy A):=by unfold Hid;rw[extB,<-HT2.out.1,HA.out]
     have e2:Hid (s.extract k s.size=zy D):=by unfold Hid;rw[zma,<-HT2.out.2,HD.out]
     clear hp
     go_upto_region 5 with(go_at_call 205;(with_reducible refine HSC.out.mono ?_);rintro e w1 ⟨rfl,rfl⟩)
     go_quiet (fail)
     try go_wp2_with fail
     refine bodyPost_ret (v:= .tuple #[.string (s.extract 0 k),.string (s.extract k s.size)]) (by simp[results,Tryz.results208,go_sem]) rfl ⟨by rw[e1.out,e2.out],?_⟩
     exact⟨_,rfl⟩
  ·obtain rfl:k=s.size:=by omega
   have h1:=HT.out;rw[<-HSZ.out]at h1;have HT2:=yc h1.done;have e1:Hid (s=zy A):=by unfold Hid;rw[<-HA.out,HT2.out.1];rfl
   have e2:Hid ((⟨#[]⟩:ByteArray)=zy D):=by unfold Hid;rw[<-HD.out,HT2.out.2];rfl
   clear h1
   go_wp2_with fail
   refine bodyPost_ret (v:= .tuple #[.string s,.string ⟨#[]⟩]) (by simp[results,Tryz.results208,go_sem]) rfl ⟨by rw[<-e1.out,<-e2.out],0,?_⟩
   rfl
theorem zmX(s:ByteArray)(w:World)(hs:s.size<=maxLen):Calls ye 208 #[.string s,.func (.func 206) #[] #[]] w fun e w'=>e= .returned (.tuple #[.string (zy (s.data.toList.takeWhile zbI)),.string (zy (s.data.toList.dropWhile zbI))])/\∃n,w'=w.drewN n:=by
 have hsz:s.data.toList.length=s.size:=by rw[yH];rfl
 have HGE:Hid (∀k,(h:k<s.size)->s.data.toList[k]? =some s[k]):=fun k h=>zd2 h
 have HSZ:=yc hsz;have s0:(0:Int)<=(s.size:Int):=yj _;unfold maxLen at hs;obtain⟨A,hA⟩:∃A,s.data.toList.takeWhile zbI=A:=⟨_,rfl⟩;obtain⟨D,hD⟩:∃A,s.data.toList.dropWhile zbI=A:=⟨_,rfl⟩;rw[hA,hD];have HAD:Hid (∀j,TwAt zbI s.data.toList j->TwAt zbI s.data.toList j):=fun j h=>h
 have HA:=yc hA;have HD:=yc hD;clear hsz hA hD
 go_enter Tryz.func208,Tryz.ntmps208
 go_wp2_with fail
 go_loopw [9] (fun i wr=>∃k:Nat,k<=s.size/\i= .int .i64 (k:Int)/\Hid (TwAt zbI s.data.toList k)/\w=wr) (fun i _=>s.size-(intOf i).toNat)
 case atStart=>exact⟨0,by omega,rfl,TwAt.zero _ _,rfl⟩
 case round=>
  obtain⟨k,hk,rfl,HT,rfl⟩:=hrel;have hk0:(0:Int)<=(k:Int):=yj _;by_cases hlt:k<s.size
  ·have hk1:(k:Int)<(s.size:Int):=by omega
   have hg:=HGE.out k hlt;obtain⟨c,hc⟩:∃c,s[k]=c:=⟨_,rfl⟩;rw[hc]at hg;have HG:=yc hg;have HSC:=yc (zok c w);clear hg;cases hp:zbI c with
   | true =>
     rw[hp]at HSC;have HT2:=yc (HT.out.next HG.out hp);clear hp
     go_wp2_with (go_at_call 206;(with_reducible refine HSC.out.mono ?_);rintro e w1 ⟨rfl,rfl⟩)
     go_roundw
     case rel=>exact⟨k+1,by omega,by go_num,HT2.out,by trivial⟩
     case measure=>simp[intOf];omega
   | false =>
     rw[hp]at HSC;have HT2:=yc (HT.out.stop HG.out hp);have e1:Hid (s.extract 0 k=zy A):=by unfold Hid;rw[extB,<-HT2.out.1,HA.out]
     have e2:Hid (s.extract k s.size=zy D):=by unfold Hid;rw[zma,<-HT2.out.2,HD.out]
     clear hp
     go_upto_region 5 with(go_at_call 206;(with_reducible refine HSC.out.mono ?_);rintro e w1 ⟨rfl,rfl⟩)
     go_quiet (fail)
     try go_wp2_with fail
     refine bodyPost_ret (v:= .tuple #[.string (s.extract 0 k),.string (s.extract k s.size)]) (by simp[results,Tryz.results208,go_sem]) rfl ⟨by rw[e1.out,e2.out],?_⟩
     exact⟨_,rfl⟩
  ·obtain rfl:k=s.size:=by omega
   have h1:=HT.out;rw[<-HSZ.out]at h1;have HT2:=yc h1.done;have e1:Hid (s=zy A):=by unfold Hid;rw[<-HA.out,HT2.out.1];rfl
   have e2:Hid ((⟨#[]⟩:ByteArray)=zy D):=by unfold Hid;rw[<-HD.out,HT2.out.2];rfl
   clear h1
   go_wp2_with fail
   refine bodyPost_ret (v:= .tuple #[.string s,.string ⟨#[]⟩]) (by simp[results,Tryz.results208,go_sem]) rfl ⟨by rw[<-e1.out,<-e2.out],0,?_⟩
   rfl
theorem TreeOf.ml{w:World}{B:Nat}{t:JV}{r:RV}(h:TreeOf w B t r):∃rms,Rd w B zl 6 (.slice r.pm r.nm r.cm) rms/\t.m.length=rms.length/\∀(i:Nat) p q,t.m[i]? =some p->rms[i]? =some q->p.1=q.name/\TreeOf w B p.2 q.v:=by
 cases h with
 |mk hl el cl hm em cn cm=>exact⟨_,hm,em,fun i p q a b=>⟨cn i p q a b,cm i p q a b⟩⟩
def zjz(w:World)(B:Nat)(l:List JV)(e:Ending)(w':World):Prop:=∃u rs,e= .returned u/\Own w' w.heap.size 25 zbc 5 u rs/\l.length=rs.length/\(∀(i:Nat) x q,l[i]? =some x->rs[i]? =some q->TreeOf w' B x q)/\Below w.heap.size w w'
theorem zhc(t:JV)(r:RV)(name:ByteArray)(w:World)(B:Nat)(hBw:B<=w.heap.size)(ht:TreeOf w B t r)(ot:t.Ok):
 Calls ye 66 #[r.val,.string name] w (zjz w B (zY t name)):=by
 obtain⟨W0,hW0⟩:∃W0,w.alloc r.obj=W0:=⟨_,rfl⟩;have hA0:VAt W0 w.heap.size r:=by rw[<-hW0];exact za rfl
 have hB0:Below w.heap.size w W0:=by rw[<-hW0];exact(yh _ _).alloc (yd _) _
 have HC:Hid (Calls ye 62 #[r.val,.string name] W0 (zV W0 B (t.get name))):=zT t r name W0 B (yg hBw hB0.size) (ht.under (hB0.mono hBw) (yd _)) ot;have HEO:=yc (zoY t name);have HEK:=yc (zfH (name:=name) ot);obtain⟨R,hR⟩:∃R,zY t name=R:=⟨_,rfl⟩;rw[hR]at HEO HEK;rw[hR];obtain⟨k,n,s,pl,nl,cl,pm,nm,cm⟩:=r;dsimp only[RV.val,RV.obj]at*;have HW:=yc hW0;have HB0:=yc hB0;have hw0:=hB0.size;clear hW0 hB0 ht ot hR
 go_enter Tryz.func66,Tryz.ntmps66
 go_upto_region 1 with fail
 rw[HW.out];clear HW;obtain⟨a0,a1,a2,a3,a4⟩:=hA0.cells5
 go_upto_region 3 with(go_at_call 62;refine HC.out.mono ?_;rintro e w1 ⟨rv,bb,rfl,hbb,ht1,hb1⟩;obtain⟨rk,rn,rS,rpl,rnl,rcl,rpm,rnm,rcm⟩:=rv)
 obtain⟨hkk,hss⟩:=ht1.kk;dsimp only at hkk hss;have hz1:=hb1.size;have hb2:Below W0.heap.size W0 (w1.alloc (.cells #[.int .i64 rk,.int .i64 rn,.string rS,.slice rpl rnl rcl,.slice rpm rnm rcm] 25)):=hb1.alloc hz1 _;have hv2:VAt (w1.alloc (.cells #[.int .i64 rk,.int .i64 rn,.string rS,.slice rpl rnl rcl,.slice rpm rnm rcm] 25)) w1.heap.size ⟨rk,rn,rS,rpl,rnl,rcl,rpm,rnm,rcm⟩:=za rfl;have ht2:=(ht1.under ((yh B w1).alloc (yg (yg hBw hw0) hz1) (.cells #[.int .i64 rk,.int .i64 rn,.string rS,.slice rpl rnl rcl,.slice rpm rnm rcm] 25)) (yd _)).ml;dsimp only at ht2;obtain⟨g,hg⟩:∃g,w1.heap.size=g:=⟨_,rfl⟩;obtain⟨W2,hW2⟩:∃W,w1.alloc (.cells #[.int .i64 rk,.int .i64 rn,.string rS,.slice rpl rnl rcl,.slice rpm rnm rcm] 25)=W:=⟨_,rfl⟩;rw[hW2]at hb2 hv2 ht2;rw[hg]at hv2
 try rw[hW2]
 try rw[hg]
 obtain⟨v0,v1,v2,v3,v4⟩:=hv2.cells5;dsimp only at v0 v1 v2 v3 v4;have hbw:=HB0.out.trans (hb2.mono hw0);have HX:=yc hbw;have hz2:w.heap.size<=W2.heap.size:=hbw.size;have hBw2:B<=W2.heap.size:=yg hBw hz2;have HL:=yc ht2;clear hW2 hg hb1 ht1 hb2 hv2 hz1 hbw ht2 hss;by_cases hk6:rk=6
 ·subst hk6;have hR6:R=((t.get name).getD JV.zero).m.map (·.2):=by rw[HEO.out,<-hkk,if_pos rfl]
  obtain⟨rms,hm,hlen,htl⟩:=HL.out;have hrl:rms.length=rnm:=(zi hm).symm;have hRl:R.length=rnm:=by rw[hR6,yy];omega
  have hno:rnm<=1466015503658:=by have:=HEK.out.1;omega
  have HTL:Hid (∀(i:Nat) x q,R[i]? =some x->(rms.map (·.v))[i]? =some q->TreeOf W2 B x q):=fun i x q a b=>by
   rw[hR6,yG,yaZ]at a;rw[yG,yaZ]at b;obtain⟨p,a1,rfl⟩:=a;obtain⟨y,b1,rfl⟩:=b;exact(htl i p y a1 b1).2
  have HRD:=yc hm;have HRL:Hid (R.length=(rms.map (·.v)).length):=by unfold Hid;rw[yy,hRl,hrl]
  clear hm hlen htl hR6 hRl hkk HL
  go_wp2_with fail
  go_loopw [7,22] (fun u i wr=>∃j:Nat,j<=rnm/\i= .int .i64 (j:Int)/\Hid (Own wr W2.heap.size 25 zbc 5 u ((rms.map (·.v)).take j)/\Below W2.heap.size W2 wr)) (fun _ i _=>rnm-(intOf i).toNat)
  case atStart=>exact⟨0,by omega,rfl,by rw[yM];exact Own.nil _ _ _,yh _ _⟩
  case round=>
   obtain⟨j,hj,rfl,hH⟩:=hrel;have HO:=yc hH.out.1;have HBR:=yc hH.out.2;clear hH;have hj0:(0:Int)<=(j:Int):=yj _;by_cases hlt:j<rnm
   ·obtain⟨⟨xname,⟨xk,xn,xs,xpl,xnl,xcl,xpm,xnm,xcm⟩⟩,hx⟩:∃x,rms[j]? =some x:=⟨_,yf (by omega)⟩
    have hj1:(j:Int)<(rnm:Int):=by omega
    have HTK:Hid ((rms.map (·.v)).take (j+1)=(rms.map (·.v)).take j++[⟨xk,xn,xs,xpl,xnl,xcl,xpm,xnm,xcm⟩]):=by
     unfold Hid;rw[yD,yG,hx]
     rfl
    obtain⟨b1,o1,rfl,hb1,hc1⟩:=zq (HRD.out.below (HBR.out.mono hBw2) (yd _)) hx;have f0:=hc1 0 _ rfl;have f1:=hc1 1 _ rfl;have f2:=hc1 2 _ rfl;have f3:=hc1 3 _ rfl;have f4:=hc1 4 _ rfl;have f5:=hc1 5 _ rfl;rw[yw]at f0;dsimp only at f0 f1 f2 f3 f4 f5;have hbz:=HBR.out.size;have hlm:((rms.map (·.v)).take j).length<=j:=List.length_take_le _ _
    have HLN:Hid (((rms.map (·.v)).take j).length+[(⟨xk,xn,xs,xpl,xnl,xcl,xpm,xnm,xcm⟩:RV)].length<=maxLen/\(((rms.map (·.v)).take j).length+[(⟨xk,xn,xs,xpl,xnl,xcl,xpm,xnm,xcm⟩:RV)].length)*80<=140737488355328):=by
     simp only[y7];exact⟨by unfold maxLen;omega,by omega⟩
    clear hx hc1 hlm
    go_upto_region 7 with fail
    obtain⟨g9,hg9⟩:∃g,wr.heap.size=g:=⟨_,rfl⟩;have hM9:(wr.alloc (.cells #[.string xname,.int .i64 xk,.int .i64 xn,.string xs,.slice xpl xnl xcl,.slice xpm xnm xcm] 35)).heap[wr.heap.size]? =some (.cells #[.string xname,.int .i64 xk,.int .i64 xn,.string xs,.slice xpl xnl xcl,.slice xpm xnm xcm] 35):=za rfl;have hB9:Below W2.heap.size W2 (wr.alloc (.cells #[.string xname,.int .i64 xk,.int .i64 xn,.string xs,.slice xpl xnl xcl,.slice xpm xnm xcm] 35)):=HBR.out.alloc hbz _;have hO9:=HO.out.alloc (.cells #[.string xname,.int .i64 xk,.int .i64 xn,.string xs,.slice xpl xnl xcl,.slice xpm xnm xcm] 35);obtain⟨W9,hW9⟩:∃W,wr.alloc (.cells #[.string xname,.int .i64 xk,.int .i64 xn,.string xs,.slice xpl xnl xcl,.slice xpm xnm xcm] 35)=W:=⟨_,rfl⟩;rw[hW9]at hM9 hB9 hO9;rw[hg9]at hM9
    try rw[hW9]
    try rw[hg9]
    have e1:=(cell_of_row W9 g9 1 _ _ _ hM9).trans rfl;have e2:=(cell_of_row W9 g9 2 _ _ _ hM9).trans rfl;have e3:=(cell_of_row W9 g9 3 _ _ _ hM9).trans rfl;have e4:=(cell_of_row W9 g9 4 _ _ _ hM9).trans rfl;have e5:=(cell_of_row W9 g9 5 _ _ _ hM9).trans rfl;have hz9:=hB9.size;have HB9:=yc hB9;have HO9:=yc (hO9.alloc (.cells #[.int .i64 xk,.int .i64 xn,.string xs,.slice xpl xnl xcl,.slice xpm xnm xcm] 25));have HR1:Hid (Rd (W9.alloc (.cells #[.int .i64 xk,.int .i64 xn,.string xs,.slice xpl xnl xcl,.slice xpm xnm xcm] 25)) (W9.heap.size+1) zbc 5 (.slice (some ⟨W9.heap.size,0,none⟩) 1 1) [⟨xk,xn,xs,xpl,xnl,xcl,xpm,xnm,xcm⟩]):=Rd.one zb8 (za rfl) rfl (by omega)
    clear hW9 hg9 hM9 hB9 hO9
    go_wp2_with (at_builtin;refine zk slV zb8 (W9.alloc (.cells #[.int .i64 xk,.int .i64 xn,.string xs,.slice xpl xnl xcl,.slice xpm xnm xcm] 25)) rfl (.tmp 26) (.tmp 29) rfl (v:=u7) rfl rfl HO9.out HR1.out HLN.out.1 HLN.out.2 (by simp;omega) ?_;intro v8 w8 ho8 hg8 hat8)
    go_roundw
    case rel=>
     refine⟨j+1,by omega,by go_num,?_,Below.appended (HB9.out.alloc hz9 _) hg8 HO9.out (by simp;omega)⟩
     rw[HTK.out];exact ho8
    case measure=>simp[intOf];omega
   ·obtain rfl:j=rnm:=by omega
    have ho:=HO.out;have hta:(rms.map (·.v)).take j=rms.map (·.v):=yq (by rw[yy,hrl];exact yd _)
    rw[hta]at ho;have HY:=yc (And.intro (ho.mono hz2) (HX.out.trans (HBR.out.mono hz2)));clear ho hta
    go_wp2_with fail
    go_ret;exact⟨_,_,rfl,HY.out.1,HRL.out,fun i x q a b=>(HTL.out i x q a b).under (HBR.out.mono hBw2) (yd _),HY.out.2⟩
 ·have q1:(rk==6)=false:=by simpa using hk6
  have HR:Hid (R=[]):=by unfold Hid;rw[HEO.out,<-hkk,if_neg hk6]
  clear hkk
  go_wp2_with fail
  rw[HR.out];go_ret;exact⟨_,[],rfl,Own.nil _ _ _,rfl,fun i x q a _=>by simp at a,HX.out⟩
theorem zem(t:JV)(r:RV)(nm:ByteArray)(fs:List ByteArray)(pf:Option Addr)(nf cf:Nat)(w:World)(B:Nat)(hBw:B<=w.heap.size)(ht:TreeOf w B t r)(ot:t.Ok)(hct:zf t<=100000)(hf:Rd w w.heap.size zg 1 (.slice pf nf cf) fs)(hfn:fs.length<=3):
 Calls ye 65 #[r.val,.string nm,.slice pf nf cf] w (zD w 9 zg 1 (zO t nm fs)):=by
 obtain⟨W0,hW0⟩:∃W0,w.alloc r.obj=W0:=⟨_,rfl⟩;have hA0:VAt W0 w.heap.size r:=by rw[<-hW0];exact za rfl
 have hB0:Below w.heap.size w W0:=by rw[<-hW0];exact(yh _ _).alloc (yd _) _
 have HC:Hid (Calls ye 66 #[r.val,.string nm] W0 (zjz W0 B (zY t nm))):=zhc t r nm W0 B (yg hBw hB0.size) (ht.under (hB0.mono hBw) (yd _)) ot;have hnj:=zdi t nm fs;have HEK:=yc (zfH (name:=nm) ot);have hfl:fs.length=nf:=(zi hf).symm;unfold zO at hnj⊢;obtain⟨es,hes⟩:∃es,zY t nm=es:=⟨_,rfl⟩;rw[hes]at HC HEK hnj;rw[hes];have hnb:(es.flatMap (fun x=>fs.flatMap (zj x))).length<=300000:=yg hnj (Nat.mul_le_mul hfn hct)
 have HNB:=yc hnb;obtain⟨k,n,s,pl,nl,cl,pm,nm',cm⟩:=r;dsimp only[RV.val,RV.obj]at*;have HW:=yc hW0;have HB0:=yc hB0;have HF:=yc hf;have hw0:=hB0.size;have HFL:=yc hfl;have hnf:nf<=3:=by omega
 clear hW0 hB0 ht ot hes hnj hnb hf hfn hfl hct
 go_enter Tryz.func65,Tryz.ntmps65
 go_upto_region 1 with fail
 rw[HW.out];clear HW;obtain⟨a0,a1,a2,a3,a4⟩:=hA0.cells5
 go_wp2_with (go_at_call 66;refine HC.out.mono ?_;rintro e w1 ⟨v9,rs,rfl,ho,hlen,htl,hb1⟩;obtain⟨p9,n9,c9,rfl⟩:∃p n c,v9=Value.slice p n c:=by(obtain⟨p,c,h,_,_⟩:=ho.len;exact⟨p,_,c,h⟩))
 have hr:Rd w1 w1.heap.size zbc 5 (.slice p9 n9 c9) rs:=ho.rd zb8;have hrl:rs.length=n9:=(zi hr).symm;have HN:Hid (es.length=n9):=by unfold Hid;omega
 have hno:n9<=1466015503658:=by have:=HEK.out.1;have:=HN.out;omega
 have HTL:=yc htl;have HRD:=yc hr;have hbw1:=HB0.out.trans (hb1.mono hw0);have HBW:=yc hbw1;have hw1:=hbw1.size;have hBw1:B<=w1.heap.size:=yg hBw hw1;have HF1:Hid (Rd w1 w1.heap.size zg 1 (.slice pf nf cf) fs):=HF.out.below hbw1 hw1;clear hr htl hb1 hbw1 hlen ho a0 a1 a2 a3 a4 hA0 HC HB0 HF
 go_loopw [7,16] (fun u i wr=>∃j:Nat,j<=n9/\i= .int .i64 (j:Int)/\Hid (Own wr w1.heap.size 9 zg 1 u ((es.take j).flatMap (fun x=>fs.flatMap (zj x)))/\Below w1.heap.size w1 wr)) (fun _ i _=>n9-(intOf i).toNat)
 case atStart=>exact⟨0,by omega,rfl,by rw[yM];exact Own.nil _ _ _,yh _ _⟩
 case round=>
  obtain⟨j,hj,rfl,hH⟩:=hrel;have HO:=yc hH.out.1;have HBR:=yc hH.out.2;clear hH;have hj0:(0:Int)<=(j:Int):=yj _;by_cases hlt:j<n9
  ·obtain⟨y,hy⟩:∃y,es[j]? =some y:=⟨_,yf (by have:=HN.out;omega)⟩
   obtain⟨⟨xk,xn,xs,xpl,xnl,xcl,xpm,xnm,xcm⟩,hx⟩:∃x,rs[j]? =some x:=⟨_,yf (by omega)⟩
   have HYO:=yc (HEK.out.2 j y hy);have HPS:=yc (zbk (f:=fun x=>fs.flatMap (zj x)) hy)
   have HPM:=yc (zbH (f:=fun x=>fs.flatMap (zj x)) hy)
   try dsimp only at HPS HPM
   have HTA:Hid (∀W,Below w1.heap.size w1 W->TreeOf W B y ⟨xk,xn,xs,xpl,xnl,xcl,xpm,xnm,xcm⟩):=fun W hW=>(HTL.out j y _ hy hx).under (hW.mono hBw1) (yd _)
   obtain⟨L0,hL0⟩:∃L,(es.take j).flatMap (fun x=>fs.flatMap (zj x))=L:=⟨_,rfl⟩
   rw[hL0]at HO HPS HPM;obtain⟨b1,o1,rfl,hb1,hc1⟩:=zq (HRD.out.below HBR.out HBR.out.size) hx;have f0:=hc1 0 _ rfl;have f1:=hc1 1 _ rfl;have f2:=hc1 2 _ rfl;have f3:=hc1 3 _ rfl;have f4:=hc1 4 _ rfl;rw[yw]at f0;dsimp only at f0 f1 f2 f3 f4;have hj1:(j:Int)<(n9:Int):=by omega
   have hbz:=HBR.out.size;clear hx hy hc1 hL0
   go_upto_region 5 with fail
   have hB9:Below w1.heap.size w1 (wr.alloc (.cells #[.int .i64 xk,.int .i64 xn,.string xs,.slice xpl xnl xcl,.slice xpm xnm xcm] 25)):=HBR.out.alloc hbz _;have hO9:=HO.out.alloc (.cells #[.int .i64 xk,.int .i64 xn,.string xs,.slice xpl xnl xcl,.slice xpm xnm xcm] 25);have hV9:VAt (wr.alloc (.cells #[.int .i64 xk,.int .i64 xn,.string xs,.slice xpl xnl xcl,.slice xpm xnm xcm] 25)) wr.heap.size ⟨xk,xn,xs,xpl,xnl,xcl,xpm,xnm,xcm⟩:=za rfl;have hN9:u7.ownBlock≠some wr.heap.size:=fun e=>by have:=(HO.out.lt _ e).2;omega
   obtain⟨g9,hg9⟩:∃g,wr.heap.size=g:=⟨_,rfl⟩;obtain⟨W9,hW9⟩:∃W,wr.alloc (.cells #[.int .i64 xk,.int .i64 xn,.string xs,.slice xpl xnl xcl,.slice xpm xnm xcm] 25)=W:=⟨_,rfl⟩;rw[hW9]at hB9 hO9 hV9;rw[hg9]at hV9 hN9
   try rw[hW9]
   try rw[hg9]
   have HS9:Hid (Own W9 w1.heap.size 9 zg 1 u7 (L0++(fs.take 0).flatMap (zj y))/\VAt W9 g9 ⟨xk,xn,xs,xpl,xnl,xcl,xpm,xnm,xcm⟩/\u7.ownBlock≠some g9/\Below w1.heap.size w1 W9):=⟨by rw[yM,List.flatMap_nil,yau];exact hO9,hV9,hN9,hB9⟩
   clear hW9 hg9 hB9 hO9 hV9 hN9 f0 f1 f2 f3 f4 HO HBR
   go_wp2_with fail
   go_loopw [7,22] (fun u i wr=>∃q:Nat,q<=nf/\i= .int .i64 (q:Int)/\Hid (Own wr w1.heap.size 9 zg 1 u (L0++(fs.take q).flatMap (zj y))/\VAt wr g9 ⟨xk,xn,xs,xpl,xnl,xcl,xpm,xnm,xcm⟩/\u.ownBlock≠some g9/\Below w1.heap.size w1 wr)) (fun _ i _=>nf-(intOf i).toNat)
   case atStart=>exact⟨0,by omega,rfl,HS9.out⟩
   case round=>
    obtain⟨q,hq,rfl,hI⟩:=hrel;have hq0:(0:Int)<=(q:Int):=yj _;by_cases hlq:q<nf
    ·obtain⟨f,hf⟩:∃f,fs[q]? =some f:=⟨_,yf (by have:=HFL.out;omega)⟩
     obtain⟨b2,o2,rfl,hb2,hc2⟩:=zq (HF1.out.below hI.out.2.2.2 hI.out.2.2.2.size) hf;have f0:=hc2 0 _ rfl;rw[yw,ya4]at f0;have hq1:(q:Int)<(nf:Int):=by omega
     have HQS:=yc (zbk (f:=zj y) hf);have hqm:=zbH (f:=zj y) hf;obtain⟨L1,hL1⟩:∃L,(fs.take q).flatMap (zj y)=L:=⟨_,rfl⟩;have HO1:=yc hI.out.1;have HV1:=yc hI.out.2.1;have HNE:=yc hI.out.2.2.1;have HB1:=yc hI.out.2.2.2;rw[hL1]at HO1 HQS hqm;have hv1:=HV1.out;obtain⟨e0,e1,e2,e3,e4⟩:=hv1.cells5;dsimp only at e0 e1 e2 e3 e4;have hg1:=hv1.lt;have hz1:=HB1.out.size;have HTX:=yc (zcR y ⟨xk,xn,xs,xpl,xnl,xcl,xpm,xnm,xcm⟩ f wr B (yg hBw1 hz1) (HTA.out wr HB1.out) HYO.out);dsimp only[RV.val]at HTX;obtain⟨LF,hLF⟩:∃L,zj y f=L:=⟨_,rfl⟩;rw[hLF]at HTX HQS hqm
     have HLN:Hid ((L0++L1).length+LF.length<=maxLen/\((L0++L1).length+LF.length)*16<=140737488355328):=by
      have h1:=HPM.out;have h2:=HNB.out;rw[yp];exact⟨by unfold maxLen;omega,by omega⟩
     clear hf hc2 hI hL1 hLF hqm hv1
     go_wp2_with (first
      |(go_at_call 67;(with_reducible refine HTX.out.mono ?_);rintro e w2 ⟨u2,rfl,ho2,hb2⟩;(have ho3:=HO1.out.below hb2 (yd _));(have hz2:w1.heap.size<=w2.heap.size:=yg hz1 hb2.size))
      |(at_builtin;refine zk slS zn w2 rfl (.tmp 26) (.tmp 29) rfl (v:=u7) rfl rfl ho3 (ho2.rd zn) HLN.out.1 HLN.out.2 hz2 ?_;intro v8 w8 ho8 hg8 hat8)
      |fail)
     have hv2:VAt w2 g9 ⟨xk,xn,xs,xpl,xnl,xcl,xpm,xnm,xcm⟩:=HV1.out.under hb2 hg1;have hv8:VAt w8 g9 ⟨xk,xn,xs,xpl,xnl,xcl,xpm,xnm,xcm⟩:=(hg8.block g9 hv2.lt (fun e=>HNE.out e.symm)).trans hv2
     have hne8:v8.ownBlock≠some g9:=fun e=>by
      rcases hat8 with h|h
      ·exact HNE.out (h.symm.trans e)
      ·rw[e]at h;have:=Option.some.inj h;have:=hv2.lt;omega
     have HS8:Hid (Own w8 w1.heap.size 9 zg 1 v8 (L0++(fs.take (q+1)).flatMap (zj y))/\VAt w8 g9 ⟨xk,xn,xs,xpl,xnl,xcl,xpm,xnm,xcm⟩/\v8.ownBlock≠some g9/\Below w1.heap.size w1 w8):=⟨by rw[HQS.out,<-List.append_assoc];exact ho8,hv8,hne8,Below.appended (HB1.out.trans (hb2.mono hz1)) hg8 ho3 hz2⟩
     clear ho8 hg8 hat8 hv2 hv8 hne8 ho2 ho3 hb2
     go_roundw
     case rel=>exact⟨q+1,by omega,by go_num,HS8.out⟩
     case measure=>simp[intOf];omega
    ·obtain rfl:q=nf:=by omega
     have ho:=hI.out.1;rw[yq (by have:=HFL.out;omega)]at ho
     have HSX:Hid (Own wr w1.heap.size 9 zg 1 u7 ((es.take (j+1)).flatMap (fun x=>fs.flatMap (zj x)))/\Below w1.heap.size w1 wr):=⟨by rw[HPS.out];exact ho,hI.out.2.2.2⟩
     clear ho hI HS9
     go_wp2_with fail
     go_roundw
     case rel=>exact⟨j+1,by omega,by go_num,HSX.out⟩
     case measure=>simp[intOf];omega
  ·obtain rfl:j=n9:=by omega
   have ho:=HO.out;have hta:es.take j=es:=yq (by have:=HN.out;omega)
   rw[hta]at ho;have HX:=yc (And.intro (ho.mono hw1) (HBW.out.trans (HBR.out.mono hw1)));clear ho hta
   go_wp2_with fail
   go_ret;exact⟨_,rfl,HX.out.1,HX.out.2⟩
theorem zjh(t:JV)(r:RV)(w:World)(B:Nat)(hBw:B<=w.heap.size)(ht:TreeOf w B t r)(ot:t.Ok)(hct:zf t<=100000):
 Calls ye 63 #[r.val] w (zD w 9 zg 1 (zbn t)):=by
 obtain⟨W0,hW0⟩:∃W0,w.alloc r.obj=W0:=⟨_,rfl⟩;have hA0:VAt W0 w.heap.size r:=by rw[<-hW0];exact za rfl
 have hB0:Below w.heap.size w W0:=by rw[<-hW0];exact(yh _ _).alloc (yd _) _
 have hw0:=hB0.size;have hBw0:B<=W0.heap.size:=yg hBw hw0;have hTr:∀W,Below W0.heap.size W0 W->TreeOf W B t r:=fun W hW=>(ht.under (hB0.mono hBw) (yd _)).under (hW.mono hBw0) (yd _)
 have HT:Hid (∀W,Below W0.heap.size W0 W->Calls ye 67 #[r.val,.string zep] W (fun e w'=>∃u,e= .returned u/\Own w' W0.heap.size 9 zg 1 u (zj t zep)/\Below W.heap.size W w')):=fun W hW=>(zcR t r zep W B (yg hBw0 hW.size) (hTr W hW) ot).mono fun e w' h=>by
  obtain⟨u,h1,h2,h3⟩:=h;exact⟨u,h1,h2.mono hW.size,h3⟩
 have HP:Hid (∀W,Below W0.heap.size W0 W->Calls ye 64 #[r.val,.string ⟨#[]⟩] W (fun e w'=>∃u,e= .returned u/\Own w' W0.heap.size 9 zg 1 u (zbP t ⟨#[]⟩)/\Below W.heap.size W w')):=fun W hW=>(zi2 t r ⟨#[]⟩ W B (yg hBw0 hW.size) (hTr W hW) ot (by decide)).mono fun e w' h=>by
  obtain⟨u,h1,h2,h3⟩:=h;exact⟨u,h1,h2.mono hW.size,h3⟩
 have hl1:=zb4 t zep;have hl2:=zeP t ⟨#[]⟩;unfold zbn;obtain⟨LT,hLT⟩:∃L,zj t zep=L:=⟨_,rfl⟩;obtain⟨LP,hLP⟩:∃L,zbP t ⟨#[]⟩=L:=⟨_,rfl⟩;rw[hLT]at HT hl1;rw[hLP]at HP hl2;rw[hLT,hLP];have HLN:Hid (LT.length+LP.length<=maxLen/\(LT.length+LP.length)*16<=140737488355328):=⟨by unfold maxLen;omega,by omega⟩
 unfold zep at HT;obtain⟨k,n,s,pl,nl,cl,pm,nm,cm⟩:=r;dsimp only[RV.val,RV.obj]at*;have HW:=yc hW0;have HB0:=yc hB0;have hb00:Below W0.heap.size W0 W0.drew:=(yh _ _).drew;clear hW0 hB0 ht ot hLT hLP hl1 hl2 hct hTr
 go_enter Tryz.func63,Tryz.ntmps63
 go_upto_region 1 with fail
 rw[HW.out];clear HW;obtain⟨a0,a1,a2,a3,a4⟩:=hA0.cells5;have hz0:=hA0.lt
 go_region_law
  (first
   | (go_simp; go_at_call 67
      (with_reducible refine(HT.out _ (by first|exact hbP|exact hb00)).mono ?_)
      rintro e wT ⟨uT,rfl,hoT,hbT'⟩;have hbT:Below W0.heap.size W0 wT:=(by first|exact hbP.trans (hbT'.mono hbP.size)|exact hb00.trans hbT')
      have d0:=zc hbT hz0 a0;have d1:=zc hbT hz0 a1;have d2:=zc hbT hz0 a2;have d3:=zc hbT hz0 a3;have d4:=zc hbT hz0 a4)
   | (go_simp; go_at_call 64
      (with_reducible refine(HP.out _ (by first|exact hbT|exact hb00)).mono ?_)
      rintro e wP ⟨uP,rfl,hoP,hbP'⟩;have hbP:Below W0.heap.size W0 wP:=(by first|exact hbT.trans (hbP'.mono hbT.size)|exact hb00.trans hbP')
      have e0:=zc hbP hz0 a0;have e1:=zc hbP hz0 a1;have e2:=zc hbP hz0 a2;have e3:=zc hbP hz0 a3;have e4:=zc hbP hz0 a4)
   | (have hoX := hoT.below hbP' (yd _)
      refine zea slS zn wP (by rfl) (.tmp 4) (.tmp 6) (by rfl) (v:=uT) (by rfl) (by rfl) hoX (hoP.rd zn) HLN.out.1 HLN.out.2 hbP.size ?_
      intro v8 w8 ho8 hg8 hat8;have hb8:=Below.appended hbP hg8 hoX hbP.size)
   | (have hrX := (hoP.rd zn).below hbT' (yd _)
      refine zea slS zn wT (by rfl) (.tmp 4) (.tmp 6) (by rfl) (v:=uT) (by rfl) (by rfl) hoT hrX HLN.out.1 HLN.out.2 hbT.size ?_
      intro v8 w8 ho8 hg8 hat8;have hb8:=Below.appended hbT hg8 hoT hbT.size)
   |fail)
 all_goals
  go_wp2_with fail
  go_ret;exact⟨v8,rfl,ho8.mono hw0,HB0.out.trans (hb8.mono hw0)⟩
end
section
def propN:ByteArray:=⟨#[112,114,111,112,101,114,116,121]⟩
def zd1:ByteArray:=⟨#[105,115,65,115,99,101,110,100,105,110,103]⟩
def zc8:ByteArray:=⟨#[99,111,108,108,97,116,105,111,110]⟩
def zgi:ByteArray:=⟨#[105,59,97,115,99,105,105,45,99,97,115,101,109,97,112]⟩
def zc6(p:ByteArray×JV):Bool:=(decide (p.1=propN)&&decide (p.2.k=4))||((decide (p.1=zd1)&&decide (p.2.k=2))||(decide (p.1=zc8)&&decide (p.2.k=4)))
def zdc(s:ByteArray):Bool:=decide (s=createdN)||(decide (s=zG)||(decide (s=zbg)||(decide (s=zcj)||decide (s=zbO))))
def mOf(m:List (ByteArray×JV))(n:ByteArray):Option JV:=(m.find? (fun p=>decide (p.1=n))).map (·.2)
def inS(l:List ByteArray)(x:ByteArray):Bool:=l.any (fun y=>decide (y=x))
theorem inS_iff{l:List ByteArray}{x:ByteArray}:inS l x=true↔x∈l:=by
 unfold inS;rw[List.any_eq_true];exact⟨fun⟨y,h,e⟩=>(of_decide_eq_true e)▸h,fun h=>⟨x,h,by simp⟩⟩
theorem inS_no{l:List ByteArray}{x:ByteArray}:inS l x=false↔x∉l:=by
 rw[<-inS_iff];simp
def zbi:List (ByteArray×JV)->List ByteArray->Bool
 |[],_=>false
 |p::m,seen=>(!zc6 p||inS seen p.1)||zbi m (p.1::seen)
def zb0(v:JV):Int:=
 if v.k≠6 then 1 else if zbi v.m []then 1 else match mOf v.m propN with
  |none=>1
  |some p=>if(match mOf v.m zc8 with|some c=>decide (c.s≠zgi)|none=>false)|| !zdc p.s then 210 else 0
def zc7(v:JV):CmpD:=⟨match mOf v.m propN with|some p=>p.s|none=>⟨#[]⟩,match mOf v.m zd1 with|some p=>decide (p.n=0)|none=>false⟩
def zdN:List JV->Int
 |[]=>0
 |v::l=>if zb0 v≠0 then zb0 v else zdN l
def zcN(s:JV):Int:=if s.k=1 then 0 else if s.k≠5 then 1 else if 4<s.l.length then 210 else zdN s.l
def zbB(s:JV):List CmpD:=if s.k=5/\zcN s=0 then s.l.map zc7 else[]
theorem zgn:∀(m:List (ByteArray×JV)) (seen:List ByteArray),zbi m seen=false↔(∀p∈m,zc6 p=true)/\(m.map (·.1)).Nodup/\∀p∈m,p.1∉seen
 |[],seen=>by simp[zbi]
 | p :: m, seen => by
   have ih:=zgn m (p.1::seen);unfold zbi;rw[Bool.or_eq_false_iff,Bool.or_eq_false_iff,ih];simp only[Bool.not_eq_false',inS_no,yA,yaF,List.nodup_cons,y8,forall_eq_or_imp,not_or]
   constructor
   ·rintro⟨⟨h1,h2⟩,h3,h4,h5⟩;exact⟨⟨h1,h3⟩,⟨fun⟨q,hq,e⟩=>(h5 q hq).1 e,h4⟩,h2,fun q hq=>(h5 q hq).2⟩
   ·rintro⟨⟨h1,h3⟩,⟨h4,h5⟩,h2,h6⟩;exact⟨⟨h1,h2⟩,h3,h5,fun q hq=>⟨fun e=>h4 ⟨q,hq,e⟩,h6 q hq⟩⟩
theorem zke(m:List (ByteArray×JV))(p:ByteArray×JV)(n:ByteArray):mOf (m++[p]) n=(mOf m n).or (if p.1=n then some p.2 else none):=by
 unfold mOf;rw[List.find?_append];cases h:m.find? (fun p=>decide (p.1=n))with
 |some x=>simp
 | none =>
   by_cases hp:p.1=n
   ·simp[hp]
   ·simp[hp]
theorem zj8(l:List ByteArray)(y x:ByteArray):inS (y::l) x=(decide (y=x)||inS l x):=rfl
theorem zf5:∀(m:List (ByteArray×JV)) (p:ByteArray×JV) (seen:List ByteArray),zbi (m++[p]) seen=(zbi m seen||(!zc6 p||(inS seen p.1||inS (m.map (·.1)) p.1)))
 |[],p,seen=>by simp[zbi,inS]
 | q :: m, p, seen => by
   rw[List.cons_append,zbi,zf5 m p (q.1::seen),zbi,Bool.or_assoc,yaF,zj8,zj8];cases zc6 q<;>cases inS seen q.1<;>cases zbi m (q.1::seen)<;>cases zc6 p<;>cases inS seen p.1<;>cases decide (q.1=p.1)<;>cases inS (m.map (·.1)) p.1<;>rfl
end
section
open Go.RowKit Go.OpenShut
theorem ziY:∀a b:List UInt8,Op.bytesLess a b=decide (yZ a b<0)
 |[],[]=>by simp[Op.bytesLess,yZ]
 |[],_::_=>by simp[Op.bytesLess,yZ]
 |_::_,[]=>by simp[Op.bytesLess,yZ]
 | x :: a, y :: b => by
   have ih:=ziY a b;unfold Op.bytesLess yZ;by_cases h1:x<y
   ·simp[h1]
   ·by_cases h2:y<x
    ·have:x≠y:=fun e=>by subst e;exact h1 h2
     simp[h1,h2,this]
    ·have:x=y:=by
      rw[UInt8.lt_iff_toNat_lt]at h1 h2;exact UInt8.toNat_inj.1 (by omega)
     subst this;simp[h1,ih]
theorem zkc(a b:ByteArray):Op.bytesLess a.toList b.toList=decide (zA a b<0):=by
 rw[ByteArray.toList_eq,ByteArray.toList_eq];exact ziY _ _
def RisingTo(os:List (ByteArray×JV))(k:Nat):Prop:=∀(i:Nat) p q,i+1<k->os[i]? =some p->os[i+1]? =some q->zA p.1 q.1<0
theorem RisingTo.all{os:List (ByteArray×JV)}(h:RisingTo os os.length):Rising os:=by
 intro i j p q hij hi hj
 induction j generalizing q with
 |zero=>omega
 | succ j ih =>
   have hl:=(yi.1 hj).1;by_cases e:i=j
   ·subst e;exact h i p q hl hi hj
   ·obtain⟨m,hm⟩:∃m,os[j]? =some m:=⟨_,yf (by omega)⟩
    exact zf2 (ih m (by omega) hm) (by have:=h j m q hl hm hj;have:=zda m.1 q.1;omega)
theorem Rising.no{os:List (ByteArray×JV)}{i:Nat}{p q:ByteArray×JV}(hp:os[i]? =some p)(hq:os[i+1]? =some q)(h:¬zA p.1 q.1<0):¬Rising os:=fun hr=>h (hr i (i+1) p q (by omega) hp hq)
def OpAt(W:World)(g:Nat)(r:RO):Prop:=W.heap[g]? =some (.cells #[.int .i64 r.k,.string r.id,.int .i64 r.v.k,.int .i64 r.v.n,.string r.v.s,.slice r.v.pl r.v.nl r.v.cl,.slice r.v.pm r.v.nm r.v.cm] 78 (0,0))
theorem OpAt.cell{W:World}{g:Nat}{r:RO}(h:OpAt W g r)(j:Nat){u:Value}(hu:(zeU r)[j]? =some u):W.cell? ⟨g,j,none⟩=some u:=by
 unfold OpAt at h;rw[cell_of_row W g j _ _ _ h,<-Array.getElem?_toList];exact hu
theorem OpAt.lt{W:World}{g:Nat}{r:RO}(h:OpAt W g r):g<W.heap.size:=(Array.getElem?_eq_some_iff.1 h).1
structure PreS(w W:World)(r:RB)(o:RO):Prop where
 box:BoxAt W w.heap.size r
 op:OpAt W (w.heap.size+1) o
 below:Below w.heap.size w W
theorem PreS.go{w W W':World}{r:RB}{o:RO}(h:PreS w W r o)(hb:Below W.heap.size W W'):PreS w W' r o:=⟨h.box.under hb h.box.lt,(hb.block _ h.op.lt).trans h.op,h.below.trans (hb.mono h.below.size)⟩
theorem PreS.row{w W W':World}{r:RB}{o:RO}{row:Option Nat}(h:PreS w W r o)(hg:W.grownBy W' row)(hr:∀k,row=some k->w.heap.size+1<k):PreS w W' r o:=by
 have hz:=h.op.lt;have hb:∀k,k<=w.heap.size+1->W'.heap[k]? =W.heap[k]? :=fun k hk=>hg.block k (by omega) (fun e=>by have:=hr k e.symm;omega)
 exact⟨(hb _ (by omega)).trans h.box,(hb _ (yd _)).trans h.op,h.below.grown hg h.below.size (fun a e=>by have:=hr a e;omega)⟩
theorem PreS.start(w:World)(r:RB)(o:RO):PreS w ((w.alloc r.obj).alloc o.obj) r o:=⟨zb (by simp) (za rfl),za (by simp),zM _ _ _⟩
end
end Go.Proofs.YtemofofnkchmeaaGreatDoor
