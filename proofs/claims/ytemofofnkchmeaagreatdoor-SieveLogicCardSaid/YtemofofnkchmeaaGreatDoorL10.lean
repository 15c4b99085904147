import Derived.Test.YtemofofnkchmeaaGreatDoorL07
import Derived.Test.YtemofofnkchmeaaGreatDoorL01
import Derived.Test.YtemofofnkchmeaaGreatDoorL00
import Derived.Shelf.SlSortCmp.KitK
import Derived.Sort.OwnSorted
import Derived.Test.YtemofofnkchmeaaGreatDoorL04
import Derived.Lib.Strings
import Derived.Lib.Bytealg
import Derived.Test.YtemofofnkchmeaaGreatDoorL02
set_option linter.unusedSimpArgs false
set_option linter.unusedVariables false
set_option maxRecDepth 200000
set_option maxHeartbeats 8000000
namespace Go.Proofs.YtemofofnkchmeaaGreatDoor
open _root_.Array renaming getElem?_modify->yC,getElem?_toList->yK
open _root_.Go.Lib renaming hid->yc
open _root_.List renaming Perm->yaV,drop_drop->yaO,filter_append->yax,getD_eq_getElem?_getD->yJ,getElem?_eq_getElem->yf,getElem?_eq_none->ya1,getElem?_eq_some_iff->yi,getElem?_of_mem->yQ,length_set->yaj,length_take->yz,mem_cons->yA,mem_cons_of_mem->yap,mem_singleton->yai,takeWhile_cons->yaX,take_add_one->yD,take_set_of_le->ybm
open _root_.Nat renaming add_zero->yw,le_refl->yd,mul_le_mul_right->yaq,zero_le->yu
open _root_.Go.Proofs.Tryz renaming prog->ye
section
section
variable {α:Type} (lt:α->α->Bool)
structure LtOk:Prop where
 asym:∀a b,lt a b=true->lt b a=false
 ntrans:∀a b c,lt b a=false->lt c b=false->lt c a=false
def z7(c p:Nat):Prop:=c=2*p+1\/c=2*p+2
def HeapF(f:Nat->α)(n k:Nat):Prop:=∀p c,k<=p->z7 c p->c<n->lt (f c) (f p)=false
structure HeapEx(f:Nat->α)(n k i:Nat):Prop where
 rest:∀p c,k<=p->p≠i->z7 c p->c<n->lt (f c) (f p)=false
 over:∀p c,k<=p->z7 i p->z7 c i->c<n->lt (f c) (f p)=false
 ge:k<=i
def zgS(f:Nat->α)(i j:Nat):Nat->α:=fun k=>if k=i then f j else if k=j then f i else f k
variable {lt}
theorem HeapEx.start{f:Nat->α}{n k:Nat}(h:HeapF lt f n (k+1)):HeapEx lt f n k k:=
 ⟨fun p c hp hn hc hl=>h p c (by omega) hc hl,fun p c hp hi hc hl=>by unfold z7 at hi;omega,yd _⟩
theorem HeapEx.leaf{f:Nat->α}{n k i:Nat}(h:HeapEx lt f n k i)(hi:n<=2*i+1):HeapF lt f n k:=fun p c hp hc hl=>by
 by_cases e:p=i
 ·subst e;unfold z7 at hc;omega
 ·exact h.rest p c hp e hc hl
def zd0(lt:α->α->Bool)(f:Nat->α)(n i j:Nat):Prop:=z7 j i/\j<n/\∀c,z7 c i->c<n->lt (f c) (f j)=false
theorem HeapEx.stop{f:Nat->α}{n k i j:Nat}(L:LtOk lt)(h:HeapEx lt f n k i)(hj:zd0 lt f n i j)(hl:lt (f j) (f i)=false):HeapF lt f n k:=fun p c hp hc hn=>by
 by_cases e:p=i
 ·subst e;exact L.ntrans _ _ _ hl (hj.2.2 c hc hn)
 ·exact h.rest p c hp e hc hn
theorem HeapEx.swap{f:Nat->α}{n k i j:Nat}(L:LtOk lt)(h:HeapEx lt f n k i)(hj:zd0 lt f n i j)(hl:lt (f j) (f i)=true):HeapEx lt (zgS f i j) n k j:=by
 obtain⟨hji,hjn,hmin⟩:=hj;have hij:i<j:=by unfold z7 at hji;omega
 have hk:=h.ge;refine⟨fun p c hp hn hc hcl=> ?_,fun p c hp hi hc hcl=> ?_,by omega⟩
 ·unfold zgS;by_cases e:p=i
  ·subst e;by_cases e2:c=j
   ·subst e2;rw[if_neg (by omega),if_pos rfl,if_pos rfl]
    exact L.asym _ _ hl
   ·rw[if_neg (by unfold z7 at hc;omega),if_neg e2,if_pos rfl]
    exact hmin c hc hcl
  ·rw[if_neg (show¬p=i from e),if_neg hn]
   by_cases e2:c=i
   ·subst e2;rw[if_pos rfl];exact h.over p j hp hc hji hjn
   ·by_cases e3:c=j
    ·subst e3;exact absurd (by unfold z7 at hc hji;omega) e
    ·rw[if_neg e2,if_neg e3];exact h.rest p c hp e hc hcl
 ·have hpi:p=i:=by unfold z7 at hi hji;omega
  subst hpi;unfold zgS;rw[if_neg (by unfold z7 at hc;omega),if_neg (by unfold z7 at hc;omega),if_pos rfl]
  exact h.rest j c (by omega) (by omega) hc hcl
theorem HeapF.min{f:Nat->α}{n:Nat}(L:LtOk lt)(h:HeapF lt f n 0):∀i,i<n->lt (f i) (f 0)=false:=by
 intro i
 induction i using Nat.strongRecOn with
 | ind i ih =>
   intro hi;by_cases h0:i=0
   ·subst h0;cases hl:lt (f 0) (f 0)with
    |false=>rfl
    |true=>have:=L.asym _ _ hl;rw[hl]at this;cases this
   ·have hp:z7 i ((i-1)/2):=by unfold z7;omega
    exact L.ntrans _ _ _ (ih ((i-1)/2) (by omega) (by omega)) (h _ i (yu _) hp hi)
theorem HeapF.none{f:Nat->α}{n:Nat}:HeapF lt f n (n/2):=fun p c hp hc hn=>by unfold z7 at hc;omega
theorem HeapF.mono{f:Nat->α}{n k k':Nat}(h:HeapF lt f n k)(hk:k<=k'):HeapF lt f n k':=fun p c hp hc hn=>h p c (by omega) hc hn
theorem HeapF.congr{f g:Nat->α}{n n' k:Nat}(h:HeapF lt f n k)(he:∀i,i<n'->f i=g i)(hn:n'<=n):HeapF lt g n' k:=fun p c hp hc hl=>by
 rw[<-he c hl,<-he p (by unfold z7 at hc;omega)]
 exact h p c hp hc (by omega)
def zig(xs:List α)(i j:Nat)(hi:i<xs.length)(hj:j<xs.length):List α:=(xs.set i xs[j]).set j xs[i]
theorem zop{xs:List α}{i j:Nat}{hi:i<xs.length}{hj:j<xs.length}(hne:i≠j)(d:α):(fun k=>(zig xs i j hi hj).getD k d)=zgS (fun k=>xs.getD k d) i j:=by
 funext k
 unfold zig zgS;simp only[yJ,List.getElem?_set,yaj];by_cases h1:k=i
 ·subst h1;rw[if_neg (fun e=>hne e.symm),if_pos rfl,if_pos hi,if_pos rfl,yf hj]
 ·rw[if_neg (c:=k=i) h1];by_cases h2:k=j
  ·subst h2;rw[if_pos rfl,if_pos hj,if_pos rfl,yf hi]
  ·rw[if_neg (fun e=>h2 e.symm),if_neg (fun e=>h1 e.symm),if_neg h2]
theorem zih{xs:List α}{i j:Nat}{hi:i<xs.length}{hj:j<xs.length}:(zig xs i j hi hj).Perm xs:=List.set_set_perm hi hj
structure PopI(lt:α->α->Bool)(d:α)(l out xs:List α):Prop where
 perm:(out++xs).Perm l
 heap:HeapF lt (fun k=>xs.getD k d) xs.length 0
 sorted:out.Pairwise (fun a b=>lt b a=false)
 low:∀a∈out,∀b∈xs,lt b a=false
theorem PopI.pop{d:α}{l out xs ys:List α}{x:α}(L:LtOk lt)(h:PopI lt d l out xs)(hx:xs[0]? =some x)(hp:(x::ys).Perm xs)(hh:HeapF lt (fun k=>ys.getD k d) ys.length 0):PopI lt d l (out++[x]) ys:=by
 have hxm:x∈xs:=List.mem_of_getElem? hx
 have hmin:∀b∈xs,lt b x=false:=fun b hb=>by
  obtain⟨i,hi⟩:=yQ hb;have h1:=h.heap.min L i (yi.1 hi).1;rw[yJ,yJ,hi,hx]at h1;exact h1
 refine⟨?_,hh,?_,?_⟩
 ·rw[List.append_assoc];exact((yaV.append_left out hp).trans h.perm)
 ·rw[List.pairwise_append];exact⟨h.sorted,by simp,fun a ha b hb=>by rw[yai.1 hb];exact h.low a ha x hxm⟩
 ·intro a ha b hb;have hbx:b∈xs:=hp.mem_iff.1 (yap _ hb)
  rcases List.mem_append.1 ha with ha|ha
  ·exact h.low a ha b hbx
  ·rw[yai.1 ha];exact hmin b hbx
theorem zgc:∀(a b:List α),(∀x∈a,∀y∈a,lt x y=false->lt y x=false->x=y)->a.Perm b->a.Pairwise (fun x y=>lt y x=false)->b.Pairwise (fun x y=>lt y x=false)->a=b
 |[],b,_,hp,_,_=>by rw[yaV.nil_eq hp]
 |x::a,[],_,hp,_,_=>by have:=hp.length_eq;simp at this
 | x :: a, y :: b, ht, hp, ha, hb => by
   rw[List.pairwise_cons]at ha hb
   have hxy:x=y:=by
    have hy:y∈x::a:=hp.mem_iff.2 (by simp)
    have hx:x∈y::b:=hp.mem_iff.1 (by simp)
    rcases yA.1 hy with h|h
    ·exact h.symm
    ·rcases yA.1 hx with h2|h2
     ·exact h2
     ·exact ht x (by simp) y hy (hb.1 x h2) (ha.1 y h)
   subst hxy;rw[zgc a b (fun p hp' q hq=>ht p (yap _ hp') q (yap _ hq)) (yaV.cons_inv hp) ha.2 hb.2]
end
end
section
open Go Go.Sort Go.RowKit Go.Proofs
variable {β:Type} [Inhabited β] {enc:β->List Value} {sz:Nat}
def zhd(enc:β->List Value)(p:β×Nat):List Value:=enc p.1
theorem zgZ(C:Codec enc sz)(d:Array (β×Nat)):flatK (zhd enc) sz d=(cellsOf enc (d.toList.map (·.1))).toArray:=by
 apply Array.ext
 ·simp[zm C]
 ·intro t h1 h2;simp only[size_flatK]at h1;have hd:t/sz<d.size:=(Nat.div_lt_iff_lt_mul C.pos).2 h1;have hm:t % sz<sz:=Nat.mod_lt _ C.pos;have e1:=get_flatK (zhd enc) sz d t h1;rw[getElem!_pos _ t (by simpa using h1)]at e1
  rw[e1,getElem!_pos d _ hd];have hx:(d.toList.map (·.1))[t/sz]? =some d[t/sz].1:=by simp[hd]
  have:=zdo C (d.toList.map (·.1)) _ _ hx (t % sz) hm
  rw[show t/sz*sz+t % sz=t by rw[Nat.mul_comm];exact Nat.div_add_mod t sz]at this
  unfold zhd;rw[getElem!_pos _ _ (by rw[C.len];exact hm)]
  simp only[List.getElem_toArray];rw[yf (by simpa[zm C]using h1),yf (by rw[C.len];exact hm)]at this
  exact(Option.some.inj this).symm
theorem zgo(C:Codec enc sz){w:World}{g:Nat}{cur:Array Value}{e:TypeId}{xs:List β}(hb:w.heap[g]? =some (.cells cur e (0,0)))(ht:cur.toList.take (xs.length*sz)=cellsOf enc xs):HoldsK (zhd enc) sz w g 0 xs.zipIdx.toArray:=by
 unfold HoldsK;rw[zgZ C];have hz:xs.zipIdx.toArray.toList.map (·.1)=xs:=by simp[List.zipIdx_map_fst]
 rw[hz];intro j hj;have hj':j<xs.length*sz:=by simpa[zm C]using hj
 refine⟨?_,by simp[World.frozen?,hb]⟩
 have h1:(cur.toList.take (xs.length*sz))[j]? =(cellsOf enc xs)[j]? :=by rw[ht]
 rw[List.getElem?_take_of_lt hj']at h1;simp only[World.cell?,hb,Nat.zero_add];simp only[Option.isSome_none,Bool.false_eq_true,if_false];rw[<-yK,h1,getElem!_pos _ j hj];simp at hj;simp[hj]
theorem zo7{w:World}{g n:Nat}{os:Array Obj}{cur:Array Value}{e:TypeId}{fr:Nat×Nat}(F:Array Value)(hb:w.heap[g]? =some (.cells cur e fr)):
 (grow (putRow id (Sort.ahead w n) g 0 F) os).heap[g]? =some (.cells (putCells id 0 F cur) e fr):=by
 have hg:g<w.heap.size:=(Array.getElem?_eq_some_iff.1 hb).1;rw[heap_grow_old _ _ (by simpa using hg)]
 simp[putRow,mapBlock,Sort.ahead,yC,hb,onCells]
theorem zkV{w:World}{g n:Nat}{os:Array Obj}(F:Array Value):w.grownBy (grow (putRow id (Sort.ahead w n) g 0 F) os) (some g):=by
 refine⟨rfl,rfl,rfl,by simp,fun k hk hne=> ?_⟩
 rw[heap_grow_old _ _ (by simpa using hk)]
 have:g≠k:=fun e=>hne (by rw[e])
 simp[putRow,mapBlock,Sort.ahead,yC,this]
theorem zp4(cur:Array Value)(l:List Value)(h:l.length<=cur.size):(putCells id 0 l.toArray cur).toList.take l.length=l:=by
 apply List.ext_getElem?;intro j;by_cases hj:j<l.length
 ·rw[List.getElem?_take_of_lt hj,yK];simp[putCells,hj,show j<cur.size by omega]
 ·rw[List.getElem?_take_eq_none (by omega),ya1 (by omega)]
theorem zhV(C:Codec enc sz){w w':World}{base g cap:Nat}{e:TypeId}{cur:Array Value}{xs:List β}{d':Array (β×Nat)}(hs:d'.size=xs.length)(hbase:base<=g)(hb:w.heap[g]? =some (.cells cur e (0,0)))(h1:xs.length<=cap)(h2:cap<=maxLen)
 (h3:cur.size=cap*sz) (S:SWK (zhd enc) sz w g 0 d' w'):Own w' base e enc sz (.slice (some ⟨g,0,none⟩) xs.length cap) (d'.toList.map (·.1))/\w.grownBy w' (some g):=by
 obtain⟨n,os,rfl⟩:=S;have hlen:(d'.toList.map (·.1)).length=xs.length:=by simp[hs]
 unfold sortWorldK putRowK;rw[zgZ C];refine⟨⟨by rw[zm C],.inr ⟨g,cap,_,by rw[hlen],hbase,zo7 _ hb,by rw[hlen];exact h1,h2,by simp[putCells,h3],?_⟩⟩,zkV _⟩
 have hl:=zm C (d'.toList.map (·.1))
 rw[<-hl];exact zp4 cur _ (by rw[hl,hlen,h3];exact yaq _ h1)
end
section
open Go.Shelf Go.RowKit Go.Lib Go.Sort
namespace SM
variable {β:Type} [Inhabited β]
def SortPost(w:World)(base:Nat)(enc:β->List Value)(cf:β->β->Int)(v:Value)(xs:List β)(e:Ending)(w':World):Prop:=
 e= .returned (.tuple #[])/\∃ys,IsStable cf xs ys/\Own w' base 35 enc 6 v ys/\w.grownBy w' v.ownBlock
end SM
theorem zej:∀a:List UInt8,compareBytes a a=0
 |[]=>rfl
 | x :: a => by
   have h:¬x<x:=UInt8.lt_irrefl x;unfold compareBytes;rw[if_neg h,if_neg h,zej a]
theorem zeH:∀a b:List UInt8,compareBytes b a= -compareBytes a b
 |[],[]=>rfl
 |[],_::_=>rfl
 |_::_,[]=>rfl
 | x :: a, y :: b => by
   have ih:=zeH a b;unfold compareBytes;by_cases h1:x<y
   ·have h2:¬y<x:=fun h=>UInt8.lt_irrefl x (UInt8.lt_trans h1 h)
    simp[h1,h2]
   ·by_cases h2:y<x
    ·simp[h1,h2]
    ·simp[h1,h2,ih]
theorem zlw:∀a b:List UInt8,compareBytes a b=0->a=b
 |[],[],_=>rfl
 |[],_::_,h=>by simp[compareBytes]at h
 |_::_,[],h=>by simp[compareBytes]at h
 | x :: a, y :: b, h => by
   unfold compareBytes at h;by_cases h1:x<y
   ·simp[h1]at h
   ·by_cases h2:y<x
    ·simp[h1,h2]at h
    ·simp only[if_neg h1,if_neg h2]at h;rw[zlw a b h,UInt8.le_antisymm (UInt8.not_lt.1 h2) (UInt8.not_lt.1 h1)]
theorem zed:∀a b c:List UInt8,¬compareBytes a b<0->¬compareBytes b c<0->¬compareBytes a c<0
 |[],[],c,_,h2=>h2
 |[],_::_,_,h1,_=>by simp[compareBytes]at h1
 |_::_,_,[],_,_=>by simp[compareBytes]
 |x::a,[],z::c,_,h2=>by simp[compareBytes]at h2
 | x :: a, y :: b, z :: c, h1, h2 => by
   have ih:=zed a b c;unfold compareBytes at h1 h2⊢;by_cases hxy:x<y
   ·simp[hxy]at h1
   ·by_cases hyz:y<z
    ·simp[hyz]at h2
    ·have hxz:¬x<z:=fun h=>by
      have h3:=UInt8.le_trans (UInt8.not_lt.1 hyz) (UInt8.not_lt.1 hxy);exact absurd h (UInt8.not_lt.2 h3)
     simp only[if_neg hxy,if_neg hyz,if_neg hxz]at h1 h2⊢;by_cases hzx:z<x
     ·simp[hzx]
     ·have hyx:¬y<x:=fun h=>hzx (UInt8.lt_of_le_of_lt (UInt8.not_lt.1 hyz) h)
      have hzy:¬z<y:=fun h=>hzx (UInt8.lt_of_lt_of_le h (UInt8.not_lt.1 hxy))
      simp only[if_neg hyx,if_neg hzy,if_neg hzx]at h1 h2⊢;exact ih h1 h2
def zA(a b:ByteArray):Int:=compareBytes a.data.toList b.data.toList
theorem zgk(a:ByteArray):zA a a=0:=zej _
theorem zda(a b:ByteArray):zA b a= -zA a b:=zeH _ _
theorem zir{a b:ByteArray}(h:zA a b=0):a=b:=by
 have:=zlw _ _ h;obtain⟨⟨x⟩⟩:=a;obtain⟨⟨y⟩⟩:=b;simp only at this;rw[this]
def cfM(x y:RM):Int:=zA x.name y.name
def cfJ{γ:Type}(x y:ByteArray×γ):Int:=zA x.1 y.1
theorem zgV(a b:ByteArray)(w:World):
 Calls ye 88 #[.string a,.string b] w fun e w'=>e= .returned (.int .i64 (zA a b))/\w'=w:=by
 go_enter Tryz.func88,Tryz.ntmps88
 go_wp2
 rw[run_callFunc_extern Tryz.func146 (by kernel_rfl) (by kernel_rfl) (by kernel_rfl) (e:=Extern.BytealgCompare.compare) (by kernel_rfl),Lib.run_compareString]
 simp only[Result.andThen];rw[Oper.upon_value]
 go_wp2
 go_ret;exact⟨rfl,rfl⟩
theorem zkI(a b:ByteArray)(w:World):
 Calls ye 43 #[.string a,.string b] w fun e w'=>e= .returned (.int .i64 (zA a b))/\w'=w:=by
 go_enter Tryz.func43,Tryz.ntmps43
 go_wp2_with (go_at_call 88;refine(zgV _ _ _).mono ?_;rintro e w' ⟨rfl,rfl⟩)
 go_ret;exact⟨rfl,rfl⟩
end
section
open Go.RowKit Go.OpenShut
section
variable {α:Type} {e:TypeId} {enc:α->List Value} {sz:Nat}
theorem Own.same{w w':World}{base:Nat}{v:Value}{xs:List α}(h:Own w base e enc sz v xs)(hk:∀k,v.ownBlock=some k->w'.heap[k]? =w.heap[k]?):Own w' base e enc sz v xs:=by
 obtain⟨hl,h⟩:=h;refine⟨hl,?_⟩
 rcases h with h|⟨g,cap,cur,rfl,hg,hh,r⟩
 ·exact .inl h
 ·exact .inr ⟨g,cap,cur,rfl,hg,(hk g rfl).trans hh,r⟩
end
inductive LoneV(w:World):(Nat->Prop)->JV->RV->Prop
 |mk {S:Nat->Prop} {r:RV} {l:List JV} {m:List (ByteArray×JV)} {rs:List RV} {rms:List RM} (F:Nat⊕Nat->Nat->Prop)
  (hl:Own w 0 25 zbc 5 (.slice r.pl r.nl r.cl) rs) (hm:Own w 0 35 zl 6 (.slice r.pm r.nm r.cm) rms)
  (sl:∀k,(Value.slice r.pl r.nl r.cl).ownBlock=some k->S k) (sm:∀k,(Value.slice r.pm r.nm r.cm).ownBlock=some k->S k)
  (dr:∀k,(Value.slice r.pl r.nl r.cl).ownBlock=some k->(Value.slice r.pm r.nm r.cm).ownBlock≠some k)
  (el:l.length=rs.length) (em:m.length=rms.length)
  (cn:∀(i:Nat) (p:ByteArray×JV) (q:RM),m[i]? =some p->rms[i]? =some q->p.1=q.name)
  (cl:∀(i:Nat) (t:JV) (q:RV),l[i]? =some t->rs[i]? =some q->LoneV w (F (.inl i)) t q)
  (cm:∀(i:Nat) (p:ByteArray×JV) (q:RM),m[i]? =some p->rms[i]? =some q->LoneV w (F (.inr i)) p.2 q.v)
  (ff:∀a k,F a k->S k/\(Value.slice r.pl r.nl r.cl).ownBlock≠some k/\(Value.slice r.pm r.nm r.cm).ownBlock≠some k)
  (dd:∀a b k,F a k->F b k->a=b):LoneV w S (.mk r.k r.n r.s l m) r
theorem LoneV.same{w w':World}{S:Nat->Prop}{t:JV}{r:RV}(h:LoneV w S t r)(hk:∀k,S k->w'.heap[k]? =w.heap[k]?):LoneV w' S t r:=by
 induction h with
 | mk F hl hm sl sm dr el em cn cl cm ff dd ih1 ih2 =>
   exact .mk F (hl.same fun k e=>hk k (sl k e)) (hm.same fun k e=>hk k (sm k e)) sl sm dr el em cn
    (fun i t q h1 h2=>ih1 i t q h1 h2 fun k hf=>hk k (ff _ k hf).1) (fun i p q h1 h2=>ih2 i p q h1 h2 fun k hf=>hk k (ff _ k hf).1) ff dd
theorem LoneV.mono{w:World}{S S':Nat->Prop}{t:JV}{r:RV}(h:LoneV w S t r)(hs:∀k,S k->S' k):LoneV w S' t r:=by
 cases h with
 | mk F hl hm sl sm dr el em cn cl cm ff dd =>
   exact .mk F hl hm (fun k e=>hs k (sl k e)) (fun k e=>hs k (sm k e)) dr el em cn cl cm (fun a k hf=>⟨hs k (ff a k hf).1,(ff a k hf).2⟩) dd
theorem LoneV.under{w w':World}{S:Nat->Prop}{B:Nat}{t:JV}{r:RV}(h:LoneV w S t r)(hb:Below B w w')(hs:∀k,S k->k<B):LoneV w' S t r:=h.same fun k hk=>hb.block k (hs k hk)
theorem LoneV.tree{w:World}{S:Nat->Prop}{t:JV}{r:RV}(h:LoneV w S t r):TreeOf w w.heap.size t r:=by
 induction h with
 |mk F hl hm sl sm dr el em cn cl cm ff dd ih1 ih2=>exact .mk (hl.rd zb8) el ih1 (hm.rd codecM) em cn ih2
def Fresh(w w':World)(k:Nat):Prop:=w.heap.size<=k/\k<w'.heap.size
structure Parts(W:World)(b0 g:Nat)(D:Nat⊕Nat->Prop)(l:List JV)(m:List (ByteArray×JV))(ds:List RV)(dms:List RM)(r:RV)(F:Nat⊕Nat->Nat->Prop):Prop where
 box:VAt W g r
 ownL:Own W b0 25 zbc 5 (.slice r.pl r.nl r.cl) ds
 ownM:Own W b0 35 zl 6 (.slice r.pm r.nm r.cm) dms
 bL:∀k,(Value.slice r.pl r.nl r.cl).ownBlock=some k->k≠g
 bM:∀k,(Value.slice r.pm r.nm r.cm).ownBlock=some k->k≠g
 dr:∀k,(Value.slice r.pl r.nl r.cl).ownBlock=some k->(Value.slice r.pm r.nm r.cm).ownBlock≠some k
 los:b0<=W.heap.size
 el:l.length=ds.length
 em:m.length=dms.length
 cn:∀(i:Nat) (p:ByteArray×JV) (q:RM),m[i]? =some p->dms[i]? =some q->p.1=q.name
 cl:∀(i:Nat) (t:JV) (q:RV),D (.inl i)->l[i]? =some t->ds[i]? =some q->LoneV W (F (.inl i)) t q
 cm:∀(i:Nat) (p:ByteArray×JV) (q:RM),D (.inr i)->m[i]? =some p->dms[i]? =some q->LoneV W (F (.inr i)) p.2 q.v
 ff:∀a k,F a k->(b0<=k/\k<W.heap.size)/\k≠g/\(Value.slice r.pl r.nl r.cl).ownBlock≠some k/\(Value.slice r.pm r.nm r.cm).ownBlock≠some k
 dd:∀a b k,F a k->F b k->a=b
theorem Parts.drewN{W:World}{b0 g:Nat}{D:Nat⊕Nat->Prop}{l:List JV}{m:List (ByteArray×JV)}{ds:List RV}{dms:List RM}{r:RV}{F:Nat⊕Nat->Nat->Prop}(h:Parts W b0 g D l m ds dms r F)(n:Nat):Parts (W.drewN n) b0 g D l m ds dms r F:=
 ⟨h.box,h.ownL,h.ownM,h.bL,h.bM,h.dr,h.los,h.el,h.em,h.cn,fun i t q h1 h2 h3=>(h.cl i t q h1 h2 h3).same fun _ _=>rfl,fun i t q h1 h2 h3=>(h.cm i t q h1 h2 h3).same fun _ _=>rfl,h.ff,h.dd⟩
theorem Parts.below{W W':World}{b0 g:Nat}{D:Nat⊕Nat->Prop}{l:List JV}{m:List (ByteArray×JV)}{ds:List RV}{dms:List RM}{r:RV}{F:Nat⊕Nat->Nat->Prop}(h:Parts W b0 g D l m ds dms r F)(hb:Below W.heap.size W W'):Parts W' b0 g D l m ds dms r F:=
 have hs:=hb.size
 ⟨h.box.under hb h.box.lt,h.ownL.below hb (yd _),h.ownM.below hb (yd _),h.bL,h.bM,h.dr,Nat.le_trans h.los hs,h.el,h.em,h.cn,fun i t q h1 h2 h3=>(h.cl i t q h1 h2 h3).under hb fun k hk=>(h.ff _ k hk).1.2,fun i t q h1 h2 h3=>(h.cm i t q h1 h2 h3).under hb fun k hk=>(h.ff _ k hk).1.2,fun a k hk=>⟨⟨(h.ff a k hk).1.1,Nat.lt_of_lt_of_le (h.ff a k hk).1.2 hs⟩,(h.ff a k hk).2⟩,h.dd⟩
theorem Parts.whole{W:World}{b0 g:Nat}{D:Nat⊕Nat->Prop}{l:List JV}{m:List (ByteArray×JV)}{ds:List RV}{dms:List RM}{r:RV}{F:Nat⊕Nat->Nat->Prop}(h:Parts W b0 g D l m ds dms r F)(hD:∀i,(i<l.length->D (.inl i))/\(i<m.length->D (.inr i))):LoneV W (fun k=>b0<=k/\k<W.heap.size) (.mk r.k r.n r.s l m) r:=
 .mk F (h.ownL.mono (yu _)) (h.ownM.mono (yu _)) (fun k e=>h.ownL.lt k e) (fun k e=>h.ownM.lt k e) h.dr h.el h.em h.cn
  (fun i t q h1 h2=>h.cl i t q ((hD i).1 (yi.1 h1).1) h1 h2) (fun i p q h1 h2=>h.cm i p q ((hD i).2 (yi.1 h1).1) h1 h2)
  (fun a k hk=>⟨(h.ff a k hk).1,(h.ff a k hk).2.2⟩) h.dd
end
section
open Go Go.RowKit Go.OpenShut
section
variable {α:Type} {enc:α->List Value} {sz:Nat}
def RdI(w:World)(S:Nat->Prop)(enc:α->List Value)(sz:Nat)(v:Value)(xs:List α):Prop:=
 ∃ (p : Option Addr) (cap : Nat), v = .slice p xs.length cap /\ xs.length <= cap /\ cap <= maxLen /\ (p = none -> cap = 0) /\
   ∀a,p=some a->0<xs.length->∃b o,a=⟨b,o,none⟩/\S b/\RowAt w b o enc sz xs
theorem RdI.same{w w':World}{S:Nat->Prop}{v:Value}{xs:List α}(h:RdI w S enc sz v xs)(hk:∀k,S k->w'.heap[k]? =w.heap[k]?):RdI w' S enc sz v xs:=by
 obtain⟨p,cap,h1,h2,h3,h4,h5⟩:=h;refine⟨p,cap,h1,h2,h3,h4,fun a ha h0=> ?_⟩
 obtain⟨b,o,e,hb,hr⟩:=h5 a ha h0;exact⟨b,o,e,hb,fun i x hx j u hu=>(World.cell?_of_block (w:=w) (a:=⟨b,o+i*sz+j,none⟩) (hk b hb)).trans (hr i x hx j u hu)⟩
theorem RdI.mono{w:World}{S S':Nat->Prop}{v:Value}{xs:List α}(h:RdI w S enc sz v xs)(hs:∀k,S k->S' k):RdI w S' enc sz v xs:=by
 obtain⟨p,cap,h1,h2,h3,h4,h5⟩:=h;refine⟨p,cap,h1,h2,h3,h4,fun a ha h0=> ?_⟩
 obtain⟨b,o,e,hb,hr⟩:=h5 a ha h0;exact⟨b,o,e,hs b hb,hr⟩
theorem RdI.rd{w:World}{S:Nat->Prop}{B:Nat}{v:Value}{xs:List α}(h:RdI w S enc sz v xs)(hs:∀k,S k->k<B):Rd w B enc sz v xs:=by
 obtain⟨p,cap,h1,h2,h3,h4,h5⟩:=h;refine⟨p,cap,h1,h2,h3,h4,fun a ha h0=> ?_⟩
 obtain⟨b,o,e,hb,hr⟩:=h5 a ha h0;exact⟨b,o,e,hs b hb,hr⟩
theorem RdI.nil(w:World)(S:Nat->Prop):RdI w S enc sz (.slice none 0 0) ([]:List α):=⟨none,0,rfl,yd _,yu _,fun _=>rfl,fun a h _=>by cases h⟩
theorem Own.rdI(C:Codec enc sz){w:World}{base:Nat}{e:TypeId}{S:Nat->Prop}{v:Value}{xs:List α}(h:Own w base e enc sz v xs)(hs:∀k,v.ownBlock=some k->S k):RdI w S enc sz v xs:=by
 have hrd:=h.rd C;obtain⟨p,cap,h1,h2,h3,h4,h5⟩:=hrd;refine⟨p,cap,h1,h2,h3,h4,fun a ha h0=> ?_⟩
 obtain⟨b,o,e,hb,hr⟩:=h5 a ha h0;exact⟨b,o,e,hs b (by rw[h1,ha,e];rfl),hr⟩
end
inductive TreeS(w:World)(S:Nat->Prop):JV->RV->Prop
 |mk {r:RV} {l:List JV} {m:List (ByteArray×JV)} {rs:List RV} {rms:List RM} (hl:RdI w S zbc 5 (.slice r.pl r.nl r.cl) rs) (el:l.length=rs.length) (cl:∀(i:Nat) (t:JV) (q:RV),l[i]? =some t->rs[i]? =some q->TreeS w S t q)
  (hm:RdI w S zl 6 (.slice r.pm r.nm r.cm) rms) (em:m.length=rms.length) (cn:∀(i:Nat) (p:ByteArray×JV) (q:RM),m[i]? =some p->rms[i]? =some q->p.1=q.name)
  (cm:∀(i:Nat) (p:ByteArray×JV) (q:RM),m[i]? =some p->rms[i]? =some q->TreeS w S p.2 q.v):TreeS w S (.mk r.k r.n r.s l m) r
theorem TreeS.same{w w':World}{S:Nat->Prop}{t:JV}{r:RV}(h:TreeS w S t r)(hk:∀k,S k->w'.heap[k]? =w.heap[k]?):TreeS w' S t r:=by
 induction h with
 |mk hl el cl hm em cn cm ih1 ih2=>exact .mk (hl.same hk) el ih1 (hm.same hk) em cn ih2
theorem TreeS.mono{w:World}{S S':Nat->Prop}{t:JV}{r:RV}(h:TreeS w S t r)(hs:∀k,S k->S' k):TreeS w S' t r:=by
 induction h with
 |mk hl el cl hm em cn cm ih1 ih2=>exact .mk (hl.mono hs) el ih1 (hm.mono hs) em cn ih2
theorem TreeS.tree{w:World}{S:Nat->Prop}{B:Nat}{t:JV}{r:RV}(h:TreeS w S t r)(hs:∀k,S k->k<B):TreeOf w B t r:=by
 induction h with
 |mk hl el cl hm em cn cm ih1 ih2=>exact .mk (hl.rd hs) el ih1 (hm.rd hs) em cn ih2
theorem TreeS.leaf(w:World)(S:Nat->Prop)(k n:Int)(s:ByteArray):TreeS w S (.mk k n s [] []) ⟨k,n,s,none,0,0,none,0,0⟩:=
 .mk (r:=⟨k,n,s,none,0,0,none,0,0⟩) (rs:=[]) (rms:=[]) (RdI.nil _ _) rfl (fun i t q h=>by simp at h) (RdI.nil _ _) rfl (fun i p q h=>by simp at h) (fun i p q h=>by simp at h)
structure GrL(w:World)(base:Nat)(v:Value)(l:List JV):Prop where
 ex:∃rs,Own w base 25 zbc 5 v rs/\l.length=rs.length/\∀(i:Nat) (t:JV) (q:RV),l[i]? =some t->rs[i]? =some q->TreeS w (fun k=>base<=k/\k<w.heap.size/\v.ownBlock≠some k) t q
structure GrM(w:World)(base:Nat)(v:Value)(m:List (ByteArray×JV)):Prop where
 ex:∃rms,Own w base 35 zl 6 v rms/\m.length=rms.length/\(∀(i:Nat) (p:ByteArray×JV) (q:RM),m[i]? =some p->rms[i]? =some q->p.1=q.name)/\∀(i:Nat) (p:ByteArray×JV) (q:RM),m[i]? =some p->rms[i]? =some q->TreeS w (fun k=>base<=k/\k<w.heap.size/\v.ownBlock≠some k) p.2 q.v
theorem GrL.nil(w:World)(base:Nat):GrL w base (.slice none 0 0) []:=⟨[],Own.nil _ _ _,rfl,fun i t q h=>by simp at h⟩
theorem GrM.nil(w:World)(base:Nat):GrM w base (.slice none 0 0) []:=⟨[],Own.nil _ _ _,rfl,fun i t q h=>by simp at h,fun i t q h=>by simp at h⟩
theorem GrL.out{w w':World}{base:Nat}{v:Value}{l:List JV}(h:GrL w base v l)(hk:∀k,base<=k->k<w.heap.size->w'.heap[k]? =w.heap[k]?)(hs:w.heap.size<=w'.heap.size):GrL w' base v l:=by
 obtain⟨rs,h1,h2,h3⟩:=h.ex;exact⟨rs,h1.same (fun k e=>hk k (h1.lt k e).1 (h1.lt k e).2),h2,fun i t q a b=>((h3 i t q a b).same (fun k e=>hk k e.1 e.2.1)).mono (fun k e=>⟨e.1,by omega,e.2.2⟩)⟩
theorem GrM.out{w w':World}{base:Nat}{v:Value}{m:List (ByteArray×JV)}(h:GrM w base v m)(hk:∀k,base<=k->k<w.heap.size->w'.heap[k]? =w.heap[k]?)(hs:w.heap.size<=w'.heap.size):GrM w' base v m:=by
 obtain⟨rs,h1,h2,h4,h3⟩:=h.ex;exact⟨rs,h1.same (fun k e=>hk k (h1.lt k e).1 (h1.lt k e).2),h2,h4,fun i t q a b=>((h3 i t q a b).same (fun k e=>hk k e.1 e.2.1)).mono (fun k e=>⟨e.1,by omega,e.2.2⟩)⟩
theorem zcM{α:Type}{l:List α}{x a:α}{j:Nat}(h:(l++[x])[j]? =some a):(j<l.length/\l[j]? =some a)\/(j=l.length/\a=x):=by
 by_cases hj:j<l.length
 ·rw[List.getElem?_append_left hj]at h;exact .inl ⟨hj,h⟩
 ·rw[List.getElem?_append_right (by omega)]at h
  have h2:j-l.length=0:=by have:=(yi.1 h).1;simp at this;omega
  rw[h2]at h;simp at h;exact .inr ⟨by omega,h.symm⟩
theorem GrL.snoc{w1 w2:World}{base:Nat}{v v2:Value}{l:List JV}{t:JV}{q:RV}{rs:List RV}(h1:Own w1 base 25 zbc 5 v rs)(h2:l.length=rs.length)(h3:∀(i:Nat) (t:JV) (q:RV),l[i]? =some t->rs[i]? =some q->TreeS w1 (fun k=>base<=k/\k<w1.heap.size/\v.ownBlock≠some k) t q)
 (ht:TreeS w1 (fun k=>base<=k/\k<w1.heap.size/\v.ownBlock≠some k) t q) (ho:Own w2 base 25 zbc 5 v2 (rs++[q])) (hg:w1.grownBy w2 v.ownBlock) (hat:∀k,v2.ownBlock=some k->v.ownBlock=some k\/w1.heap.size<=k):GrL w2 base v2 (l++[t]):=by
 have hs:=hg.size
 have key:∀(t:JV) (q:RV),TreeS w1 (fun k=>base<=k/\k<w1.heap.size/\v.ownBlock≠some k) t q->TreeS w2 (fun k=>base<=k/\k<w2.heap.size/\v2.ownBlock≠some k) t q:=
  fun t q h=>(h.same (fun k e=>hg.block k e.2.1 (fun e2=>e.2.2 e2.symm))).mono (fun k e=>⟨e.1,by omega,fun e2=>by
   rcases hat k e2 with h|h
   ·exact e.2.2 h
   ·omega⟩)
 refine⟨rs++[q],ho,by simp[h2],fun i t' q' a b=> ?_⟩
 rcases zcM a with⟨ha,a⟩|⟨ha,rfl⟩
 ·rcases zcM b with⟨hb,b⟩|⟨hb,_⟩
  ·exact key _ _ (h3 i t' q' a b)
  ·omega
 ·rcases zcM b with⟨hb,b⟩|⟨hb,rfl⟩
  ·omega
  ·exact key _ _ ht
theorem GrM.snoc{w1 w2:World}{base:Nat}{v v2:Value}{m:List (ByteArray×JV)}{n:ByteArray}{t:JV}{q:RV}{rms:List RM}(h1:Own w1 base 35 zl 6 v rms)(h2:m.length=rms.length)(h4:∀(i:Nat) (p:ByteArray×JV) (q:RM),m[i]? =some p->rms[i]? =some q->p.1=q.name)
 (h3:∀(i:Nat) (p:ByteArray×JV) (q:RM),m[i]? =some p->rms[i]? =some q->TreeS w1 (fun k=>base<=k/\k<w1.heap.size/\v.ownBlock≠some k) p.2 q.v)
 (ht:TreeS w1 (fun k=>base<=k/\k<w1.heap.size/\v.ownBlock≠some k) t q) (ho:Own w2 base 35 zl 6 v2 (rms++[⟨n,q⟩])) (hg:w1.grownBy w2 v.ownBlock) (hat:∀k,v2.ownBlock=some k->v.ownBlock=some k\/w1.heap.size<=k):GrM w2 base v2 (m++[(n,t)]):=by
 have hs:=hg.size
 have key:∀(t:JV) (q:RV),TreeS w1 (fun k=>base<=k/\k<w1.heap.size/\v.ownBlock≠some k) t q->TreeS w2 (fun k=>base<=k/\k<w2.heap.size/\v2.ownBlock≠some k) t q:=
  fun t q h=>(h.same (fun k e=>hg.block k e.2.1 (fun e2=>e.2.2 e2.symm))).mono (fun k e=>⟨e.1,by omega,fun e2=>by
   rcases hat k e2 with h|h
   ·exact e.2.2 h
   ·omega⟩)
 refine⟨rms++[⟨n,q⟩],ho,by simp[h2],fun i p' q' a b=> ?_,fun i p' q' a b=> ?_⟩
 ·rcases zcM a with⟨ha,a⟩|⟨ha,rfl⟩
  ·rcases zcM b with⟨hb,b⟩|⟨hb,_⟩
   ·exact h4 i p' q' a b
   ·omega
  ·rcases zcM b with⟨hb,b⟩|⟨hb,rfl⟩
   ·omega
   ·rfl
 ·rcases zcM a with⟨ha,a⟩|⟨ha,rfl⟩
  ·rcases zcM b with⟨hb,b⟩|⟨hb,_⟩
   ·exact key _ _ (h3 i p' q' a b)
   ·omega
  ·rcases zcM b with⟨hb,b⟩|⟨hb,rfl⟩
   ·omega
   ·exact key _ _ ht
theorem GrL.whole{w:World}{base:Nat}{p:Option Addr}{n c:Nat}{l:List JV}(h:GrL w base (.slice p n c) l):TreeS w (fun k=>base<=k/\k<w.heap.size) (.mk 5 0 ⟨#[]⟩ l []) ⟨5,0,⟨#[]⟩,p,n,c,none,0,0⟩:=by
 obtain⟨rs,h1,h2,h3⟩:=h.ex;exact .mk (r:=⟨5,0,⟨#[]⟩,p,n,c,none,0,0⟩) (rs:=rs) (rms:=[]) (h1.rdI zb8 (fun k e=>h1.lt k e)) h2 (fun i t q a b=>(h3 i t q a b).mono (fun k e=>⟨e.1,e.2.1⟩)) (RdI.nil _ _) rfl (fun i p q h=>by simp at h) (fun i p q h=>by simp at h)
theorem GrM.whole{w:World}{base:Nat}{p:Option Addr}{n c:Nat}{m:List (ByteArray×JV)}(h:GrM w base (.slice p n c) m):TreeS w (fun k=>base<=k/\k<w.heap.size) (.mk 6 0 ⟨#[]⟩ [] m) ⟨6,0,⟨#[]⟩,none,0,0,p,n,c⟩:=by
 obtain⟨rs,h1,h2,h4,h3⟩:=h.ex;exact .mk (r:=⟨6,0,⟨#[]⟩,none,0,0,p,n,c⟩) (rs:=[]) (rms:=rs) (RdI.nil _ _) rfl (fun i p q h=>by simp at h) (h1.rdI codecM (fun k e=>h1.lt k e)) h2 h4 (fun i t q a b=>(h3 i t q a b).mono (fun k e=>⟨e.1,e.2.1⟩))
abbrev RM.obj(r:RM):Obj:= .cells #[.string r.name,.int .i64 r.v.k,.int .i64 r.v.n,.string r.v.s,.slice r.v.pl r.v.nl r.v.cl,.slice r.v.pm r.v.nm r.v.cm] 35
end
section
structure CmpOk{β:Type}(c:β->β->Int):Prop where
 refl:∀x,c x x=0
 anti:∀x y,c y x= -c x y
 trans:∀x y z,c x y<=0->c y z<=0->c x z<=0
theorem CmpOk.on{β γ:Type}{c:β->β->Int}(h:CmpOk c)(f:γ->β):CmpOk (fun x y=>c (f x) (f y)):=⟨fun x=>h.refl _,fun x y=>h.anti _ _,fun x y z a b=>h.trans _ _ _ a b⟩
theorem CmpOk.neg{β:Type}{c:β->β->Int}(h:CmpOk c):CmpOk (fun x y=> -c x y):=
 ⟨fun x=>by rw[h.refl];rfl,fun x y=>by rw[h.anti],fun x y z a b=>by
  have h1:=h.anti x y;have h2:=h.anti y z;have h3:=h.anti x z;have h4:=h.trans z y x (by omega) (by omega)
  omega⟩
theorem CmpOk.lex{β:Type}{c d:β->β->Int}(hc:CmpOk c)(hd:CmpOk d):CmpOk (fun x y=>if c x y≠0 then c x y else d x y):=by
 refine⟨fun x=>by rw[if_neg (by rw[hc.refl];simp),hd.refl],fun x y=> ?_,fun x y z=> ?_⟩
 ·have h1:=hc.anti x y;by_cases h:c x y=0
  ·rw[if_neg (by omega),if_neg (by omega)];exact hd.anti x y
  ·rw[if_pos (by omega),if_pos (by omega)];exact h1
 ·have axy:=hc.anti x y;have ayz:=hc.anti y z;have axz:=hc.anti x z;intro h1 h2;have c1:c x y<=0:=by split at h1<;>omega
  have c2:c y z<=0:=by split at h2<;>omega
  have c3:=hc.trans x y z c1 c2;by_cases h:c x z=0
  ·have e1:c x y=0:=by
    have:=hc.trans y z x c2 (by omega)
    omega
   have e2:c y z=0:=by
    have:=hc.trans z x y (by omega) c1
    omega
   rw[if_neg (by omega)]at h1 h2
   rw[if_neg (by omega)]
   exact hd.trans x y z h1 h2
  ·rw[if_pos (by omega)]
   omega
theorem cmpBytes_ok:CmpOk Go.Lib.compareBytes:=by
 refine⟨zej,fun x y=>zeH x y,?_⟩
 intro x
 induction x with
 | nil =>
   intro y z h1 h2;cases z with
   |nil=>exact Int.le_refl _
   |cons c z=>show(-1:Int)<=0;decide
 | cons a x ih =>
   intro y z h1 h2;cases y with
   |nil=>exact absurd h1 (by show¬(1:Int)<=0;decide)
   | cons b y =>
     cases z with
     |nil=>exact absurd h2 (by show¬(1:Int)<=0;decide)
     | cons c z =>
       unfold Go.Lib.compareBytes at h1 h2⊢;by_cases ab:a<b
       ·by_cases bc:b<c
        ·rw[if_pos (UInt8.lt_trans ab bc)];decide
        ·rw[if_neg bc]at h2;by_cases cb:c<b
         ·rw[if_pos cb]at h2;exact absurd h2 (by decide)
         ·have:b=c:=UInt8.le_antisymm (UInt8.not_lt.1 cb) (UInt8.not_lt.1 bc);subst this;rw[if_pos ab];decide
       ·rw[if_neg ab]at h1;by_cases ba:b<a
        ·rw[if_pos ba]at h1;exact absurd h1 (by decide)
        ·have:a=b:=UInt8.le_antisymm (UInt8.not_lt.1 ba) (UInt8.not_lt.1 ab);subst this;rw[if_neg ba]at h1;by_cases bc:a<c
         ·rw[if_pos bc];decide
         ·rw[if_neg bc]at h2⊢;by_cases cb:c<a
          ·rw[if_pos cb]at h2;exact absurd h2 (by decide)
          ·rw[if_neg cb]at h2⊢;exact ih y z h1 h2
theorem cmpS_ok:CmpOk zc5:=by
 refine⟨fun x=> ?_,fun x y=> ?_,fun x y z=> ?_⟩
 ·unfold zc5;cases zbm x with
  |none=>exact zej _
  |some a=>dsimp only;rw[if_neg (by omega),if_neg (by omega)];exact zej _
 ·unfold zc5;cases zbm x with
  | none => cases zbm y with
    |none=>exact zeH _ _
    |some b=>rfl
  | some a => cases zbm y with
    |none=>rfl
    | some b =>
      dsimp only;by_cases h1:a<b
      ·rw[if_neg (by omega),if_pos h1,if_pos h1];decide
      ·by_cases h2:b<a
       ·rw[if_pos h2,if_neg h1,if_pos h2]
       ·rw[if_neg h2,if_neg h1,if_neg h1,if_neg h2];exact zeH _ _
 ·unfold zc5;cases hx:zbm x with
  | none => cases hy : zbm y with
    | none => cases hz : zbm z with
      |none=>exact cmpBytes_ok.trans _ _ _
      |some c=>intro _ _;show(-1:Int)<=0;decide
    | some b => cases hz : zbm z with
      |none=>intro _ h;exact absurd h (show¬(1:Int)<=0 by decide)
      |some c=>intro _ _;show(-1:Int)<=0;decide
  | some a => cases hy : zbm y with
    |none=>intro h;exact absurd h (show¬(1:Int)<=0 by decide)
    | some b => cases hz : zbm z with
      |none=>intro _ h;exact absurd h (show¬(1:Int)<=0 by decide)
      | some c =>
        dsimp only;intro h1 h2;by_cases ab:a<b
        ·by_cases cb:c<b
         ·rw[if_neg (by omega),if_pos cb]at h2;exact absurd h2 (by decide)
         ·rw[if_pos (by omega)];decide
        ·rw[if_neg ab]at h1;by_cases ba:b<a
         ·rw[if_pos ba]at h1;exact absurd h1 (by decide)
         ·rw[if_neg ba]at h1;have:a=b:=by omega
          subst this;by_cases ac:a<c
          ·rw[if_pos ac];decide
          ·rw[if_neg ac]at h2⊢;by_cases ca:c<a
           ·rw[if_pos ca]at h2;exact absurd h2 (by decide)
           ·rw[if_neg ca]at h2⊢;exact cmpBytes_ok.trans _ _ _ h1 h2
structure CmpD where
 prop:ByteArray
 down:Bool
def createdN:ByteArray:=⟨#[99,114,101,97,116,101,100]⟩
def zG:ByteArray:=⟨#[117,112,100,97,116,101,100]⟩
def zbg:ByteArray:=⟨#[110,97,109,101,47,103,105,118,101,110]⟩
def zcj:ByteArray:=⟨#[110,97,109,101,47,115,117,114,110,97,109,101]⟩
def zbO:ByteArray:=⟨#[110,97,109,101,47,115,117,114,110,97,109,101,50]⟩
def zby(p:ByteArray):Bool:=decide (p=createdN)||decide (p=zG)
def zh:ByteArray:=⟨#[110,97,109,101]⟩
def zee:ByteArray:=⟨#[99,111,109,112,111,110,101,110,116,115]⟩
def zL:ByteArray:=⟨#[107,105,110,100]⟩
def zdW:ByteArray:=⟨#[118,97,108,117,101]⟩
def zj(v:JV)(name:ByteArray):List ByteArray:=match v.get name with|some x=>if x.k=4 then[x.s]else[]|none=>[]
def zbP(v:JV)(kind:ByteArray):List ByteArray:=match v.get zee with|some x=>if x.k=5 then(x.l.filter (fun c=>decide (kind.size=0)||decide (zj c zL=[kind]))).flatMap (fun c=>zj c zdW)else[]|none=>[]
def zql:JV:= .mk 0 0 ⟨#[]⟩ [] []
def zgP(v:JV)(p:ByteArray):ByteArray:=(zbP ((v.get zh).getD zql) (p.extract 5 p.size)).headD ⟨#[]⟩
def zeo(v:JV)(p:ByteArray):ByteArray:=(zj v p).headD ⟨#[]⟩
def zdJ(c:UInt8):UInt8:=if 65<=c/\c<=90 then c+32 else c
def zN(l:List UInt8):List UInt8:=l.map zdJ
def zeI(c:CmpD)(a b:JV):Int:=
 let n:=if zby c.prop then zc5 (zeo a c.prop).data.toList (zeo b c.prop).data.toList else Go.Lib.compareBytes (zN (zgP a c.prop).data.toList) (zN (zgP b c.prop).data.toList)
 if c.down then-n else n
theorem zqB(c:CmpD):CmpOk (zeI c):=by
 have h:CmpOk (fun a b=>if zby c.prop then zc5 (zeo a c.prop).data.toList (zeo b c.prop).data.toList else Go.Lib.compareBytes (zN (zgP a c.prop).data.toList) (zN (zgP b c.prop).data.toList)):=by
  cases zby c.prop
  ·exact cmpBytes_ok.on (fun a=>zN (zgP a c.prop).data.toList)
  ·exact cmpS_ok.on (fun a=>(zeo a c.prop).data.toList)
 unfold zeI;cases c.down
 ·exact h
 ·exact h.neg
def zdG:List CmpD->ByteArray×JV->ByteArray×JV->Int
 |[],a,b=>Go.Lib.compareBytes a.1.data.toList b.1.data.toList
 |c::cs,a,b=>if zeI c a.2 b.2≠0 then zeI c a.2 b.2 else zdG cs a b
theorem zis:∀cs:List CmpD,CmpOk (zdG cs)
 |[]=>cmpBytes_ok.on (fun a:ByteArray×JV=>a.1.data.toList)
 |c::cs=>((zqB c).on (fun a:ByteArray×JV=>a.2)).lex (zis cs)
def zdn(cs:List CmpD)(a b:ByteArray×JV):Bool:=decide (zdG cs a b<0)
theorem CmpOk.lt{β:Type}{c:β->β->Int}(h:CmpOk c):LtOk (fun a b=>decide (c a b<0)):=
 ⟨fun a b h1=>by
  have h2:=of_decide_eq_true h1;have h3:=h.anti a b;exact decide_eq_false (by omega),fun a b x h1 h2=>by
  have h3:=of_decide_eq_false h1;have h4:=of_decide_eq_false h2;have h5:=h.anti b a;have h6:=h.anti x b;have h7:=h.trans a b x (by omega) (by omega)
  have h8:=h.anti a x;exact decide_eq_false (by omega)⟩
end
section
open Go Go.RowKit
theorem zgb(g m:Nat)(e:TypeId):∀(vs:List Value) (o:Nat) (w:World) (cur:Array Value),m<=o->w.heap[g]? =some (.cells cur e (0,0))->
 ∃cur',(w.setCells g o vs).heap[g]? =some (.cells cur' e (0,0))/\cur'.size=cur.size/\cur'.toList.take m=cur.toList.take m/\w.grownBy (w.setCells g o vs) (some g)
 |[],o,w,cur,ho,h=>⟨cur,h,rfl,rfl,World.grownBy.refl w _⟩
 | v :: r, o, w, cur, ho, h => by
   obtain⟨cur',h1,h2,h3,h4⟩:=zgb g m e r (o+1) (w.setCell ⟨g,o,none⟩ v) (cur.setIfInBounds o v) (by omega) (heap_setCell_same w g o cur e v h)
   refine⟨cur',h1,by simpa using h2,?_,?_⟩
   ·rw[h3,Array.toList_setIfInBounds,ybm ho]
   ·have hg1:w.grownBy (w.setCell ⟨g,o,none⟩ v) (some g):=⟨rfl,rfl,rfl,by simp,fun k _ hk=>heap_setCell_other w ⟨g,o,none⟩ k v (fun e=>hk (by simp[e]))⟩
    exact hg1.trans h4
theorem zju(z:Array Value)(n:Nat)(h:∀u∈z.toList,u.oneCell'=true):∀u∈(Builtin.zeroCells z n).toList,u.oneCell'=true:=by
 intro u hu;simp only[Builtin.zeroCells,Array.toList_map,Array.toList_range,List.mem_map,List.mem_range]at hu;obtain⟨i,hi,rfl⟩:=hu
 have hz:0<z.size:=by
  rcases Nat.eq_zero_or_pos z.size with h0|h0
  ·rw[h0,Nat.mul_zero]at hi;omega
  ·exact h0
 have hlt:i % z.size<z.size:=Nat.mod_lt _ hz;rw[getElem!_pos z (i % z.size) hlt];exact h _ (by simp)
section
variable {P:Program} {α:Type} {enc:α->List Value} {sz bytes:Nat} {t e:TypeId}
theorem Own.take{w:World}{base:Nat}{p:Option Addr}{n cap:Nat}{xs:List α}(C:Codec enc sz)(h:Own w base e enc sz (.slice p n cap) xs)(m:Nat)(hm:m<=n):Own w base e enc sz (.slice p m cap) (xs.take m):=by
 obtain⟨hl,h⟩:=h
 rcases h with⟨hv,hn⟩|⟨g,cap',cur,hv,hg,hh,hnc,hcm,hcs,ht⟩
 ·simp only[Value.slice.injEq]at hv;obtain⟨rfl,rfl,rfl⟩:=hv;obtain rfl:m=0:=by omega
  rw[List.take_zero];exact Own.nil w base e
 ·simp only[Value.slice.injEq]at hv;obtain⟨rfl,rfl,rfl⟩:=hv;have hlen:(xs.take m).length=m:=by rw[yz];omega
  refine⟨zm C _,.inr ⟨g,cap,cur,by rw[hlen],hg,hh,by omega,hcm,hcs,?_⟩⟩
  rw[hlen];have h1:cellsOf enc xs=cellsOf enc (xs.take m)++cellsOf enc (xs.drop m):=by rw[<-zv,List.take_append_drop]
  have h2:cur.toList.take (m*sz)=(cur.toList.take (xs.length*sz)).take (m*sz):=by
   rw[List.take_take,Nat.min_eq_left (yaq _ hm)]
  rw[h2,ht,h1];have h3:(cellsOf enc (xs.take m)).length=m*sz:=by rw[zm C,hlen]
  rw[<-h3,List.take_left]
theorem zf9(S:SlT P t e sz bytes)(hone:∀i z,P.info? e=some i->i.zero=some z->∀u∈z.cells.toList,u.oneCell'=true)(C:Codec enc sz)(w:World)(ty:TypeId){base:Nat}{p:Option Addr}{n cap m:Nat}{xs:List α}
 (h:Own w base e enc sz (.slice p n cap) xs) (hm:m<=n) {v:Value} (hv:v=sliced p m n cap sz):
 ∃w',(Builtin.clear_ #[t] ty #[v]).run P w= .ok (.tuple #[]) w'/\Own w' base e enc sz (.slice p m cap) (xs.take m)/\w.grownBy w' (Value.slice p n cap).ownBlock:=by
 have hT:=h.take C m hm;obtain⟨ht,i,z,hi,hz,hs1,hs2,hzs⟩:=S;by_cases hmn:m=n
 ·subst hmn;refine⟨w,?_,hT,World.grownBy.refl w _⟩;rw[hv];unfold sliced;rw[Nat.sub_self];cases(if cap=m then p else p.map (·.add (m*sz)))<;>simp[Builtin.clear_,run_underlying ht]
 ·obtain⟨hl,h'⟩:=h
  rcases h' with⟨hv',hn⟩|⟨g,cap',cur,hv',hg,hh,hnc,hcm,hcs,htk⟩
  ·simp only[Value.slice.injEq]at hv';omega
  ·simp only[Value.slice.injEq]at hv';obtain⟨rfl,hnx,rfl⟩:=hv'
   have hsl:v= .slice (some ⟨g,m*sz,none⟩) (n-m) (cap-m):=by
    rw[hv];unfold sliced;rw[if_neg (by omega)]
    simp[zbl]
   have hszn:(Builtin.zeroCells z.cells (n-m)).size=(n-m)*sz:=by rw[size_zeroCells,hzs]
   have hcell:∀j,j<(n-m)*sz->(w.cell? ⟨g,m*sz+j,none⟩).isSome=true:=by
    intro j hj;rw[cell_of_row w g _ cur e (0,0) hh];have h1:(n-m)*sz+m*sz<=cap*sz:=by rw[<-Nat.add_mul];exact yaq _ (by omega)
    rw[Array.getElem?_eq_getElem (by omega)]
    rfl
   have hst:=run_storeCells_cells (P:=P) g (m*sz) (Builtin.zeroCells z.cells (n-m)).toList 0 w (by intro j hj;rw[Array.length_toList,hszn]at hj;simpa using hcell j hj) (fun j hj=>frozen_of_row w g _ cur e hh) (zju z.cells _ (hone i z hi hz))
   rw[yw]at hst;obtain⟨cur',h1,h2,h3,h4⟩:=zgb g (m*sz) e (Builtin.zeroCells z.cells (n-m)).toList (m*sz) w cur (yd _) hh;refine⟨_,?_,?_,h4⟩
   ·rw[hsl];obtain⟨k,hk⟩:∃k,n-m=k+1:=⟨n-m-1,by omega⟩
    rw[hk]at hst⊢;simp[Builtin.clear_,run_underlying ht,zeroValue,typeInfo,hi,hz,hst]
   ·have hlen:(xs.take m).length=m:=by rw[yz];omega
    obtain⟨hl2,h2'⟩:=hT
    rcases h2' with⟨hv2,_⟩|⟨g2,cap2,cur2,hv2,_,hh2,_,_,_,ht2⟩
    ·simp at hv2
    ·simp only[Value.slice.injEq,Option.some.injEq,Addr.mk.injEq,and_true,true_and]at hv2;obtain⟨rfl,_,rfl⟩:=hv2;rw[hh]at hh2;cases hh2;refine⟨hl2,.inr ⟨g,cap,cur',by rw[hlen],hg,h1,by omega,hcm,by omega,?_⟩⟩
     rw[hlen]at ht2⊢;rw[h3];exact ht2
theorem zer(S:SlT P t e sz bytes)(p:Option Addr)(n cap m:Nat)(hm:m<=n)(W:World):(Instr.sliceAt t (.slice p n cap) (some (.int .i64 m)) none none).run P W= .ok (sliced p m n cap sz) W:=by
 obtain⟨ht,i,z,hi,hz,hs1,hs2,hzs⟩:=S;have he:P.elem t=e:=by simp[Program.elem,ht]
 have ht':P.underlying t=some (.slice (P.elem t)):=by rw[he];exact ht
 rw[run_sliceAt_slice _ _ _ _ _ _ ht',run_slice_l W t p n cap ht' .i64 m (by omega) (by omega),he]
 simp[sizeOf,typeInfo,hi,hs1,Result.andThen]
theorem zfr(S:SlT P t e sz bytes)(p:Option Addr)(n cap m:Nat)(hm:m<=cap)(W:World):(Instr.sliceAt t (.slice p n cap) none (some (.int .i64 m)) none).run P W= .ok (.slice p m cap) W:=by
 obtain⟨ht,i,z,hi,hz,hs1,hs2,hzs⟩:=S;have he:P.elem t=e:=by simp[Program.elem,ht]
 have ht':P.underlying t=some (.slice (P.elem t)):=by rw[he];exact ht
 rw[run_sliceAt_slice _ _ _ _ _ _ ht',run_slice_h W t p n cap ht' .i64 m (by omega) (by omega),he]
 have hp:p.map (fun a=>a.add 0)=p:=by cases p<;>simp[Addr.add]
 have hsl:sliced p 0 m cap sz= .slice p m cap:=by unfold sliced;simp[hp]
 simp[sizeOf,typeInfo,hi,hs1,Result.andThen,hsl]
end
end
section
open Go.RowKit Go.OpenShut
def zgO(name:ByteArray)(x:RM):Bool:=decide (x.name=name)
def MAt(W:World)(g:Nat)(x:RM):Prop:=W.heap[g]? =some (.cells #[.string x.name,.int .i64 x.v.k,.int .i64 x.v.n,.string x.v.s,.slice x.v.pl x.v.nl x.v.cl,.slice x.v.pm x.v.nm x.v.cm] 35 (0,0))
theorem MAt.cell{W:World}{g:Nat}{r:RM}(h:MAt W g r)(j:Nat){u:Value}(hu:(zl r)[j]? =some u):W.cell? ⟨g,j,none⟩=some u:=by
 unfold MAt at h;rw[cell_of_row W g j _ _ _ h,<-yK];exact hu
theorem MAt.cells6{W:World}{g:Nat}{r:RM}(h:MAt W g r):W.cell? ⟨g,0,none⟩=some (.string r.name)/\W.cell? ⟨g,1,none⟩=some (.int .i64 r.v.k)/\W.cell? ⟨g,2,none⟩=some (.int .i64 r.v.n)/\W.cell? ⟨g,3,none⟩=some (.string r.v.s)/\W.cell? ⟨g,4,none⟩=some (.slice r.v.pl r.v.nl r.v.cl)/\W.cell? ⟨g,5,none⟩=some (.slice r.v.pm r.v.nm r.v.cm):=⟨h.cell 0 rfl,h.cell 1 rfl,h.cell 2 rfl,h.cell 3 rfl,h.cell 4 rfl,h.cell 5 rfl⟩
theorem MAt.under{W W':World}{g B:Nat}{r:RM}(h:MAt W g r)(hb:Below B W W')(hg:g<B):MAt W' g r:=(hb.block g hg).trans h
structure DelRel(rms:List RM)(name:ByteArray)(a b:Nat)(cur:List RM):Prop where
 lt:a<b
 len:cur.length=rms.length
 head:cur.take a=(rms.take b).filter (fun x=> !zgO name x)
 tail:cur.drop b=rms.drop b
theorem DelRel.start{rms:List RM}{name:ByteArray}{i:Nat}(h:rms.findIdx? (zgO name)=some i):DelRel rms name i (i+1) rms:=by
 rw[List.findIdx?_eq_some_iff_getElem]at h;obtain⟨h1,h2,h3⟩:=h;refine⟨by omega,rfl,?_,rfl⟩
 rw[yD,yf h1,yax]
 have e1:(rms.take i).filter (fun x=> !zgO name x)=rms.take i:=by
  rw[List.filter_eq_self];intro x hx;obtain⟨j,hj⟩:=yQ hx;rw[List.getElem?_take]at hj
  split at hj
  ·have:=h3 j (by assumption)
   rw[yf (by omega)]at hj
   cases hj;simpa using this
  ·cases hj
 rw[e1];simp[h2]
theorem DelRel.at{rms cur:List RM}{name:ByteArray}{a b:Nat}(h:DelRel rms name a b cur){x:RM}(hx:rms[b]? =some x):cur[b]? =some x:=by
 have h1:(cur.drop b)[0]? =(rms.drop b)[0]? :=by rw[h.tail]
 simpa[List.getElem?_drop,hx]using h1
theorem DelRel.skip{rms cur:List RM}{name:ByteArray}{a b:Nat}(h:DelRel rms name a b cur){x:RM}(hx:rms[b]? =some x)(hn:zgO name x=true):DelRel rms name a (b+1) cur:=by
 refine⟨by have:=h.lt;omega,h.len,?_,?_⟩
 ·rw[yD,hx,yax,<-h.head];simp[hn]
 ·rw[<-yaO (i:=1) (j:=b),<-yaO (i:=1) (j:=b),h.tail]
theorem DelRel.keep{rms cur:List RM}{name:ByteArray}{a b:Nat}(h:DelRel rms name a b cur){x:RM}(hx:rms[b]? =some x)(hn:zgO name x=false):DelRel rms name (a+1) (b+1) (cur.set a x):=by
 have hl:=h.lt;have hbl:=(yi.1 hx).1;refine⟨by omega,by rw[yaj,h.len],?_,?_⟩
 ·rw[yD,ybm (yd _),List.getElem?_set_self (by have:=h.len;omega),yD,hx,yax,<-h.head]
  simp[hn]
 ·rw[List.drop_set_of_lt (by omega),<-yaO (i:=1) (j:=b),<-yaO (i:=1) (j:=b),h.tail]
theorem DelRel.done{rms cur:List RM}{name:ByteArray}{a:Nat}(h:DelRel rms name a rms.length cur):cur.take a=rms.filter (fun x=> !zgO name x):=by
 have:=h.head
 rwa[List.take_length]at this
def zx(os:List (ByteArray×JV))(id:ByteArray):Nat:=(os.takeWhile (fun p=>decide (zA p.1 id<0))).length
def zbj(os:List (ByteArray×JV))(id:ByteArray):Bool:=match os[zx os id]? with
 |some p=>decide (p.1=id)
 |none=>false
def Rising(os:List (ByteArray×JV)):Prop:=∀(i j:Nat) p q,i<j->os[i]? =some p->os[j]? =some q->zA p.1 q.1<0
theorem zlI:∀{os:List (ByteArray×JV)} {id:ByteArray} {a:Nat},a<=os.length->(∀k x,k<a->os[k]? =some x->zA x.1 id<0)->(∀k x,a<=k->os[k]? =some x->¬zA x.1 id<0)->zx os id=a
 |[],id,a,h,_,_=>by simp[zx];simp at h;omega
 | p :: os, id, 0, h, h1, h2 => by
   have:=h2 0 p (yd _) rfl;simp[zx,yaX,this]
 | p :: os, id, a + 1, h, h1, h2 => by
   have h0:=h1 0 p (by omega) rfl
   have ih:=zlI (os:=os) (id:=id) (a:=a) (by simpa using h) (fun k x hk hx=>h1 (k+1) x (by omega) (by simpa using hx)) (fun k x hk hx=>h2 (k+1) x (by omega) (by simpa using hx))
   unfold zx at ih⊢;rw[yaX,if_pos (by simpa using h0)]
   simp[ih]
theorem zf2{a b c:ByteArray}(h1:zA a b<0)(h2:¬zA c b<0):zA a c<0:=by
 by_cases h:zA a c<0
 ·exact h
 ·exact absurd h1 (zed _ _ _ h h2)
theorem Rising.low{os:List (ByteArray×JV)}(hr:Rising os){id:ByteArray}{h:Nat}{x:ByteArray×JV}(hx:os[h]? =some x)(hc:zA x.1 id<0):∀k y,k<h+1->os[k]? =some y->zA y.1 id<0:=by
 intro k y hk hy;by_cases e:k=h
 ·subst e;rw[hx]at hy;cases hy;exact hc
 ·have:=hr k h y x (by omega) hy hx
  by_cases g:zA y.1 id<0
  ·exact g
  ·have h3:=zda y.1 x.1;have:¬zA y.1 x.1<0:=zed _ _ _ g (by have h4:=zda x.1 id;show¬zA id x.1<0;omega)
   omega
theorem Rising.high{os:List (ByteArray×JV)}(hr:Rising os){id:ByteArray}{h:Nat}{x:ByteArray×JV}(hx:os[h]? =some x)(hc:¬zA x.1 id<0):∀k y,h<=k->os[k]? =some y->¬zA y.1 id<0:=by
 intro k y hk hy;by_cases e:k=h
 ·subst e;rw[hx]at hy;cases hy;exact hc
 ·have h1:=hr h k x y (by omega) hx hy
  have h2:=zda x.1 y.1;exact zed _ _ _ (by show¬zA y.1 x.1<0;omega) hc
def Lows(os:List (ByteArray×JV))(id:ByteArray)(a:Nat):Prop:=∀k x,k<a->os[k]? =some x->zA x.1 id<0
def zqf(os:List (ByteArray×JV))(id:ByteArray)(b:Nat):Prop:=∀k x,b<=k->os[k]? =some x->¬zA x.1 id<0
abbrev zrZ:Value:= .func (.func 131) #[] #[]
theorem zfU(x:RM)(id:ByteArray)(w:World):
 Calls ye 131 #[x.val,.string id] w fun e w'=>e= .returned (.int .i64 (zA x.name id))/\Below w.heap.size w w':=by
 obtain⟨nm,k,n,s,pl,nl,cl,pm,nm',cm⟩:=x;dsimp only[RM.val];have hB:Below w.heap.size w (w.alloc (.cells #[.string nm,.int .i64 k,.int .i64 n,.string s,.slice pl nl cl,.slice pm nm' cm] 62)):=(Below.refl _ _).alloc (yd _) _
 go_enter Tryz.func131,Tryz.ntmps131
 go_wp2_with (go_at_call 43;refine(zkI _ _ _).mono ?_;rintro e w' ⟨rfl,rfl⟩)
 go_ret;exact⟨rfl,hB⟩
theorem zha(w:World)(p:Option Addr)(n c:Nat)(os:List (ByteArray×JV))(id:ByteArray)(hv:ObjsOf w w.heap.size os (.slice p n c))(hr:Rising os)(hlen:os.length<=1466015503658):
 Calls ye 130 #[.slice p n c,.string id,zrZ] w fun e w'=>e= .returned (.tuple #[.int .i64 (zx os id:Nat),.bool (zbj os id)])/\Below w.heap.size w w':=by
 obtain⟨rms,hv,hms⟩:=hv;have hn:=zi hv;have hlm:=hms.len;have HV:=yc hv;have HR:=yc hr;have HN:Hid (os.length=n/\rms.length=n):=⟨by omega,by omega⟩
 have HM:=yc hms.name;have hn1:n<=1466015503658:=by omega
 clear hv hr hn hlm hms hlen
 go_enter Tryz.func130,Tryz.ntmps130
 go_wp2_with fail
 go_loopw [9,10] (fun i j wr=>∃a b:Nat,a<=b/\b<=n/\i= .int .i64 a/\j= .int .i64 b/\Lows os id a/\zqf os id b/\Below w.heap.size w wr) (fun i j _=>(intOf j).toNat-(intOf i).toNat)
 case atStart=>exact⟨0,n,yu _,yd _,rfl,rfl,fun k x h=>by omega,fun k x h1 h2=>by have:=(yi.1 h2).1;have:=HN.out;omega,Below.refl _ _⟩
 case round=>
  obtain⟨a,b,hab,hbn,rfl,rfl,hlo,hhi,hbr⟩:=hrel;by_cases hlt:a<b
  ·obtain⟨h,hh⟩:∃h,(a+b)/2=h:=⟨_,rfl⟩;have h1:a<=h/\h<b:=by omega
   have eh:((a:Int)+(b:Int))/2=(h:Int):=by omega
   have h0:(0:Int)<=(h:Int):=Int.natCast_nonneg _;have h2:(h:Int)<(n:Int):=by omega
   obtain⟨y,hy⟩:∃x,os[h]? =some x:=⟨_,yf (by have:=HN.out;omega)⟩
   obtain⟨x,hx⟩:∃x,rms[h]? =some x:=⟨_,yf (by have:=HN.out;omega)⟩
   have hyn:=HM.out h y x hy hx;obtain⟨b1,o1,rfl,hb1,hc1⟩:=zq (HV.out.below hbr (yd _)) hx;have f0:=hc1 0 _ rfl;have f1:=hc1 1 _ rfl;have f2:=hc1 2 _ rfl;have f3:=hc1 3 _ rfl;have f4:=hc1 4 _ rfl;have f5:=hc1 5 _ rfl;rw[yw]at f0;have HBR:=yc hbr;clear hx hc1 hbr hh;by_cases hc:zA y.1 id<0
   ·have HL:Lows os id (h+1):=HR.out.low hy hc;have HC:Hid (zA x.name id<0):=by rw[<-hyn];exact hc
    clear hy hc hyn hlo
    go_wp2_with (go_at_call 131;refine(zfU x id _).mono ?_;rintro e w1 ⟨rfl,hb1'⟩;have hcc:=HC.out)
    go_roundw
    case rel=>exact⟨h+1,b,by omega,hbn,by go_num,rfl,HL,hhi,HBR.out.trans (hb1'.mono HBR.out.size)⟩
    case measure=>simp[intOf];omega
   ·have HL:zqf os id h:=HR.out.high hy hc;have HC:Hid (¬zA x.name id<0):=by rw[<-hyn];exact hc
    clear hy hc hyn hhi
    go_wp2_with (go_at_call 131;refine(zfU x id _).mono ?_;rintro e w1 ⟨rfl,hb1'⟩;have hcc:=HC.out)
    go_roundw
    case rel=>exact⟨a,h,by omega,by omega,rfl,rfl,hlo,HL,HBR.out.trans (hb1'.mono HBR.out.size)⟩
    case measure=>simp[intOf];omega
  ·obtain rfl:a=b:=by omega
   have hd0:decide ((a:Int)<(a:Int))=false:=by simp
   have hd1:¬((a:Int)<(a:Int)):=by omega
   clear hlt hab;have HLOW:=yc (zlI (by have:=HN.out;omega) hlo hhi)
   clear hlo hhi;by_cases hlt2:a<n
   ·obtain⟨y,hy⟩:∃x,os[a]? =some x:=⟨_,yf (by have:=HN.out;omega)⟩
    obtain⟨x,hx⟩:∃x,rms[a]? =some x:=⟨_,yf (by have:=HN.out;omega)⟩
    have hyn:=HM.out a y x hy hx;obtain⟨b1,o1,rfl,hb1,hc1⟩:=zq (HV.out.below hbr (yd _)) hx;have f0:=hc1 0 _ rfl;have f1:=hc1 1 _ rfl;have f2:=hc1 2 _ rfl;have f3:=hc1 3 _ rfl;have f4:=hc1 4 _ rfl;have f5:=hc1 5 _ rfl;rw[yw]at f0;have HIS:Hid (zbj os id=decide (x.name=id)):=by unfold Hid zbj;rw[HLOW.out,hy];show decide (y.1=id)=_;rw[hyn]
    have HBR:=yc hbr;have ha0:(0:Int)<=(a:Int):=Int.natCast_nonneg _;have ha1:(a:Int)<(n:Int):=by omega
    have hd:decide ((a:Int)<(n:Int))=true:=by simpa using ha1
    have HEQ:Hid ((zA x.name id==0)=decide (x.name=id)):=by
     unfold Hid;rw[Bool.eq_iff_iff];simp only[beq_iff_eq,decide_eq_true_eq];exact⟨zir,fun h=>by rw[h];exact zgk _⟩
    clear hx hc1 hbr hy hyn
    go_wp2_with (go_at_call 131;refine(zfU x id _).mono ?_;rintro e w1 ⟨rfl,hb1'⟩)
    go_ret2
    refine⟨?_,HBR.out.trans (hb1'.mono HBR.out.size)⟩;rw[HIS.out,<-HEQ.out,HLOW.out]
    rfl
   ·obtain rfl:a=n:=by omega
    have HIS:Hid (zbj os id=false):=by unfold Hid zbj;rw[HLOW.out,ya1 (by have:=HN.out;omega)]
    go_wp2_with fail
    go_ret2
    refine⟨?_,hbr⟩;rw[HIS.out,HLOW.out]
    rfl
theorem zfV(b:BoxD)(r:RB)(id:ByteArray)(w:World)(hb:BoxOf w w.heap.size b r)(hr:Rising b.objs)(ob:b.Ok):
 Calls ye 80 #[r.val,.string id] w fun e w'=>e= .returned (.tuple #[.int .i64 (zx b.objs id:Nat),.bool (zbj b.objs id)])/\Below w.heap.size w w':=by
 have ho:=hb.objs;obtain⟨po,no,co,pt,nt,ct,sq,fl,kp⟩:=r;dsimp only[RB.val]at*;have hB:Below w.heap.size w (w.alloc (.cells #[.slice po no co,.slice pt nt ct,.int .i64 sq,.int .i64 fl,.int .i64 kp] 40)):=(Below.refl _ _).alloc (yd _) _;have HC:=yc (zha _ po no co b.objs id (ho.under hB hB.size) hr ob.objs);have HB:=yc hB;clear hb hr ob ho hB
 go_enter Tryz.func80,Tryz.ntmps80
 go_wp2_with (go_at_call 130;refine HC.out.mono ?_;rintro e w1 ⟨rfl,hb1⟩)
 go_ret2
 exact⟨rfl,HB.out.trans (hb1.mono HB.out.size)⟩
end
section
open Go Go.RowKit Go.OpenShut
theorem zjY(s:ByteArray)(a b:Nat):(s.extract a b).data.toList=(s.data.toList.drop a).take (b-a):=by
 rw[ByteArray.data_extract,Array.toList_extract]
end
end Go.Proofs.YtemofofnkchmeaaGreatDoor
