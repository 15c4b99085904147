import Derived.Test.YtemofofnkchmeaaGreatDoorL01
import Derived.Deep.DeepMust
import Derived.Test.YtemofofnkchmeaaGreatDoorL00
import Derived.Shelf.SlSortCmp.QuietGrown
import Derived.Shelf.SlSortCmp.WholeK
import Derived.Test.YtemofofnkchmeaaGreatDoorProg
import Derived.Shelf.SlSortCmp.Whole1
set_option linter.unusedSimpArgs false
set_option linter.unusedVariables false
set_option maxRecDepth 200000
set_option maxHeartbeats 8000000
namespace Go.Proofs.YtemofofnkchmeaaGreatDoor
open _root_.Go.Lib renaming hid->yc
open _root_.Nat renaming add_sub_cancel->ya0,le_refl->yd,zero_le->yu
open _root_.Go.Proofs.Tryz renaming prog->ye
section
open Go.RowKit Go.OpenShut
def zhQ(l:List En)(s:List UInt8):Option Value:=l.foldl (fun a e=>if s=e.id.data.toList then some (.int .i64 e.what)else a) none
theorem zmq{l:List En}{j:Nat}{y:En}(hy:l[j]? =some y):zhQ (l.take (j+1))=fun s=>if s=y.id.data.toList then some (.int .i64 y.what)else zhQ (l.take j) s:=by
 funext s
 rw[List.take_add_one,hy];simp[zhQ]
theorem zfE(a b:ByteArray):a.data.toList=b.data.toList↔a=b:=by
 obtain⟨⟨x⟩⟩:=a;obtain⟨⟨y⟩⟩:=b;simp
theorem zqZ(l:List En)(id:ByteArray):(zhQ l id.data.toList).getD (.int .i64 0)= .int .i64 (zhR l id):=by
 suffices ∀(l:List En) (o:Option Value) (a:Int),o.getD (.int .i64 0)= .int .i64 a->
  (l.foldl (fun a e=>if id.data.toList=e.id.data.toList then some (.int .i64 e.what)else a) o).getD (.int .i64 0)= .int .i64 (l.foldl (fun a e=>if e.id=id then e.what else a) a)from this l none 0 rfl
 intro l
 induction l with
 |nil=>intro o a h;exact h
 | cons e l ih =>
   intro o a h;simp only[List.foldl_cons];refine ih _ _ ?_;by_cases h1:e.id=id
   ·rw[if_pos h1,if_pos (by rw[h1])];rfl
   ·rw[if_neg h1,if_neg (fun e1=>h1 ((zfE _ _).1 e1).symm)];exact h
theorem zro(w:World):(zeroValue 3).run ye w= .ok (.int .i64 0) w:=by kernel_rfl
theorem zmC(w:World)(B:Nat)(v:Value)(l:List En)(floor seq:Int)(hv:RdE w B v l)(hf:(Lit.int .i64 floor).wf=true)(hs:(Lit.int .i64 seq).wf=true)(hh:zeW l.length floor seq=false):
 Calls ye 79 #[v,.int .i64 floor,.int .i64 seq] w fun e w'=>e= .returned (.bool (zdd l floor seq))/\Below w.heap.size w w':=by
 rw[zn7 hh];obtain⟨_,p,c,rfl,hlc,hcm,hp0,hp⟩:=hv;unfold maxLen at hcm;have b1:=bounds_i64 hf;have b2:=bounds_i64 hs
 have hd:0<=floor->floor<=seq->seq<=9007199254740991->((seq-floor !=(l.length:Int))=true):=by
  intro h1 h2 h3;unfold zeW at hh;simp only[decide_eq_false_iff_not]at hh;rw[bne_iff_ne];intro h4;exact hh ⟨h1,h2,h3,h4⟩
 clear hh hp hp0
 go_enter Tryz.func79,Tryz.ntmps79
 go_wp2_with fail
 all_goals (go_ret;exact⟨rfl,Below.refl _ _⟩)
theorem zoa(w:World)(v:Value)(l:List En)(floor seq:Int)(hv:RdE w w.heap.size v l)(hf:(Lit.int .i64 floor).wf=true)(hs:(Lit.int .i64 seq).wf=true)(hh:zeW l.length floor seq=true):
 Calls ye 79 #[v,.int .i64 floor,.int .i64 seq] w fun e w'=>e= .returned (.bool (zdd l floor seq))/\Below w.heap.size w w':=by
 obtain⟨hok,p,c,rfl,hlc,hcm,hp0,hp⟩:=hv;unfold maxLen at hcm;have HH:=yc hh;unfold zeW at hh;simp only[decide_eq_true_eq]at hh;obtain⟨h1,h2,h3,h4⟩:=hh;have hne:(seq-floor !=(l.length:Int))=false:=by rw[bne_eq_false_iff_eq];exact h4
 have hlen:(l.length:Int)<=9007199254740991:=by omega
 have h5:0<=seq:=by omega
 have hok':=yc hok;clear h4 hf hs hok;have hmm:= @run_makeMap ye;have HM0:=MapF.made w ye 9;have HB0:Below w.heap.size w (w.alloc (.map #[] 0)):=(Below.refl _ w).alloc (yd _) _
 go_enter Tryz.func79,Tryz.ntmps79
 go_wp2_with fail
 clear hmm
 go_loopw [32] (fun i wr=>∃k:Nat,k<=l.length/\i= .int .i64 k/\Hid (∀j,j<k->zfc l floor j=true)/\MapF wr ye 9 w.heap.size k (zhQ (l.take k))/\Below w.heap.size w wr) (fun i _=>l.length-(intOf i).toNat)
 case atStart=>exact⟨0,yu _,rfl,fun j hj=>by omega,HM0,HB0⟩
 case round=>
  obtain⟨k,hk,rfl,HO,HM,HB⟩:=hrel;by_cases hlt:k<l.length
  ·obtain⟨b1,o1,rfl,hb1,hc1⟩:=zhr (k:=k) hp0 hp (by omega)
   obtain⟨x,hx,g10,g11,g12⟩:=hc1 k hlt;have okx:=zrK hok'.out hx;have HX:=yc hx;have bx:=bounds_i64 okx.1;have bw:=bounds_i64 okx.2.2;have hxs:=okx.2.1;clear hx okx hp hp0 hc1;rw[<-HB.cell (p:=⟨_,_,none⟩) hb1]at g10 g11 g12
   have hlook:∀o,(Instr.lookup 192 (.map (some w.heap.size)) (.string x.id) false).run ye (wr.alloc o)= .ok (.int .i64 (zhR (l.take k) x.id)) (wr.alloc o):=by
    intro o;rw[(HM.alloc o).look Tryz.underlying9 Tryz.underlying192 (zro _) hxs,zqZ]
   have HT:=yc (zmq HX.out);have HOK:=yc (zlL (floor:=floor) HX.out);cases hsq:(x.seq !=floor+1+k)with
   | true =>
     have HBAD:Hid (zfc l floor k=false):=by
      rw[bne_iff_ne]at hsq;exact zpz HX.out (.inl hsq)
     go_wp2_with fail
     go_ret;exact⟨zbU (zh0 hlt HBAD.out).symm,HB.alloc HB.size _⟩
   | false =>
     cases hmay:zhk (zhR (l.take k) x.id) x.what with
     | false =>
       have HBAD:Hid (zfc l floor k=false):=by
        have:=HOK.out;rw[hmay,Bool.and_false]at this;exact this
       go_wp2_with (go_at_call 129;refine(zlK _ _ _).mono ?_;rintro e w' ⟨rfl,rfl⟩)
       go_ret;exact⟨zbU (zh0 hlt HBAD.out).symm,HB.alloc HB.size _⟩
     | true =>
       have hnx:Hid (∀j,j<k+1->zfc l floor j=true):=by
        intro j hj;by_cases e:j=k
        ·rw[e];have:=HOK.out;rw[hmay]at this;rw[bne_eq_false_iff_eq]at hsq;rw[this,hsq];simp
        ·exact HO.out j (by omega)
       have hkm:k<maxLen:=by unfold maxLen;omega
       have HM1:=HM.alloc (.cells #[.int .i64 x.seq,.string x.id,.int .i64 x.what] 144)
       go_wp2_with (first|(go_at_call 129;refine(zlK _ _ _).mono ?_;rintro e w' ⟨rfl,rfl⟩)|(at_mapUpdate;go_must (refine zfu _ rfl _ _ _ _ rfl 9 3 Tryz.underlying9 Tryz.underlying192 _ _ _ rfl HM1 hkm _ rfl hxs _ rfl ?_);intro w1 hM2 hg2))
       go_roundw
       case rel=>exact⟨k+1,by omega,by go_num,hnx,by rw[HT.out];exact hM2,(HB.alloc HB.size _).grown hg2 (by simp;have:=HB.size;omega) (fun j e=>by cases e;exact yd _)⟩
       case measure=>simp[intOf];omega
  ·obtain rfl:k=l.length:=by omega
   have HR:=yc (zmA HH.out HO.out)
   go_wp2_with fail
   go_ret;exact⟨zbU HR.out.symm,HB⟩
theorem zn9(w:World)(v:Value)(l:List En)(floor seq:Int)(hv:RdE w w.heap.size v l)(hf:(Lit.int .i64 floor).wf=true)(hs:(Lit.int .i64 seq).wf=true):
 Calls ye 79 #[v,.int .i64 floor,.int .i64 seq] w fun e w'=>e= .returned (.bool (zdd l floor seq))/\Below w.heap.size w w':=by
 cases hh:zeW l.length floor seq with
 |true=>exact zoa w v l floor seq hv hf hs hh
 |false=>exact zmC w _ v l floor seq hv hf hs hh
end
section
open Go.Shelf Go.RowKit Go.Lib Go.Sort
namespace SP
variable {P:Program} {α:Type} [Inhabited α]
theorem swapRange_z(k:Nat)(L:Lays P k)(enc:α->List Value)(g:Nat)(cb:Array Value)(blk off cap a b n:Nat)(d0 d:Array α)(w0 w:World)
 (R:RowK enc k w0 blk off d0) (hs:d0.size=d.size) (S:SWK enc k w0 blk off d w) (hab:a+n<=b) (hb:b+n<=d.size) (hsz:d.size<4611686018427387904) (s:Nat) (az bz nz:Int) (h0:s=d.size) (h1:az=a) (h2:bz=b) (h3:nz=n):
 Calls P 234 #[.slice (some ⟨blk,off,none⟩) s cap,.int .i64 az,.int .i64 bz,.int .i64 nz,.func (.func g) #[] cb] w fun e w'=>e= .returned (.tuple #[])/\SWK enc k w0 blk off (swr d a b n) w':=by
 subst h0 h1 h2 h3;exact swapRange_any k L enc g cb blk off cap a b n d0 d w0 w R hs S hab hb hsz
def RotPost(enc:α->List Value)(k:Nat)(w0:World)(blk off:Nat)(d:Array α)(a m b:Nat)(e:Ending)(w':World):Prop:=
 e= .returned (.tuple #[])/\∃d':Array α,SWK enc k w0 blk off d' w'/\PermIn a b d d'/\∀t,d'[t]! =z6 d a m b t
theorem rotate_any(k:Nat)(L:Lays P k)(enc:α->List Value)(g:Nat)(cb:Array Value)(blk off cap a m b:Nat)(d0 d:Array α)(w0 w:World)
 (R:RowK enc k w0 blk off d0) (hs:d0.size=d.size) (S:SWK enc k w0 blk off d w) (ham:a<m) (hmb:m<b) (hb:b<=d.size) (hsz:d.size<4611686018427387904):
 Calls P 211 #[.slice (some ⟨blk,off,none⟩) d.size cap,.int .i64 a,.int .i64 m,.int .i64 b,.func (.func g) #[] cb] w (RotPost enc k w0 blk off d a m b):=by
 have mixed:=L.mixed;have aE:=L.aE;have zE:=L.zE;have t0:=L.t0;have a0:=L.a0;have z0:=L.z0;have v0:=L.v0;have t3:=L.t3;have a3:=L.a3;have z3:=L.z3;have v3:=L.v3;have t4:=L.t4;have a4:=L.a4;have z4:=L.z4;have v4:=L.v4;have tS:=L.tS;have aS:=L.aS;have zS:=L.zS;have vS:=L.vS;have tC:=L.tC;have aC:=L.aC;have zC:=L.zC;have vC:=L.vC;have FG:=L.fRot;have eSwap:∀args w,(callFunc 234 args).run P w= .ok (.enter 234 args) w:=enters_of L.fSwap (by kernel_rfl) rfl
 have S0:Aside (SWK enc k w0 blk off d w):=S;have HSW:=yc (fun a b n (d:Array α) w=>swapRange_z k L enc g cb blk off cap a b n d0 d w0 w R)
 clear S;have hslot:Hid (m-(m-a)=a/\m+(b-m)=b):=by unfold Hid;omega
 go_enter FG,Tryz.ntmps211
 go_wp2_with fail
 go_loopg [10,11] (m-a+(b-m)) (fun kx s10 s11 wr=>∃(i j:Nat) (dk:Array α),s10= .int .i64 i/\s11= .int .i64 j/\0<i/\i<=m-a/\0<j/\j<=b-m/\i+j<=kx/\dk.size=d.size/\Aside (SWK enc k w0 blk off dk wr)/\Hid (PermIn a b d dk/\∀t,z6 dk (m-i) m (m+j) t=z6 d a m b t))
 case atStart=>exact⟨m-a,b-m,d,by congr 1;omega,by congr 1;omega,by omega,yd _,by omega,yd _,yd _,rfl,S0,permIn_refl _ _ _,fun t=>by rw[hslot.out.1,hslot.out.2]⟩
 case round=>
  clear S0;obtain⟨i,j,dk,rfl,rfl,hi0,hi,hj0,hj,hkx,hds,S1,HP⟩:=hrel
  rcases Nat.lt_trichotomy i j with hlt|heq|hgt
  ·have hne:((i:Int) !=(j:Int))=true:=by rw[bne_iff_ne];omega
   have hnz:¬(j:Int)<(i:Int):=by omega
   have HX:Hid (PermIn a b d (swr dk (m-i) (m+j-i) i)/\∀t,z6 (swr dk (m-i) (m+j-i) i) (m-i) m (m+(j-i)) t=z6 d a m b t):=
    ⟨permIn_trans _ _ _ _ _ HP.out.1 (zht dk _ _ i a b (by omega) (by omega) (by omega) (by omega) (by omega)),fun t=>(zr6 dk m i j t hlt (by omega) (by omega)).trans (HP.out.2 t)⟩
   go_wp2_with fail
   refine(HSW.out (m-i) (m+j-i) i dk _ (by omega) S1.out (by omega) (by omega) (by omega) _ _ _ _ (by omega) (by omega) (by omega) (by omega)).mono ?_
   rintro e w1 ⟨rfl,S2⟩
   go_wp2_with fail
   have S2':Aside (SWK enc k w0 blk off (swr dk (m-i) (m+j-i) i) w1):=S2;clear S2
   go_roundg (i+(j-i))
   case measure=>omega
   case rel=>exact⟨i,j-i,_,rfl,by congr 1;omega,by omega,by omega,by omega,by omega,by omega,by rw[zd9];exact hds,S2',HX⟩
  ·subst heq;have hne:((i:Int) !=(i:Int))=false:=by simp
   have HX:Hid (PermIn a b d (swr dk (m-i) m i)/\∀t,(swr dk (m-i) m i)[t]! =z6 d a m b t):=
    ⟨permIn_trans _ _ _ _ _ HP.out.1 (zht dk _ _ i a b (by omega) (by omega) (by omega) (by omega) (by omega)),fun t=>(zr4 dk m i t (by omega) (by omega)).trans (HP.out.2 t)⟩
   go_wp2_with fail
   refine(HSW.out (m-i) m i dk _ (by omega) S1.out (by omega) (by omega) (by omega) _ _ _ _ (by omega) (by omega) (by omega) (by omega)).mono ?_
   rintro e w1 ⟨rfl,S2⟩
   go_wp2_with fail
   go_end0
   exact⟨rfl,_,S2,HX.out.1,HX.out.2⟩
  ·have hne:((i:Int) !=(j:Int))=true:=by rw[bne_iff_ne];omega
   have hnz:(j:Int)<(i:Int):=by omega
   have HX:Hid (PermIn a b d (swr dk (m-i) m j)/\∀t,z6 (swr dk (m-i) m j) (m-(i-j)) m (m+j) t=z6 d a m b t):=
    ⟨permIn_trans _ _ _ _ _ HP.out.1 (zht dk _ _ j a b (by omega) (by omega) (by omega) (by omega) (by omega)),fun t=>(zr5 dk m i j t hgt (by omega) (by omega)).trans (HP.out.2 t)⟩
   go_wp2_with fail
   refine(HSW.out (m-i) m j dk _ (by omega) S1.out (by omega) (by omega) (by omega) _ _ _ _ (by omega) (by omega) (by omega) (by omega)).mono ?_
   rintro e w1 ⟨rfl,S2⟩
   go_wp2_with fail
   have S2':Aside (SWK enc k w0 blk off (swr dk (m-i) m j) w1):=S2;clear S2
   go_roundg (i-j+j)
   case measure=>omega
   case rel=>exact⟨i-j,j,_,by congr 1;omega,rfl,by omega,by omega,by omega,by omega,by omega,by rw[zd9];exact hds,S2',HX⟩
end SP
namespace SP
variable {P:Program} {α:Type} [Inhabited α]
def SymPost(enc:α->List Value)(k:Nat)(w0:World)(blk off:Nat)(lt:α->α->Bool)(d:Array α)(a b:Nat)(e:Ending)(w':World):Prop:=
 e= .returned (.tuple #[])/\∃d':Array α,SWK enc k w0 blk off d' w'/\PermIn a b d d'/\SortedIn lt a b d'
theorem sym_left(k:Nat)(L:Lays P k)(enc:α->List Value)(cf:α->α->Int)(lt:α->α->Bool)(Sw:SWO lt)(g:Nat)(cb:Array Value)(blk off cap a m b:Nat)(d0 d:Array α)(w0 w:World)
 (eg:∀args w,(callFunc g args).run P w= .ok (.enter g args) w) (hcmp:CmpLays P g cb enc k cf blk off d0.size w0)
 (R:RowK enc k w0 blk off d0) (hs:d0.size=d.size) (S:SWK enc k w0 blk off d w) (ham:m=a+1) (hmb:m<b) (hb:b<=d.size) (hsz:d.size<4611686018427387904)
 (h2:SortedIn lt m b d) (hx:∀i j,a<=i->i<m->m<=j->j<b->ltOf cf d[j]! d[i]! =lt d[j]! d[i]!):
 Calls P 181 #[.slice (some ⟨blk,off,none⟩) d.size cap,.int .i64 a,.int .i64 m,.int .i64 b,.func (.func g) #[] cb] w (SymPost enc k w0 blk off lt d a b):=by
 have mixed:=L.mixed;have aE:=L.aE;have zE:=L.zE;have t0:=L.t0;have a0:=L.a0;have z0:=L.z0;have v0:=L.v0;have t3:=L.t3;have a3:=L.a3;have z3:=L.z3;have v3:=L.v3;have t4:=L.t4;have a4:=L.a4;have z4:=L.z4;have v4:=L.v4;have tu:=L.tu;have au:=L.au;have zu:=L.zu;have vu:=L.vu;have tS:=L.tS;have aS:=L.aS;have zS:=L.zS;have vS:=L.vS;have tC:=L.tC;have aC:=L.aC;have zC:=L.zC;have vC:=L.vC;have FG:=L.fSym;have S0:Aside (SWK enc k w0 blk off d w):=S;have HC:Aside _:=hcmp;have HSW:=yc Sw;have HX:=yc hx;have H2:=yc h2;clear S hcmp Sw hx h2;subst ham;have hone:(((a+1:Nat):Int)-(a:Int)==1)=true:=by simp;omega
 have hone':((a:Int)+1-(a:Int)==1)=true:=by simp;omega
 go_enter FG,Tryz.ntmps181
 go_wp2_with fail
 go_loopg [10,11] (b-a) (fun kx s10 s11 wr=>∃(i j:Nat),s10= .int .i64 i/\s11= .int .i64 j/\a+1<=i/\i<=j/\j<=b/\j-i<=kx/\Aside (SWK enc k w0 blk off d wr)/\Hid (a+1<i->lt d[i-1]! d[a]! =true)/\Hid (j<b->lt d[j]! d[a]! =false))
 case atStart=>exact⟨a+1,b,by go_num,rfl,yd _,by omega,yd _,by omega,S0,fun h=>by omega,fun h=>by omega⟩
 case round=>
  clear S0;obtain⟨i,j,rfl,rfl,hi1,hij,hjb,hkx,S1,HA,HB⟩:=hrel;by_cases hlt:i<j
  ·have hltz:(i:Int)<(j:Int):=by omega
   have eh:(((i:Int)+(j:Int))/2).toNat=(i+j)/2:=by omega
   have ph:(0:Int)<=((i:Int)+(j:Int))/2:=by omega
   have bh:((i:Int)+(j:Int))/2<(d.size:Int):=by omega
   have ba:(a:Int)<(d.size:Int):=by omega
   have pa:(0:Int)<=(a:Int):=by omega
   have hh:i<=(i+j)/2/\(i+j)/2<j:=by omega
   obtain⟨xh,hxh⟩:∃x,d[(i+j)/2]! =x:=⟨_,rfl⟩;obtain⟨xa,hxa⟩:∃x,d[a]! =x:=⟨_,rfl⟩;have hcr:ltOf cf xh xa=lt xh xa:=by rw[<-hxh,<-hxa];exact HX.out a _ (yd _) (by omega) (by omega) (by omega)
   have lh:=S1.out.ld R hs.symm P ((i+j)/2) (by omega)
   have la:=S1.out.ld R hs.symm P a (by omega)
   rw[hxh]at lh;rw[hxa]at la;have hcg:=S1.out.cmp HC.out hs.symm xh xa;have GR:Aside (∀n os,SWK enc k w0 blk off d (grow (wr.drewN n) os)):=fun n os=>S1.out.grown n os
   have HXH:=yc hxh;have HXA:=yc hxa;have HCR:=yc hcr;clear hxh hxa hcr S1;by_cases hlv:cf xh xa<0
   ·have HA':Hid (a+1<(i+j)/2+1->lt d[(i+j)/2+1-1]! d[a]! =true):=fun _=>by
     rw[ya0,HXH.out,HXA.out,<-HCR.out];exact decide_eq_true hlv
    go_wp2_with fail
    go_quiet_grown (first|(go_at_fn g;refine Calls.grown_of (hcg _ _)))
    go_wp2_with fail
    go_roundg (j-((i+j)/2+1))
    case measure=>omega
    case rel=>exact⟨(i+j)/2+1,j,by first|rfl|(congr 1;omega),rfl,by omega,by omega,by omega,by omega,GR.out nq osq,HA',HB⟩
   ·have HB':Hid ((i+j)/2<b->lt d[(i+j)/2]! d[a]! =false):=fun _=>by
     rw[HXH.out,HXA.out,<-HCR.out];exact decide_eq_false hlv
    go_wp2_with fail
    go_quiet_grown (first|(go_at_fn g;refine Calls.grown_of (hcg _ _)))
    go_wp2_with fail
    go_roundg ((i+j)/2-i)
    case measure=>omega
    case rel=>exact⟨i,(i+j)/2,rfl,by first|rfl|(congr 1;omega),by omega,by omega,by omega,by omega,GR.out nq osq,HA,HB'⟩
  ·obtain rfl:i=j:=by omega
   have hltz:¬(i:Int)<(i:Int):=by omega
   have HI:=yc (zpc HSW.out H2.out hi1 hjb hb HA.out HB.out)
   go_wp2_with fail
   go_loopg [13] (i-a) (fun kx s13 wr2=>∃c:Nat,s13= .int .i64 ((a+c:Nat):Int)/\c<=i-1-a/\i-a-c<=kx/\Aside (SWK enc k w0 blk off (zdg d a c) wr2))
   case atStart=>exact⟨0,rfl,yu _,by omega,S1⟩
   case round=>
    clear S1;obtain⟨c,rfl,hc,hkx2,S1⟩:=hrel;by_cases hlt2:c<i-1-a
    ·have hltz2:((a+c:Nat):Int)<(i:Int)-1:=by omega
     have hds:(zdg d a c).size=d.size:=zez _ _ _
     generalize hdk:zdg d a c=dk at S1 hds
     have HDK:=yc hdk;clear hdk;have hacl:a+c+1<d.size:=by omega
     have HSTEP:Hid (swp dk (a+c) (a+c+1)=zdg d a (c+1)):=by unfold Hid;rw[zdg,HDK.out]
     generalize hac:a+c=ac at*
     have HAC:=yc hac;clear hac;have ea44:((ac:Int)+1).toNat=ac+1:=by omega
     have pa44:(0:Int)<=(ac:Int)+1:=by omega
     have ba44:(ac:Int)+1<(d.size:Int):=by omega
     have pc44:(0:Int)<=(ac:Int):=by omega
     have bc44:(ac:Int)<(d.size:Int):=by omega
     go_wp2_with fail
     have S2:Aside (SWK enc k w0 blk off (swp dk ac (ac+1)) ((wr.drew.setCells blk (off+ac*k) (enc dk[ac+1]!)).setCells blk (off+(ac+1)*k) (enc dk[ac]!))):=S1.out.swapped R ac (ac+1) (by omega) (by omega)
     have l44a:=S1.out.ld1 R (by omega) P ac (by omega)
     have l44b:=S1.out.ld1 R (by omega) P (ac+1) (by omega)
     have s44a:=S1.out.st1 R (by omega) P ac (by omega) dk[ac+1]!
     have s44b:=S1.out.st2 R (by omega) P ac (ac+1) (by omega) (by omega) dk[ac+1]! dk[ac]!
     have n44a:(enc dk[ac]!).length=k:=R.hk _;have n44b:(enc dk[ac+1]!).length=k:=R.hk _
     generalize enc dk[ac]! =cI44 at S2 l44a s44b n44a
     generalize enc dk[ac+1]! =cJ44 at S2 l44b s44a s44b n44b
     clear S1
     go_big_region_o
     clear l44a l44b s44a s44b
     generalize(wr.drew.setCells blk (off+ac*k) cJ44).setCells blk (off+(ac+1)*k) cI44=w2 at S2⊢
     go_wp2
     go_roundg (i-a-(c+1))
     case measure=>have:=HAC.out;omega
     case rel=>exact⟨c+1,by have:=HAC.out;first|rfl|(congr 1;omega),by have:=HAC.out;omega,by omega,by rw[HSTEP.out]at S2;exact S2⟩
    ·obtain rfl:c=i-1-a:=by omega
     have hltz2:¬((a+(i-1-a):Nat):Int)<(i:Int)-1:=by omega
     go_wp2_with fail
     go_end0
     exact⟨rfl,_,S1.out,zlZ d a _ a b (yd _) (by omega) hb,HI.out⟩
end SP
namespace SP
variable {P:Program} {α:Type} [Inhabited α]
theorem sym_right(k:Nat)(L:Lays P k)(enc:α->List Value)(cf:α->α->Int)(lt:α->α->Bool)(Sw:SWO lt)(g:Nat)(cb:Array Value)(blk off cap a m b:Nat)(d0 d:Array α)(w0 w:World)
 (eg:∀args w,(callFunc g args).run P w= .ok (.enter g args) w) (hcmp:CmpLays P g cb enc k cf blk off d0.size w0)
 (R:RowK enc k w0 blk off d0) (hs:d0.size=d.size) (S:SWK enc k w0 blk off d w) (ham:a+1<m) (hmb:b=m+1) (hb:b<=d.size) (hsz:d.size<4611686018427387904)
 (h1:SortedIn lt a m d) (hx:∀i j,a<=i->i<m->m<=j->j<b->ltOf cf d[j]! d[i]! =lt d[j]! d[i]!):
 Calls P 181 #[.slice (some ⟨blk,off,none⟩) d.size cap,.int .i64 a,.int .i64 m,.int .i64 b,.func (.func g) #[] cb] w (SymPost enc k w0 blk off lt d a b):=by
 have mixed:=L.mixed;have aE:=L.aE;have zE:=L.zE;have t0:=L.t0;have a0:=L.a0;have z0:=L.z0;have v0:=L.v0;have t3:=L.t3;have a3:=L.a3;have z3:=L.z3;have v3:=L.v3;have t4:=L.t4;have a4:=L.a4;have z4:=L.z4;have v4:=L.v4;have tu:=L.tu;have au:=L.au;have zu:=L.zu;have vu:=L.vu;have tS:=L.tS;have aS:=L.aS;have zS:=L.zS;have vS:=L.vS;have tC:=L.tC;have aC:=L.aC;have zC:=L.zC;have vC:=L.vC;have FG:=L.fSym;have S0:Aside (SWK enc k w0 blk off d w):=S;have HC:Aside _:=hcmp;have HSW:=yc Sw;have HX:=yc hx;have H1:=yc h1;clear S hcmp Sw hx h1;subst hmb;have hone:((m:Int)-(a:Int)==1)=false:=by rw[beq_eq_false_iff_ne];omega
 have hone2:(((m+1:Nat):Int)-(m:Int)==1)=true:=by rw[beq_iff_eq];omega
 have hone3:((m:Int)+1-(m:Int)==1)=true:=by rw[beq_iff_eq];omega
 go_enter FG,Tryz.ntmps181
 go_wp2_with fail
 go_loopg [14,15] (m-a) (fun kx s10 s11 wr=>∃(i j:Nat),s10= .int .i64 i/\s11= .int .i64 j/\a<=i/\i<=j/\j<=m/\j-i<=kx/\Aside (SWK enc k w0 blk off d wr)/\Hid (a<i->lt d[m]! d[i-1]! =false)/\Hid (j<m->lt d[m]! d[j]! =true))
 case atStart=>exact⟨a,m,rfl,rfl,yd _,by omega,yd _,by omega,S0,fun h=>by omega,fun h=>by omega⟩
 case round=>
  clear S0;obtain⟨i,j,rfl,rfl,hi1,hij,hjb,hkx,S1,HA,HB⟩:=hrel;by_cases hlt:i<j
  ·have hltz:(i:Int)<(j:Int):=by omega
   have eh:(((i:Int)+(j:Int))/2).toNat=(i+j)/2:=by omega
   have ph:(0:Int)<=((i:Int)+(j:Int))/2:=by omega
   have bh:((i:Int)+(j:Int))/2<(d.size:Int):=by omega
   have ba:(m:Int)<(d.size:Int):=by omega
   have pa:(0:Int)<=(m:Int):=by omega
   have hh:i<=(i+j)/2/\(i+j)/2<j:=by omega
   obtain⟨xh,hxh⟩:∃x,d[(i+j)/2]! =x:=⟨_,rfl⟩;obtain⟨xa,hxa⟩:∃x,d[m]! =x:=⟨_,rfl⟩;have hcr:ltOf cf xa xh=lt xa xh:=by rw[<-hxh,<-hxa];exact HX.out _ m (by omega) (by omega) (yd _) (by omega)
   have lh:=S1.out.ld R hs.symm P ((i+j)/2) (by omega)
   have la:=S1.out.ld R hs.symm P m (by omega)
   rw[hxh]at lh;rw[hxa]at la;have hcg:=S1.out.cmp HC.out hs.symm xa xh;have GR:Aside (∀n os,SWK enc k w0 blk off d (grow (wr.drewN n) os)):=fun n os=>S1.out.grown n os
   have HXH:=yc hxh;have HXA:=yc hxa;have HCR:=yc hcr;clear hxh hxa hcr S1;by_cases hlv:cf xa xh<0
   ·have HB':Hid ((i+j)/2<m->lt d[m]! d[(i+j)/2]! =true):=fun _=>by
     rw[HXH.out,HXA.out,<-HCR.out];exact decide_eq_true hlv
    go_wp2_with fail
    go_quiet_grown (first|(go_at_fn g;refine Calls.grown_of (hcg _ _)))
    go_wp2_with fail
    go_roundg ((i+j)/2-i)
    case measure=>omega
    case rel=>exact⟨i,(i+j)/2,rfl,by first|rfl|(congr 1;omega),by omega,by omega,by omega,by omega,GR.out nq osq,HA,HB'⟩
   ·have HA':Hid (a<(i+j)/2+1->lt d[m]! d[(i+j)/2+1-1]! =false):=fun _=>by
     rw[ya0,HXH.out,HXA.out,<-HCR.out];exact decide_eq_false hlv
    have hlv2:decide (cf xa xh<0)=false:=decide_eq_false hlv;have hlv3:0<=cf xa xh:=by omega
    go_wp2_with fail
    go_quiet_grown (first|(go_at_fn g;refine Calls.grown_of (hcg _ _)))
    go_wp2_with fail
    go_roundg (j-((i+j)/2+1))
    case measure=>omega
    case rel=>exact⟨(i+j)/2+1,j,by first|rfl|(congr 1;omega),rfl,by omega,by omega,by omega,by omega,GR.out nq osq,HA',HB⟩
  ·obtain rfl:i=j:=by omega
   have hltz:¬(i:Int)<(i:Int):=by omega
   have HI:=yc (znI HSW.out H1.out hi1 hjb (by omega) HA.out HB.out)
   go_wp2_with fail
   go_loopg [17] (m-i) (fun kx s13 wr2=>∃c:Nat,s13= .int .i64 ((m-c:Nat):Int)/\c<=m-i/\m-i-c<=kx/\Aside (SWK enc k w0 blk off (zdf d m c) wr2))
   case atStart=>exact⟨0,rfl,yu _,by omega,S1⟩
   case round=>
    clear S1;obtain⟨c,rfl,hc,hkx2,S1⟩:=hrel;by_cases hlt2:c<m-i
    ·have hds:(zdf d m c).size=d.size:=zey _ _ _
     generalize hdk:zdf d m c=dk at S1 hds
     have HDK:=yc hdk;clear hdk;have HSTEP:Hid (swp dk (m-c) (m-c-1)=zdf d m (c+1)):=by unfold Hid;rw[zdf,HDK.out]
     obtain⟨ac,hac⟩:∃ac,m-c=ac+1:=⟨m-c-1,by omega⟩
     rw[hac,ya0]at HSTEP;rw[hac];have hacl:ac+1<d.size:=by omega
     have hiac:i<=ac:=by omega
     have HAC:=yc hac;clear hac;have hltz2:(i:Int)<((ac+1:Nat):Int):=by omega
     have hltz3:(i:Int)<(ac:Int)+1:=by omega
     have ea44:((ac:Int)+1).toNat=ac+1:=by omega
     have pa44:(0:Int)<=(ac:Int)+1:=by omega
     have ba44:(ac:Int)+1<(d.size:Int):=by omega
     have pc44:(0:Int)<=(ac:Int):=by omega
     have bc44:(ac:Int)<(d.size:Int):=by omega
     have em44:(ac:Int)+1-1=(ac:Int):=by omega
     go_wp2_with fail
     have S2:Aside (SWK enc k w0 blk off (swp dk (ac+1) ac) ((wr.drew.setCells blk (off+(ac+1)*k) (enc dk[ac]!)).setCells blk (off+ac*k) (enc dk[ac+1]!))):=S1.out.swapped R (ac+1) ac (by omega) (by omega)
     have l44a:=S1.out.ld1 R (by omega) P (ac+1) (by omega)
     have l44b:=S1.out.ld1 R (by omega) P ac (by omega)
     have s44a:=S1.out.st1 R (by omega) P (ac+1) (by omega) dk[ac]!
     have s44b:=S1.out.st2 R (by omega) P (ac+1) ac (by omega) (by omega) dk[ac]! dk[ac+1]!
     have n44a:(enc dk[ac+1]!).length=k:=R.hk _;have n44b:(enc dk[ac]!).length=k:=R.hk _
     generalize enc dk[ac+1]! =cI44 at S2 l44a s44b n44a
     generalize enc dk[ac]! =cJ44 at S2 l44b s44a s44b n44b
     clear S1
     go_big_region_o
     clear l44a l44b s44a s44b
     generalize(wr.drew.setCells blk (off+(ac+1)*k) cJ44).setCells blk (off+ac*k) cI44=w2 at S2⊢
     go_wp2
     go_roundg (m-i-(c+1))
     case measure=>have:=HAC.out;omega
     case rel=>exact⟨c+1,by have:=HAC.out;first|rfl|(congr 1;omega),by have:=HAC.out;omega,by omega,by rw[HSTEP.out]at S2;exact S2⟩
    ·obtain rfl:c=m-i:=by omega
     have hmi:m-(m-i)=i:=by omega
     rw[hmi];have hltz2:¬(i:Int)<(i:Int):=by omega
     go_wp2_with fail
     go_end0
     exact⟨rfl,_,S1.out,zlY d m _ a (m+1) (by omega) (by omega) (by omega) hb,HI.out⟩
end SP
end
section
open Go Go.RowKit
def ofB(l:List UInt8):ByteArray:=⟨l.toArray⟩
def zb2(ss:List ByteArray):List ByteArray:=((ss.map (·.data.toList)).mergeSort fun x y=>decide (x<=y)).map ofB
theorem znX(b:ByteArray):ofB b.data.toList=b:=by cases b;simp[ofB]
theorem zjc(ss:List ByteArray):(zb2 ss).length=ss.length:=by simp[zb2]
theorem zh8(ss:List ByteArray):(zb2 ss).Perm ss:=by
 have h:=(List.mergeSort_perm (ss.map (·.data.toList)) fun x y=>decide (x<=y)).map ofB
 rw[List.map_map]at h;have e:(ofB∘fun b:ByteArray=>b.data.toList)=id:=by funext b;exact znX b
 rw[e,List.map_id]at h;exact h
end
section
open Go Go.Shelf
def zgA:Go.Shelf.Ren:=⟨fun|6=>44|15=>87|14=>89|28=>144|29=>145|20=>147|21=>148|22=>149|23=>150|24=>151|25=>152|26=>153|27=>154|46=>187|47=>183|48=>184|49=>188|50=>189|57=>213|n=>n,fun|22=>43|24=>80|25=>92|3=>3|39=>153|0=>0|53=>208|55=>210|4=>4|46=>202|45=>201|50=>133|5=>5|9=>9|66=>248|70=>252|76=>273|77=>274|n=>n,fun|n=>n⟩
theorem zh6:Go.Proofs.SlLaysF0.n6 ye zgA:={
 mixed:=by kernel_rfl
 f6:=⟨Tryz.f44.name,by decide,Tryz.func44.trans (congrArg some (by kernel_rfl))⟩
 f14:=⟨Tryz.f89.name,by decide,Tryz.func89.trans (congrArg some (by kernel_rfl))⟩
 f15:=Tryz.func87.trans (congrArg some (by kernel_rfl))
 f20:=⟨Tryz.f147.name,by decide,Tryz.func147.trans (congrArg some (by kernel_rfl))⟩
 f21:=⟨Tryz.f148.name,by decide,Tryz.func148.trans (congrArg some (by kernel_rfl))⟩
 f22:=⟨Tryz.f149.name,by decide,Tryz.func149.trans (congrArg some (by kernel_rfl))⟩
 f23:=⟨Tryz.f150.name,by decide,Tryz.func150.trans (congrArg some (by kernel_rfl))⟩
 f24:=⟨Tryz.f151.name,by decide,Tryz.func151.trans (congrArg some (by kernel_rfl))⟩
 f25:=⟨Tryz.f152.name,by decide,Tryz.func152.trans (congrArg some (by kernel_rfl))⟩
 f26:=⟨Tryz.f153.name,by decide,Tryz.func153.trans (congrArg some (by kernel_rfl))⟩
 f27:=⟨Tryz.f154.name,by decide,Tryz.func154.trans (congrArg some (by kernel_rfl))⟩
 f28:=Tryz.func144.trans (congrArg some (by kernel_rfl))
 f29:=Tryz.func145.trans (congrArg some (by kernel_rfl))
 f46:=⟨Tryz.f187.name,by decide,Tryz.func187.trans (congrArg some (by kernel_rfl))⟩
 f47:=Tryz.func183.trans (congrArg some (by kernel_rfl))
 f48:=Tryz.func184.trans (congrArg some (by kernel_rfl))
 f49:=⟨Tryz.f188.name,by decide,Tryz.func188.trans (congrArg some (by kernel_rfl))⟩
 f50:=⟨Tryz.f189.name,by decide,Tryz.func189.trans (congrArg some (by kernel_rfl))⟩
 f57:=⟨Tryz.f213.name,by decide,Tryz.func213.trans (congrArg some (by kernel_rfl))⟩
 t0:=Tryz.underlying0
 a0:=Tryz.isAgg0
 z0:=Tryz.sizeOf0
 v0:=Tryz.zeroValue0
 t3:=Tryz.underlying3
 a3:=Tryz.isAgg3
 z3:=Tryz.sizeOf3
 v3:=Tryz.zeroValue3
 t4:=Tryz.underlying4
 a4:=Tryz.isAgg4
 z4:=Tryz.sizeOf4
 v4:=Tryz.zeroValue4
 t5:=Tryz.underlying5
 a5:=Tryz.isAgg5
 z5:=Tryz.sizeOf5
 v5:=Tryz.zeroValue5
 t9:=Tryz.underlying9
 a9:=Tryz.isAgg9
 z9:=Tryz.sizeOf9
 v9:=Tryz.zeroValue9
 t22:=Tryz.underlying43
 a22:=Tryz.isAgg43
 z22:=Tryz.sizeOf43
 v22:=Tryz.zeroValue43
 t25:=Tryz.underlying92
 a25:=Tryz.isAgg92
 z25:=Tryz.sizeOf92
 v25:=Tryz.zeroValue92
 t39:=Tryz.underlying153
 a39:=Tryz.isAgg153
 z39:=Tryz.sizeOf153
 v39:=Tryz.zeroValue153
 t45:=Tryz.underlying201
 a45:=Tryz.isAgg201
 z45:=Tryz.sizeOf201
 v45:=Tryz.zeroValue201
 t46:=Tryz.underlying202
 a46:=Tryz.isAgg202
 z46:=Tryz.sizeOf202
 v46:=Tryz.zeroValue202
 t50:=Tryz.underlying133
 a50:=Tryz.isAgg133
 z50:=Tryz.sizeOf133
 v50:=Tryz.zeroValue133
 t53:=Tryz.underlying208
 a53:=Tryz.isAgg208
 z53:=Tryz.sizeOf208
 v53:=Tryz.zeroValue208
 t55:=Tryz.underlying210
 a55:=Tryz.isAgg210
 z55:=Tryz.sizeOf210
 v55:=Tryz.zeroValue210
 t66:=Tryz.underlying248
 a66:=Tryz.isAgg248
 z66:=Tryz.sizeOf248
 v66:=Tryz.zeroValue248
 t70:=Tryz.underlying252
 a70:=Tryz.isAgg252
 z70:=Tryz.sizeOf252
 v70:=Tryz.zeroValue252
 t76:=Tryz.underlying273
 a76:=Tryz.isAgg273
 z76:=Tryz.sizeOf273
 v76:=Tryz.zeroValue273
 t77:=Tryz.underlying274
 a77:=Tryz.isAgg274
 z77:=Tryz.sizeOf274
 v77:=Tryz.zeroValue274}
def zjd:Go.Shelf.Ren:=⟨fun|6=>42|15=>87|14=>86|28=>144|29=>145|20=>136|21=>137|22=>138|23=>139|24=>140|25=>141|26=>142|27=>143|46=>182|47=>183|48=>184|49=>185|50=>186|57=>212|n=>n,fun|22=>42|24=>9|25=>90|3=>3|39=>153|0=>0|53=>208|55=>210|4=>4|46=>202|45=>201|50=>133|5=>5|9=>9|66=>248|70=>252|76=>273|77=>274|n=>n,fun|n=>n⟩
theorem zh7:Go.Proofs.SlLaysF.n6 ye zjd:={
 mixed:=by kernel_rfl
 f6:=⟨Tryz.f42.name,by decide,Tryz.func42.trans (congrArg some (by kernel_rfl))⟩
 f14:=⟨Tryz.f86.name,by decide,Tryz.func86.trans (congrArg some (by kernel_rfl))⟩
 f15:=Tryz.func87.trans (congrArg some (by kernel_rfl))
 f20:=⟨Tryz.f136.name,by decide,Tryz.func136.trans (congrArg some (by kernel_rfl))⟩
 f21:=⟨Tryz.f137.name,by decide,Tryz.func137.trans (congrArg some (by kernel_rfl))⟩
 f22:=⟨Tryz.f138.name,by decide,Tryz.func138.trans (congrArg some (by kernel_rfl))⟩
 f23:=⟨Tryz.f139.name,by decide,Tryz.func139.trans (congrArg some (by kernel_rfl))⟩
 f24:=⟨Tryz.f140.name,by decide,Tryz.func140.trans (congrArg some (by kernel_rfl))⟩
 f25:=⟨Tryz.f141.name,by decide,Tryz.func141.trans (congrArg some (by kernel_rfl))⟩
 f26:=⟨Tryz.f142.name,by decide,Tryz.func142.trans (congrArg some (by kernel_rfl))⟩
 f27:=⟨Tryz.f143.name,by decide,Tryz.func143.trans (congrArg some (by kernel_rfl))⟩
 f28:=Tryz.func144.trans (congrArg some (by kernel_rfl))
 f29:=Tryz.func145.trans (congrArg some (by kernel_rfl))
 f46:=⟨Tryz.f182.name,by decide,Tryz.func182.trans (congrArg some (by kernel_rfl))⟩
 f47:=Tryz.func183.trans (congrArg some (by kernel_rfl))
 f48:=Tryz.func184.trans (congrArg some (by kernel_rfl))
 f49:=⟨Tryz.f185.name,by decide,Tryz.func185.trans (congrArg some (by kernel_rfl))⟩
 f50:=⟨Tryz.f186.name,by decide,Tryz.func186.trans (congrArg some (by kernel_rfl))⟩
 f57:=⟨Tryz.f212.name,by decide,Tryz.func212.trans (congrArg some (by kernel_rfl))⟩
 t0:=Tryz.underlying0
 a0:=Tryz.isAgg0
 z0:=Tryz.sizeOf0
 v0:=Tryz.zeroValue0
 t3:=Tryz.underlying3
 a3:=Tryz.isAgg3
 z3:=Tryz.sizeOf3
 v3:=Tryz.zeroValue3
 t4:=Tryz.underlying4
 a4:=Tryz.isAgg4
 z4:=Tryz.sizeOf4
 v4:=Tryz.zeroValue4
 t5:=Tryz.underlying5
 a5:=Tryz.isAgg5
 z5:=Tryz.sizeOf5
 v5:=Tryz.zeroValue5
 t9:=Tryz.underlying9
 a9:=Tryz.isAgg9
 z9:=Tryz.sizeOf9
 v9:=Tryz.zeroValue9
 t22:=Tryz.underlying42
 a22:=Tryz.isAgg42
 z22:=Tryz.sizeOf42
 v22:=Tryz.zeroValue42
 a24:=Tryz.isAgg9
 z24:=Tryz.sizeOf9
 t25:=Tryz.underlying90
 a25:=Tryz.isAgg90
 z25:=Tryz.sizeOf90
 v25:=Tryz.zeroValue90
 t39:=Tryz.underlying153
 a39:=Tryz.isAgg153
 z39:=Tryz.sizeOf153
 v39:=Tryz.zeroValue153
 t45:=Tryz.underlying201
 a45:=Tryz.isAgg201
 z45:=Tryz.sizeOf201
 v45:=Tryz.zeroValue201
 t46:=Tryz.underlying202
 a46:=Tryz.isAgg202
 z46:=Tryz.sizeOf202
 v46:=Tryz.zeroValue202
 t50:=Tryz.underlying133
 a50:=Tryz.isAgg133
 z50:=Tryz.sizeOf133
 v50:=Tryz.zeroValue133
 t53:=Tryz.underlying208
 a53:=Tryz.isAgg208
 z53:=Tryz.sizeOf208
 v53:=Tryz.zeroValue208
 t55:=Tryz.underlying210
 a55:=Tryz.isAgg210
 z55:=Tryz.sizeOf210
 v55:=Tryz.zeroValue210
 t66:=Tryz.underlying248
 a66:=Tryz.isAgg248
 z66:=Tryz.sizeOf248
 v66:=Tryz.zeroValue248
 t70:=Tryz.underlying252
 a70:=Tryz.isAgg252
 z70:=Tryz.sizeOf252
 v70:=Tryz.zeroValue252
 t76:=Tryz.underlying273
 a76:=Tryz.isAgg273
 z76:=Tryz.sizeOf273
 v76:=Tryz.zeroValue273
 t77:=Tryz.underlying274
 a77:=Tryz.isAgg274
 z77:=Tryz.sizeOf274
 v77:=Tryz.zeroValue274}
end
end Go.Proofs.YtemofofnkchmeaaGreatDoor
