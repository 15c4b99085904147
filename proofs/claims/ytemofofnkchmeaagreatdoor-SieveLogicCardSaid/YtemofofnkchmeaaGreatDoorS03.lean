import Derived.Test.YtemofofnkchmeaaGreatDoorL10
import Derived.Test.YtemofofnkchmeaaGreatDoorL04
import Derived.Test.YtemofofnkchmeaaGreatDoorS00
import Derived.Test.YtemofofnkchmeaaGreatDoorL02
import Derived.Test.YtemofofnkchmeaaGreatDoorS01
import Derived.Test.YtemofofnkchmeaaGreatDoorL07
import Derived.Deep.RegionHeld3
import Derived.Deep.DeepCutAuto
import Derived.Deep.CutRange
import Derived.BigQuiet
import Derived.Deep.QuietTactic
import Derived.Outline
import Derived.OpenShut
import Derived.Test.YtemofofnkchmeaaGreatDoorL13
import Derived.Deep.LoopGhost
import Derived.Test.YtemofofnkchmeaaGreatDoorL24
import Derived.Test.YtemofofnkchmeaaGreatDoorL01
import Derived.Maps.OwnSet
import Derived.WalkKit
import Derived.StringKeys
import Derived.Deep.Draws
import Derived.Test.YtemofofnkchmeaaGreatDoorL20
import Derived.Deep.CutBlock
set_option linter.unusedSimpArgs false
set_option linter.unusedVariables false
set_option maxRecDepth 200000
set_option maxHeartbeats 8000000
namespace Go.Proofs.YtemofofnkchmeaaGreatDoor
open _root_.Go.RowKit.Below renaming heap_alloc->yn
open _root_.Bool renaming and_eq_true->yk
open _root_.Int renaming natCast_nonneg->ye
open _root_.Go.Lib renaming hid->yb
open _root_.List renaming length_singleton->ym
open _root_.Nat renaming le_refl->yc,le_trans->yj,lt_of_lt_of_le->yl,zero_le->yt
open _root_.Option renaming map_eq_some_iff->yg
open _root_.Go.Proofs.Tryz renaming prog->ya
section
open Go Go.RowKit Go.OpenShut
theorem ztT{c:UInt8}(h:zsk c=true):32<=c.toNat/\c.toNat<128/\c.toNat≠34/\c.toNat≠92:=by
 unfold zsk at h;simp only[yk,decide_eq_true_eq]at h;exact⟨h.1.1.1,h.1.1.2,h.1.2,h.2⟩
theorem ztB{s:ByteArray}{i:Nat}(hi:i<s.size)(h:s[i]!.toNat<128):(zng s i).2=1:=by
 rw[zhg s i hi]at h;have hz:szN s[i].toNat=1:=by unfold szN;rw[if_pos h]
 rw[zsa hi,hz,if_neg (by omega)]
 rfl
theorem zsS{s:ByteArray}{a k:Nat}(h1:a<=k)(h2:k<s.size):(s.data.toList.drop a).take (k+1-a)=(s.data.toList.drop a).take (k-a)++[s[k]!]:=by
 rw[show k+1-a=(k-a)+1 by omega,List.take_add_one]
 congr 1
 rw[List.getElem?_drop,show a+(k-a)=k by omega,List.getElem?_eq_getElem (by rw[Array.length_toList];exact h2),zhg s k h2]
 rfl
theorem zsC{s:ByteArray}{k:Nat}(h:k<s.size):(s.extract k (k+1)).data.toList=[s[k]!]:=by
 have h1:=zsS (s:=s) (a:=k) (k:=k) (yc _) h;rw[zjY,h1,Nat.sub_self]
 rfl
theorem zs7(s:ByteArray)(i j:Nat)(w:World)(hs:s.size<=65536)(hij:i<j)(hj:j<s.size)(h0:s[i]!.toNat=34)(hm:∀k,i<k->k<j->zsk s[k]! =true)(h1:s[j]!.toNat=34):
 Calls ya 167 #[.string s,.int .i64 i] w fun e w'=>e= .returned (.tuple #[.string (zsb s (i+1) j),.int .i64 ((j:Int)+1),.int .i64 0])/\Below w.heap.size w w':=by
 have hi:i<s.size:=by omega
 rw[zhg s i hi]at h0;have HM:Hid (∀k,i<k->k<j->zsk s[k]! =true):=hm;have HJ:Hid (s[j]!.toNat=34):=h1;have HIJ:Hid (i<j/\j<s.size/\s.size<=65536):=⟨hij,hj,hs⟩;have a0:(0:Int)<=(i:Int):=ye _;have a1:(i:Int)<(s.size:Int):=by omega
 have a2:i<4398046510976:=by omega
 have q1:decide ((i:Int)<0)=false:=by simp
 have q2:decide (s.size<=i)=false:=by simp;omega
 clear hm h1
 go_enter Tryz.func167,Tryz.ntmps167
 go_wp2_with fail
 go_loopw [7,8] (fun v o wr=>∃k:Nat,i+1<=k/\k<=j/\o= .int .i64 (k:Int)/\Hid (zsr wr w.heap.size v ((s.data.toList.drop (i+1)).take (k-(i+1)))/\Below w.heap.size w wr)) (fun _ o _=>j-(intOf o).toNat)
 case atStart=>exact⟨i+1,yc _,by omega,by go_num,by rw[Nat.sub_self];exact Own.nil _ _ _,Below.refl _ _⟩
 case round=>
  obtain⟨k,hk1,hk2,rfl,hown⟩:=hrel;have b0:(0:Int)<=(k:Int):=ye _;have b1:(k:Int)<(s.size:Int):=by omega
  have b2:k<s.size:=by omega
  by_cases hkj:k=j
  ·subst hkj;have hc:=HJ.out;rw[zhg s k b2]at hc;have e1:(((s[k].toNat:Nat):Int)==34)=true:=by simp;omega
   have hst:=ztq hown.out.1;clear hc
   go_wp2_with fail
   go_ret3
   exact⟨rfl,hown.out.2⟩
  ·have hok:=ztT (HM.out k (by omega) (by omega))
   rw[zhg s k b2]at hok;have e1:(((s[k].toNat:Nat):Int)==34)=false:=by simp;omega
   have e2:decide (((s[k].toNat:Nat):Int)<32)=false:=by simp;omega
   have e3:(((s[k].toNat:Nat):Int)==92)=false:=by simp;omega
   have h1:=ztB b2 (by rw[zhg s k b2];omega)
   have HON:=yb (zug s k wr (by unfold maxLen;omega) b2)
   rw[h1]at HON;clear hok h1
   go_wp2_with fail
   refine HON.out.mono ?_;rintro e w2 ⟨rfl,rfl⟩
   have HL:Hid (((s.data.toList.drop (i+1)).take (k-(i+1))).length+(s.extract k (k+1)).size<=140737488355328):=by
    unfold Hid;rw[List.length_take,<-zdA (s.extract k (k+1)),zsC b2,ym];have h1:(s.data.toList.drop (i+1)).length<=s.size:=by rw[List.length_drop,zdA];omega
    omega
   go_wp2_with (at_builtin;refine zsp _ rfl _ _ rfl rfl rfl hown.out.1 HL.out hown.out.2.size ?_;intro v3 w3 ho3 hg3)
   rw[zsC b2,<-zsS (by omega) b2]at ho3
   go_roundw
   case rel=>exact⟨k+1,by omega,by omega,by go_num,ho3,Below.appended hown.out.2 hg3 hown.out.1 hown.out.2.size⟩
   case measure=>simp[intOf];omega
theorem zsw:∀(f:Nat),(∀(d p:Nat) (ts:List Tok) (v:JV) (q:Nat) (r:List Tok),zek f d p ts=some (v,q,r)->p<q/\q<=8192/\d<=16)/\
 (∀(d p:Nat) (ts:List Tok) (l:List JV) (q:Nat) (r:List Tok),ziM f d p ts=some (l,q,r)->p<q/\q<=8192)/\
 (∀(d p:Nat) (k:List ByteArray) (ts:List Tok) (l:List (ByteArray×JV)) (q:Nat) (r:List Tok),zfj f d p k ts=some (l,q,r)->p<q/\q<=8192)
 |0=>⟨fun d p ts v q r h=>by cases ts<;>simp[zek]at h,fun d p ts l q r h=>by simp[ziM]at h,fun d p k ts l q r h=>by simp[zfj]at h⟩
 | f + 1 => by
   have ih:=zsw f;refine⟨fun d p ts v q r h=> ?_,fun d p ts l q r h=> ?_,fun d p k ts l q r h=> ?_⟩
   ·cases ts with
    |nil=>simp[zek]at h
    | cons t ts =>
      unfold zek at h
      split at h
      ·cases h
      ·rename_i hc;have hc2:d<=16/\p<8192:=by omega
       split at h
       ·cases h;omega
       ·split at h
        ·split at h
         ·cases h;omega
         ·split at h<;>(cases h;omega)
        ·split at h
         ·cases ts with
          |nil=>cases h
          | cons c r' =>
            dsimp only at h
            split at h
            ·cases h;omega
            ·obtain⟨x,hx,he⟩:=yg.1 h;cases he;have:=ih.2.1 _ _ _ _ _ _ (show ziM f d (p+1) (c::r')=some (x.1,x.2.1,x.2.2)from hx)
             omega
         ·split at h
          ·cases ts with
           |nil=>cases h
           | cons c r' =>
             dsimp only at h
             split at h
             ·cases h;omega
             ·obtain⟨x,hx,he⟩:=yg.1 h;cases he;have:=ih.2.2 _ _ _ _ _ _ _ (show zfj f d (p+1) [] (c::r')=some (x.1,x.2.1,x.2.2)from hx)
              omega
          ·split at h
           ·cases h;omega
           ·cases h
   ·unfold ziM at h
    split at h
    ·rename_i v p' c r' hv;have h1:=ih.1 _ _ _ _ _ _ hv
     split at h
     ·cases h;omega
     ·split at h
      ·obtain⟨x,hx,he⟩:=yg.1 h;cases he;have:=ih.2.1 _ _ _ _ _ _ (show ziM f d p' r'=some (x.1,x.2.1,x.2.2)from hx)
       omega
      ·cases h
    ·cases h
   ·match ts,h with
    |[],h=>simp[zfj]at h
    |[_],h=>simp[zfj]at h
    | n :: col :: ts, h =>
      unfold zfj at h
      split at h
      ·split at h
       ·rename_i v p' c r' hv;have h1:=ih.1 _ _ _ _ _ _ hv
        split at h
        ·cases h;omega
        ·split at h
         ·obtain⟨x,hx,he⟩:=yg.1 h;cases he;have:=ih.2.2 _ _ _ _ _ _ _ (show zfj f d p' (n.s::k) r'=some (x.1,x.2.1,x.2.2)from hx)
          omega
         ·cases h
       ·cases h
      ·cases h
theorem ztE{f d p:Nat}{ts:List Tok}{l:List JV}{q:Nat}{r:List Tok}(h:ziM f d p ts=some (l,q,r)):
 ∃f' t ts' v p' c r',f=f'+1/\ts=t::ts'/\zek f' (d+1) p (t::ts')=some (v,p',c::r')/\p<p'/\p'<=8192/\((isM c 93=true/\l=[v]/\q=p'/\r=r')\/(isM c 93=false/\isM c 44=true/\∃l',l=v::l'/\ziM f' d p' r'=some (l',q,r))):=by
 cases f with
 |zero=>simp[ziM]at h
 | succ f =>
   unfold ziM at h
   split at h
   ·rename_i v p' c r' hv;have hb:=(zsw f).1 _ _ _ _ _ _ hv;cases ts with
    |nil=>cases f<;>simp[zek]at hv
    | cons t ts =>
      refine⟨f,t,ts,v,p',c,r',rfl,rfl,hv,hb.1,hb.2.1,?_⟩
      split at h
      ·cases h;exact .inl ⟨‹_›,rfl,rfl,rfl⟩
      ·rename_i h9
       split at h
       ·rename_i h4;obtain⟨x,hx,he⟩:=yg.1 h;cases he;exact .inr ⟨by simpa using h9,h4,x.1,rfl,hx⟩
       ·cases h
   ·cases h
def PV (N : Nat) : Prop := ∀ f, f <= N -> ∀ (d p : Nat) (t : Tok) (ts : List Tok) (v : JV) (q : Nat) (r : List Tok), zek f d p (t :: ts) = some (v, q, r) -> ∀ (w : World) (g en : Nat), RdS w g ts en p ->
    Calls ya 59 #[.pointer (some ⟨g,0,none⟩),t.val,.int .i64 d] w (zoZ w g v r en q)
def LstR(w:World)(g:Nat)(l:List JV)(ts:List Tok)(en pa:Nat)(e:Ending)(w':World):Prop:=∃p n c,e= .returned (.slice p n c)/\GrL w' w.heap.size (.slice p n c) l/\RdS w' g ts en pa/\w.grownBy w' (some g)
theorem _root_.Go.World.grownBy.own_row{w w1 w2:World}{row r2:Option Nat}(h:w.grownBy w1 row)(h2:w1.grownBy w2 r2)(hx:∀k,r2=some k->w.heap.size<=k):w.grownBy w2 row:=
 ⟨h2.os.trans h.os,h2.tape.trans h.tape,h2.output.trans h.output,yj h.size h2.size,fun k hk hne=>(h2.block k (yl hk h.size) (fun e=>by have:=hx k e.symm;omega)).trans (h.block k hk hne)⟩
theorem zty(w:World)(g en pa deep:Nat)(c:Tok)(r:List Tok)(h:RdS w g (c::r) en pa)(hc:isM c 93=true):Calls ya 108 #[.pointer (some ⟨g,0,none⟩),.int .i64 deep] w (LstR w g [] r en pa):=by
 have HP:=yb (zse w g en pa c r 93 true h hc);have HN:Hid (∀W,Below w.heap.size w W->Calls ya 60 #[.pointer (some ⟨g,0,none⟩)] W (zeN W g c r en pa)):=fun W hb=>zdZ W g en pa c r (h.kept (hb.gbr none) (fun k e=>by cases e))
 clear h hc
 go_enter Tryz.func108,Tryz.ntmps108
 go_wp2_with (first
  |(go_at_call 171;refine HP.out.mono ?_;rintro e w1 ⟨rfl,hb1⟩)
  |(go_at_call 60;refine(HN.out _ hb1).mono ?_;rintro e w2 ⟨rfl,hr2,hg2⟩))
 go_ret;exact⟨none,0,0,rfl,GrL.nil _ _,hr2,((hb1.gbr none).keep_some hg2)⟩
theorem ztz(N:Nat)(hV:PV N)(w:World)(g en pa deep f0:Nat)(c:Tok)(r:List Tok)(l:List JV)(q:Nat)(rest:List Tok)(h:RdS w g (c::r) en pa)(hd:deep<=16)(hc:isM c 93=false)(hf:f0<=N)(hl:ziM f0 deep pa (c::r)=some (l,q,rest)):
 Calls ya 108 #[.pointer (some ⟨g,0,none⟩),.int .i64 deep] w (LstR w g l rest en q):=by
 have hgl:=h.lt;have HP:=yb (zse w g en pa c r 93 false h hc);have HL:=yb hl;have H0:=yb h;have hd0:(0:Int)<=(deep:Int):=ye _;have hd1:(deep:Int)<=16:=by omega
 have HV:Hid (∀f,f<=N->∀(p:Nat) (t:Tok) (ts:List Tok) (v:JV) (q:Nat) (r:List Tok),zek f (deep+1) p (t::ts)=some (v,q,r)->∀(w:World),RdS w g ts en p->
  Calls ya 59 #[.pointer (some ⟨g,0,none⟩),t.val,.int .i64 ((deep:Int)+1)] w (zoZ w g v r en q)):=fun f hf p t ts v q r hp w hr=>hV f hf (deep+1) p t ts v q r hp w g en hr
 clear h hc hl hd hV
 go_enter Tryz.func108,Tryz.ntmps108
 go_wp2_with (go_at_call 171;refine HP.out.mono ?_;rintro e w1 ⟨rfl,hb1⟩)
 have HB1:=yb hb1;clear hb1
 go_loopg [5] f0 (fun gk o wr=>gk<=N/\∃ts1 pa1 l1 l2,Hid (ziM gk deep pa1 ts1=some (l2,q,rest)/\l=l1++l2/\RdS wr g ts1 en pa1/\GrL wr w.heap.size o l1/\l1.length<=pa1/\w.grownBy wr (some g)))
 case atStart=>exact⟨hf,c::r,pa,[],l,HL.out,rfl,H0.out.kept (HB1.out.gbr none) (fun k e=>by cases e),GrL.nil _ _,yt _,HB1.out.gbr _⟩
 case round=>
  obtain⟨hgk,ts1,pa1,l1,l2,hH⟩:=hrel;obtain⟨hpl,hll,hrs,hgr,hlen,hgw⟩:=hH.out;clear hH;obtain⟨f',t,ts',v,p',c1,r',rfl,rfl,hpv,hp1,hp2,hcase⟩:=ztE hpl;obtain⟨po,no,co,rfl,hno,hlt⟩:=hgr.own;have HNX:=yb (zdZ wr g en pa1 t ts' hrs);have HVA:Hid (∀W,RdS W g ts' en pa1->Calls ya 59 #[.pointer (some ⟨g,0,none⟩),t.val,.int .i64 ((deep:Int)+1)] W (zoZ W g v (c1::r') en p')):=fun W hr=>HV.out f' (by omega) pa1 t ts' v p' (c1::r') hpv W hr
  have HLEN:Hid (l1.length<p'/\p'<=8192):=⟨by omega,hp2⟩
  have HCASE:=yb hcase;have HLL:=yb hll;have HGR:=yb hgr;have HGW:=yb hgw;have HRS:=yb hrs;have HNO:=yb hno;clear hpl hpv hcase hll hgr hgw hno hlt hlen hp1 hp2 hrs;have HN2:Hid (∀W,RdS W g (c1::r') en p'->Calls ya 60 #[.pointer (some ⟨g,0,none⟩)] W (zeN W g c1 r' en p')):=fun W hr=>zdZ W g en p' c1 r' hr
  obtain⟨tk,tn,tS,tp⟩:=t;obtain⟨ck,cn,cS,cp⟩:=c1;dsimp only[Tok.val,zeN]at*
  go_upto_region 6 with(first
   |(go_at_call 60;refine HNX.out.mono ?_;rintro e w2 ⟨rfl,hr2,hg2⟩)
   |(go_at_call 59;refine(HVA.out _ hr2).mono ?_;rintro e w3 ⟨rv,rfl,ht3,hr3,hg3⟩;(have hgr3:=(HGR.out.other hg2 hgl).other hg3 hgl);obtain⟨rs,hO3,hl3,hT3⟩:=hgr3.ex;obtain⟨vk,vn,vs,vpl,vnl,vcl,vpm,vnm,vcm⟩:=rv;(have HL3:=yb hl3);(have HT3:=yb hT3);(have HS3:Hid (w.heap.size<=w2.heap.size/\w2.heap.size<=w3.heap.size/\wr.heap.size<=w2.heap.size):=⟨yj HGW.out.size hg2.size,hg3.size,hg2.size⟩);clear hl3 hT3 hgr3)
   |(at_builtin;refine zk slV zb8 (w3.alloc (.cells #[.int .i64 vk,.int .i64 vn,.string vs,.slice vpl vnl vcl,.slice vpm vnm vcm] 25)) rfl (.tmp 11) (.tmp 18) rfl (v:= .slice po no co) rfl rfl (hO3.alloc _) (Rd.one (B:=w3.heap.size+1) (x:=(⟨vk,vn,vs,vpl,vnl,vcl,vpm,vnm,vcm⟩:RV)) zb8 (heap_alloc_new _ _) rfl (by omega)) (by have:=HLEN.out;have:=HL3.out;simp only[ym];unfold maxLen;omega) (by have:=HLEN.out;have:=HL3.out;simp only[ym];omega) (by have:=HS3.out;simp;omega) ?_;intro v4 w4 ho4 hg4 hat4))
  have hlt:=HGR.out.own
  have hgr4:GrL w4 w.heap.size v4 (l1++[v]):=by
   obtain⟨_,_,_,hv,_,hlt⟩:=hlt;cases hv;refine GrL.snoc hO3 HL3.out HT3.out (ht3.mono (fun k hk=>⟨by have:=hk.1;have:=HS3.out;omega,hk.2,fun e=>by have:=(hlt k e).2;have:=hk.1;have:=HS3.out;omega⟩)) ho4 ((World.grownBy_alloc _ _ _).trans hg4) (fun k e=> ?_)
   rcases hat4 with h|h
   ·exact .inl (h▸e)
   ·rw[h]at e;cases e;exact .inr (by simp)
  have hrow:∀k,(Value.slice po no co).ownBlock=some k->w.heap.size<=k:=fun k e=>by
   obtain⟨_,_,_,hv,_,hlt⟩:=hlt;cases hv;exact(hlt k e).1
  have hr4:=(hr3.kept (World.grownBy_alloc w3 (.cells #[.int .i64 vk,.int .i64 vn,.string vs,.slice vpl vnl vcl,.slice vpm vnm vcm] 25) none) (fun k e=>by cases e)).kept hg4 (fun k e=>by have:=hrow k e;omega)
  have hg4':=((HGW.out.trans (hg2.trans hg3)).own_row (World.grownBy_alloc w3 (.cells #[.int .i64 vk,.int .i64 vn,.string vs,.slice vpl vnl vcl,.slice vpm vnm vcm] 25) none) (fun k e=>by cases e)).own_row hg4 hrow
  obtain⟨p4,n4,c4,rfl,hn4,hlt4⟩:=hgr4.own;have HGR4:=yb hgr4;have HR4:=yb hr4;have HG4:=yb hg4';clear hgr4 hr4 hg4' hn4 hlt4 hlt hrow hg4 ho4 hat4 hO3 HT3 HL3 ht3 hr3 hg3 hr2 hg2 HNX HVA
  go_upto_region 7 with(go_at_call 60;refine(HN2.out _ HR4.out).mono ?_;rintro e w5 ⟨rfl,hr5,hg5⟩)
  have hT5:TokAt (w5.alloc (.cells #[.int .i64 ck,.int .i64 cn,.string cS,.int .i64 cp] 116)) w5.heap.size ⟨ck,cn,cS,cp⟩:=za rfl;have hr6:=hr5.kept (World.grownBy_alloc w5 (.cells #[.int .i64 ck,.int .i64 cn,.string cS,.int .i64 cp] 116) none) (fun k e=>by cases e)
  have hgr6:=(HGR4.out.other hg5 hgl).out (w':=w5.alloc (.cells #[.int .i64 ck,.int .i64 cn,.string cS,.int .i64 cp] 116)) (fun k h1 h2=>yn _ _ k h2) (by simp)
  have hg6:=(HG4.out.trans hg5).own_row (World.grownBy_alloc w5 (.cells #[.int .i64 ck,.int .i64 cn,.string cS,.int .i64 cp] 116) none) (fun k e=>by cases e)
  obtain⟨b6,hb6⟩:∃b,w5.heap.size=b:=⟨_,rfl⟩;obtain⟨w6,hw6⟩:∃W,w5.alloc (.cells #[.int .i64 ck,.int .i64 cn,.string cS,.int .i64 cp] 116)=W:=⟨_,rfl⟩;rw[hw6,hb6]at hT5;rw[hw6]at hr6 hgr6 hg6
  try rw[hw6]
  try rw[hb6]
  clear hw6 hb6 hr5 hg5 HR4 HGR4 HG4;have a0:=hT5.cell 0 rfl;have a1:=hT5.cell 1 rfl;have a2:=hT5.cell 2 rfl;have a3:=hT5.cell 3 rfl;have HR6:=yb hr6;have HGR6:=yb hgr6;have HG6:=yb hg6;have HT6:=yb hT5;clear hr6 hgr6 hg6 hT5;have hcase:=HCASE.out
  rcases hcase with⟨hc1,hc2,hc3,hc4⟩|⟨hc1,hc2,l',hc3,hc4⟩
  ·have HI:Hid (∀W,Calls ya 107 #[.agg #[.int .i64 ck,.int .i64 cn,.string cS,.int .i64 cp],.string ⟨#[93]⟩] W fun e w'=>e= .returned (.bool true)/\Below W.heap.size W w'):=fun W=>zf3 ⟨ck,cn,cS,cp⟩ 93 W true hc1
   have HC:Hid (l=l1++[v]/\q=p'/\rest=r'):=⟨by rw[HLL.out,hc2],hc3,hc4⟩
   clear hc1 hc2 hc3 hc4 HCASE
   go_wp2_with (go_at_call 107;refine(HI.out _).mono ?_;rintro e w7 ⟨rfl,hb7⟩)
   go_ret;obtain⟨e1,e2,e3⟩:=HC.out;rw[e1,e2,e3];exact⟨p4,n4,c4,rfl,HGR6.out.out (fun k _ h2=>hb7.block k h2) hb7.size,HR6.out.kept (hb7.gbr none) (fun k e=>by cases e),HG6.out.own_row (hb7.gbr none) (fun k e=>by cases e)⟩
  ·have HI:Hid (∀W,Calls ya 107 #[.agg #[.int .i64 ck,.int .i64 cn,.string cS,.int .i64 cp],.string ⟨#[93]⟩] W fun e w'=>e= .returned (.bool false)/\Below W.heap.size W w'):=fun W=>zf3 ⟨ck,cn,cS,cp⟩ 93 W false hc1
   have HJ:Hid (∀W,Calls ya 107 #[.agg #[.int .i64 ck,.int .i64 cn,.string cS,.int .i64 cp],.string ⟨#[44]⟩] W fun e w'=>e= .returned (.bool true)/\Below W.heap.size W w'):=fun W=>zf3 ⟨ck,cn,cS,cp⟩ 44 W true hc2
   have HC:Hid (l=(l1++[v])++l'/\ziM f' deep p' r'=some (l',q,rest)):=⟨by rw[HLL.out,hc3];simp,hc4⟩
   clear hc1 hc2 hc3 hc4 HCASE
   go_upto_region 9 with(go_at_call 107;refine(HI.out _).mono ?_;rintro e w7 ⟨rfl,hb7⟩)
   have hT7:=HT6.out.keep (hb7.block _ HT6.out.lt);clear a0 a1 a2 a3;have a0:=hT7.cell 0 rfl;have a1:=hT7.cell 1 rfl;have a2:=hT7.cell 2 rfl;have a3:=hT7.cell 3 rfl
   go_wp2_with (go_at_call 107;refine(HJ.out _).mono ?_;rintro e w8 ⟨rfl,hb8⟩)
   go_roundg f'
   case measure=>omega
   case rel=>
    exact⟨by omega,r',p',l1++[v],l',HC.out.2,HC.out.1,(HR6.out.kept (hb7.gbr none) (fun k e=>by cases e)).kept (hb8.gbr none) (fun k e=>by cases e),(HGR6.out.out (fun k _ h2=>hb7.block k h2) hb7.size).out (fun k _ h2=>hb8.block k h2) hb8.size,by have:=HLEN.out;simp;omega,(HG6.out.own_row (hb7.gbr none) (fun k e=>by cases e)).own_row (hb8.gbr none) (fun k e=>by cases e)⟩
theorem ztF{f d p:Nat}{k:List ByteArray}{ts:List Tok}{l:List (ByteArray×JV)}{q:Nat}{r:List Tok}(h:zfj f d p k ts=some (l,q,r)):
 ∃ f' n col t ts' v p' c r', f = f' + 1 /\ ts = n :: col :: t :: ts' /\ n.kind = 4 /\ n.s ∉ k /\ n.s.size <= 1048576 /\ isM col 58 = true /\ zek f' (d + 1) p (t :: ts') = some (v, p', c :: r') /\ p < p' /\ p' <= 8192 /\
   ((isM c 125=true/\l=[(n.s,v)]/\q=p'/\r=r')\/(isM c 125=false/\isM c 44=true/\∃l',l=(n.s,v)::l'/\zfj f' d p' (n.s::k) r'=some (l',q,r))):=by
 match f,ts,h with
 |0,ts,h=>simp[zfj]at h
 |f+1,[],h=>simp[zfj]at h
 |f+1,[_],h=>simp[zfj]at h
 | f + 1, n :: col :: ts, h =>
   unfold zfj at h
   split at h
   ·rename_i hc;simp only[yk,decide_eq_true_eq,Bool.not_eq_true']at hc
    split at h
    ·rename_i v p' c r' hv;have hb:=(zsw f).1 _ _ _ _ _ _ hv;cases ts with
     |nil=>cases f<;>simp[zek]at hv
     | cons t ts =>
       have hnk:n.s∉k:=by
        intro hm;have h1:=hc.1.1.2;rw[List.any_eq_false]at h1;exact h1 _ hm (by simp)
       refine⟨f,n,col,t,ts,v,p',c,r',rfl,rfl,hc.1.1.1,hnk,hc.1.2,hc.2,hv,hb.1,hb.2.1,?_⟩
       split at h
       ·cases h;exact .inl ⟨‹_›,rfl,rfl,rfl⟩
       ·rename_i h9
        split at h
        ·rename_i h4;obtain⟨x,hx,he⟩:=yg.1 h;cases he;exact .inr ⟨by simpa using h9,h4,x.1,rfl,hx⟩
        ·cases h
    ·cases h
   ·cases h
theorem GrM.lower{w:World}{base b':Nat}{v:Value}{m:List (ByteArray×JV)}(h:GrM w base v m)(hb:b'<=base):GrM w b' v m:=by
 obtain⟨rs,h1,h2,h4,h3⟩:=h.ex;exact⟨rs,h1.mono hb,h2,h4,fun i t q a b=>(h3 i t q a b).mono (fun k e=>⟨by omega,e.2⟩)⟩
section
variable {w W W':World} {g mb base en pa:Nat} {known:List ByteArray} {ts:List Tok} {o:Value} {l:List (ByteArray×JV)} (h:MSt w W g mb base known ts en pa o l)
include h
theorem MSt.upd{n:ByteArray}(hm:MapF W' ya 9 mb (known.length+1) (fun u=>if u=n.data.toList then some (.bool true)else knF known u))(hg:W.grownBy W' (some mb)):MSt w W' g mb base (n::known) ts en pa o l:=by
 have hl:=h.lt;exact⟨h.rds.kept hg (fun k e=>by cases e;omega),h.gr.out (fun k h1 h2=>hg.block k h2 (fun e=>by cases e;omega)) hg.size,by rw[zpg];exact hm,h.gw.own_row hg (fun k e=>by cases e;omega),hl.1,hl.2.1,hl.2.2.1,yj hl.2.2.2 hg.size⟩
theorem MSt.tok{x:Nat}(hg:W.grownBy W' (some x))(hs:Small W x)(hx:base<=x)(ho:o.ownBlock≠some x):MSt w W' g mb base known ts en pa o l:=by
 have hl:=h.lt;exact⟨h.rds.kept hg (fun k e=>by cases e;omega),h.gr.small hg hs ho,h.mp.kept hg (fun e=>by cases e;omega),h.gw.own_row hg (fun k e=>by cases e;omega),hl.1,hl.2.1,hl.2.2.1,yj hl.2.2.2 hg.size⟩
theorem MSt.app{o':Value}{l':List (ByteArray×JV)}{row:Option Nat}(hgr:GrM W' base o' l')(hg:W.grownBy W' row)(hrow:∀k,row=some k->base<=k):MSt w W' g mb base known ts en pa o' l':=by
 have hl:=h.lt;exact⟨h.rds.kept hg (fun k e=>by have:=hrow k e;omega),hgr,h.mp.kept hg (fun e=>by have:=hrow _ e.symm;omega),h.gw.own_row hg (fun k e=>by have:=hrow k e;omega),hl.1,hl.2.1,hl.2.2.1,yj hl.2.2.2 hg.size⟩
end
theorem zsV(w:World)(g en pa deep:Nat)(c:Tok)(r:List Tok)(h:RdS w g (c::r) en pa)(hc:isM c 125=true):Calls ya 109 #[.pointer (some ⟨g,0,none⟩),.int .i64 deep] w fun e w'=>e= .returned (.slice none 0 0)/\RdS w' g r en pa/\w.grownBy w' (some g):=by
 have HP:=yb (zse w g en pa c r 125 true h hc);have HN:Hid (∀W,Below w.heap.size w W->Calls ya 60 #[.pointer (some ⟨g,0,none⟩)] W (zeN W g c r en pa)):=fun W hb=>zdZ W g en pa c r (h.kept (hb.gbr none) (fun k e=>by cases e))
 clear h hc
 go_enter Tryz.func109,Tryz.ntmps109
 go_wp2_with (first
  |(go_at_call 171;refine HP.out.mono ?_;rintro e w1 ⟨rfl,hb1⟩)
  |(go_at_call 60;refine(HN.out _ hb1).mono ?_;rintro e w2 ⟨rfl,hr2,hg2⟩))
 go_ret;exact⟨rfl,hr2,((hb1.gbr none).keep_some hg2)⟩
def MemR(w:World)(g:Nat)(l:List (ByteArray×JV))(ts:List Tok)(en pa:Nat)(e:Ending)(w':World):Prop:=∃p n c,e= .returned (.slice p n c)/\GrM w' w.heap.size (.slice p n c) l/\RdS w' g ts en pa/\w.grownBy w' (some g)
theorem zsW(N:Nat)(hV:PV N)(w:World)(g en pa deep f0:Nat)(c:Tok)(r:List Tok)(l:List (ByteArray×JV))(q:Nat)(rest:List Tok)(h:RdS w g (c::r) en pa)(hd:deep<=16)(hc:isM c 125=false)(hf:f0<=N)(hl:zfj f0 deep pa [] (c::r)=some (l,q,rest)):
 Calls ya 109 #[.pointer (some ⟨g,0,none⟩),.int .i64 deep] w (MemR w g l rest en q):=by
 have hgl:=h.lt;have HP:=yb (zse w g en pa c r 125 false h hc);have HL:=yb hl;have H0:=yb h;have hd0:(0:Int)<=(deep:Int):=ye _;have hd1:(deep:Int)<=16:=by omega
 have HV:Hid (∀f,f<=N->∀(p:Nat) (t:Tok) (ts:List Tok) (v:JV) (q:Nat) (r:List Tok),zek f (deep+1) p (t::ts)=some (v,q,r)->∀(w:World),RdS w g ts en p->
  Calls ya 59 #[.pointer (some ⟨g,0,none⟩),t.val,.int .i64 ((deep:Int)+1)] w (zoZ w g v r en q)):=fun f hf p t ts v q r hp w hr=>hV f hf (deep+1) p t ts v q r hp w g en hr
 clear h hc hl hd hV
 go_enter Tryz.func109,Tryz.ntmps109
 go_upto_region 5 with(go_at_call 171;refine HP.out.mono ?_;rintro e w1 ⟨rfl,hb1⟩)
 have hM0:MSt w (w1.alloc (.map #[] 0)) g w1.heap.size (w1.heap.size+1) [] (c::r) en pa (.slice none 0 0) []:=
  ⟨(H0.out.kept (hb1.gbr none) (fun k e=>by cases e)).kept (World.grownBy_alloc w1 _ none) (fun k e=>by cases e),GrM.nil _ _,by have:=MapF.made w1 ya 9;exact this,(hb1.gbr (some g)).own_row (World.grownBy_alloc w1 _ none) (fun k e=>by cases e),hgl,hb1.size,by omega,by simp⟩
 have hmm:= @run_makeMap ya
 go_wp2_with fail
 clear hmm;have hb0:w1.heap.size+1=(w1.alloc (.map #[] 0)).heap.size:=by simp
 obtain⟨W1,hW1⟩:∃W,w1.alloc (.map #[] 0)=W:=⟨_,rfl⟩;rw[hW1]at hM0 hb0
 try rw[hW1]
 clear hW1;obtain⟨mb,hmb⟩:∃b,w1.heap.size=b:=⟨_,rfl⟩;rw[hmb]at hM0 hb0
 try rw[hmb]
 have HM0:=yb hM0;clear hM0 hmb hb0 hb1
 go_loopg [5] f0 (fun gk o wr=>gk<=N/\∃known ts1 pa1 l1 l2,Hid (zfj gk deep pa1 known ts1=some (l2,q,rest)/\l=l1++l2/\MSt w wr g mb (mb+1) known ts1 en pa1 o l1/\l1.length<=pa1/\known.length<=pa1))
 case atStart=>exact⟨hf,[],c::r,pa,[],l,HL.out,rfl,HM0.out,yt _,yt _⟩
 case round=>
  obtain⟨hgk,known,ts1,pa1,l1,l2,hH⟩:=hrel;obtain⟨hpl,hll,hms,hlen,hkn⟩:=hH.out;clear hH;obtain⟨f',n,col,t,ts',v,p',c1,r',rfl,rfl,hnk,hnot,hsz,hcol,hpv,hp1,hp2,hcase⟩:=ztF hpl;obtain⟨po,no,co,rfl,hno,hlt⟩:=hms.gr.own;have HNX:Hid (Calls ya 60 #[.pointer (some ⟨g,0,none⟩)] wr (zeN wr g n (col::t::ts') en pa1)):=zdZ wr g en pa1 n _ hms.rds;have HN2:Hid (∀W,RdS W g (col::t::ts') en pa1->Calls ya 60 #[.pointer (some ⟨g,0,none⟩)] W (zeN W g col (t::ts') en pa1)):=fun W hr=>zdZ W g en pa1 col _ hr
  have HN3:Hid (∀W,RdS W g (t::ts') en pa1->Calls ya 60 #[.pointer (some ⟨g,0,none⟩)] W (zeN W g t ts' en pa1)):=fun W hr=>zdZ W g en pa1 t _ hr
  have HN4:Hid (∀W,RdS W g (c1::r') en p'->Calls ya 60 #[.pointer (some ⟨g,0,none⟩)] W (zeN W g c1 r' en p')):=fun W hr=>zdZ W g en p' c1 _ hr
  have HVA:Hid (∀W,RdS W g ts' en pa1->Calls ya 59 #[.pointer (some ⟨g,0,none⟩),t.val,.int .i64 ((deep:Int)+1)] W (zoZ W g v (c1::r') en p')):=fun W hr=>HV.out f' (by omega) pa1 t ts' v p' (c1::r') hpv W hr
  have HI1:Hid (∀W,Calls ya 107 #[col.val,.string ⟨#[58]⟩] W fun e w'=>e= .returned (.bool true)/\Below W.heap.size W w'):=fun W=>zf3 col 58 W true hcol
  have HLEN:Hid (l1.length<p'/\p'<=8192/\known.length<p'):=⟨by omega,hp2,by omega⟩
  have HCASE:=yb hcase;have HLL:=yb hll;have HMS:=yb hms;have HROW0:Hid (∀k,(Value.slice po no co).ownBlock=some k->mb+1<=k/\k<wr.heap.size):=hlt;have HNO:=yb hno;have HNOT:=yb hnot;have HSZ:=yb hsz;clear hpl hpv hcase hll hno hlt hlen hp1 hp2 hms hnot hsz hcol hkn;obtain⟨nk,nn,nS,np⟩:=n;obtain⟨lk,ln,lS,lp⟩:=col;obtain⟨tk,tn,tS,tp⟩:=t;obtain⟨ck,cn,cS,cp⟩:=c1;dsimp only[Tok.val,zeN]at*;subst hnk
  go_upto_region 7 with(go_at_call 60;refine HNX.out.mono ?_;rintro e w2 ⟨rfl,hr2,hg2⟩)
  have hm2:=(HMS.out.go hr2 hg2).alloc (.cells #[.int .i64 4,.int .i64 nn,.string nS,.int .i64 np] 116);have hT2:TokAt (w2.alloc (.cells #[.int .i64 4,.int .i64 nn,.string nS,.int .i64 np] 116)) w2.heap.size ⟨4,nn,nS,np⟩:=za rfl;have hge2:mb+1<=w2.heap.size:=yj HMS.out.lt.2.2.2 hg2.size;have hsz2:wr.heap.size<=w2.heap.size:=hg2.size;obtain⟨b7,hb7⟩:∃b,w2.heap.size=b:=⟨_,rfl⟩;obtain⟨w3,hw3⟩:∃W,w2.alloc (.cells #[.int .i64 4,.int .i64 nn,.string nS,.int .i64 np] 116)=W:=⟨_,rfl⟩;rw[hw3]at hm2 hT2;rw[hb7]at hT2 hge2 hsz2
  try rw[hw3]
  try rw[hb7]
  clear hw3 hb7 hr2 hg2 HMS HNX;have a0:=hT2.cell 0 rfl;have a1:=hT2.cell 1 rfl;have a2:=hT2.cell 2 rfl;have a3:=hT2.cell 3 rfl;have HM3:=yb hm2;have HT3:=yb hT2;have HGE:=yb (show mb+1<=b7/\wr.heap.size<=b7 from⟨hge2,hsz2⟩)
  have hlk:(knF known nS.data.toList).getD (.bool false)= .bool false:=by rw[zlD HNOT.out];rfl
  have HLK:=yb hlk;clear hm2 hT2 hge2 hsz2 hlk
  go_upto_region 11 with(at_lookup;refine zdx _ rfl _ _ _ rfl 9 4 Tryz.underlying9 Tryz.underlying238 (Tryz.zeroValue4 _) _ _ (knF known) rfl HM3.out.mp nS rfl (by have:=HSZ.out;unfold maxLen;omega) (v:= .bool false) HLK.out ?_;go_frame)
  go_upto_region 12 with(at_mapUpdate;refine zfu _ rfl _ _ _ _ rfl 9 4 Tryz.underlying9 Tryz.underlying238 _ _ _ rfl HM3.out.mp (by have:=HLEN.out;unfold maxLen;omega) nS rfl (by have:=HSZ.out;unfold maxLen;omega) (.bool true) rfl ?_;intro w4 hM4 hG4;go_frame)
  have hm4:=HM3.out.upd hM4 hG4;have hT4:=HT3.out.keep (hG4.block _ HT3.out.lt (by have:=HGE.out;simp;omega))
  have HM4:=yb hm4;have HT4:=yb hT4;clear hm4 hT4 hM4 hG4 HM3 HT3 a0 a1 a2 a3
  go_upto_region 13 with(go_at_call 60;refine(HN2.out _ HM4.out.rds).mono ?_;rintro e w5 ⟨rfl,hr5,hg5⟩)
  have hT5:=HT4.out.keep (hg5.block b7 HT4.out.lt (by have:=HGE.out;have:=HM4.out.lt;simp;omega))
  have hT6:TokAt (w5.alloc (.cells #[.int .i64 lk,.int .i64 ln,.string lS,.int .i64 lp] 116)) b7 ⟨4,nn,nS,np⟩:=hT5.keep (yn _ _ _ hT5.lt);have hT8:TokAt (w5.alloc (.cells #[.int .i64 lk,.int .i64 ln,.string lS,.int .i64 lp] 116)) w5.heap.size ⟨lk,ln,lS,lp⟩:=za rfl;have hm6:=(HM4.out.go hr5 hg5).alloc (.cells #[.int .i64 lk,.int .i64 ln,.string lS,.int .i64 lp] 116);obtain⟨b8,hb8⟩:∃b,w5.heap.size=b:=⟨_,rfl⟩;obtain⟨w6,hw6⟩:∃W,w5.alloc (.cells #[.int .i64 lk,.int .i64 ln,.string lS,.int .i64 lp] 116)=W:=⟨_,rfl⟩;rw[hw6]at hm6 hT6 hT8;rw[hb8]at hT8
  try rw[hw6]
  try rw[hb8]
  clear hw6 hb8 hr5 hg5 hT5 HT4 HM4 HN2;have a0:=hT8.cell 0 rfl;have a1:=hT8.cell 1 rfl;have a2:=hT8.cell 2 rfl;have a3:=hT8.cell 3 rfl;have HM6:=yb hm6;have HT6:=yb hT6;clear hm6 hT6 hT8
  go_upto_region 15 with(go_at_call 107;refine(HI1.out _).mono ?_;rintro e w7 ⟨rfl,hb7⟩)
  have HM7:=yb (HM6.out.call hb7);have HT7:=yb (HT6.out.keep (hb7.block _ HT6.out.lt));clear hb7 HM6 HT6 HI1 a0 a1 a2 a3
  go_upto_region 16 with(first
   |(go_at_call 60;refine(HN3.out _ HM7.out.rds).mono ?_;rintro e w8 ⟨rfl,hr8,hg8⟩)
   |(go_at_call 59;refine(HVA.out _ hr8).mono ?_;rintro e w9 ⟨rv,rfl,ht9,hr9,hg9⟩;obtain⟨vk,vn,vs,vpl,vnl,vcl,vpm,vnm,vcm⟩:=rv))
  have hm8:=HM7.out.go hr8 hg8;have hm9:=hm8.go hr9 hg9;have hlt7:=HM7.out.lt;have hT9:=(HT7.out.keep (hg8.block b7 HT7.out.lt (by have:=HGE.out;simp;omega)))
  have hT10:=(hT9.keep (hg9.block b7 hT9.lt (by have:=HGE.out;simp;omega)))
  have hT11:TokAt (w9.alloc (.cells #[.int .i64 vk,.int .i64 vn,.string vs,.slice vpl vnl vcl,.slice vpm vnm vcm] 25)) b7 ⟨4,nn,nS,np⟩:=hT10.keep (yn _ _ _ hT10.lt);have hV11:VAt (w9.alloc (.cells #[.int .i64 vk,.int .i64 vn,.string vs,.slice vpl vnl vcl,.slice vpm vnm vcm] 25)) w9.heap.size ⟨vk,vn,vs,vpl,vnl,vcl,vpm,vnm,vcm⟩:=za rfl;have hm11:=hm9.alloc (.cells #[.int .i64 vk,.int .i64 vn,.string vs,.slice vpl vnl vcl,.slice vpm vnm vcm] 25);have hown:=HM7.out.gr.own
  have ht11:TreeS (w9.alloc (.cells #[.int .i64 vk,.int .i64 vn,.string vs,.slice vpl vnl vcl,.slice vpm vnm vcm] 25)) (fun k=>mb+1<=k/\k<(w9.alloc (.cells #[.int .i64 vk,.int .i64 vn,.string vs,.slice vpl vnl vcl,.slice vpm vnm vcm] 25)).heap.size/\(Value.slice po no co).ownBlock≠some k) v ⟨vk,vn,vs,vpl,vnl,vcl,vpm,vnm,vcm⟩:=
   (ht9.same (fun k hk=>yn _ _ k hk.2)).mono (fun k hk=>⟨by have:=hk.1;have:=hm8.lt;omega,by have:=hk.2;simp;omega,fun e=>by
    obtain⟨_,_,_,hv,_,hlt⟩:=hown;cases hv;have:=(hlt k e).2;have:=hk.1;have:=hg8.size;omega⟩)
  have hrow:∀k,(Value.slice po no co).ownBlock=some k->mb+1<=k/\k<w7.heap.size:=fun k e=>by
   obtain⟨_,_,_,hv,_,hlt⟩:=hown;cases hv;exact hlt k e
  have hb7lt:b7<w7.heap.size:=HT7.out.lt;obtain⟨b9,hb9⟩:∃b,w9.heap.size=b:=⟨_,rfl⟩;have hz9:w7.heap.size<=b9:=by rw[<-hb9];exact yj hg8.size hg9.size
  obtain⟨w10,hw10⟩:∃W,w9.alloc (.cells #[.int .i64 vk,.int .i64 vn,.string vs,.slice vpl vnl vcl,.slice vpm vnm vcm] 25)=W:=⟨_,rfl⟩;rw[hw10]at hm11 hT11 hV11 ht11;rw[hb9]at hV11
  try rw[hw10]
  try rw[hb9]
  clear hw10 hb9 hm8 hm9 hT9 hT10 hown ht9 hr8 hr9 hg8 hg9 HN3 HVA hlt7;have a2:=hT11.cell 2 rfl;obtain⟨v0,v1,v2,v3,v4⟩:=hV11.cells5;dsimp only at v0 v1 v2 v3 v4;obtain⟨rms,hO,hl3,hnm3,hT3⟩:=hm11.gr.ex;have HL3:=yb hl3;have HNM:=yb hnm3;have HTS:=yb hT3;have HM11:=yb hm11;have HT11:=yb hT11;have HT12:=yb ht11;have HROW:=yb hrow;have HO:=yb hO;clear hm11 hT11 hV11 ht11 hrow hl3 hnm3 hT3 hO HT7 HM7
  go_upto_region 17 with(at_builtin;refine zk slM codecM (w10.alloc (.cells #[.string nS,.int .i64 vk,.int .i64 vn,.string vs,.slice vpl vnl vcl,.slice vpm vnm vcm] 35)) rfl (.tmp 44) (.tmp 49) rfl (v:= .slice po no co) rfl rfl (HO.out.alloc _) (Rd.one (B:=w10.heap.size+1) (x:=(⟨nS,⟨vk,vn,vs,vpl,vnl,vcl,vpm,vnm,vcm⟩⟩:RM)) codecM (heap_alloc_new _ _) rfl (by omega)) (by have:=HLEN.out;have:=HL3.out;simp only[ym];unfold maxLen;omega) (by have:=HLEN.out;have:=HL3.out;simp only[ym];omega) (by have:=HM11.out.lt;simp;omega) ?_;intro v4 w12 ho4 hg4 hat4)
  have hgr4:GrM w12 (mb+1) v4 (l1++[(nS,v)]):=by
   refine GrM.snoc HO.out HL3.out HNM.out HTS.out HT12.out ho4 ((World.grownBy_alloc _ _ _).trans hg4) (fun k e=> ?_)
   rcases hat4 with h|h
   ·exact .inl (h▸e)
   ·rw[h]at e;cases e;exact .inr (by simp)
  have hne4:v4.ownBlock≠some b7:=fun e=>by
   rcases hat4 with h|h
   ·rw[h]at e;have:=(HROW0.out _ e).2;have:=HGE.out;omega
   ·rw[h]at e;injection e with e;have:=HT11.out.lt;simp at e;omega
  have hm12:=(HM11.out.alloc (.cells #[.string nS,.int .i64 vk,.int .i64 vn,.string vs,.slice vpl vnl vcl,.slice vpm vnm vcm] 35)).app hgr4 hg4 (fun k e=>(HROW0.out k e).1)
  have hT11a:TokAt (w10.alloc (.cells #[.string nS,.int .i64 vk,.int .i64 vn,.string vs,.slice vpl vnl vcl,.slice vpm vnm vcm] 35)) b7 ⟨4,nn,nS,np⟩:=HT11.out.keep (yn _ _ _ HT11.out.lt);have hT12:=hT11a.keep (hg4.block b7 hT11a.lt (fun e=>by have:=(HROW0.out _ e.symm).2;have:=HGE.out;omega))
  obtain⟨p4,n4,c4,rfl,hn4,hlt4⟩:=hgr4.own;have HM12:=yb hm12;have HT13:=yb hT12;have HNE:=yb hne4;clear hm12 hT12 hT11a hgr4 hg4 hat4 ho4 HO HT11 HT12 HTS HNM HM11 HL3 hn4 hlt4 hne4 v0 v1 v2 v3 v4 a2
  go_upto_region 18 with(go_at_call 60;refine(HN4.out _ HM12.out.rds).mono ?_;rintro e w13 ⟨rfl,hr13,hg13⟩;(have hT13:=HT13.out.keep (hg13.block b7 HT13.out.lt (by have:=HGE.out;have:=HM12.out.lt;simp;omega)));(have x0:=hT13.cell 0 rfl);(have x1:=hT13.cell 1 rfl);(have x2:=hT13.cell 2 rfl);(have x3:=hT13.cell 3 rfl);(have y0:=hT13.frozen 0);(have y1:=hT13.frozen 1);(have y2:=hT13.frozen 2);(have y3:=hT13.frozen 3))
  have hm13:=HM12.out.go hr13 hg13;have hTf:=hT13.stored ⟨ck,cn,cS,cp⟩;have hgf:=zo8 w13 b7 ⟨ck,cn,cS,cp⟩;have hmf:=hm13.tok hgf hT13.small (by have:=HGE.out;omega) HNE.out
  dsimp only at hTf hgf hmf;obtain⟨w14,hw14⟩:∃W,(((w13.setCell ⟨b7,0,none⟩ (.int .i64 ck)).setCell ⟨b7,1,none⟩ (.int .i64 cn)).setCell ⟨b7,2,none⟩ (.string cS)).setCell ⟨b7,3,none⟩ (.int .i64 cp)=W:=⟨_,rfl⟩;rw[hw14]at hTf hgf hmf
  try rw[hw14]
  clear hw14 hr13 hg13 hT13 x0 x1 x2 x3 y0 y1 y2 y3 hm13 hgf HM12 HT13 HN4;have a0:=hTf.cell 0 rfl;have a1:=hTf.cell 1 rfl;have a2:=hTf.cell 2 rfl;have a3:=hTf.cell 3 rfl;have HMF:=yb hmf;have HTF:=yb hTf;clear hmf hTf;have hcase:=HCASE.out
  rcases hcase with⟨hc1,hc2,hc3,hc4⟩|⟨hc1,hc2,l',hc3,hc4⟩
  ·have HI:Hid (∀W,Calls ya 107 #[.agg #[.int .i64 ck,.int .i64 cn,.string cS,.int .i64 cp],.string ⟨#[125]⟩] W fun e w'=>e= .returned (.bool true)/\Below W.heap.size W w'):=fun W=>zf3 ⟨ck,cn,cS,cp⟩ 125 W true hc1
   have HC:Hid (l=l1++[(nS,v)]/\q=p'/\rest=r'):=⟨by rw[HLL.out,hc2],hc3,hc4⟩
   clear hc1 hc2 hc3 hc4 HCASE
   go_wp2_with (go_at_call 107;refine(HI.out _).mono ?_;rintro e w15 ⟨rfl,hb15⟩)
   go_ret;obtain⟨e1,e2,e3⟩:=HC.out;have hmz:=HMF.out.call hb15;rw[e1,e2,e3];exact⟨p4,n4,c4,rfl,hmz.gr.lower (by have:=hmz.lt;omega),hmz.rds,hmz.gw⟩
  ·have HI:Hid (∀W,Calls ya 107 #[.agg #[.int .i64 ck,.int .i64 cn,.string cS,.int .i64 cp],.string ⟨#[125]⟩] W fun e w'=>e= .returned (.bool false)/\Below W.heap.size W w'):=fun W=>zf3 ⟨ck,cn,cS,cp⟩ 125 W false hc1
   have HJ:Hid (∀W,Calls ya 107 #[.agg #[.int .i64 ck,.int .i64 cn,.string cS,.int .i64 cp],.string ⟨#[44]⟩] W fun e w'=>e= .returned (.bool true)/\Below W.heap.size W w'):=fun W=>zf3 ⟨ck,cn,cS,cp⟩ 44 W true hc2
   have HC:Hid (l=(l1++[(nS,v)])++l'/\zfj f' deep p' (nS::known) r'=some (l',q,rest)):=⟨by rw[HLL.out,hc3];simp,hc4⟩
   clear hc1 hc2 hc3 hc4 HCASE
   go_upto_region 20 with(go_at_call 107;refine(HI.out _).mono ?_;rintro e w15 ⟨rfl,hb15⟩)
   have hT15:=HTF.out.keep (hb15.block _ HTF.out.lt);clear a0 a1 a2 a3;have a0:=hT15.cell 0 rfl;have a1:=hT15.cell 1 rfl;have a2:=hT15.cell 2 rfl;have a3:=hT15.cell 3 rfl
   go_wp2_with (go_at_call 107;refine(HJ.out _).mono ?_;rintro e w16 ⟨rfl,hb16⟩)
   go_roundg f'
   case measure=>omega
   case rel=>
    exact⟨by omega,nS::known,r',p',l1++[(nS,v)],l',HC.out.2,HC.out.1,(HMF.out.call hb15).call hb16,by have:=HLEN.out;simp;omega,by have:=HLEN.out;simp;omega⟩
theorem zsy(w:World)(g en pa deep:Nat)(t:Tok)(ts:List Tok)(l:List JV)(q:Nat)(rest:List Tok)(h:RdS w g ts en pa)(hd:deep<=16)(hp:pa<8192)(hk:t.kind=1)(hs:t.s=⟨#[91]⟩)
 (hL:∀W,RdS W g ts en (pa+1)->Calls ya 108 #[.pointer (some ⟨g,0,none⟩),.int .i64 deep] W (LstR W g l rest en q)):
 Calls ya 59 #[.pointer (some ⟨g,0,none⟩),t.val,.int .i64 deep] w (zoZ w g (.mk 5 0 ⟨#[]⟩ l []) rest en q):=by
 have hgl:=h.lt;have HLL:=yb hL;have hg0:=((World.grownBy_alloc w t.obj none).trans (World.grownBy_alloc _ (.cells #[.int .i64 0,.int .i64 0,.string ⟨#[]⟩,.slice none 0 0,.slice none 0 0] 25) none)).trans (World.grownBy_alloc _ (.cells #[.int .i64 0,.int .i64 0,.string ⟨#[]⟩,.slice none 0 0,.slice none 0 0] 25) none);have hT0:TokAt (((w.alloc t.obj).alloc (.cells #[.int .i64 0,.int .i64 0,.string ⟨#[]⟩,.slice none 0 0,.slice none 0 0] 25)).alloc (.cells #[.int .i64 0,.int .i64 0,.string ⟨#[]⟩,.slice none 0 0,.slice none 0 0] 25)) w.heap.size t:=zb (by simp;omega) (zb (by simp) (za rfl))
 have hV1:VAt (((w.alloc t.obj).alloc (.cells #[.int .i64 0,.int .i64 0,.string ⟨#[]⟩,.slice none 0 0,.slice none 0 0] 25)).alloc (.cells #[.int .i64 0,.int .i64 0,.string ⟨#[]⟩,.slice none 0 0,.slice none 0 0] 25)) (w.heap.size+1) RV.zero:=zb (by simp) (za (by simp))
 have hV2:VAt (((w.alloc t.obj).alloc (.cells #[.int .i64 0,.int .i64 0,.string ⟨#[]⟩,.slice none 0 0,.slice none 0 0] 25)).alloc (.cells #[.int .i64 0,.int .i64 0,.string ⟨#[]⟩,.slice none 0 0,.slice none 0 0] 25)) (w.heap.size+1+1) RV.zero:=za (by simp)
 have hs0:(((w.alloc t.obj).alloc (.cells #[.int .i64 0,.int .i64 0,.string ⟨#[]⟩,.slice none 0 0,.slice none 0 0] 25)).alloc (.cells #[.int .i64 0,.int .i64 0,.string ⟨#[]⟩,.slice none 0 0,.slice none 0 0] 25)).heap.size=w.heap.size+3:=by simp
 have hR0:=h.kept hg0 (fun k e=>by cases e)
 obtain⟨tk,tn,tS,tp⟩:=t;dsimp only[Tok.val,Tok.obj]at*;subst hk;subst hs;have HI:Hid (∀W,Calls ya 107 #[.agg #[.int .i64 1,.int .i64 tn,.string ⟨#[91]⟩,.int .i64 tp],.string ⟨#[91]⟩] W fun e w'=>e= .returned (.bool true)/\Below W.heap.size W w'):=fun W=>zf3 ⟨1,tn,⟨#[91]⟩,tp⟩ 91 W true (by simp[isM])
 clear h hL;have d1:¬(16<(deep:Int)):=by omega
 have d2:¬(16<deep):=by omega
 have d3:(deep:Int)<=16:=by omega
 go_enter Tryz.func59,Tryz.ntmps59
 go_upto_region 3 with fail
 obtain⟨W0,hW0⟩:∃W0,((w.alloc (.cells #[.int .i64 1,.int .i64 tn,.string ⟨#[91]⟩,.int .i64 tp] 116)).alloc (.cells #[.int .i64 0,.int .i64 0,.string ⟨#[]⟩,.slice none 0 0,.slice none 0 0] 25)).alloc (.cells #[.int .i64 0,.int .i64 0,.string ⟨#[]⟩,.slice none 0 0,.slice none 0 0] 25)=W0:=⟨_,rfl⟩;rw[hW0]at hg0 hT0 hV1 hV2 hs0 hR0
 try rw[hW0]
 clear hW0;have a0:=hT0.cell 0 rfl;have a1:=hT0.cell 1 rfl;have a2:=hT0.cell 2 rfl;have a3:=hT0.cell 3 rfl;have HG0:=yb hg0;have HT0:=yb hT0;have HV1:=yb hV1;have HV2:=yb hV2;have HR0:=yb hR0;have HS0:=yb hs0;clear hg0 hT0 hV1 hV2 hR0 hs0
 go_upto_region 14 with(go_at_call 107;refine(HI.out _).mono ?_;rintro e W1 ⟨rfl,hb1⟩)
 have HB1:=yb hb1;clear hb1;have HVC:=yb (HV2.out.keep (HB1.out.block _ HV2.out.lt));have HV1C:=yb (HV1.out.keep (HB1.out.block _ HV1.out.lt));have HRC:=yb (HR0.out.kept (HB1.out.gbr none) (fun k e=>by cases e))
 have HGC:=yb (HG0.out.trans (HB1.out.gbr none));have HSC:Hid (w.heap.size+3<=W1.heap.size):=by have:=HB1.out.size;have:=HS0.out;unfold Hid;omega
 clear a0 a1 a2 a3 HV2 HV1 HR0 HG0;have hV2:=HVC.out;obtain⟨v0,v1,v2,v3,v4⟩:=hV2.cells5;have y0:=hV2.frozen 0;have y1:=hV2.frozen 1;have y2:=hV2.frozen 2;have y3:=hV2.frozen 3;have y4:=hV2.frozen 4;dsimp only[RV.zero]at v0 v1 v2 v3 v4
 go_upto_region 17 with fail
 have hv:=hV2.setK 5;have hg:=zz W1 (w.heap.size+1+1) 0 (.int .i64 5);have hs1:=HSC.out;have hv1:=HV1C.out.keep (hg.block _ HV1C.out.lt (by simp))
 have hr:=HRC.out.kept hg (fun k e=>by cases e;omega)
 have hgw:=HGC.out.new_row hg (by omega)
 have hz2:(W1.setCell ⟨w.heap.size+1+1,0,none⟩ (.int .i64 5)).heap.size=W1.heap.size:=by simp
 dsimp only[RV.zero]at hv;obtain⟨W2,hW2⟩:∃W,W1.setCell ⟨w.heap.size+1+1,0,none⟩ (.int .i64 5)=W:=⟨_,rfl⟩;rw[hW2]at hv hv1 hr hgw hz2
 try rw[hW2]
 clear hW2 v0 v1 v2 v3 v4 y0 y1 y2 y3 y4 hV2 hg HVC HV1C HRC HGC;obtain⟨p0,nn0,c0,hrd,hrl⟩:=hr.ex;have c2:=hrd.cell 2 rfl;have z2:=hrd.frozen 2;have hgx:=zz W2 g 2 (.int .i64 ((pa:Int)+1));have hR3:RdS (W2.setCell ⟨g,2,none⟩ (.int .i64 ((pa:Int)+1))) g ts en (pa+1):=⟨p0,nn0,c0,hrd.set2' _ _ (by omega),hrl.below (zoL hgx (by have:=hrd.lt;omega) (fun k e=>by cases e;exact yc _)) (yc _)⟩
 have hV3:=hv1.keep (hgx.block _ hv1.lt (by simp;omega))
 have hV4:=hv.keep (hgx.block _ hv.lt (by simp;omega))
 have hG3:=hgw.keep_some hgx;have hz3:w.heap.size+3<=(W2.setCell ⟨g,2,none⟩ (.int .i64 ((pa:Int)+1))).heap.size:=by simp;omega
 go_upto_region 20 with fail
 have c3:=hR3.cell2;obtain⟨W3,hW3⟩:∃W,W2.setCell ⟨g,2,none⟩ (.int .i64 ((pa:Int)+1))=W:=⟨_,rfl⟩;rw[hW3]at hR3 hV3 hV4 hG3 c3 hz3
 try rw[hW3]
 clear hW3 c2 z2 hgx hrd hrl hv hv1 hr hgw hz2;obtain⟨v0,v1,v2,v3,v4⟩:=hV4.cells5;have HR3:=yb hR3;have HV3:=yb hV3;have HV4:=yb hV4;have HG3:=yb hG3;have HZ3:=yb hz3;clear hR3 hV3 hV4 hG3 hz3
 go_upto_region 27 with(go_at_call 108;refine(HLL.out _ HR3.out).mono ?_;rintro e w5 ⟨p5,n5,c5,rfl,hgr5,hr5,hg5⟩;(have hV5:=HV4.out.keep (hg5.block (w.heap.size+1+1) HV4.out.lt (by simp;omega)));(obtain⟨u0,u1,u2,u3,u4⟩:=hV5.cells5);(have y0:=hV5.frozen 0);(have y1:=hV5.frozen 1);(have y2:=hV5.frozen 2);(have y3:=hV5.frozen 3);(have y4:=hV5.frozen 4))
 have hv6:=hV5.setLs p5 n5 c5;have hg6:=zz w5 (w.heap.size+1+1) 3 (.slice p5 n5 c5);have hv7:=(HV3.out.keep (hg5.block _ HV3.out.lt (by simp;omega))).keep (hg6.block (w.heap.size+1) (yl HV3.out.lt hg5.size) (by simp))
 have hr6:=hr5.kept hg6 (fun k e=>by cases e;omega)
 have hgw6:=(HG3.out.trans hg5).new_row hg6 (by omega)
 have ht5:=hgr5.whole;have ht6:=ht5.same (w':=w5.setCell ⟨w.heap.size+1+1,3,none⟩ (.slice p5 n5 c5)) (fun k hk=>hg6.block k hk.2 (fun e=>by have:=hk.1;have:=HZ3.out;cases e;omega))
 have hz6:(w5.setCell ⟨w.heap.size+1+1,3,none⟩ (.slice p5 n5 c5)).heap.size=w5.heap.size:=by simp
 obtain⟨W6,hW6⟩:∃W,w5.setCell ⟨w.heap.size+1+1,3,none⟩ (.slice p5 n5 c5)=W:=⟨_,rfl⟩;rw[hW6]at hv6 hv7 hr6 hgw6 ht6 hz6
 try rw[hW6]
 dsimp only at hv6;clear hW6 v0 v1 v2 v3 v4 u0 u1 u2 u3 u4 y0 y1 y2 y3 y4 c3 hg6 hV5 ht5;obtain⟨v0,v1,v2,v3,v4⟩:=hv6.cells5;obtain⟨z0,z1,z2,z3,z4⟩:=hv7.cells5;have y0:=hv7.frozen 0;have y1:=hv7.frozen 1;have y2:=hv7.frozen 2;have y3:=hv7.frozen 3;have y4:=hv7.frozen 4;dsimp only[RV.zero]at v0 v1 v2 v3 v4 z0 z1 z2 z3 z4;have HR6:=yb hr6;have HG6:=yb hgw6;have HT6:=yb ht6;have HZ6:=yb hz6;have HGX:=yb hg5.size;clear hr6 hgw6 ht6 hv6 hv7 hgr5 hr5 hg5 hz6
 go_wp2_with fail
 have hg7:=zeM W6 (w.heap.size+1) (⟨5,0,⟨#[]⟩,p5,n5,c5,none,0,0⟩:RV);have hz7:=hg7.size;refine bodyPost_ret (v:=RV.val ⟨5,0,⟨#[]⟩,p5,n5,c5,none,0,0⟩) (by simp[results,Tryz.results59,go_sem,z0,z1,z2,z3,z4]) rfl ⟨⟨5,0,⟨#[]⟩,p5,n5,c5,none,0,0⟩,rfl,?_,HR6.out.kept hg7 (fun k e=>by cases e;omega),HG6.out.new_row hg7 (by omega)⟩
 refine(HT6.out.same (fun k hk=>hg7.block k (by have:=HZ6.out;omega) (fun e=>by have:=hk.1;have:=HZ3.out;cases e;omega))).mono (fun k hk=>⟨by have:=hk.1;have:=HZ3.out;omega,?_⟩)
 exact yl (show k<W6.heap.size by have:=hk.2;have:=HZ6.out;omega) hz7
theorem zsL(w:World)(g en pa deep:Nat)(t:Tok)(ts:List Tok)(l:List (ByteArray×JV))(q:Nat)(rest:List Tok)(h:RdS w g ts en pa)(hd:deep<=16)(hp:pa<8192)(hk:t.kind=1)(hs:t.s=⟨#[123]⟩)
 (hL:∀W,RdS W g ts en (pa+1)->Calls ya 109 #[.pointer (some ⟨g,0,none⟩),.int .i64 deep] W (MemR W g l rest en q)):
 Calls ya 59 #[.pointer (some ⟨g,0,none⟩),t.val,.int .i64 deep] w (zoZ w g (.mk 6 0 ⟨#[]⟩ [] l) rest en q):=by
 have hgl:=h.lt;have HLL:=yb hL;have hg0:=((World.grownBy_alloc w t.obj none).trans (World.grownBy_alloc _ (.cells #[.int .i64 0,.int .i64 0,.string ⟨#[]⟩,.slice none 0 0,.slice none 0 0] 25) none)).trans (World.grownBy_alloc _ (.cells #[.int .i64 0,.int .i64 0,.string ⟨#[]⟩,.slice none 0 0,.slice none 0 0] 25) none);have hT0:TokAt (((w.alloc t.obj).alloc (.cells #[.int .i64 0,.int .i64 0,.string ⟨#[]⟩,.slice none 0 0,.slice none 0 0] 25)).alloc (.cells #[.int .i64 0,.int .i64 0,.string ⟨#[]⟩,.slice none 0 0,.slice none 0 0] 25)) w.heap.size t:=zb (by simp;omega) (zb (by simp) (za rfl))
 have hV1:VAt (((w.alloc t.obj).alloc (.cells #[.int .i64 0,.int .i64 0,.string ⟨#[]⟩,.slice none 0 0,.slice none 0 0] 25)).alloc (.cells #[.int .i64 0,.int .i64 0,.string ⟨#[]⟩,.slice none 0 0,.slice none 0 0] 25)) (w.heap.size+1) RV.zero:=zb (by simp) (za (by simp))
 have hV2:VAt (((w.alloc t.obj).alloc (.cells #[.int .i64 0,.int .i64 0,.string ⟨#[]⟩,.slice none 0 0,.slice none 0 0] 25)).alloc (.cells #[.int .i64 0,.int .i64 0,.string ⟨#[]⟩,.slice none 0 0,.slice none 0 0] 25)) (w.heap.size+1+1) RV.zero:=za (by simp)
 have hs0:(((w.alloc t.obj).alloc (.cells #[.int .i64 0,.int .i64 0,.string ⟨#[]⟩,.slice none 0 0,.slice none 0 0] 25)).alloc (.cells #[.int .i64 0,.int .i64 0,.string ⟨#[]⟩,.slice none 0 0,.slice none 0 0] 25)).heap.size=w.heap.size+3:=by simp
 have hR0:=h.kept hg0 (fun k e=>by cases e)
 obtain⟨tk,tn,tS,tp⟩:=t;dsimp only[Tok.val,Tok.obj]at*;subst hk;subst hs;have HI:Hid (∀W,Calls ya 107 #[.agg #[.int .i64 1,.int .i64 tn,.string ⟨#[123]⟩,.int .i64 tp],.string ⟨#[91]⟩] W fun e w'=>e= .returned (.bool false)/\Below W.heap.size W w'):=fun W=>zf3 ⟨1,tn,⟨#[123]⟩,tp⟩ 91 W false (by simp[isM])
 have HJ:Hid (∀W,Calls ya 107 #[.agg #[.int .i64 1,.int .i64 tn,.string ⟨#[123]⟩,.int .i64 tp],.string ⟨#[123]⟩] W fun e w'=>e= .returned (.bool true)/\Below W.heap.size W w'):=fun W=>zf3 ⟨1,tn,⟨#[123]⟩,tp⟩ 123 W true (by simp[isM])
 clear h hL;have d1:¬(16<(deep:Int)):=by omega
 have d2:¬(16<deep):=by omega
 have d3:(deep:Int)<=16:=by omega
 go_enter Tryz.func59,Tryz.ntmps59
 go_upto_region 3 with fail
 obtain⟨W0,hW0⟩:∃W0,((w.alloc (.cells #[.int .i64 1,.int .i64 tn,.string ⟨#[123]⟩,.int .i64 tp] 116)).alloc (.cells #[.int .i64 0,.int .i64 0,.string ⟨#[]⟩,.slice none 0 0,.slice none 0 0] 25)).alloc (.cells #[.int .i64 0,.int .i64 0,.string ⟨#[]⟩,.slice none 0 0,.slice none 0 0] 25)=W0:=⟨_,rfl⟩;rw[hW0]at hg0 hT0 hV1 hV2 hs0 hR0
 try rw[hW0]
 clear hW0;have a0:=hT0.cell 0 rfl;have a1:=hT0.cell 1 rfl;have a2:=hT0.cell 2 rfl;have a3:=hT0.cell 3 rfl;have HG0:=yb hg0;have HT0:=yb hT0;have HV1:=yb hV1;have HV2:=yb hV2;have HR0:=yb hR0;have HS0:=yb hs0;clear hg0 hT0 hV1 hV2 hR0 hs0
 go_upto_region 15 with(go_at_call 107;refine(HI.out _).mono ?_;rintro e Wa ⟨rfl,hb1⟩)
 have hTa:=HT0.out.keep (hb1.block _ HT0.out.lt);clear a0 a1 a2 a3;have a0:=hTa.cell 0 rfl;have a1:=hTa.cell 1 rfl;have a2:=hTa.cell 2 rfl;have a3:=hTa.cell 3 rfl;have HB0:=yb hb1;clear hb1 hTa
 go_upto_region 16 with(go_at_call 107;refine(HJ.out _).mono ?_;rintro e W1 ⟨rfl,hb1⟩)
 have HB1:Hid (Below W0.heap.size W0 W1):=HB0.out.trans (hb1.mono HB0.out.size);clear hb1 HB0;have HVC:=yb (HV2.out.keep (HB1.out.block _ HV2.out.lt));have HV1C:=yb (HV1.out.keep (HB1.out.block _ HV1.out.lt));have HRC:=yb (HR0.out.kept (HB1.out.gbr none) (fun k e=>by cases e))
 have HGC:=yb (HG0.out.trans (HB1.out.gbr none));have HSC:Hid (w.heap.size+3<=W1.heap.size):=by have:=HB1.out.size;have:=HS0.out;unfold Hid;omega
 clear a0 a1 a2 a3 HV2 HV1 HR0 HG0;have hV2:=HVC.out;obtain⟨v0,v1,v2,v3,v4⟩:=hV2.cells5;have y0:=hV2.frozen 0;have y1:=hV2.frozen 1;have y2:=hV2.frozen 2;have y3:=hV2.frozen 3;have y4:=hV2.frozen 4;dsimp only[RV.zero]at v0 v1 v2 v3 v4
 go_upto_region 17 with fail
 have hv:=hV2.setK 6;have hg:=zz W1 (w.heap.size+1+1) 0 (.int .i64 6);have hs1:=HSC.out;have hv1:=HV1C.out.keep (hg.block _ HV1C.out.lt (by simp))
 have hr:=HRC.out.kept hg (fun k e=>by cases e;omega)
 have hgw:=HGC.out.new_row hg (by omega)
 have hz2:(W1.setCell ⟨w.heap.size+1+1,0,none⟩ (.int .i64 6)).heap.size=W1.heap.size:=by simp
 dsimp only[RV.zero]at hv;obtain⟨W2,hW2⟩:∃W,W1.setCell ⟨w.heap.size+1+1,0,none⟩ (.int .i64 6)=W:=⟨_,rfl⟩;rw[hW2]at hv hv1 hr hgw hz2
 try rw[hW2]
 clear hW2 v0 v1 v2 v3 v4 y0 y1 y2 y3 y4 hV2 hg HVC HV1C HRC HGC;obtain⟨p0,nn0,c0,hrd,hrl⟩:=hr.ex;have c2:=hrd.cell 2 rfl;have z2:=hrd.frozen 2;have hgx:=zz W2 g 2 (.int .i64 ((pa:Int)+1));have hR3:RdS (W2.setCell ⟨g,2,none⟩ (.int .i64 ((pa:Int)+1))) g ts en (pa+1):=⟨p0,nn0,c0,hrd.set2' _ _ (by omega),hrl.below (zoL hgx (by have:=hrd.lt;omega) (fun k e=>by cases e;exact yc _)) (yc _)⟩
 have hV3:=hv1.keep (hgx.block _ hv1.lt (by simp;omega))
 have hV4:=hv.keep (hgx.block _ hv.lt (by simp;omega))
 have hG3:=hgw.keep_some hgx;have hz3:w.heap.size+3<=(W2.setCell ⟨g,2,none⟩ (.int .i64 ((pa:Int)+1))).heap.size:=by simp;omega
 go_upto_region 20 with fail
 have c3:=hR3.cell2;obtain⟨W3,hW3⟩:∃W,W2.setCell ⟨g,2,none⟩ (.int .i64 ((pa:Int)+1))=W:=⟨_,rfl⟩;rw[hW3]at hR3 hV3 hV4 hG3 c3 hz3
 try rw[hW3]
 clear hW3 c2 z2 hgx hrd hrl hv hv1 hr hgw hz2;obtain⟨v0,v1,v2,v3,v4⟩:=hV4.cells5;have HR3:=yb hR3;have HV3:=yb hV3;have HV4:=yb hV4;have HG3:=yb hG3;have HZ3:=yb hz3;clear hR3 hV3 hV4 hG3 hz3
 go_upto_region 27 with(go_at_call 109;refine(HLL.out _ HR3.out).mono ?_;rintro e w5 ⟨p5,n5,c5,rfl,hgr5,hr5,hg5⟩;(have hV5:=HV4.out.keep (hg5.block (w.heap.size+1+1) HV4.out.lt (by simp;omega)));(obtain⟨u0,u1,u2,u3,u4⟩:=hV5.cells5);(have y0:=hV5.frozen 0);(have y1:=hV5.frozen 1);(have y2:=hV5.frozen 2);(have y3:=hV5.frozen 3);(have y4:=hV5.frozen 4))
 have hv6:=hV5.setMs p5 n5 c5;have hg6:=zz w5 (w.heap.size+1+1) 4 (.slice p5 n5 c5);have hv7:=(HV3.out.keep (hg5.block _ HV3.out.lt (by simp;omega))).keep (hg6.block (w.heap.size+1) (yl HV3.out.lt hg5.size) (by simp))
 have hr6:=hr5.kept hg6 (fun k e=>by cases e;omega)
 have hgw6:=(HG3.out.trans hg5).new_row hg6 (by omega)
 have ht5:=hgr5.whole;have ht6:=ht5.same (w':=w5.setCell ⟨w.heap.size+1+1,4,none⟩ (.slice p5 n5 c5)) (fun k hk=>hg6.block k hk.2 (fun e=>by have:=hk.1;have:=HZ3.out;cases e;omega))
 have hz6:(w5.setCell ⟨w.heap.size+1+1,4,none⟩ (.slice p5 n5 c5)).heap.size=w5.heap.size:=by simp
 obtain⟨W6,hW6⟩:∃W,w5.setCell ⟨w.heap.size+1+1,4,none⟩ (.slice p5 n5 c5)=W:=⟨_,rfl⟩;rw[hW6]at hv6 hv7 hr6 hgw6 ht6 hz6
 try rw[hW6]
 dsimp only at hv6;clear hW6 v0 v1 v2 v3 v4 u0 u1 u2 u3 u4 y0 y1 y2 y3 y4 c3 hg6 hV5 ht5;obtain⟨v0,v1,v2,v3,v4⟩:=hv6.cells5;obtain⟨z0,z1,z2,z3,z4⟩:=hv7.cells5;have y0:=hv7.frozen 0;have y1:=hv7.frozen 1;have y2:=hv7.frozen 2;have y3:=hv7.frozen 3;have y4:=hv7.frozen 4;dsimp only[RV.zero]at v0 v1 v2 v3 v4 z0 z1 z2 z3 z4;have HR6:=yb hr6;have HG6:=yb hgw6;have HT6:=yb ht6;have HZ6:=yb hz6;have HGX:=yb hg5.size;clear hr6 hgw6 ht6 hv6 hv7 hgr5 hr5 hg5 hz6
 go_wp2_with fail
 have hg7:=zeM W6 (w.heap.size+1) (⟨6,0,⟨#[]⟩,none,0,0,p5,n5,c5⟩:RV);have hz7:=hg7.size;refine bodyPost_ret (v:=RV.val ⟨6,0,⟨#[]⟩,none,0,0,p5,n5,c5⟩) (by simp[results,Tryz.results59,go_sem,z0,z1,z2,z3,z4]) rfl ⟨⟨6,0,⟨#[]⟩,none,0,0,p5,n5,c5⟩,rfl,?_,HR6.out.kept hg7 (fun k e=>by cases e;omega),HG6.out.new_row hg7 (by omega)⟩
 refine(HT6.out.same (fun k hk=>hg7.block k (by have:=HZ6.out;omega) (fun e=>by have:=hk.1;have:=HZ3.out;cases e;omega))).mono (fun k hk=>⟨by have:=hk.1;have:=HZ3.out;omega,?_⟩)
 exact yl (show k<W6.heap.size by have:=hk.2;have:=HZ6.out;omega) hz7
theorem zsU{t:Tok}{c:UInt8}(h:isM t c=true):t.kind=1/\t.s=⟨#[c]⟩:=by
 unfold isM at h;rw[yk,decide_eq_true_eq,decide_eq_true_eq]at h;exact h
theorem zsK:∀N,PV N
 | 0 => fun f hf d p t ts v q r h => by
   obtain rfl:f=0:=by omega
   simp[zek]at h
 | N + 1 => by
   have ih:=zsK N;intro f hf d p t ts v q r h w g en hr;cases f with
   |zero=>simp[zek]at h
   | succ f =>
     have hb:=(zsw (f+1)).1 _ _ _ _ _ _ h;unfold zek at h
     split at h
     ·cases h
     ·rename_i hc;have hp:p<8192:=by omega
      have leaf:∀v',zio t=some v'->Calls ya 59 #[.pointer (some ⟨g,0,none⟩),t.val,.int .i64 d] w (zoZ w g v' ts en (p+1)):=fun v' hv=>zts w g en p d t ts v' hr hb.2.2 hp hv
      split at h
      ·rename_i h4;cases h;exact leaf _ (by unfold zio;rw[if_pos h4])
      ·rename_i h4
       split at h
       ·rename_i h2
        split at h
        ·rename_i h5;cases h;exact leaf _ (by unfold zio;rw[if_neg h4,if_pos h2,if_pos h5])
        ·rename_i h5
         split at h
         ·rename_i h6;cases h;exact leaf _ (by unfold zio;rw[if_neg h4,if_pos h2,if_neg h5,if_pos h6])
         ·rename_i h6;cases h;exact leaf _ (by unfold zio;rw[if_neg h4,if_pos h2,if_neg h5,if_neg h6])
       ·split at h
        ·rename_i h2 h91;have hm:=zsU h91;cases ts with
         |nil=>cases h
         | cons c r' =>
           dsimp only at h
           split at h
           ·rename_i h93;cases h;exact zsy w g en p d t (c::_) [] _ _ hr hb.2.2 hp hm.1 hm.2 (fun W hW=>zty W g en (p+1) d c _ hW h93)
           ·rename_i h93;obtain⟨x,hx,he⟩:=yg.1 h;cases he;exact zsy w g en p d t (c::r') x.1 _ _ hr hb.2.2 hp hm.1 hm.2 (fun W hW=>ztz N ih W g en (p+1) d f c r' x.1 _ _ hW hb.2.2 (by simpa using h93) (by omega) hx)
        ·split at h
         ·rename_i h2 h91 h123;have hm:=zsU h123;cases ts with
          |nil=>cases h
          | cons c r' =>
            dsimp only at h
            split at h
            ·rename_i h93;cases h;exact zsL w g en p d t (c::_) [] _ _ hr hb.2.2 hp hm.1 hm.2 (fun W hW=>(zsV W g en (p+1) d c _ hW h93).mono (fun e w' hh=>⟨none,0,0,hh.1,GrM.nil _ _,hh.2.1,hh.2.2⟩))
            ·rename_i h93;obtain⟨x,hx,he⟩:=yg.1 h;cases he;exact zsL w g en p d t (c::r') x.1 _ _ hr hb.2.2 hp hm.1 hm.2 (fun W hW=>zsW N ih W g en (p+1) d f c r' x.1 _ _ hW hb.2.2 (by simpa using h93) (by omega) hx)
         ·split at h
          ·rename_i h7 h8 h9 h3;cases h;exact leaf _ (by unfold zio;rw[if_neg h4,if_neg (by rw[h3];decide),if_pos h3])
          ·cases h
end
end Go.Proofs.YtemofofnkchmeaaGreatDoor
