import Derived.Test.YtemofofnkchmeaaGreatDoorL19
import Derived.Test.YtemofofnkchmeaaGreatDoorL15
import Derived.Test.YtemofofnkchmeaaGreatDoorL01
import Derived.Test.YtemofofnkchmeaaGreatDoorL09
import Derived.Test.YtemofofnkchmeaaGreatDoorL18
import Derived.Test.YtemofofnkchmeaaGreatDoorRows
import Derived.ChangeArms
import Derived.ChangeMaps5
import Derived.LaidLaws
import Derived.LaidSub
import Derived.Lib.LaidTab
import Derived.Lib.SmallJoins
import Derived.MakeChecks
import Derived.OpenShut
import Derived.Shelf.Vars
import Derived.Test.YtemofofnkchmeaaGreatDoorL04
import Derived.Test.YtemofofnkchmeaaGreatDoorL07
import Derived.BigQuiet
import Derived.Deep.RegionHeld3
import Derived.ArgAppend
set_option linter.unusedSimpArgs false
set_option linter.unusedVariables false
set_option maxRecDepth 200000
set_option maxHeartbeats 8000000
namespace Go.Proofs.YtemofofnkchmeaaGreatDoor
open _root_.Go.RowKit.Below renaming refl->yh
open _root_.Bool renaming false_eq_true->ybb
open _root_.Int renaming natCast_nonneg->yj
open _root_.Go.Lib renaming hid->yc
open _root_.List renaming getElem?_append_left->yad,getElem?_append_right->yN,getElem?_drop->yaP,getElem?_eq_getElem->yf,getElem?_eq_some_iff->yi,getElem?_map->yG,getElem?_take->yac,length_append->yp,length_drop->yF,length_take->yz,set_set->ybx,take_append_drop->y9
open _root_.Nat renaming add_mul->yag,add_zero->yw,le_refl->yd,zero_add->yal,zero_le->yu
open _root_.Go.Proofs.Tryz renaming prog->ye
section
open Go Go.RowKit Go.OpenShut Go.Maps Go.WideMaps Go.ChangeMaps Go.MapKept Go.WideShapes
section
variable {P:Program} (w:World) {ops:Array Oper} {rest:List Oper} {o:Oper} {a:Act} {Q:Exit->Act->World->Prop}
end
def fnV(n:Nat):Value:= .func (.func n) #[] #[]
def zct(n:ByteArray):Option Value:=
 if n=zc2 then some (fnV 124)else
 if n=zc3 then some (fnV 123)else
 if n=zcX then some (fnV 122)else
 if n=zcY then some (fnV 121)else
 if n=zL then some (fnV 120)else
 if n=zcP then some (fnV 119)else
 if n=zbo then some (fnV 118)else
 if n=zbq then some (fnV 117)else none
def AsksAt(w:World)(b:Nat):Prop:=∃f n,MapF w ye 9 b n f/\∀s:ByteArray,f s.data.toList=zct s
theorem AsksAt.below{B:Nat}{w w':World}{b:Nat}(h:AsksAt w b)(hb:Below B w w')(hB:b<B):AsksAt w' b:=by
 obtain⟨f,n,h1,h2⟩:=h;exact⟨f,n,h1.below hb hB,h2⟩
theorem AsksAt.lt{w:World}{b:Nat}(h:AsksAt w b):b<w.heap.size:=by
 obtain⟨f,n,h1,h2⟩:=h;exact h1.lt
theorem AsksAt.look{w:World}{b:Nat}(h:AsksAt w b){s:ByteArray}(hs:s.size<=maxLen):(Instr.lookup 128 (.map (some b)) (.string s) false).run ye w= .ok ((zct s).getD .nilFunc) w:=by
 obtain⟨f,n,h1,h2⟩:=h;have:=h1.look Tryz.underlying9 Tryz.underlying128 (Tryz.zeroValue130 w) hs;rw[h2]at this;exact this
theorem zmV{a b:ByteArray}:a.data.toList=b.data.toList↔a=b:=⟨fun h=>ByteArray.ext (Array.toList_inj.1 h),fun h=>by rw[h]⟩
theorem zg9(w:World):Calls ye 76 #[] w fun e w'=>∃b,e= .returned (.map (some b))/\AsksAt w' b/\w.heap.size<=b/\Below w.heap.size w w':=by
 have h0:MapF (w.alloc (.map #[] 0)) ye 9 w.heap.size 0 (fun _=>none):=MapF.made w ye 9
 have hb0:Below w.heap.size w (w.alloc (.map #[] 0)):=(yh _ _).alloc (yd _) _;obtain⟨W0,hW0⟩:∃W,w.alloc (.map #[] 0)=W:=⟨_,rfl⟩;rw[hW0]at h0 hb0;have HB0:=yc hb0;have HM0:=yc h0;clear h0 hb0;obtain⟨w1,hr1,hm1,hg1⟩:=HM0.out.store Tryz.underlying9 Tryz.underlying128 (by decide) (s:=zbq) (by decide) (fnV 117)
 have HM1:=yc hm1;have HB1:Hid (Below w.heap.size w w1):=HB0.out.grown hg1 HB0.out.size (fun k e=>by cases e;exact yd _)
 clear hm1 hg1;obtain⟨w2,hr2,hm2,hg2⟩:=HM1.out.store Tryz.underlying9 Tryz.underlying128 (by decide) (s:=zbo) (by decide) (fnV 118)
 have HM2:=yc hm2;have HB2:Hid (Below w.heap.size w w2):=HB1.out.grown hg2 HB1.out.size (fun k e=>by cases e;exact yd _)
 clear hm2 hg2;obtain⟨w3,hr3,hm3,hg3⟩:=HM2.out.store Tryz.underlying9 Tryz.underlying128 (by decide) (s:=zcP) (by decide) (fnV 119)
 have HM3:=yc hm3;have HB3:Hid (Below w.heap.size w w3):=HB2.out.grown hg3 HB2.out.size (fun k e=>by cases e;exact yd _)
 clear hm3 hg3;obtain⟨w4,hr4,hm4,hg4⟩:=HM3.out.store Tryz.underlying9 Tryz.underlying128 (by decide) (s:=zL) (by decide) (fnV 120)
 have HM4:=yc hm4;have HB4:Hid (Below w.heap.size w w4):=HB3.out.grown hg4 HB3.out.size (fun k e=>by cases e;exact yd _)
 clear hm4 hg4;obtain⟨w5,hr5,hm5,hg5⟩:=HM4.out.store Tryz.underlying9 Tryz.underlying128 (by decide) (s:=zcY) (by decide) (fnV 121)
 have HM5:=yc hm5;have HB5:Hid (Below w.heap.size w w5):=HB4.out.grown hg5 HB4.out.size (fun k e=>by cases e;exact yd _)
 clear hm5 hg5;obtain⟨w6,hr6,hm6,hg6⟩:=HM5.out.store Tryz.underlying9 Tryz.underlying128 (by decide) (s:=zcX) (by decide) (fnV 122)
 have HM6:=yc hm6;have HB6:Hid (Below w.heap.size w w6):=HB5.out.grown hg6 HB5.out.size (fun k e=>by cases e;exact yd _)
 clear hm6 hg6;obtain⟨w7,hr7,hm7,hg7⟩:=HM6.out.store Tryz.underlying9 Tryz.underlying128 (by decide) (s:=zc3) (by decide) (fnV 123)
 have HM7:=yc hm7;have HB7:Hid (Below w.heap.size w w7):=HB6.out.grown hg7 HB6.out.size (fun k e=>by cases e;exact yd _)
 clear hm7 hg7;obtain⟨w8,hr8,hm8,hg8⟩:=HM7.out.store Tryz.underlying9 Tryz.underlying128 (by decide) (s:=zc2) (by decide) (fnV 124)
 have HM8:=yc hm8;have HB8:Hid (Below w.heap.size w w8):=HB7.out.grown hg8 HB7.out.size (fun k e=>by cases e;exact yd _)
 clear hm8 hg8
 have HF:Hid (AsksAt w8 w.heap.size):=⟨_,_,HM8.out,fun s=>by
  simp only[zmV]
  rfl⟩
 unfold fnV at hr1 hr2 hr3 hr4 hr5 hr6 hr7 hr8;have e1:zbq=⟨#[105,110,65,100,100,114,101,115,115,66,111,111,107]⟩:=rfl;have e2:zbo=⟨#[117,105,100]⟩:=rfl;have e3:zcP=⟨#[104,97,115,77,101,109,98,101,114]⟩:=rfl;have e4:zL=⟨#[107,105,110,100]⟩:=rfl;have e5:zcY=⟨#[99,114,101,97,116,101,100,66,101,102,111,114,101]⟩:=rfl;have e6:zcX=⟨#[99,114,101,97,116,101,100,65,102,116,101,114]⟩:=rfl;have e7:zc3=⟨#[117,112,100,97,116,101,100,66,101,102,111,114,101]⟩:=rfl;have e8:zc2=⟨#[117,112,100,97,116,101,100,65,102,116,101,114]⟩:=rfl;rw[e1]at hr1;rw[e2]at hr2;rw[e3]at hr3;rw[e4]at hr4;rw[e5]at hr5;rw[e6]at hr6;rw[e7]at hr7;rw[e8]at hr8;clear e1 e2 e3 e4 e5 e6 e7 e8;have hmm:= @run_makeMap ye
 go_enter Tryz.func76,Tryz.ntmps76
 go_wp2_with fail
 go_ret;exact⟨_,rfl,HF.out,yd _,HB8.out⟩
theorem AllAt.rd{w:World}(h:AllAt w):Rd w w.heap.size zg 1 (.slice (some ⟨0,0,none⟩) 8 8) allF:=by
 refine⟨_,8,rfl,yd _,by decide,(fun e=>by cases e),fun a ha _=> ?_⟩
 cases ha;refine⟨_,0,rfl,(zbD (h 0 _ rfl)).2,fun i x hx j u hu=> ?_⟩
 match j,hu with
 | 0, hu =>
   obtain rfl:=Option.some.inj hu;have:=h i x hx;simpa using this
 |j+1,hu=>simp[zg]at hu
theorem zmm(n:ByteArray):zb9 n=((n.toList==[116,101,120,116])||((n.toList==[110,97,109,101,47,103,105,118,101,110])||((n.toList==[110,97,109,101,47,115,117,114,110,97,109,101])||inB allF n))):=by
 rw[<-zF,<-zF,<-zF]
 rfl
theorem zo0(n:ByteArray)(w:World)(ha:AllAt w):Calls ye 113 #[.string n] w fun e w'=>e= .returned (.bool (zb9 n))/\w=w':=by
 have HC:=yc (zdb ha.rd (by decide) n)
 rw[zmm];obtain⟨a,h1⟩:∃b,(n.toList==[116,101,120,116])=b:=⟨_,rfl⟩;obtain⟨b,h2⟩:∃b,(n.toList==[110,97,109,101,47,103,105,118,101,110])=b:=⟨_,rfl⟩;obtain⟨c,h3⟩:∃b,(n.toList==[110,97,109,101,47,115,117,114,110,97,109,101])=b:=⟨_,rfl⟩;obtain⟨d,h4⟩:∃b,inB allF n=b:=⟨_,rfl⟩;rw[h4]at HC;rw[h1,h2,h3,h4];clear h4 ha;cases a<;>cases b<;>cases c
 all_goals
  go_enter Tryz.func113,Tryz.ntmps113
  go_wp2_with (go_at_call 111;(with_reducible refine HC.out.mono ?_);rintro e w1 ⟨rfl,rfl⟩)
  go_ret;exact⟨rfl,rfl⟩
theorem zlk(s:ByteArray)(w:World)(hs:s.size<=maxLen):Calls ye 115 #[.string s] w fun e w'=>e= .returned (.bool (zbm s.data.toList).isSome)/\Below w.heap.size w w':=by
 have HC:=yc (zff s w hs);obtain⟨o,ho⟩:∃o,zbm s.data.toList=o:=⟨_,rfl⟩;rw[ho]at HC;rw[ho];clear ho;cases o
 all_goals
  unfold zen at HC
  go_enter Tryz.func115,Tryz.ntmps115
  go_wp2_with (go_at_call 173;(with_reducible refine HC.out.mono ?_);rintro e w1 ⟨rfl,hb1⟩)
  go_ret;exact⟨rfl,hb1⟩
end
section
open Go Go.RowKit Go.OpenShut Go.Joins Go.ChangeShapes Go.WideShapes Go.ChangeAt Go.Lib
theorem gAll : ye.globalNamed "cardbox/sieve.all" = some 0 := by kernel_rfl
theorem gAllType:(ye.globals[0]?).map (·.type)=some 122:=by kernel_rfl
theorem zoD:(Rows.laid_cardbox_sieve_all:DataW Unit)= .agg (allF.map fun s=> .lit (.string s.data.toList)):=by kernel_rfl
theorem zrv {l : List (String × DataW Unit)} {W : World} (hl : (l.filter fun x => x.1 == "cardbox/sieve.all") = [("cardbox/sieve.all", Rows.laid_cardbox_sieve_all)])
 (hn:(l.all fun x=>x.2.handleName?.isNone)=true) (hL:laidMetH ye l W):AllAt W:=by
 rw[MakeChecks.laidMetH_plain _ _ _ hn]at hL;have h1 := hL.filter (fun x => x.1 == "cardbox/sieve.all")
 rw[hl,zoD]at h1;obtain⟨ps,⟨g,t,cs,fuel,p,q,hg,ht,hv,hd,_,_⟩,_,_⟩:=h1;obtain rfl:=Option.some.inj (gAll.symm.trans hg);obtain rfl:=Option.some.inj (gAllType.symm.trans ht);obtain⟨xs,m,_,ex,_,hxl,hel⟩:=DataW.trod_array Tryz.underlying122 hd;have c9:ye.cellsOf 9=1:=by kernel_rfl
 intro i x hx;have hi:i<8:=(yi.1 hx).1;have hE:=hel i hi;rw[c9,Nat.mul_one,yf (by omega)]at hE
 obtain⟨z,e1,e2,_⟩:=DataW.trod_string Tryz.underlying9 hE;have e3:(xs.map (·.1))=allF.map fun s=> .lit (.string s.data.toList):=(DataW.agg.inj (Prod.mk.inj ex).1).symm
 have e4:(xs.map (·.1))[i]? =(allF.map fun s=>(DataW.lit (.string s.data.toList):DataW Unit))[i]? :=by rw[e3]
 rw[yG,yG,yf (by omega:i<xs.length),hx,e2]at e4
 have hz:z=x:=by
  simp only[Option.map_some,Option.some.injEq,DataW.lit.injEq,Lit.string.injEq]at e4;exact ByteArray.ext (Array.toList_inj.1 e4)
 rw[World.var?_cell hg hv i,<-hz]
 have:cs.toList[i]? =some (.string z):=by
  have h0:((cs.toList.drop i).take 1)[0]? =some (.string z):=by rw[e1];rfl
  simpa using h0
 simpa using this
theorem zrS{W:World}(hS:W.ShapedOpen ye):MaxAt W:=
 Go.Proofs.cell_of_shapedOpen_int (zero:=#[.int .i64 0]) (t:=3) hS (of_decide_eq_true (by kernel_rfl)) (by kernel_rfl) rfl (by kernel_rfl) (by kernel_rfl) Tryz.underlying3
end
section
open Go.RowKit Go.OpenShut
inductive SameT:JV->JV->Prop
 |mk {k n:Int} {s:ByteArray} {l l':List JV} {m m':List (ByteArray×JV)} (el:l.length=l'.length) (em:m.length=m'.length) (cl:∀(i:Nat) (t u:JV),l[i]? =some t->l'[i]? =some u->SameT t u)
  (cf:∀(i:Nat) (p:ByteArray×JV),m[i]? =some p->m'.findIdx? (fun q=>decide (q.1=p.1))≠none)
  (cm:∀(i j:Nat) (p q:ByteArray×JV),m[i]? =some p->m'.findIdx? (fun q=>decide (q.1=p.1))=some j->m'[j]? =some q->SameT p.2 q.2):SameT (.mk k n s l m) (.mk k n s l' m')
theorem zgw{P:Program}{t k e:TypeId}(hu:P.underlying t=some (.map k e))(n:Int)(w:World):(Instr.makeMap t (some (.int .i64 n))).run P w= .ok (.map (some w.heap.size)) (w.alloc (.map #[] 0)):=by
 simp[Instr.makeMap,run_underlying hu,asInt,asIntOf,Result.andThen]
section
variable {P:Program} (w:World) {ops:Array Oper} {rest:List Oper} {o:Oper} {a:Act} {Q:Exit->Act->World->Prop}
theorem zce(hg:o.guard=none)(m x:Operand)(t:TypeId)(hop:o.op=Op.lookup t m x true)(k e:TypeId)(hk:P.underlying k=some .string)(ht:P.underlying t=some (.map k e)){z:Value}(hz:(zeroValue e).run P w= .ok z w)
 (b n:Nat) (f:List UInt8->Option Value) (hm:a.eval m= .map (some b)) (hown:MapF w P k b n f) (s:ByteArray) (hx:a.eval x= .string s) (hs:s.size<=maxLen) {v:Value} {y:Bool} (hv:(f s.data.toList).getD z=v) (hy:(f s.data.toList).isSome=y)
 (hK:wpList P ops Q rest (a.put o.dst (.tuple #[v,.bool y])) w):wpList P ops Q (o::rest) a w:=by
 refine wpList_plain hg fun K' hK'=> ?_
 have hrun:=hown.look_ok hk ht hz hs;rw[hv,hy]at hrun;unfold Oper.wp;simp[execOp,hop,hm,hx,hrun,Result.andThen];exact hK' _ _ hK
end
def zco(rms:List RM)(s:List UInt8):Option Value:=(rms.find? (fun q=>decide (q.name.data.toList=s))).map (·.v.val)
theorem zk1{rms:List RM}{i:Nat}{q:RM}(h:rms[i]? =some q)(s:List UInt8):zco (rms.drop i) s=if s=q.name.data.toList then some q.v.val else zco (rms.drop (i+1)) s:=by
 obtain⟨hi,e⟩:=yi.1 h;rw[List.drop_eq_getElem_cons hi,e];unfold zco;rw[List.find?_cons];by_cases hs:q.name.data.toList=s
 ·simp[hs]
 ·have hs':¬s=q.name.data.toList:=fun h=>hs h.symm
  simp[hs,hs']
theorem zgj{a b:ByteArray}(h:a.data.toList=b.data.toList):a=b:=by
 obtain⟨⟨x⟩⟩:=a;obtain⟨⟨y⟩⟩:=b;simp only at h;rw[h]
theorem zk3{m:List (ByteArray×JV)}{rms:List RM}{a:ByteArray}{j:Nat}(em:m.length=rms.length)(cn:∀(i:Nat) (p:ByteArray×JV) (q:RM),m[i]? =some p->rms[i]? =some q->p.1=q.name)(h:m.findIdx? (fun q=>decide (q.1=a))=some j):
 ∃q p,rms[j]? =some q/\m[j]? =some p/\zco rms a.data.toList=some q.v.val:=by
 rw[List.findIdx?_eq_some_iff_getElem]at h;obtain⟨h1,h2,h3⟩:=h;have h4:j<rms.length:=by omega
 have hn:∀i (hi:i<m.length),rms[i]'(by omega)=rms[i]'(by omega)/\m[i].1=(rms[i]'(by omega)).name:=fun i hi=>⟨rfl,cn i _ _ (yf hi) (yf (by omega))⟩
 refine⟨rms[j],m[j],yf h4,yf h1,?_⟩
 have:rms.find? (fun q=>decide (q.name.data.toList=a.data.toList))=some rms[j]:=by
  rw[List.find?_eq_some_iff_getElem];refine⟨?_,j,h4,rfl,fun i hi=> ?_⟩
  ·have:=(hn j h1).2;simp only[decide_eq_true_eq]at h2⊢;rw[<-this,h2]
  ·have h5:=(hn i (by omega)).2
   have h6:=h3 i hi;simp only[decide_eq_true_eq,Bool.not_eq_true',decide_eq_false_iff_not]at h6⊢;intro e;exact h6 (h5.trans (zgj e))
 unfold zco;rw[this]
 rfl
theorem zk2{m:List (ByteArray×JV)}{rms:List RM}{a:ByteArray}(em:m.length=rms.length)(cn:∀(i:Nat) (p:ByteArray×JV) (q:RM),m[i]? =some p->rms[i]? =some q->p.1=q.name)(h:m.findIdx? (fun q=>decide (q.1=a))=none):
 zco rms a.data.toList=none:=by
 rw[List.findIdx?_eq_none_iff]at h
 have:rms.find? (fun q=>decide (q.name.data.toList=a.data.toList))=none:=by
  rw[List.find?_eq_none];intro q hq;obtain⟨i,hi⟩:=List.getElem?_of_mem hq;have hi':i<m.length:=by rw[em];exact(yi.1 hi).1
  have h1:=h m[i] (List.getElem_mem hi');have h2:=cn i _ _ (yf hi') hi;simp only[decide_eq_true_eq,decide_eq_false_iff_not]at h1⊢;exact fun e=>h1 (h2.trans (zgj e))
 unfold zco;rw[this]
 rfl
theorem zpP(r q:RV)(w:World)(p:Prop)(hp:p->r.k=q.k/\r.n=q.n/\r.s=q.s/\r.nl=q.nl/\r.nm=q.nm)(hno:¬(r.k=q.k/\r.n=q.n/\r.s=q.s/\r.nl=q.nl/\r.nm=q.nm)):
 Calls ye 98 #[r.val,q.val] w (Said w p):=by
 obtain⟨k1,n1,s1,pl1,nl1,cl1,pm1,nm1,cm1⟩:=r;obtain⟨k2,n2,s2,pl2,nl2,cl2,pm2,nm2,cm2⟩:=q;dsimp only[RV.val]at*;have hfin:∀W',Below w.heap.size w W'->Said w p (.returned (.bool false)) W':=fun W' hb=>⟨false,rfl,by simp;exact fun h=>hno (hp h),hb⟩
 have HF:=yc hfin;have hB:=zM w;clear hfin hp;by_cases a1:k1=k2
 ·subst a1;by_cases a2:n1=n2
  ·subst a2;by_cases a3:s1=s2
   ·subst a3;by_cases a4:nl1=nl2
    ·subst a4
     have a5:((nm1:Int) !=(nm2:Int))=true:=by
      rw[bne_iff_ne];intro h;exact hno ⟨rfl,rfl,rfl,rfl,by omega⟩
     clear hno
     go_enter Tryz.func98,Tryz.ntmps98
     go_wp2_with fail
     go_ret;exact HF.out _ (hB _ _)
    ·have a5:((nl1:Int) !=(nl2:Int))=true:=by rw[bne_iff_ne];omega
     clear hno a4
     go_enter Tryz.func98,Tryz.ntmps98
     go_wp2_with fail
     go_ret;exact HF.out _ (hB _ _)
   ·have a5:(s1.toList==s2.toList)=false:=by rw[zdk];simpa using a3
    clear hno a3
    go_enter Tryz.func98,Tryz.ntmps98
    go_wp2_with fail
    go_ret;exact HF.out _ (hB _ _)
  ·have a5:(n1 !=n2)=true:=by simpa using a2
   clear hno a2
   go_enter Tryz.func98,Tryz.ntmps98
   go_wp2_with fail
   go_ret;exact HF.out _ (hB _ _)
 ·have a5:(k1 !=k2)=true:=by simpa using a1
  clear hno a1
  go_enter Tryz.func98,Tryz.ntmps98
  go_wp2_with fail
  go_ret;exact HF.out _ (hB _ _)
theorem zod(N:Nat):∀(t u:JV) (r q:RV) (w:World),SizeOf.sizeOf t<=N->TreeOf w w.heap.size t r->TreeOf w w.heap.size u q->t.Ok->u.Ok->
 Calls ye 98 #[r.val,q.val] w (Said w (SameT t u)):=by
 induction N with
 |zero=>intro t u r q w hN;cases t;simp at hN
 | succ N ih =>
   intro t u r q w hN ht hu ot ou;cases ht with
   | @mk _ l1 m1 rs1 rms1 hl1 el1 hcl1 hm1 em1 hcn1 hcm1=>
   cases hu with
   | @mk _ l2 m2 rs2 rms2 hl2 el2 hcl2 hm2 em2 hcn2 hcm2=>
   have eL1:=zi hl1;have eL2:=zi hl2;have eM1:=zi hm1;have eM2:=zi hm2;by_cases hall:r.k=q.k/\r.n=q.n/\r.s=q.s/\r.nl=q.nl/\r.nm=q.nm
   ·obtain⟨k1,n1,s1,pl1,nl1,cl1,pm1,nm1,cm1⟩:=r;obtain⟨k2,n2,s2,pl2,nl2,cl2,pm2,nm2,cm2⟩:=q;dsimp only[RV.val]at*;obtain⟨rfl,rfl,rfl,rfl,rfl⟩:=hall;cases ot with
    |mk _ _ _ bl1 bm1 okl1 oks1 okm1=>
    cases ou with
    |mk _ _ _ bl2 bm2 okl2 oks2 okm2=>
    have HT:Hid (∀(k:Nat) tx ty x y,l1[k]? =some tx->l2[k]? =some ty->rs1[k]? =some x->rs2[k]? =some y->∀W,Below w.heap.size w W->Calls ye 98 #[x.val,y.val] W (Said W (SameT tx ty))):=
     fun k tx ty x y h1 h2 h3 h4 W hb=>ih tx ty x y W (by have:=JV.lt_l (k:=k1) (n:=n1) (s:=s1) (m:=m1) h1;omega) ((hcl1 k tx x h1 h3).under hb hb.size) ((hcl2 k ty y h2 h4).under hb hb.size) (okl1 k tx h1) (okl2 k ty h2)
    have HS:Hid (∀(k j:Nat) tx ty x y,m1[k]? =some tx->m2[j]? =some ty->rms1[k]? =some x->rms2[j]? =some y->∀W,Below w.heap.size w W->Calls ye 98 #[x.v.val,y.v.val] W (Said W (SameT tx.2 ty.2))):=
     fun k j tx ty x y h1 h2 h3 h4 W hb=>ih tx.2 ty.2 x.v y.v W (by have:=JV.lt_m (k:=k1) (n:=n1) (s:=s1) (l:=l1) h1;omega) ((hcm1 k tx x h1 h3).under hb hb.size) ((hcm2 j ty y h2 h4).under hb hb.size) (okm1 k tx h1) (okm2 j ty h2)
    have HZ1:Hid (∀(i:Nat) (x:RM),rms1[i]? =some x->x.name.size<=maxLen):=fun i x hx=>by
     have hi:i<m1.length:=by have:=(yi.1 hx).1;omega
     rw[<-hcn1 i _ x (yf hi) hx];have:=oks1 i _ (yf hi);unfold maxLen;omega
    have HZ2:Hid (∀(i:Nat) (x:RM),rms2[i]? =some x->x.name.size<=maxLen):=fun i x hx=>by
     have hi:i<m2.length:=by have:=(yi.1 hx).1;omega
     rw[<-hcn2 i _ x (yf hi) hx];have:=oks2 i _ (yf hi);unfold maxLen;omega
    have HN1:=yc hcn1;have HN2:=yc hcn2;have HL1:=yc hl1;have HL2:=yc hl2;have HM1:=yc hm1;have HM2:=yc hm2;have hnl:nl1<=1759218604390:=by omega
    have hnm:nm1<=1466015503658:=by omega
    have E1:Hid (l1.length=nl1/\l2.length=nl1/\rs1.length=nl1/\rs2.length=nl1):=⟨by omega,by omega,by omega,by omega⟩
    have E2:Hid (m1.length=nm1/\m2.length=nm1/\rms1.length=nm1/\rms2.length=nm1):=⟨by omega,by omega,by omega,by omega⟩
    have hmk:∀(n:Int) (w:World),(Instr.makeMap 226 (some (.int .i64 n))).run ye w= .ok (.map (some w.heap.size)) (w.alloc (.map #[] 0)):=fun n w=>zgw Tryz.underlying226 n w
    have HMK:=yc hmk;clear ih hcl1 hcl2 hcm1 hcm2 hcn1 hcn2 hl1 hl2 hm1 hm2 okl1 okl2 okm1 okm2 oks1 oks2 el1 el2 em1 em2 eL1 eL2 eM1 eM2 bl1 bl2 bm1 bm2 hN hmk;have hA0:VAt ((w.alloc (.cells #[.int .i64 k1,.int .i64 n1,.string s1,.slice pl1 nl1 cl1,.slice pm1 nm1 cm1] 25)).alloc (.cells #[.int .i64 k1,.int .i64 n1,.string s1,.slice pl2 nl1 cl2,.slice pm2 nm1 cm2] 25)) w.heap.size ⟨k1,n1,s1,pl1,nl1,cl1,pm1,nm1,cm1⟩:=zb (by simp) (za rfl)
    have hA1:VAt ((w.alloc (.cells #[.int .i64 k1,.int .i64 n1,.string s1,.slice pl1 nl1 cl1,.slice pm1 nm1 cm1] 25)).alloc (.cells #[.int .i64 k1,.int .i64 n1,.string s1,.slice pl2 nl1 cl2,.slice pm2 nm1 cm2] 25)) (w.heap.size+1) ⟨k1,n1,s1,pl2,nl1,cl2,pm2,nm1,cm2⟩:=za (by simp)
    have hB0:=zM w (.cells #[.int .i64 k1,.int .i64 n1,.string s1,.slice pl1 nl1 cl1,.slice pm1 nm1 cm1] 25) (.cells #[.int .i64 k1,.int .i64 n1,.string s1,.slice pl2 nl1 cl2,.slice pm2 nm1 cm2] 25)
    go_enter Tryz.func98,Tryz.ntmps98
    go_upto_region 1 with fail
    obtain⟨W0,hW0⟩:∃W0,((w.alloc (.cells #[.int .i64 k1,.int .i64 n1,.string s1,.slice pl1 nl1 cl1,.slice pm1 nm1 cm1] 25)).alloc (.cells #[.int .i64 k1,.int .i64 n1,.string s1,.slice pl2 nl1 cl2,.slice pm2 nm1 cm2] 25))=W0:=⟨_,rfl⟩;rw[hW0]at hA0 hA1 hB0⊢;clear hW0;obtain⟨p0,p1,p2,p3,p4⟩:=hA0.cells5;obtain⟨q0,q1,q2,q3,q4⟩:=hA1.cells5;dsimp only at p0 p1 p2 p3 p4 q0 q1 q2 q3 q4;have hz:=hA1.lt;clear hA0 hA1
    go_wp2_with fail
    go_loopw [52] (fun i wr=>∃k:Nat,k<=nl1/\i= .int .i64 k/\Hid (∀(i:Nat) t u,i<k->l1[i]? =some t->l2[i]? =some u->SameT t u)/\Below W0.heap.size W0 wr) (fun i _=>nl1-(intOf i).toNat)
    case atStart=>exact⟨0,yu _,rfl,fun i t u h=>by omega,yh _ _⟩
    case round=>
     obtain⟨k,hk,rfl,hsm,hbr⟩:=hrel;have hbw:Below w.heap.size w wr:=hB0.trans (hbr.mono (by omega))
     have p3:=zc hbr (by omega) p3
     have q3:=zc hbr (by omega) q3
     by_cases hlt:k<nl1
     ·obtain⟨tx,htx⟩:∃x,l1[k]? =some x:=⟨_,yf (by have:=E1.out;omega)⟩
      obtain⟨ty,hty⟩:∃x,l2[k]? =some x:=⟨_,yf (by have:=E1.out;omega)⟩
      obtain⟨x,hx⟩:∃x,rs1[k]? =some x:=⟨_,yf (by have:=E1.out;omega)⟩
      obtain⟨y,hy⟩:∃x,rs2[k]? =some x:=⟨_,yf (by have:=E1.out;omega)⟩
      obtain⟨b1,o1,rfl,hb1,hc1⟩:=zq (HL1.out.below hbw (yd _)) hx;obtain⟨b2,o2,rfl,hb2,hc2⟩:=zq (HL2.out.below hbw (yd _)) hy;have f0:=hc1 0 _ rfl;have f1:=hc1 1 _ rfl;have f2:=hc1 2 _ rfl;have f3:=hc1 3 _ rfl;have f4:=hc1 4 _ rfl;have g0:=hc2 0 _ rfl;have g1:=hc2 1 _ rfl;have g2:=hc2 2 _ rfl;have g3:=hc2 3 _ rfl;have g4:=hc2 4 _ rfl;rw[yw]at f0 g0;have HC:=yc (HT.out k tx ty x y htx hty hx hy);have hk0:(0:Int)<=(k:Int):=yj _;have hk1:(k:Int)<(nl1:Int):=by omega
      have HTX:=yc htx;have HTY:=yc hty;clear hc1 hc2 htx hty hx hy;have hzr:W0.heap.size<=wr.heap.size:=hbr.size;have HBR:=yc hbr;clear hbr
      go_wp2_with fail
      go_region_held3 (fun w'=>w'.cell? ⟨w.heap.size,3,none⟩=some (.slice (some ⟨b1,o1,none⟩) nl1 cl1)/\w'.cell? ⟨w.heap.size+1,3,none⟩=some (.slice (some ⟨b2,o2,none⟩) nl1 cl2)/\
       w'.cell? ⟨b1,o1+k*5,none⟩=some (.int .i64 x.k)/\w'.cell? ⟨b1,o1+k*5+1,none⟩=some (.int .i64 x.n)/\w'.cell? ⟨b1,o1+k*5+2,none⟩=some (.string x.s)/\w'.cell? ⟨b1,o1+k*5+3,none⟩=some (.slice x.pl x.nl x.cl)/\w'.cell? ⟨b1,o1+k*5+4,none⟩=some (.slice x.pm x.nm x.cm)/\
       w'.cell? ⟨b2,o2+k*5,none⟩=some (.int .i64 y.k)/\w'.cell? ⟨b2,o2+k*5+1,none⟩=some (.int .i64 y.n)/\w'.cell? ⟨b2,o2+k*5+2,none⟩=some (.string y.s)/\w'.cell? ⟨b2,o2+k*5+3,none⟩=some (.slice y.pl y.nl y.cl)/\w'.cell? ⟨b2,o2+k*5+4,none⟩=some (.slice y.pm y.nm y.cm))
       (first|go_keep|(go_split_ands;refine⟨?_,?_,?_,?_,?_,?_,?_,?_,?_,?_,?_,?_⟩<;>(rw[hb1'.cell (by simp;omega)];assumption)))
       ((go_at_call 98;refine(HC.out _ ?_).mono ?_;(repeat (first|exact hbw|apply Below.drew));rintro e w1 ⟨b,rfl,hbb,hb1'⟩;(have HBB:=yc hbb);clear hbb))
      cases b with
      | true =>
        go_wp2_with fail
        go_roundw
        case rel=>
         refine⟨k+1,by omega,by go_num,fun i t u hi h1 h2=> ?_,HBR.out.drew.trans (hb1'.mono (by simp;omega))⟩
         by_cases hik:i=k
         ·subst hik;rw[HTX.out]at h1;rw[HTY.out]at h2;cases h1;cases h2;exact HBB.out.1 rfl
         ·exact hsm.out i t u (by omega) h1 h2
        case measure=>simp[intOf];omega
      | false =>
        go_wp2_with fail
        go_ret;refine⟨false,rfl,?_,hbw.drew.trans (hb1'.mono hbw.size)⟩;simp only[ybb,false_iff];intro h;cases h with
        |mk el em cl cf cm=>exact absurd (HBB.out.2 (cl k tx ty HTX.out HTY.out)) (by simp)
     ·obtain rfl:k=nl1:=by omega
      have hz1:W0.heap.size<=wr.heap.size:=hbr.size;have hzz:w.heap.size+1<wr.heap.size:=by omega
      have p4:=zc hbr (by omega) p4
      have q4:=zc hbr (by omega) q4
      have HSL:Hid (∀(i:Nat) t u,l1[i]? =some t->l2[i]? =some u->SameT t u):=fun i t u h1 h2=>hsm.out i t u (by have:=(yi.1 h1).1;have:=E1.out;omega) h1 h2
      clear HT HL1 HL2 hsm hbr p3 q3;obtain⟨wo,rfl⟩:∃wo:World,wo=wr:=⟨_,rfl⟩;have hmk:=HMK.out;have hM0:Hid (MapF (wo.alloc (.map #[] 0)) ye 9 wo.heap.size 0 (fun _=>none)):=MapF.made wo ye 9
      have hBo:Below wo.heap.size wo (wo.alloc (.map #[] 0)):=(yh _ _).alloc (yd _) _
      go_upto_region 10 with fail
      have hq4:=zc hBo hzz q4;clear hmk HMK;obtain⟨W1,hW1⟩:∃W1,wo.alloc (.map #[] 0)=W1:=⟨_,rfl⟩;rw[hW1]at hM0 hBo hq4⊢;clear hW1
      go_wp2_with fail
      go_loopw [7] (fun i wq=>∃j:Nat,j<=nm1/\i= .int .i64 ((j:Int)-1)/\Hid (MapF wq ye 9 wo.heap.size (nm1-j) (zco (rms2.drop j)))/\Below wo.heap.size wo wq) (fun i _=>(intOf i+1).toNat)
      case atStart=>
       refine⟨nm1,yd _,by go_num,?_,hBo⟩
       rw[show nm1-nm1=0 by omega,List.drop_of_length_le (by have:=E2.out;omega)]
       exact hM0
      case round=>
       obtain⟨wq,rfl⟩:∃wq:World,wq=wr:=⟨_,rfl⟩;obtain⟨j,hj,rfl,hMF,hbr⟩:=hrel;have hbw2:Below w.heap.size w wq:=hbw.trans (hbr.mono (by omega))
       have p4:=zc hbr (by omega) p4
       have q4:=zc hbr hzz q4;clear hq4;by_cases hlt:0<j
       ·obtain⟨j,rfl⟩:∃j',j=j'+1:=⟨j-1,by omega⟩
        obtain⟨y,hy⟩:∃x,rms2[j]? =some x:=⟨_,yf (by have:=E2.out;omega)⟩
        obtain⟨b2,o2,rfl,hb2,hc2⟩:=zq (HM2.out.below hbw2 (yd _)) hy;have g0:=hc2 0 _ rfl;have g1:=hc2 1 _ rfl;have g2:=hc2 2 _ rfl;have g3:=hc2 3 _ rfl;have g4:=hc2 4 _ rfl;have g5:=hc2 5 _ rfl;rw[yw]at g0;have hz2:=HZ2.out j y hy;obtain⟨w5,hrun,hM5,hG5⟩:=MapF.store (MapF.of_block (w':=wq.drew) hMF.out rfl) Tryz.underlying9 Tryz.underlying226 (by unfold maxLen;omega) hz2 y.v.val
        have HY:=yc hy;have HM5:=yc hM5;have HG5:=yc hG5;have hj0:(0:Int)<=(j:Int):=yj _;have hj1:(j:Int)<(nm1:Int):=by omega
        have ej:((j+1:Nat):Int)-1=(j:Int):=by omega
        rw[ej];clear hy hc2 hM5 hG5 hz2 ej;dsimp only[RV.val]at hrun
        go_wp2_with fail
        go_region
        clear hrun g0 g1 g2 g3 g4 g5
        go_wp2_with fail
        go_roundw
        case rel=>
         refine⟨j,by omega,by go_num,?_,(hbr.drew).trans ((yh _ _).grown HG5.out (by have:=hbr.size;simpa using this) (fun a e=>by cases e;exact yd _))⟩
         have h1:=(HM5.out.mono (m:=nm1-j) (by omega))
         have h2:(fun u=>if u=y.name.data.toList then some y.v.val else zco (rms2.drop (j+1)) u)=zco (rms2.drop j):=funext fun u=>(zk1 HY.out u).symm
         rw[h2]at h1;exact h1
        case measure=>first|(simp[intOf];done)|(simp[intOf];omega)
       ·obtain rfl:j=0:=by omega
        have hMF:Hid (MapF wq ye 9 wo.heap.size nm1 (zco rms2)):=hMF.out;have hbm:wo.heap.size<wq.heap.size:=hMF.out.lt;obtain⟨W3,rfl⟩:∃W3:World,W3=wq:=⟨_,rfl⟩;clear q4 HM2 HZ2;have ej:(((0:Nat):Int)-1)= -1:=rfl;rw[ej];clear ej
        go_wp2_with fail
        go_loopw [96] (fun i wq=>∃k:Nat,k<=nm1/\i= .int .i64 k/\Hid (∀(i j:Nat) p q,i<k->m1[i]? =some p->m2[j]? =some q->m2.findIdx? (fun q=>decide (q.1=p.1))=some j->SameT p.2 q.2)/\Hid (∀(i:Nat) p,i<k->m1[i]? =some p->m2.findIdx? (fun q=>decide (q.1=p.1))≠none)/\Below W3.heap.size W3 wq) (fun i _=>nm1-(intOf i).toNat)
        case atStart=>exact⟨0,yu _,rfl,fun i j p q h=>by omega,fun i p h=>by omega,yh _ _⟩
        case round=>
         obtain⟨wq,rfl⟩:∃wq:World,wq=wr:=⟨_,rfl⟩;obtain⟨k,hk,rfl,hsm,hfd,hbr3⟩:=hrel;have hbw3:Below w.heap.size w wq:=hbw2.trans (hbr3.mono (by omega))
         have hsz3:=hbr3.size;by_cases hlt:k<nm1
         ·obtain⟨tx,htx⟩:∃x,m1[k]? =some x:=⟨_,yf (by have:=E2.out;omega)⟩
          obtain⟨x,hx⟩:∃x,rms1[k]? =some x:=⟨_,yf (by have:=E2.out;omega)⟩
          obtain⟨b1,o1,rfl,hb1,hc1⟩:=zq (HM1.out.below hbw3 (yd _)) hx;have f0:=hc1 0 _ rfl;have f1:=hc1 1 _ rfl;have f2:=hc1 2 _ rfl;have f3:=hc1 3 _ rfl;have f4:=hc1 4 _ rfl;have f5:=hc1 5 _ rfl;rw[yw]at f0;have en:=HN1.out k tx x htx hx;have hzx:=HZ1.out k x hx;have hk0:(0:Int)<=(k:Int):=yj _;have hk1:(k:Int)<(nm1:Int):=by omega
          have HMX:Hid (MapF (wq.alloc (.cells #[.string x.name,.int .i64 x.v.k,.int .i64 x.v.n,.string x.v.s,.slice x.v.pl x.v.nl x.v.cl,.slice x.v.pm x.v.nm x.v.cm] 35)) ye 9 wo.heap.size nm1 (zco rms2)):=(hMF.out.below hbr3 hbm).alloc _;have HZX:=yc hzx;have HTX:=yc htx;have HBR:=yc hbr3;have HBW:=yc hbw3;have hel:m2.length=rms2.length:=by have:=E2.out;omega
          cases hfi:m2.findIdx? (fun q=>decide (q.1=tx.1))with
          | none =>
            have hkn:=zk2 hel HN2.out hfi;rw[en]at hkn;have HKN:=yc hkn;have HFI:=yc hfi;clear hc1 htx hx en hzx hbr3 hbw3 hel hfi hkn
            go_wp2_with (at_lookup;refine zce _ rfl _ _ _ rfl 9 25 Tryz.underlying9 Tryz.underlying226 (Tryz.zeroValue25 _) _ _ (zco rms2) rfl HMX.out x.name rfl HZX.out (v:= .agg #[.int .i64 0,.int .i64 0,.string ⟨#[]⟩,.slice none 0 0,.slice none 0 0]) (y:=false) (by rw[HKN.out];rfl) (by rw[HKN.out];rfl) ?_;go_frame)
            go_ret;refine⟨false,rfl,?_,(HBW.out.alloc HBW.out.size _).alloc (by have:=HBW.out.size;simp;omega) _⟩
            simp only[ybb,false_iff];intro h;cases h with
            |mk el em cl cf cm=>exact cf k tx HTX.out HFI.out
          | some j =>
            obtain⟨y,py,hy,hpy,hkn⟩:=zk3 hel HN2.out hfi;rw[en]at hkn;have HKN:=yc hkn;have HFI:=yc hfi;have HPY:=yc hpy;have HC:=yc (HS.out k j tx py x y htx hpy hx hy);have hBq:Below w.heap.size w ((wq.alloc (.cells #[.string x.name,.int .i64 x.v.k,.int .i64 x.v.n,.string x.v.s,.slice x.v.pl x.v.nl x.v.cl,.slice x.v.pm x.v.nm x.v.cm] 35)).alloc (.cells #[.int .i64 y.v.k,.int .i64 y.v.n,.string y.v.s,.slice y.v.pl y.v.nl y.v.cl,.slice y.v.pm y.v.nm y.v.cm] 25)):=(hbw3.alloc hbw3.size _).alloc (by have:=hbw3.size;simp;omega) _
            have HBQ:=yc hBq;clear hc1 htx hx en hzx hbr3 hbw3 hel hfi hkn hy hpy hBq
            go_wp2_with (first
             |(at_lookup;refine zce _ rfl _ _ _ rfl 9 25 Tryz.underlying9 Tryz.underlying226 (Tryz.zeroValue25 _) _ _ (zco rms2) rfl HMX.out x.name rfl HZX.out (v:=y.v.val) (y:=true) (by rw[HKN.out];rfl) (by rw[HKN.out];rfl) ?_;go_frame)
             |(go_at_call 98;refine(HC.out _ HBQ.out).mono ?_;rintro e w1 ⟨b,rfl,hbb,hb1'⟩;(have HBB:=yc hbb);clear hbb;cases b))
            ·go_ret;refine⟨false,rfl,?_,HBQ.out.trans (hb1'.mono HBQ.out.size)⟩;simp only[ybb,false_iff];intro h;cases h with
             |mk el em cl cf cm=>exact absurd (HBB.out.2 (cm k j tx py HTX.out HFI.out HPY.out)) (by simp)
            ·go_roundw
             case rel=>
              refine⟨k+1,by omega,by go_num,fun i j' p q hi h1 h2 h3=> ?_,fun i p hi h1=> ?_,((HBR.out.alloc HBR.out.size _).alloc (by have:=HBR.out.size;simp;omega) _).trans (hb1'.mono (by simp;omega))⟩
              ·by_cases hik:i=k
               ·subst hik;rw[HTX.out]at h1;cases h1;rw[HFI.out]at h3;cases h3;rw[HPY.out]at h2;cases h2;exact HBB.out.1 (by simp)
               ·exact hsm.out i j' p q (by omega) h1 h2 h3
              ·by_cases hik:i=k
               ·subst hik;rw[HTX.out]at h1;cases h1;rw[HFI.out];simp
               ·exact hfd.out i p (by omega) h1
             case measure=>simp[intOf];omega
         ·obtain rfl:k=nm1:=by omega
          go_wp2_with fail
          go_ret;refine⟨true,rfl,?_,hbw3⟩;simp only[true_iff];exact .mk (by have:=E1.out;omega) (by have:=E2.out;omega) HSL.out (fun i p h=>hfd.out i p (by have:=(yi.1 h).1;have:=E2.out;omega) h) (fun i j p q h1 h2 h3=>hsm.out i j p q (by have:=(yi.1 h1).1;have:=E2.out;omega) h1 h3 h2)
   ·refine zpP r q w _ (fun h=> ?_) hall
    generalize hA:JV.mk r.k r.n r.s l1 m1=A at h
    generalize hB:JV.mk q.k q.n q.s l2 m2=B at h
    cases h with
    | mk el em cl cf cm =>
      simp only[JV.mk.injEq]at hA hB;obtain⟨a1,a2,a3,a4,a5⟩:=hA;obtain⟨b1,b2,b3,b4,b5⟩:=hB;subst a4 a5 b4 b5;exact⟨a1.trans b1.symm,a2.trans b2.symm,a3.trans b3.symm,by omega,by omega⟩
def zgt(os:List (ByteArray×JV))(id:ByteArray):JV:=((os[zx os id]?).map (·.2)).getD JV.zero
open Classical in
noncomputable def zbF(b:BoxD)(id:ByteArray)(v:JV):BoxD×Int:=
 if zbj b.objs id=true then
  if SameT (zgt b.objs id) v then(b,0)else if 9007199254740991<=b.seq then(BoxD.zero,180)else(zeG b (b.objs.set (zx b.objs id) (id,v)) id 2,0)
 else if ze4 b.trail id=true then(BoxD.zero,181)else if 9007199254740991<=b.seq then(BoxD.zero,180)else(zeG b (b.objs.take (zx b.objs id)++(id,v)::b.objs.drop (zx b.objs id)) id 1,0)
def zm0(w:World)(p:BoxD×Int)(e:Ending)(w':World):Prop:=∃q,e= .returned (.tuple #[RB.val q,.int .i64 p.2])/\NewBox w' w.heap.size w.heap.size p.1 q/\Below w.heap.size w w'
theorem NewBox.zero(w:World)(base B:Nat):NewBox w base B BoxD.zero RB.zero:=⟨⟨[],Own.nil _ _ _,MemsOf.nil _ _⟩,Own.nil _ _ _,fun e h=>by simp[BoxD.zero]at h,rfl,rfl,rfl⟩
structure PutS(w W:World)(r:RB)(id:ByteArray)(v:RV):Prop where
 box:BoxAt W w.heap.size r
 str:W.heap[w.heap.size+1]? =some (.cells #[.string id] 9 (0,0))
 val:VAt W (w.heap.size+1+1) v
 zero:BoxAt W (w.heap.size+1+1+1) RB.zero
 below:Below w.heap.size w W
section
variable {w W W':World} {r:RB} {id:ByteArray} {v:RV} (h:PutS w W r id v)
include h
theorem PutS.size:w.heap.size+1+1+1<W.heap.size:=h.zero.lt
theorem PutS.sizes:w.heap.size<W.heap.size/\w.heap.size+1<W.heap.size/\w.heap.size+1+1<W.heap.size:=by have:=h.size;omega
theorem PutS.scell:W.cell? ⟨w.heap.size+1,0,none⟩=some (.string id):=by rw[cell_of_row W _ 0 _ _ _ h.str];rfl
theorem PutS.go(hb:Below W.heap.size W W'):PutS w W' r id v:=
 ⟨h.box.under hb h.sizes.1,(hb.block _ h.sizes.2.1).trans h.str,h.val.under hb h.sizes.2.2,h.zero.under hb h.size,h.below.trans (hb.mono h.below.size)⟩
theorem PutS.setBox(q:RB)(hq:BoxAt W' w.heap.size q)(hg:W.grownBy W' (some w.heap.size)):PutS w W' q id v:=
 ⟨hq,(hg.block _ h.sizes.2.1 (by simp)).trans h.str,(hg.block _ h.sizes.2.2 (by simp;omega)).trans h.val,h.zero.kept hg (by omega),h.below.grown hg h.below.size (fun a e=>by cases e;exact yd _)⟩
theorem PutS.row{row:Option Nat}(hg:W.grownBy W' row)(hr:∀k,row=some k->w.heap.size+1+1+1<k):PutS w W' r id v:=by
 have hz:=h.size;have hb:∀k,k<=w.heap.size+1+1+1->W'.heap[k]? =W.heap[k]? :=fun k hk=>hg.block k (by omega) (fun e=>by have:=hr k e.symm;omega)
 exact⟨(hb _ (by omega)).trans h.box,(hb _ (by omega)).trans h.str,(hb _ (by omega)).trans h.val,(hb _ (by omega)).trans h.zero,h.below.grown hg h.below.size (fun a e=>by have:=hr a e;omega)⟩
theorem PutS.other{g:Nat}(hg:W.grownBy W' (some g))(hgw:W.heap.size<=g\/w.heap.size+1+1+1<g):PutS w W' r id v:=by
 have hz:=h.size;exact⟨h.box.kept hg (by omega),(hg.block _ h.sizes.2.1 (by simp;omega)).trans h.str,(hg.block _ h.sizes.2.2 (by simp;omega)).trans h.val,h.zero.kept hg (by omega),h.below.grown hg h.below.size (fun a e=>by cases e;omega)⟩
end
theorem PutS.start(w:World)(r:RB)(id:ByteArray)(v:RV):PutS w ((((w.alloc (.cells #[.slice r.po r.no r.co,.slice r.pt r.nt r.ct,.int .i64 r.sq,.int .i64 r.fl,.int .i64 r.kp] 40)).alloc (.cells #[.string id] 9)).alloc (.cells #[.int .i64 v.k,.int .i64 v.n,.string v.s,.slice v.pl v.nl v.cl,.slice v.pm v.nm v.cm] 25)).alloc (.cells #[.slice none 0 0,.slice none 0 0,.int .i64 0,.int .i64 0,.int .i64 0] 40)) r id v:=
 ⟨zb (by simp<;>omega) (zb (by simp<;>omega) (zb (by simp) (za rfl))),zb (by simp<;>omega) (zb (by simp) (za (by simp))),zb (by simp) (za (by simp)),za (by simp),
  (((yh _ _).alloc (yd _) _).alloc (by simp) _|>.alloc (by simp<;>omega) _).alloc (by simp<;>omega) _⟩
theorem Own.storedVO{w:World}{base:Nat}{g n cap:Nat}{xs:List RM}(h:Own w base 62 zl 6 (.slice (some ⟨g,0,none⟩) n cap) xs){k:Nat}{x:RM}(hx:xs[k]? =some x)(q:RV):
 Own (((((w.setCell ⟨g,k*6+1,none⟩ (.int .i64 q.k)).setCell ⟨g,k*6+2,none⟩ (.int .i64 q.n)).setCell ⟨g,k*6+3,none⟩ (.string q.s)).setCell ⟨g,k*6+4,none⟩ (.slice q.pl q.nl q.cl)).setCell ⟨g,k*6+5,none⟩ (.slice q.pm q.nm q.cm)) base 62 zl 6 (.slice (some ⟨g,0,none⟩) n cap) (xs.set k ⟨x.name,q⟩)/\
 w.grownBy (((((w.setCell ⟨g,k*6+1,none⟩ (.int .i64 q.k)).setCell ⟨g,k*6+2,none⟩ (.int .i64 q.n)).setCell ⟨g,k*6+3,none⟩ (.string q.s)).setCell ⟨g,k*6+4,none⟩ (.slice q.pl q.nl q.cl)).setCell ⟨g,k*6+5,none⟩ (.slice q.pm q.nm q.cm)) (some g):=by
 have hk:=(yi.1 hx).1;have e:∀(y:RM) (z:RM),(xs.set k y)[k]? =some y:=fun y z=>by simp[List.getElem?_set,hk]
 have s1:=Own.storedAt codecM h (j:=1) (y:=⟨x.name,⟨q.k,x.v.n,x.v.s,x.v.pl,x.v.nl,x.v.cl,x.v.pm,x.v.nm,x.v.cm⟩⟩) (u:= .int .i64 q.k) hx (by decide) rfl
 have s2:=Own.storedAt codecM s1.1 (j:=2) (y:=⟨x.name,⟨q.k,q.n,x.v.s,x.v.pl,x.v.nl,x.v.cl,x.v.pm,x.v.nm,x.v.cm⟩⟩) (u:= .int .i64 q.n) (e _ x) (by decide) rfl
 simp only[ybx]at s2;have s3:=Own.storedAt codecM s2.1 (j:=3) (y:=⟨x.name,⟨q.k,q.n,q.s,x.v.pl,x.v.nl,x.v.cl,x.v.pm,x.v.nm,x.v.cm⟩⟩) (u:= .string q.s) (e _ x) (by decide) rfl
 simp only[ybx]at s3;have s4:=Own.storedAt codecM s3.1 (j:=4) (y:=⟨x.name,⟨q.k,q.n,q.s,q.pl,q.nl,q.cl,x.v.pm,x.v.nm,x.v.cm⟩⟩) (u:= .slice q.pl q.nl q.cl) (e _ x) (by decide) rfl
 simp only[ybx]at s4;have s5:=Own.storedAt codecM s4.1 (j:=5) (y:=⟨x.name,q⟩) (u:= .slice q.pm q.nm q.cm) (e _ x) (by decide) rfl
 simp only[ybx]at s5;exact⟨s5.1,(((s1.2.trans s2.2).trans s3.2).trans s4.2).trans s5.2⟩
theorem NewBox.ne{W:World}{base B g:Nat}{b:BoxD}{r:RB}(h:NewBox W base B b r)(hg:g<base):(Value.slice r.po r.no r.co).ownBlock≠some g/\(Value.slice r.pt r.nt r.ct).ownBlock≠some g:=by
 obtain⟨ros,h1,_⟩:=h.objs;exact⟨fun e=>by have:=(h1.lt _ e).1;omega,fun e=>by have:=(h.trail.lt _ e).1;omega⟩
theorem Own.unlike{α β:Type}{e1:α->List Value}{e2:β->List Value}{s1 s2 b1 b2:Nat}{t1 t2:TypeId}{w:World}{v1 v2:Value}{xs:List α}{ys:List β}(h1:Own w b1 t1 e1 s1 v1 xs)(h2:Own w b2 t2 e2 s2 v2 ys)(hne:t1≠t2){k:Nat}(hk:v1.ownBlock=some k):v2.ownBlock≠some k:=by
 intro hk2;obtain⟨_,h1⟩:=h1;obtain⟨_,h2⟩:=h2
 rcases h1 with⟨rfl,_⟩|⟨g,cap,cur,rfl,_,hh,_⟩
 ·simp[Value.ownBlock]at hk
 ·rcases h2 with⟨rfl,_⟩|⟨g',cap',cur',rfl,_,hh',_⟩
  ·simp[Value.ownBlock]at hk2
  ·simp only[Value.ownBlock,Option.some.injEq]at hk hk2;subst hk;subst hk2;rw[hh]at hh';simp only[Option.some.injEq,Obj.cells.injEq]at hh';exact hne hh'.2.1
theorem MemsOf.insert{w:World}{B:Nat}{ms:List (ByteArray×JV)}{rms:List RM}(h:MemsOf w B ms rms)(i:Nat){p:ByteArray×JV}{q:RM}(hn:p.1=q.name)(ht:TreeOf w B p.2 q.v):MemsOf w B (ms.take i++p::ms.drop i) (rms.take i++q::rms.drop i):=by
 have hl:=h.len
 have key:∀(j:Nat) a c,(ms.take i++p::ms.drop i)[j]? =some a->(rms.take i++q::rms.drop i)[j]? =some c->a.1=c.name/\TreeOf w B a.2 c.v:=by
  intro j a c h1 h2;have hlt:(ms.take i).length=(rms.take i).length:=by simp[hl]
  by_cases hj:j<(ms.take i).length
  ·rw[yad hj,yac]at h1;rw[yad (by omega),yac]at h2
   split at h1
   ·rename_i h3;rw[if_pos h3]at h2;exact⟨h.name _ _ _ h1 h2,h.val _ _ _ h1 h2⟩
   ·cases h1
  ·rw[yN (by omega)]at h1
   rw[yN (by omega),<-hlt]at h2
   cases hk:j-(ms.take i).length with
   | zero =>
     rw[hk]at h1 h2;cases h1;cases h2;exact⟨hn,ht⟩
   | succ k =>
     rw[hk,List.getElem?_cons_succ,yaP]at h1 h2;exact⟨h.name _ _ _ h1 h2,h.val _ _ _ h1 h2⟩
 exact⟨by simp[hl],fun j a c h1 h2=>(key j a c h1 h2).1,fun j a c h1 h2=>(key j a c h1 h2).2⟩
theorem MemsOf.delete{w:World}{B:Nat}{ms:List (ByteArray×JV)}{rms:List RM}(h:MemsOf w B ms rms)(i:Nat):MemsOf w B (ms.take i++ms.drop (i+1)) (rms.take i++rms.drop (i+1)):=by
 have hl:=h.len
 have key:∀(j:Nat) a c,(ms.take i++ms.drop (i+1))[j]? =some a->(rms.take i++rms.drop (i+1))[j]? =some c->a.1=c.name/\TreeOf w B a.2 c.v:=by
  intro j a c h1 h2;have hlt:(ms.take i).length=(rms.take i).length:=by simp[hl]
  by_cases hj:j<(ms.take i).length
  ·rw[yad hj,yac]at h1;rw[yad (by omega),yac]at h2
   split at h1
   ·rename_i h3;rw[if_pos h3]at h2;exact⟨h.name _ _ _ h1 h2,h.val _ _ _ h1 h2⟩
   ·cases h1
  ·rw[yN (by omega),yaP]at h1
   rw[yN (by omega),<-hlt,yaP]at h2
   exact⟨h.name _ _ _ h1 h2,h.val _ _ _ h1 h2⟩
 exact⟨by simp[hl],fun j a c h1 h2=>(key j a c h1 h2).1,fun j a c h1 h2=>(key j a c h1 h2).2⟩
theorem BoxAt.set0{W:World}{g:Nat}{r:RB}(h:BoxAt W g r)(p:Option Addr)(n c:Nat):BoxAt (W.setCell ⟨g,0,none⟩ (.slice p n c)) g {r with po:=p,no:=n,co:=c}:=by
 unfold BoxAt at h⊢;simp[World.setCell,Array.getElem?_modify,h]
theorem NewBox.withObjs{W W':World}{base B:Nat}{b:BoxD}{r:RB}(h:NewBox W base B b r){row:Option Nat}(hg:W.grownBy W' row)(hrow:row=(Value.slice r.po r.no r.co).ownBlock)(hne:62≠144){p:Option Addr}{n c:Nat}{os:List (ByteArray×JV)}{ros:List RM}(ho:Own W' base 62 zl 6 (.slice p n c) ros)(hm:MemsOf W' B os ros):
 NewBox W' base B {b with objs:=os} {r with po:=p,no:=n,co:=c}:=by
 obtain⟨ros0,h1,_⟩:=h.objs;refine⟨⟨ros,ho,hm⟩,h.trail.kept hg ?_,h.ok,h.seq,h.floor,h.keep⟩;subst hrow;cases e:(Value.slice r.pt r.nt r.ct).ownBlock with
 |none=>exact .inl rfl
 |some k=>exact .inr (fun e2=>Own.unlike h1 h.trail hne e2.symm e)
theorem zgx(g:Nat)(e:TypeId):∀(vs:List Value) (o:Nat) (w:World) (cur:Array Value),w.heap[g]? =some (.cells cur e (0,0))->o+vs.length<=cur.size->
 (w.setCells g o vs).heap[g]? =some (.cells (cur.toList.take o++vs++cur.toList.drop (o+vs.length)).toArray e (0,0))/\w.grownBy (w.setCells g o vs) (some g)
 |[],o,w,cur,h,hl=>⟨by simpa[World.setCells]using h,World.grownBy.refl w _⟩
 | v :: r, o, w, cur, h, hl => by
   have hl':o+1+r.length<=cur.size:=by simp at hl;omega
   obtain⟨h1,h2⟩:=zgx g e r (o+1) (w.setCell ⟨g,o,none⟩ v) (cur.setIfInBounds o v) (heap_setCell_same w g o cur e v h) (by simpa using hl')
   refine⟨?_,(zz w g o v).trans h2⟩
   show((w.setCell ⟨g,o,none⟩ v).setCells g (o+1) r).heap[g]? =_
   rw[h1]
   congr 3
   rw[Array.toList_setIfInBounds,List.take_add_one,List.take_set_of_le (yd _),List.getElem?_set_self (by simp;omega),List.drop_set_of_lt (by omega)]
   simp[Nat.add_assoc,Nat.add_comm 1]
theorem zhs{P:Program}{ops:Array Oper}{o:Oper}{a:Act}{w:World}{K:Act->World->Prop}{Q:Exit->Act->World->Prop}{E:Prop}
 (hg:o.guard=none) (d x:Operand) (dT sT:TypeId) (hop:o.op=Op.call {callee:=Callee.builtin Builtin.append,args:=#[d,x],argTypes:=#[dT,sT]})
 (v u:Value) (hd:a.eval d=v) (hx:a.eval x=u) {v':Value} {w':World} (hr:(Builtin.append_ #[dT,sT] o.type #[v,u]).run P w= .ok v' w') (hK:K (a.put o.dst v') w'):
 if Region.wanted o (yielded ops a.tmps)=true then Oper.wp P o a w K Q else E:=by
 have hw:Region.wanted o (yielded ops a.tmps)=true:=by simp[Region.wanted,hg]
 rw[if_pos hw];unfold Oper.wp;simp[execOp,hop,resolve,invoke,builtin,hd,hx,hr,Result.andThen];exact hK
theorem zmF{α:Type}{enc:α->List Value}{sz:Nat}(C:Codec enc sz){cur:List Value}{xs:List α}{n i:Nat}(hn:n=xs.length)(ht:cur.take (n*sz)=cellsOf enc xs)(hi:i<n)(hl:n*sz<=cur.length):
 (cur.take (i*sz)++cellsOf enc (xs.drop (i+1))++cur.drop (i*sz+(cellsOf enc (xs.drop (i+1))).length)).take (n*sz)=cellsOf enc (xs.take i++xs.drop (i+1)++xs.drop (n-1)):=by
 have h1:cur.take (i*sz)=cellsOf enc (xs.take i):=by
  rw[<-zfz C,<-ht,List.take_take,Nat.min_eq_left (Nat.mul_le_mul_right _ (by omega))]
 have hd:(cellsOf enc (xs.drop (i+1))).length=(n-(i+1))*sz:=by rw[zm C,yF,hn]
 have hk:i*sz+(n-(i+1))*sz=(n-1)*sz:=by rw[<-yag];congr 1;omega
 have hns:n*sz=(n-1)*sz+sz:=by
  have:n=n-1+1:=by omega
  rw[this,yag,Nat.one_mul,Nat.add_sub_cancel]
 have h2:(cur.drop ((n-1)*sz)).take sz=cellsOf enc (xs.drop (n-1)):=by
  have e:cellsOf enc xs=cellsOf enc (xs.take (n-1))++cellsOf enc (xs.drop (n-1)):=by rw[<-zv,y9]
  have hl1:(cellsOf enc (xs.take (n-1))).length=(n-1)*sz:=by rw[zm C,yz];congr 1;omega
  have e2:(cellsOf enc xs).drop ((n-1)*sz)=cellsOf enc (xs.drop (n-1)):=by rw[e,<-hl1,List.drop_left]
  rw[<-e2,<-ht,List.drop_take]
  congr 1
  omega
 rw[hd,hk,zv,zv,h1,<-h2]
 have hl3:(cellsOf enc (xs.take i)++cellsOf enc (xs.drop (i+1))).length=(n-1)*sz:=by
  rw[yp,hd,zm C,yz,<-yag]
  congr 1;omega
 rw[hns,<-hl3,List.take_length_add_append]
def zm1(w:World)(base:Nat)(p:Option Addr)(n c:Nat)(ys:List RM)(e:Ending)(w':World):Prop:=
 e= .returned (.slice p n c)/\Own w' base 62 zl 6 (.slice p n c) ys/\w.grownBy w' (Value.slice p n c).ownBlock
theorem oneO:∀i z,ye.info? 62=some i->i.zero=some z->∀u∈z.cells.toList,u.oneCell'=true:=by
 intro i z hi hz;have h:(ye.info? 62).map (fun i=>(i.zero,i.size,i.bytes))=some (some (.agg #[.string ByteArray.empty,.int .i64 0,.int .i64 0,.string ByteArray.empty,.slice none 0 0,.slice none 0 0]),6,96):=by kernel_rfl
 rw[hi]at h;simp only[Option.map_some,Option.some.injEq,Prod.mk.injEq]at h;rw[hz]at h;simp only[Option.some.injEq]at h;rw[h.1];intro u hu;simp[Value.cells]at hu
 rcases hu with rfl|rfl|rfl|rfl|rfl|rfl<;>rfl
theorem zkQ(w:World)(base:Nat)(p:Option Addr)(n c i:Nat)(xs:List RM)(ho:Own w base 62 zl 6 (.slice p n c) xs)(hb:base<=w.heap.size)(hi:i<n)(hlen:n<=1466015503658):
 Calls ye 104 #[.slice p n c,.int .i64 i,.int .i64 ((i:Int)+1)] w (zm1 w base p (n-1) c (xs.take i++xs.drop (i+1))):=by
 obtain⟨g,cur,rfl,hg,hh,hnx,hnc,hcm,hcs,ht⟩:=ho.row (.inl (by
  obtain⟨_,_,e,h1,_⟩:=ho.rd codecM;simp only[Value.slice.injEq]at e;omega))
 have hcn:cur.toList.length=c*6:=by simpa using hcs
 have hi0:(ye.info? 62).map (fun i=>(i.zero,i.size,i.bytes))=some (some (.agg #[.string ByteArray.empty,.int .i64 0,.int .i64 0,.string ByteArray.empty,.slice none 0 0,.slice none 0 0]),6,96):=by kernel_rfl
 obtain⟨i0,hi0,hz0,hzs,hzb⟩:=info_parts hi0;have hcell:∀j,w.cell? ⟨g,j,none⟩=cur.toList[j]? :=fun j=>by rw[cell_of_row w g j _ _ _ hh,Array.getElem?_toList]
 have hd:(cellsOf zl (xs.drop (i+1))).length=(n-(i+1))*6:=by rw[zm codecM,yF,hnx]
 have hcells:∀j v,(cellsOf zl (xs.drop (i+1)))[j]? =some v->w.cell? ⟨g,(i+1)*6+j,none⟩=some v:=fun j v hv=>by
  rw[hcell]
  have h1:(cellsOf zl xs)[(i+1)*6+j]? =some v:=by
   have e:cellsOf zl xs=cellsOf zl (xs.take (i+1))++cellsOf zl (xs.drop (i+1)):=by rw[<-zv,y9]
   have hl:(cellsOf zl (xs.take (i+1))).length=(i+1)*6:=by rw[zm codecM,yz];omega
   rw[e,yN (by omega),hl]
   simpa using hv
  rw[<-ht,yac]at h1
  split at h1
  ·exact h1
  ·cases h1
 obtain⟨row1,hrow1⟩:∃r:Array Value,r=(cur.toList.take (i*6)++cellsOf zl (xs.drop (i+1))++cur.toList.drop (i*6+(cellsOf zl (xs.drop (i+1))).length)).toArray:=⟨_,rfl⟩
 have hr1s:row1.size=c*6:=by
  rw[hrow1];simp only[List.size_toArray,yp,yz,yF,hd,hcn];omega
 have hfin:row1.toList.take (n*6)=cellsOf zl (xs.take i++xs.drop (i+1)++xs.drop (n-1)):=by
  rw[hrow1];exact zmF codecM hnx ht hi (by omega)
 obtain⟨W1,hW1⟩:∃W1,w.drew.setCells g (i*6) (cellsOf zl (xs.drop (i+1)))=W1:=⟨_,rfl⟩;have hrow:=zgx g 62 (cellsOf zl (xs.drop (i+1))) (i*6) w.drew cur hh (by rw[hd];omega)
 rw[hW1,<-hrow1]at hrow
 have hap:∀ty a sc,a=⟨g,(i+1)*6,none⟩\/i+1=n->(Builtin.append_ #[37,37] ty #[.slice (some ⟨g,0,none⟩) i c,.slice (some a) (n-(i+1)) sc]).run ye w.drew= .ok (.slice (some ⟨g,0,none⟩) (n-1) c) W1:=fun ty a sc ha=>by
  have h:=run_append_room_cells (P:=ye) (w:=w.drew) 37 ty 62 i0 Tryz.underlying37 hi0 g 0 i c a (n-(i+1)) sc (cellsOf zl (xs.drop (i+1))) (by rw[hd,hzs]) (fun j u hu=>by
   rcases ha with rfl|ha
   ·rw[zbl];exact hcells j u hu
   ·have:=(yi.1 hu).1;omega) (zdp codecM _) (by omega)
   (fun j hj=>by
    rw[hzs,yal]
    show(w.cell? _).isSome=true
    rw[hcell,yf (by omega)];rfl)
   (fun j hj=>by show w.frozen? _=false;simp[World.frozen?,hh])
  rw[hzs,yal,hW1,show i+(n-(i+1))=n-1 by omega]at h
  exact h
 have hown1:Own W1 base 62 zl 6 (.slice (some ⟨g,0,none⟩) n c) (xs.take i++xs.drop (i+1)++xs.drop (n-1)):=
  Own.ofRow codecM hrow.1 hfin (by simp;omega) hg hnc hcm hr1s
 have hbw1:w.grownBy W1 (some g):=zlA hrow.2;obtain⟨w2,hrun,ho2,hg2⟩:=zf9 (P:=ye) slO oneO codecM W1 0 hown1 (m:=n-1) (by omega) (v:= .slice (some ⟨g,(n-1)*6,none⟩) (n-(n-1)) (c-(n-1))) (by unfold sliced;rw[if_neg (by omega)];simp[zbl])
 have hys:(xs.take i++xs.drop (i+1)++xs.drop (n-1)).take (n-1)=xs.take i++xs.drop (i+1):=by
  have hl:(xs.take i++xs.drop (i+1)).length=n-1:=by simp;omega
  rw[<-hl,List.take_left]
 rw[hys]at ho2;have HO2:=yc ho2;have HB2:Hid (w.grownBy w2 (some g)):=hbw1.trans hg2;have hcm2:c<=9223372036854775807:=by unfold maxLen at hcm;omega
 have hne:((i:Int)==(i:Int)+1)=false:=by rw[beq_eq_false_iff_ne];omega
 have hne2:¬((i:Int)=(i:Int)+1):=by omega
 have hsh:∀W,(Instr.sliceAt 37 (.slice (some ⟨g,0,none⟩) n c) none (some (.int .i64 i)) none).run ye W= .ok (.slice (some ⟨g,0,none⟩) i c) W:=fun W=>zfr (P:=ye) slO _ n c i (by omega) W
 obtain⟨A,hA,hsl⟩:∃A:Addr,(A=⟨g,(i+1)*6,none⟩\/i+1=n)/\∀W,(Instr.sliceAt 37 (.slice (some ⟨g,0,none⟩) n c) (some (.int .i64 ((i:Int)+1))) none none).run ye W= .ok (.slice (some A) (n-(i+1)) (c-(i+1))) W:=by
  have h:=fun W=>zer (P:=ye) slO (some ⟨g,0,none⟩) n c (i+1) (by omega) W
  rw[show((i+1:Nat):Int)=(i:Int)+1 by omega]at h
  by_cases e:c=i+1
  ·exact⟨⟨g,0,none⟩,.inr (by omega),fun W=>by rw[h W];unfold sliced;rw[if_pos e]⟩
  ·exact⟨⟨g,(i+1)*6,none⟩,.inl rfl,fun W=>by rw[h W];unfold sliced;rw[if_neg e];simp[zbl]⟩
 have hapA:=fun ty=>hap ty A (c-(i+1)) hA
 clear hap hA;clear ho hh hcn hcs ht hnx hi0 hz0 hzs hzb hcell hd hcells hrow1 hr1s hfin hW1 hrow hown1 hbw1 ho2 hg2 hys hcm;have htn:((i:Int)+1).toNat=i+1:=by omega
 have hnn:((n-1:Nat):Int)=(n:Int)-1:=by omega
 have hb1:(0:Int)<=(i:Int)+1:=by omega
 go_enter Tryz.func104,Tryz.ntmps104
 go_wp2_with fail
 go_region_law (refine zhs rfl _ _ 37 37 rfl _ _ (by simp[Act.eval,Act.put]) (by simp[Act.eval,Act.put]) (hapA _) ?_)
 clear hapA hsl hsh
 have hsl2:∀W,(Instr.sliceAt 37 (.slice (some ⟨g,0,none⟩) (n-1) c) (some (.int .i64 ((n-1:Nat):Int))) (some (.int .i64 n)) none).run ye W= .ok (.slice (some ⟨g,(n-1)*6,none⟩) (n-(n-1)) (c-(n-1))) W:=fun W=>by
  obtain⟨ht,i1,z,hi1,hz,hs1,hs2,hzs⟩:=slO;have he:ye.elem 37=62:=by simp[Program.elem,ht]
  have ht':ye.underlying 37=some (.slice (ye.elem 37)):=by rw[he];exact ht
  rw[run_sliceAt_slice _ _ _ _ _ _ ht',run_slice_lh W 37 _ (n-1) c ht' .i64 .i64 ((n-1:Nat):Int) (n:Int) (by omega) (by omega) (by omega),he]
  have hcn:¬(c=n-1):=by omega
  simp[sizeOf,typeInfo,hi1,hs1,Result.andThen,sliced,zbl,hcn]
 go_wp2_with fail
 go_ret;exact⟨rfl,HO2.out,HB2.out⟩
def zho(n:Int):JV:= .mk 3 n ⟨#[]⟩ [] []
end
section
open Go Go.RowKit Go.OpenShut
theorem ScS.now{w W:World}{g i:Nat}{s:ByteArray}{l:List Tok}(h:ScS w W g s i l)(n:Nat):ScS (W.drewN n) (W.drewN n) g s i l:=by
 obtain⟨v,h1,h2⟩:=h.ex;exact⟨⟨v,h1,h2.same (fun _ _=>rfl)⟩,yh _ _⟩
end
end Go.Proofs.YtemofofnkchmeaaGreatDoor
