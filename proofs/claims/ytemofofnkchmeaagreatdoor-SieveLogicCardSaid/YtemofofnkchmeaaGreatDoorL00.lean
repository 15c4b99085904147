import Derived.Test.YtemofofnkchmeaaGreatDoorRows
import Derived.Carry
import Derived.ProofKit
import Derived.SizedLaws
import Derived.Shelf.LaysM
import Derived.Shelf.Small.Strs
import Derived.Shelf.Strconv.Clone
import Derived.Shelf.Strings.Count
import Derived.Shelf.Strings.OnBuilder
import Derived.Shelf.Strings.Repeat
import Derived.Shelf.Strings.Trim
import Derived.Shelf.Strings.SlTrimAscii
import Derived.Test.YtemofofnkchmeaaGreatDoorProg
import Derived.Sort.LotA
import Derived.Shelf.SlSortCmp.Insertion
import Derived.Shelf.SlSortCmp.KitK
import Derived.Sort.WalkB2
import Derived.Sort.WalkB12
import Derived.Deep.LoopGhost
import Derived.WalkKit
import Derived.Lib.Hide
import Derived.Shelf.SlSortCmp.QuietGrown
import Derived.Deep.Cut
import Derived.Deep.CutRange
import Derived.Shelf.Slices.Turned
import Derived.Shelf.Strings.Search3
set_option linter.unusedSimpArgs false
set_option linter.unusedVariables false
set_option maxRecDepth 200000
set_option maxHeartbeats 8000000
namespace Go.Proofs.YtemofofnkchmeaaGreatDoor
open _root_.List renaming mem_cons->yA,pairwise_append->yaT,pairwise_cons->yaE,pairwise_iff_getElem->yaD
open _root_.Nat renaming add_mul->yag,le_refl->yd,le_trans->yg,mul_le_mul_right->yaq,one_mul->ybd,sub_self->ybi,zero_add->yal,zero_le->yu
open _root_.Go.Proofs.Tryz renaming prog->ye
section
open Go.ChangeShapes Go.WideShapes Go.ChangeAt Go.RowKit
section
variable {H:Type} {enc:TypeId×Value->H} {P:Program}
theorem zge(hl:laidOutB P=true){W W':World}(hb:Below W.heap.size W W'):
 ∀ (ts : List TypeId) (vs : List Value) (ds : List (DataW H)) (ps : List MemPlace), (∀ t ∈ ts, P.readableRec t = true /\ t < P.types.size) -> (∀ x ∈ ps, x.block < W.heap.size) ->
   DataW.TrodAll enc P W 0 (fun _=>true) true ts vs ds ps->DataW.TrodAll enc P W' 0 (fun b=>decide (b<W.heap.size)) true ts vs ds ps
 |[],[],[],ps,_,_,h=>h
 | t :: ts, v :: vs, d :: ds, ps, hr, hlt, h => by
   obtain⟨p,q,h1,h2,rfl⟩:=h
   exact⟨p,q,Below.trod hl (hr t (by simp)).1 (hr t (by simp)).2 h1 hb (fun x hx=>hlt x (List.mem_append_left _ hx)),
    zge hl hb ts vs ds q (fun x hx=>hr x (by simp[hx])) (fun x hx=>hlt x (List.mem_append_right _ hx)) h2,rfl⟩
 |[],_::_,_,_,_,_,h=>by cases h
 |[],[],_::_,_,_,_,h=>by cases h
 |_::_,[],_,_,_,_,h=>by cases h
 |_::_,_::_,[],_,_,_,h=>by cases h
theorem zft{W:World}{base:Nat}{spare:Nat->Bool}{held:Bool}:∀{ts:List TypeId} {vs:List Value} {ds:List (DataW H)} {ps:List MemPlace},DataW.TrodAll enc P W base spare held ts vs ds ps->ds.length=ts.length
 |[],[],[],_,_=>rfl
 | t :: ts, v :: vs, d :: ds, ps, h => by
   obtain⟨p,q,h1,h2,rfl⟩:=h;simp[zft h2]
 |[],_::_,_,_,h=>by cases h
 |[],[],_::_,_,h=>by cases h
 |_::_,[],_,_,h=>by cases h
 |_::_,_::_,[],_,h=>by cases h
theorem zpl{fn:Func}{s:ChangeSpec}{tb:TypeId}(hv:s.vars=[])(hs:∀ds:List (DataW H),ds.length=fn.params.toList.length->s.fn H ds={results:=[.lit (.bool true)],args:=ds})
 (hres:fn.resultTypes=#[tb]) (hbool:P.underlying tb=some .bool) (hl:laidOutB P=true) (hr:∀t∈fn.params.toList,P.readableRec t=true/\t<P.types.size)
 {W W':World} {args:Array Value} {ds gs:List (DataW H)} {before:List MemPlace} (hW:DataW.Whole enc P fn.params.toList s.vars false W args.toList ds gs before) (hb:Below W.heap.size W W'):
 s.post enc P fn false true false false W args (.bool true) W':=by
 have hW':=hW;obtain⟨p,q,hA,hV,rfl,hfz,hnd⟩:=hW;rw[hv]at hV;obtain⟨rfl,rfl⟩:=trodVars_none hV;have hlt:∀x∈p,x.block<W.heap.size:=fun x hx=>hW'.lt x (by simpa using hx)
 have hall:=zge hl hb _ _ _ _ hr hlt hA;have hfn:=hs ds (zft hA);have hfn':s.fn H (ds++[])={results:=[.lit (.bool true)],args:=ds}:=by rw[List.append_nil];exact hfn
 unfold ChangeSpec.post;refine⟨ds,[],_,[],p,[],hW',?_,?_,?_,hb.frame _,fun h=>by cases h⟩
 ·rw[hfn',hres];exact trodAll_mk1 (shut_bool hbool true)
 ·rw[hfn'];exact hall
 ·rw[hfn',hv]
  rfl
end
theorem len3{α:Type}{l:List α}(h:l.length=3):∃a b c,l=[a,b,c]:=by
 match l,h with
 |[a,b,c],_=>exact⟨a,b,c,rfl⟩
end
section
open Go Go.Shelf
def zk8:Go.Shelf.Ren:=⟨fun|160=>229|232=>248|231=>247|227=>249|234=>251|233=>250|236=>253|235=>252|228=>267|271=>270|151=>269|197=>268|120=>284|152=>283|260=>282|137=>105|119=>291|224=>258|225=>257|217=>166|266=>194|n=>n,fun|9=>9|4=>4|3=>3|5=>5|117=>299|116=>298|0=>0|124=>302|21=>21|105=>262|46=>153|119=>337|139=>340|138=>339|n=>n,fun|3=>3|4=>4|n=>n⟩
theorem zlG:Go.Proofs.Lays.n160 ye zk8:={
 mixed:=by kernel_rfl
 f119:=Tryz.func291.trans (congrArg some (by kernel_rfl))
 f120:=Tryz.func284.trans (congrArg some (by kernel_rfl))
 f137:=Tryz.func105.trans (congrArg some (by kernel_rfl))
 f151:=Tryz.func269.trans (congrArg some (by kernel_rfl))
 f152:=Tryz.func283.trans (congrArg some (by kernel_rfl))
 f160:=Tryz.func229.trans (congrArg some (by kernel_rfl))
 f197:=Tryz.func268.trans (congrArg some (by kernel_rfl))
 f217:=Tryz.func166.trans (congrArg some (by kernel_rfl))
 f224:=Tryz.func258.trans (congrArg some (by kernel_rfl))
 f225:=Tryz.func257.trans (congrArg some (by kernel_rfl))
 f227:=Tryz.func249.trans (congrArg some (by kernel_rfl))
 f228:=Tryz.func267.trans (congrArg some (by kernel_rfl))
 f231:=Tryz.func247.trans (congrArg some (by kernel_rfl))
 f232:=Tryz.func248.trans (congrArg some (by kernel_rfl))
 f233:=Tryz.func250.trans (congrArg some (by kernel_rfl))
 f234:=Tryz.func251.trans (congrArg some (by kernel_rfl))
 f235:=Tryz.func252.trans (congrArg some (by kernel_rfl))
 f236:=Tryz.func253.trans (congrArg some (by kernel_rfl))
 f260:=Tryz.func282.trans (congrArg some (by kernel_rfl))
 f266:=Tryz.func194.trans (congrArg some (by kernel_rfl))
 f271:=Tryz.func270.trans (congrArg some (by kernel_rfl))
 t0:=Tryz.underlying0
 a0:=Tryz.isAgg0
 z0:=Tryz.sizeOf0
 v0:=Tryz.zeroValue0
 t3:=Tryz.underlying3
 a3:=Tryz.isAgg3
 z3:=Tryz.sizeOf3
 v3:=Tryz.zeroValue3
 t4:=Tryz.underlying4
 a4:=Tryz.isAgg4
 z4:=Tryz.sizeOf4
 v4:=Tryz.zeroValue4
 t5:=Tryz.underlying5
 a5:=Tryz.isAgg5
 z5:=Tryz.sizeOf5
 v5:=Tryz.zeroValue5
 t9:=Tryz.underlying9
 a9:=Tryz.isAgg9
 z9:=Tryz.sizeOf9
 v9:=Tryz.zeroValue9
 t21:=Tryz.underlying21
 a21:=Tryz.isAgg21
 z21:=Tryz.sizeOf21
 v21:=Tryz.zeroValue21
 t46:=Tryz.underlying153
 a46:=Tryz.isAgg153
 z46:=Tryz.sizeOf153
 v46:=Tryz.zeroValue153
 t105:=Tryz.underlying262
 a105:=Tryz.isAgg262
 z105:=Tryz.sizeOf262
 v105:=Tryz.zeroValue262
 t116:=Tryz.underlying298
 a116:=Tryz.isAgg298
 z116:=Tryz.sizeOf298
 t117:=Tryz.underlying299
 a117:=Tryz.isAgg299
 z117:=Tryz.sizeOf299
 v117:=Tryz.zeroValue299
 t119:=Tryz.underlying337
 a119:=Tryz.isAgg337
 z119:=Tryz.sizeOf337
 t124:=Tryz.underlying302
 a124:=Tryz.isAgg302
 z124:=Tryz.sizeOf302
 v124:=Tryz.zeroValue302
 t138:=Tryz.underlying339
 a138:=Tryz.isAgg339
 z138:=Tryz.sizeOf339
 v138:=Tryz.zeroValue339
 t139:=Tryz.underlying340
 a139:=Tryz.isAgg340
 z139:=Tryz.sizeOf340
 v139:=Tryz.zeroValue340
 g3:=by kernel_rfl
 g4:=by kernel_rfl}
def zk4:Go.Shelf.Ren:=⟨fun|106=>43|213=>88|265=>146|n=>n,fun|9=>9|3=>3|n=>n,fun|n=>n⟩
theorem zq1:Go.Proofs.Lays.n106 ye zk4:={
 mixed:=by kernel_rfl
 f106:=Tryz.func43.trans (congrArg some (by kernel_rfl))
 f213:=Tryz.func88.trans (congrArg some (by kernel_rfl))
 f265:=Tryz.func146.trans (congrArg some (by kernel_rfl))
 t3:=Tryz.underlying3
 a3:=Tryz.isAgg3
 z3:=Tryz.sizeOf3
 v3:=Tryz.zeroValue3
 t9:=Tryz.underlying9
 a9:=Tryz.isAgg9
 z9:=Tryz.sizeOf9
 v9:=Tryz.zeroValue9}
open Go.RowKit in
theorem strings_Compare(a b:ByteArray)(w:World):
 Calls ye 43 #[.string a,.string b] w fun e w'=>e= .returned (.int .i64 (Lib.compareBytes a.data.toList b.data.toList))/\w'=w:=Any.strings_Compare zq1 a b w
def zk6:Go.Shelf.Ren:=⟨fun|138=>256|195=>273|218=>274|143=>209|219=>233|217=>166|225=>257|224=>258|267=>259|266=>194|314=>275|n=>n,fun|9=>9|3=>3|4=>4|5=>5|0=>0|46=>153|146=>322|51=>208|n=>n,fun|1=>1|n=>n⟩
theorem zq2:Go.Proofs.Lays.n138 ye zk6:={
 mixed:=by kernel_rfl
 f138:=Tryz.func256.trans (congrArg some (by kernel_rfl))
 f143:=Tryz.func209.trans (congrArg some (by kernel_rfl))
 f195:=Tryz.func273.trans (congrArg some (by kernel_rfl))
 f217:=Tryz.func166.trans (congrArg some (by kernel_rfl))
 f218:=Tryz.func274.trans (congrArg some (by kernel_rfl))
 f219:=Tryz.func233.trans (congrArg some (by kernel_rfl))
 f224:=Tryz.func258.trans (congrArg some (by kernel_rfl))
 f225:=Tryz.func257.trans (congrArg some (by kernel_rfl))
 f266:=Tryz.func194.trans (congrArg some (by kernel_rfl))
 f267:=Tryz.func259.trans (congrArg some (by kernel_rfl))
 f314:=Tryz.func275.trans (congrArg some (by kernel_rfl))
 t0:=Tryz.underlying0
 a0:=Tryz.isAgg0
 z0:=Tryz.sizeOf0
 v0:=Tryz.zeroValue0
 t3:=Tryz.underlying3
 a3:=Tryz.isAgg3
 z3:=Tryz.sizeOf3
 v3:=Tryz.zeroValue3
 t4:=Tryz.underlying4
 a4:=Tryz.isAgg4
 z4:=Tryz.sizeOf4
 v4:=Tryz.zeroValue4
 t5:=Tryz.underlying5
 a5:=Tryz.isAgg5
 z5:=Tryz.sizeOf5
 v5:=Tryz.zeroValue5
 t9:=Tryz.underlying9
 a9:=Tryz.isAgg9
 z9:=Tryz.sizeOf9
 v9:=Tryz.zeroValue9
 t46:=Tryz.underlying153
 a46:=Tryz.isAgg153
 z46:=Tryz.sizeOf153
 v46:=Tryz.zeroValue153
 t51:=Tryz.underlying208
 a51:=Tryz.isAgg208
 z51:=Tryz.sizeOf208
 v51:=Tryz.zeroValue208
 t146:=Tryz.underlying322
 a146:=Tryz.isAgg322
 z146:=Tryz.sizeOf322
 v146:=Tryz.zeroValue322
 g1:=by kernel_rfl}
open Go.RowKit Go.Lib in
theorem strings_Count_one(s:ByteArray)(c:UInt8)(w:World):
 Calls ye 256 #[.string s,.string ⟨#[c]⟩] w fun e w'=>e= .returned (.int .i64 (Lib.countByte s.data.toList c))/\w'=w:=Any.strings_Count_one zq2 s c w
def zg1:Go.Shelf.Ren:=⟨fun|105=>255|212=>271|99=>199|165=>261|166=>262|170=>272|169=>264|263=>285|264=>286|206=>228|240=>276|241=>277|276=>287|277=>288|n=>n,fun|9=>9|3=>3|4=>4|20=>20|0=>0|46=>153|109=>320|5=>5|72=>308|76=>312|51=>208|146=>322|53=>210|148=>329|70=>306|37=>258|75=>311|127=>259|164=>331|80=>315|n=>n,fun|n=>n⟩
theorem zq0:Go.Proofs.Lays.n105 ye zg1:={
 mixed:=by kernel_rfl
 f99:=Tryz.func199.trans (congrArg some (by kernel_rfl))
 f105:=Tryz.func255.trans (congrArg some (by kernel_rfl))
 f165:=Tryz.func261.trans (congrArg some (by kernel_rfl))
 f166:=Tryz.func262.trans (congrArg some (by kernel_rfl))
 f169:=Tryz.func264.trans (congrArg some (by kernel_rfl))
 f170:=Tryz.func272.trans (congrArg some (by kernel_rfl))
 f206:=Tryz.func228.trans (congrArg some (by kernel_rfl))
 f212:=Tryz.func271.trans (congrArg some (by kernel_rfl))
 f240:=Tryz.func276.trans (congrArg some (by kernel_rfl))
 f241:=Tryz.func277.trans (congrArg some (by kernel_rfl))
 f263:=Tryz.func285.trans (congrArg some (by kernel_rfl))
 f264:=Tryz.func286.trans (congrArg some (by kernel_rfl))
 f276:=Tryz.func287.trans (congrArg some (by kernel_rfl))
 f277:=Tryz.func288.trans (congrArg some (by kernel_rfl))
 t0:=Tryz.underlying0
 a0:=Tryz.isAgg0
 z0:=Tryz.sizeOf0
 v0:=Tryz.zeroValue0
 t3:=Tryz.underlying3
 a3:=Tryz.isAgg3
 z3:=Tryz.sizeOf3
 v3:=Tryz.zeroValue3
 t4:=Tryz.underlying4
 a4:=Tryz.isAgg4
 z4:=Tryz.sizeOf4
 v4:=Tryz.zeroValue4
 t5:=Tryz.underlying5
 a5:=Tryz.isAgg5
 z5:=Tryz.sizeOf5
 v5:=Tryz.zeroValue5
 t9:=Tryz.underlying9
 a9:=Tryz.isAgg9
 z9:=Tryz.sizeOf9
 v9:=Tryz.zeroValue9
 t20:=Tryz.underlying20
 a20:=Tryz.isAgg20
 z20:=Tryz.sizeOf20
 v20:=Tryz.zeroValue20
 t37:=Tryz.underlying258
 a37:=Tryz.isAgg258
 z37:=Tryz.sizeOf258
 v37:=Tryz.zeroValue258
 t46:=Tryz.underlying153
 a46:=Tryz.isAgg153
 z46:=Tryz.sizeOf153
 v46:=Tryz.zeroValue153
 t51:=Tryz.underlying208
 a51:=Tryz.isAgg208
 z51:=Tryz.sizeOf208
 v51:=Tryz.zeroValue208
 t53:=Tryz.underlying210
 a53:=Tryz.isAgg210
 z53:=Tryz.sizeOf210
 v53:=Tryz.zeroValue210
 t70:=Tryz.underlying306
 a70:=Tryz.isAgg306
 z70:=Tryz.sizeOf306
 v70:=Tryz.zeroValue306
 t72:=Tryz.underlying308
 a72:=Tryz.isAgg308
 z72:=Tryz.sizeOf308
 v72:=Tryz.zeroValue308
 t75:=Tryz.underlying311
 a75:=Tryz.isAgg311
 z75:=Tryz.sizeOf311
 v75:=Tryz.zeroValue311
 t76:=Tryz.underlying312
 a76:=Tryz.isAgg312
 z76:=Tryz.sizeOf312
 v76:=Tryz.zeroValue312
 t109:=Tryz.underlying320
 a109:=Tryz.isAgg320
 z109:=Tryz.sizeOf320
 v109:=Tryz.zeroValue320
 t127:=Tryz.underlying259
 a127:=Tryz.isAgg259
 z127:=Tryz.sizeOf259
 v127:=Tryz.zeroValue259
 t146:=Tryz.underlying322
 a146:=Tryz.isAgg322
 z146:=Tryz.sizeOf322
 v146:=Tryz.zeroValue322
 t148:=Tryz.underlying329
 a148:=Tryz.isAgg329
 z148:=Tryz.sizeOf329
 v148:=Tryz.zeroValue329
 t164:=Tryz.underlying331
 a164:=Tryz.isAgg331
 z164:=Tryz.sizeOf331
 v164:=Tryz.zeroValue331}
theorem zgU:Builder.Extra ye zg1:={
 sizeBuilder:=by kernel_rfl
 liesBuilder:=by kernel_rfl
 t5:=Tryz.underlying5
 a5:=Tryz.isAgg5
 z5:=Tryz.sizeOf5
 v5:=Tryz.zeroValue5
 infoByte:=by kernel_rfl
 cellsByte:=by kernel_rfl
 sizeByte:=by kernel_rfl
 neB5:=by decide}
open Go.RowKit Go.Lib in
theorem strings_Repeat(s:ByteArray)(c:Nat)(w:World)(hc:c<=9223372036854775807)(hlen:s.size*c<=140737488355328):
 Calls ye 255 #[.string s,.int .i64 c] w fun e w'=>e= .returned (.string ⟨(Lib.repeatL s.data.toList c).toArray⟩)/\Below w.heap.size w w':=Any.strings_Repeat zq0 zgU s c w hc hlen
def zkb:Go.Shelf.Ren:=⟨fun|316=>160|n=>n,fun|9=>9|3=>3|4=>4|37=>258|0=>0|127=>259|5=>5|n=>n,fun|n=>n⟩
theorem zpm:Go.Proofs.LaysM.n316 ye zkb:={
 mixed:=by kernel_rfl
 f316:=Tryz.func160.trans (congrArg some (by kernel_rfl))
 t0:=Tryz.underlying0
 a0:=Tryz.isAgg0
 z0:=Tryz.sizeOf0
 v0:=Tryz.zeroValue0
 t3:=Tryz.underlying3
 a3:=Tryz.isAgg3
 z3:=Tryz.sizeOf3
 v3:=Tryz.zeroValue3
 t4:=Tryz.underlying4
 a4:=Tryz.isAgg4
 z4:=Tryz.sizeOf4
 v4:=Tryz.zeroValue4
 t9:=Tryz.underlying9
 a9:=Tryz.isAgg9
 z9:=Tryz.sizeOf9
 v9:=Tryz.zeroValue9
 t37:=Tryz.underlying258
 a37:=Tryz.isAgg258
 z37:=Tryz.sizeOf258
 v37:=Tryz.zeroValue258
 t127:=Tryz.underlying259
 a127:=Tryz.isAgg259
 z127:=Tryz.sizeOf259
 v127:=Tryz.zeroValue259
 t5:=Tryz.underlying5
 a5:=Tryz.isAgg5
 z5:=Tryz.sizeOf5
 v5:=Tryz.zeroValue5
 i0:=by kernel_rfl
 i3:=by kernel_rfl
 i4:=by kernel_rfl
 i5:=by kernel_rfl
 i9:=by kernel_rfl
 i37:=by kernel_rfl
 i127:=by kernel_rfl}
open Go.RowKit in
theorem stringslite_Clone(s:ByteArray)(w:World)(hlim:s.size<=281474976710656):
 Calls ye 160 #[.string s] w fun e w'=>e= .returned (.string s)/\Below w.heap.size w w':=Any.stringslite_Clone zpm s w hlim
end
section
open Go.Sort
open Go.Proofs (ltOf)
variable {α:Type} [Inhabited α]
def swr(d:Array α)(a b:Nat):Nat->Array α
 |0=>d
 |n+1=>swp (swr d a b n) (a+n) (b+n)
theorem zd9(d:Array α)(a b n:Nat):(swr d a b n).size=d.size:=by
 induction n with
 |zero=>rfl
 |succ n ih=>rw[swr,size_swp,ih]
theorem ziJ(d:Array α)(a b n:Nat)(h:a+n<=b)(hb:b+n<=d.size)(t:Nat):
 (swr d a b n)[t]! =if a<=t/\t<a+n then d[b+(t-a)]! else if b<=t/\t<b+n then d[a+(t-b)]! else d[t]! :=by
 induction n generalizing t with
 |zero=>rw[if_neg (by omega),if_neg (by omega)];rfl
 | succ n ih =>
   have ih':=fun t=>ih (by omega) (by omega) t
   rw[swr,swp_get _ (by rw[zd9];omega) (by rw[zd9];omega),ih',ih',ih']
   rw[if_neg (by omega:¬(a<=a+n/\a+n<a+n)),if_neg (by omega:¬(b<=a+n/\a+n<b+n)),if_neg (by omega:¬(a<=b+n/\b+n<a+n)),if_neg (by omega:¬(b<=b+n/\b+n<b+n))]
   by_cases h1:t=b+n
   ·rw[if_pos h1,if_neg (by omega),if_pos (by omega)];congr 1;omega
   ·rw[if_neg h1];by_cases h2:t=a+n
    ·rw[if_pos h2,if_pos (by omega)];congr 1;omega
    ·rw[if_neg h2];by_cases h3:a<=t/\t<a+n
     ·rw[if_pos h3,if_pos (by omega)]
     ·rw[if_neg h3,if_neg (by omega:¬(a<=t/\t<a+(n+1)))]
      by_cases h4:b<=t/\t<b+n
      ·rw[if_pos h4,if_pos (by omega)]
      ·rw[if_neg h4,if_neg (by omega)]
theorem zht(d:Array α)(a b n lo hi:Nat)(h1:lo<=a)(h2:a+n<=hi)(h3:lo<=b)(h4:b+n<=hi)(h5:hi<=d.size):PermIn lo hi d (swr d a b n):=by
 induction n with
 |zero=>exact permIn_refl _ _ _
 |succ n ih=>exact permIn_trans _ _ _ _ _ (ih (by omega) (by omega)) (swp_permIn _ _ _ _ _ (by omega) (by omega) (by omega) (by omega) (by rw[zd9];exact h5))
def z6(d:Array α)(a m b t:Nat):α:=if a<=t/\t<a+(b-m)then d[t+(m-a)]! else if a+(b-m)<=t/\t<b then d[t-(b-m)]! else d[t]!
theorem zr5(d:Array α)(m i j t:Nat)(hij:j<i)(him:i<=m)(hm:m+j<=d.size):z6 (swr d (m-i) m j) (m-(i-j)) m (m+j) t=z6 d (m-i) m (m+j) t:=by
 unfold z6;simp only[ziJ d (m-i) m j (by omega) hm]
 by_cases h1:m-(i-j)<=t/\t<m-(i-j)+(m+j-m)
 ·rw[if_pos h1];by_cases h2:m-i<=t/\t<m-i+(m+j-m)
  ·omega
  ·rw[if_neg h2,if_pos (by omega:m-i+(m+j-m)<=t/\t<m+j),if_neg (by omega),if_pos (by omega)];congr 1;omega
 ·rw[if_neg h1];by_cases h2:m-(i-j)+(m+j-m)<=t/\t<m+j
  ·rw[if_pos h2,if_neg (by omega:¬(m-i<=t/\t<m-i+(m+j-m))),if_pos (by omega:m-i+(m+j-m)<=t/\t<m+j),if_neg (by omega),if_neg (by omega)]
  ·rw[if_neg h2];by_cases h3:m-i<=t/\t<m-i+j
   ·rw[if_pos h3,if_pos (by omega:m-i<=t/\t<m-i+(m+j-m))];congr 1;omega
   ·rw[if_neg h3,if_neg (by omega:¬(m<=t/\t<m+j)),if_neg (by omega:¬(m-i<=t/\t<m-i+(m+j-m))),if_neg (by omega:¬(m-i+(m+j-m)<=t/\t<m+j))]
theorem zr6(d:Array α)(m i j t:Nat)(hij:i<j)(him:i<=m)(hm:m+j<=d.size):z6 (swr d (m-i) (m+j-i) i) (m-i) m (m+(j-i)) t=z6 d (m-i) m (m+j) t:=by
 unfold z6;simp only[ziJ d (m-i) (m+j-i) i (by omega) (by omega)]
 by_cases h1:m-i<=t/\t<m-i+(m+(j-i)-m)
 ·rw[if_pos h1,if_pos (by omega:m-i<=t/\t<m-i+(m+j-m)),if_neg (by omega),if_neg (by omega)]
 ·rw[if_neg h1];by_cases h2:m-i+(m+(j-i)-m)<=t/\t<m+(j-i)
  ·rw[if_pos h2,if_pos (by omega:m-i<=t/\t<m-i+(m+j-m)),if_pos (by omega)];congr 1;omega
  ·rw[if_neg h2];by_cases h3:m+j-i<=t/\t<m+j-i+i
   ·rw[if_neg (by omega:¬(m-i<=t/\t<m-i+i)),if_pos h3,if_neg (by omega:¬(m-i<=t/\t<m-i+(m+j-m))),if_pos (by omega:m-i+(m+j-m)<=t/\t<m+j)];congr 1;omega
   ·rw[if_neg (by omega:¬(m-i<=t/\t<m-i+i)),if_neg h3,if_neg (by omega:¬(m-i<=t/\t<m-i+(m+j-m))),if_neg (by omega:¬(m-i+(m+j-m)<=t/\t<m+j))]
theorem zr4(d:Array α)(m i t:Nat)(him:i<=m)(hm:m+i<=d.size):(swr d (m-i) m i)[t]! =z6 d (m-i) m (m+i) t:=by
 unfold z6;rw[ziJ d (m-i) m i (by omega) hm]
 by_cases h1:m-i<=t/\t<m-i+i
 ·rw[if_pos h1,if_pos (by omega)];congr 1;omega
 ·rw[if_neg h1,if_neg (by omega:¬(m-i<=t/\t<m-i+(m+i-m)))]
  by_cases h2:m<=t/\t<m+i
  ·rw[if_pos h2,if_pos (by omega)];congr 1;omega
  ·rw[if_neg h2,if_neg (by omega)]
def zdg(d:Array α)(k:Nat):Nat->Array α
 |0=>d
 |c+1=>swp (zdg d k c) (k+c) (k+c+1)
theorem zez(d:Array α)(k c:Nat):(zdg d k c).size=d.size:=by
 induction c with
 |zero=>rfl
 |succ c ih=>rw[zdg,size_swp,ih]
theorem znc(d:Array α)(k c:Nat)(h:k+c<d.size)(t:Nat):(zdg d k c)[t]! =if k<=t/\t<k+c then d[t+1]! else if t=k+c then d[k]! else d[t]! :=by
 induction c generalizing t with
 |zero=>
  rw[if_neg (by omega)]
  by_cases e:t=k+0
  ·rw[if_pos e];simp[zdg,e]
  ·rw[if_neg e];rfl
 | succ c ih =>
   have ih':=fun t=>ih (by omega) t
   rw[zdg,swp_get _ (by rw[zez];omega) (by rw[zez];omega),ih',ih',ih']
   rw[if_neg (by omega:¬(k<=k+c/\k+c<k+c)),if_pos rfl,if_neg (by omega:¬(k<=k+c+1/\k+c+1<k+c)),if_neg (by omega:¬k+c+1=k+c)]
   by_cases h1:t=k+c+1
   ·rw[if_pos h1,if_neg (by omega),if_pos (by omega)]
   ·rw[if_neg h1];by_cases h2:t=k+c
    ·rw[if_pos h2,if_pos (by omega)];congr 1;omega
    ·rw[if_neg h2];by_cases h3:k<=t/\t<k+c
     ·rw[if_pos h3,if_pos (by omega)]
     ·rw[if_neg h3,if_neg (by omega:¬t=k+c),if_neg (by omega),if_neg (by omega)]
theorem zlZ(d:Array α)(k c lo hi:Nat)(h1:lo<=k)(h2:k+c<hi)(h3:hi<=d.size):PermIn lo hi d (zdg d k c):=by
 induction c with
 |zero=>exact permIn_refl _ _ _
 |succ c ih=>exact permIn_trans _ _ _ _ _ (ih (by omega)) (swp_permIn _ _ _ _ _ (by omega) (by omega) (by omega) (by omega) (by rw[zez];exact h3))
def zdf(d:Array α)(k:Nat):Nat->Array α
 |0=>d
 |c+1=>swp (zdf d k c) (k-c) (k-c-1)
theorem zey(d:Array α)(k c:Nat):(zdf d k c).size=d.size:=by
 induction c with
 |zero=>rfl
 |succ c ih=>rw[zdf,size_swp,ih]
theorem znb(d:Array α)(k c:Nat)(hc:c<=k)(h:k<d.size)(t:Nat):(zdf d k c)[t]! =if t=k-c then d[k]! else if k-c<t/\t<=k then d[t-1]! else d[t]! :=by
 induction c generalizing t with
 | zero =>
   by_cases e:t=k-0
   ·rw[if_pos e];simp[zdf,e]
   ·rw[if_neg e,if_neg (by omega)];rfl
 | succ c ih =>
   have ih':=fun t=>ih (by omega) t
   rw[zdf,swp_get _ (by rw[zey];omega) (by rw[zey];omega),ih',ih',ih']
   rw[if_pos rfl,if_neg (by omega:¬k-c-1=k-c),if_neg (by omega:¬(k-c<k-c-1/\k-c-1<=k))]
   by_cases h1:t=k-c-1
   ·rw[if_pos h1,if_pos (by omega)]
   ·rw[if_neg h1];by_cases h2:t=k-c
    ·rw[if_pos h2,if_neg (by omega),if_pos (by omega)];congr 1;omega
    ·rw[if_neg h2,if_neg h2];by_cases h3:k-c<t/\t<=k
     ·rw[if_pos h3,if_neg (by omega),if_pos (by omega)]
     ·rw[if_neg h3,if_neg (by omega),if_neg (by omega)]
theorem zlY(d:Array α)(k c lo hi:Nat)(hc:c<=k)(h1:lo<=k-c)(h2:k<hi)(h3:hi<=d.size):PermIn lo hi d (zdf d k c):=by
 induction c with
 |zero=>exact permIn_refl _ _ _
 |succ c ih=>exact permIn_trans _ _ _ _ _ (ih (by omega) (by omega)) (swp_permIn _ _ _ _ _ (by omega) (by omega) (by omega) (by omega) (by rw[zey];exact h3))
variable {α:Type} [Inhabited α] {lt:α->α->Bool}
theorem zbQ(S:SWO lt){a b:Nat}{d:Array α}(h:SortedIn lt a b d){i j:Nat}(hi:a<=i)(hij:i<=j)(hj:j<b):lt d[j]! d[i]! =false:=by
 rcases Nat.lt_or_ge i j with h1|h1
 ·exact h i j hi h1 hj
 ·obtain rfl:i=j:=by omega
  exact S.irrefl _
theorem zor{d d1:Array α}{a m b start e mid:Nat}(h1:SortedIn lt a m d)(h2:SortedIn lt m b d)(ha:a<=start)(hs:start<=m)(hm:m<=e)(he:e<=b)(hmid:start+e=mid+m)
 (hd:∀t,d1[t]! =z6 d start m e t):SortedIn lt a start d1/\SortedIn lt start mid d1/\SortedIn lt mid e d1/\SortedIn lt e b d1:=by
 have p1:∀t,t<start->d1[t]! =d[t]! :=fun t ht=>by rw[hd,z6,if_neg (by omega),if_neg (by omega)]
 have p2:∀t,start<=t->t<mid->d1[t]! =d[t+(m-start)]! :=fun t h1 h2=>by rw[hd,z6,if_pos (by omega)]
 have p3:∀t,mid<=t->t<e->d1[t]! =d[t-(e-m)]! :=fun t h1 h2=>by rw[hd,z6,if_neg (by omega),if_pos (by omega)]
 have p4:∀t,e<=t->d1[t]! =d[t]! :=fun t ht=>by rw[hd,z6,if_neg (by omega),if_neg (by omega)]
 refine⟨fun i j x y z=> ?_,fun i j x y z=> ?_,fun i j x y z=> ?_,fun i j x y z=> ?_⟩
 ·rw[p1 i (by omega),p1 j (by omega)];exact h1 i j (by omega) y (by omega)
 ·rw[p2 i (by omega) (by omega),p2 j (by omega) (by omega)];exact h2 _ _ (by omega) (by omega) (by omega)
 ·rw[p3 i (by omega) (by omega),p3 j (by omega) (by omega)];exact h1 _ _ (by omega) (by omega) (by omega)
 ·rw[p4 i (by omega),p4 j (by omega)];exact h2 _ _ (by omega) y (by omega)
theorem zoq(S:SWO lt){d d1:Array α}{a m b start e mid s0 r0:Nat}(h1:SortedIn lt a m d)(h2:SortedIn lt m b d)(ha:a<=start)(hs:start<=m)(hm:m<=e)(he:e<=b)(hmid:start+e=mid+m)
 (hd:∀t,d1[t]! =z6 d start m e t) (hA:s0<start->lt d[e]! d[start-1]! =false) (hB:start<r0->lt d[e-1]! d[start]! =true)
 (hA0:start=s0->start=a\/e=b) (hB0:start=r0->start=m\/e=m) (hs0:s0<=start) (hr0:start<=r0):
 ∀i j,a<=i->i<mid->mid<=j->j<b->lt d1[j]! d1[i]! =false:=by
 have p1:∀t,t<start->d1[t]! =d[t]! :=fun t ht=>by rw[hd,z6,if_neg (by omega),if_neg (by omega)]
 have p2:∀t,start<=t->t<mid->d1[t]! =d[t+(m-start)]! :=fun t h1 h2=>by rw[hd,z6,if_pos (by omega)]
 have p3:∀t,mid<=t->t<e->d1[t]! =d[t-(e-m)]! :=fun t h1 h2=>by rw[hd,z6,if_neg (by omega),if_pos (by omega)]
 have p4:∀t,e<=t->d1[t]! =d[t]! :=fun t ht=>by rw[hd,z6,if_neg (by omega),if_neg (by omega)]
 have LR:∀x y,a<=x->x<start->e<=y->y<b->lt d[y]! d[x]! =false:=by
  intro x y q1 q2 q3 q4;by_cases hs':s0<start
  ·exact S.ntrans _ _ _ (zbQ S h2 (by omega) q3 q4) (S.ntrans _ _ _ (hA hs') (zbQ S h1 q1 (by omega) (by omega)))
  ·rcases hA0 (by omega)with h|h<;>omega
 have RL:∀x y,m<=x->x<e->start<=y->y<m->lt d[y]! d[x]! =false:=by
  intro x y q1 q2 q3 q4;by_cases hr':start<r0
  ·exact S.ntrans _ _ _ (zbQ S h1 ha q3 q4) (S.ntrans _ _ _ (S.asymmA (hB hr')) (zbQ S h2 q1 (by omega) (by omega)))
  ·rcases hB0 (by omega)with h|h<;>omega
 intro i j q1 q2 q3 q4;by_cases hi:i<start
 ·rw[p1 i hi];by_cases hj:j<e
  ·rw[p3 j q3 hj];exact zbQ S h1 q1 (by omega) (by omega)
  ·rw[p4 j (by omega)];exact LR i j q1 hi (by omega) q4
 ·rw[p2 i (by omega) q2]
  by_cases hj:j<e
  ·rw[p3 j q3 hj];exact RL _ _ (by omega) (by omega) (by omega) (by omega)
  ·rw[p4 j (by omega)];exact zbQ S h2 (by omega) (by omega) q4
theorem zcu{a b:Nat}{d d':Array α}(h:PermIn a b d d'){t:Nat}(ht:t<a\/b<=t):d'[t]! =d[t]! :=h.2.1 t ht
theorem zos{d1 d2 d3:Array α}{a mid b:Nat}(ham:a<=mid)(hmb:mid<=b)(hsz:b<=d1.size)(hx:∀i j,a<=i->i<mid->mid<=j->j<b->lt d1[j]! d1[i]! =false)
 (hp2:PermIn a mid d1 d2) (hs2:SortedIn lt a mid d2) (hp3:PermIn mid b d2 d3) (hs3:SortedIn lt mid b d3):SortedIn lt a b d3/\PermIn a b d1 d3:=by
 have hz2:=hp2.1;refine⟨fun i j q1 q2 q3=> ?_,permIn_trans _ _ _ _ _ (permIn_mono _ _ _ _ _ _ (yd _) hmb hsz hp2) (permIn_mono _ _ _ _ _ _ ham (yd _) (by omega) hp3)⟩
 by_cases hj:j<mid
 ·rw[zcu hp3 (.inl hj),zcu hp3 (.inl (by omega))];exact hs2 i j q1 q2 hj
 ·by_cases hi:i<mid
  ·have e1:d3[i]! =d2[i]! :=zcu hp3 (.inl hi);rw[e1]
   have step1:∀y,mid<=y->y<b->∀x,a<=x->x<mid->lt d1[y]! d2[x]! =false:=fun y y1 y2=>
    permIn_all d1 d2 a mid (fun v=>lt d1[y]! v=false) (by omega) hp2 (fun x x1 x2=>hx x y x1 x2 y1 y2)
   have step2:∀y,mid<=y->y<b->lt d2[y]! d2[i]! =false:=fun y y1 y2=>by
    rw[zcu hp2 (.inr y1)];exact step1 y y1 y2 i q1 hi
   exact permIn_all d2 d3 mid b (fun v=>lt v d2[i]! =false) (by omega) hp3 step2 j (by omega) q3
  ·exact hs3 i j (by omega) q2 q3
theorem zpc(S:SWO lt){d:Array α}{a b i:Nat}(h2:SortedIn lt (a+1) b d)(hi:a+1<=i)(hib:i<=b)(hb:b<=d.size)(hlo:a+1<i->lt d[i-1]! d[a]! =true)(hhi:i<b->lt d[i]! d[a]! =false):
 SortedIn lt a b (zdg d a (i-1-a)):=by
 intro x y q1 q2 q3;simp only[znc d a (i-1-a) (by omega)]
 by_cases hy:y<i-1
 ·rw[if_pos (by omega),if_pos (by omega)];exact h2 _ _ (by omega) (by omega) (by omega)
 ·by_cases hy2:y=i-1
  ·rw[if_neg (by omega),if_pos (by omega),if_pos (by omega)]
   exact S.asymmA (by
    have h3:=hlo (by omega)
    have h4:=zbQ S h2 (show a+1<=x+1 by omega) (show x+1<=i-1 by omega) (by omega)
    cases h5:lt d[x+1]! d[a]! with
    |true=>rfl
    |false=>rw[S.ntrans _ _ _ h4 h5]at h3;cases h3)
  ·rw[if_neg (by omega),if_neg (by omega)]
   have hyy:lt d[y]! d[a]! =false:=S.ntrans _ _ _ (zbQ S h2 (show a+1<=i by omega) (by omega:i<=y) q3) (hhi (by omega))
   by_cases hx:x<i-1
   ·rw[if_pos (by omega)];exact h2 _ _ (by omega) (by omega) (by omega)
   ·by_cases hx2:x=i-1
    ·rw[if_neg (by omega),if_pos (by omega)];exact hyy
    ·rw[if_neg (by omega),if_neg (by omega)];exact h2 _ _ (by omega) q2 q3
theorem znI(S:SWO lt){d:Array α}{a m i:Nat}(h1:SortedIn lt a m d)(hi:a<=i)(him:i<=m)(hb:m<d.size)(hlo:a<i->lt d[m]! d[i-1]! =false)(hhi:i<m->lt d[m]! d[i]! =true):
 SortedIn lt a (m+1) (zdf d m (m-i)):=by
 have hmi:m-(m-i)=i:=by omega
 intro x y q1 q2 q3;simp only[znb d m (m-i) (by omega) hb,hmi]
 by_cases hx:x<i
 ·rw[if_neg (by omega:¬x=i),if_neg (by omega:¬(i<x/\x<=m))]
  by_cases hy:y<i
  ·rw[if_neg (by omega),if_neg (by omega)];exact h1 _ _ q1 q2 (by omega)
  ·by_cases hy2:y=i
   ·rw[if_pos hy2];exact S.ntrans _ _ _ (hlo (by omega)) (zbQ S h1 q1 (by omega:x<=i-1) (by omega))
   ·rw[if_neg hy2,if_pos (by omega)];exact zbQ S h1 q1 (by omega) (by omega)
 ·by_cases hx2:x=i
  ·rw[if_pos hx2,if_neg (by omega),if_pos (by omega)]
   have h3:=hhi (by omega)
   exact S.asymmA (by
    have h4:=zbQ S h1 hi (show i<=y-1 by omega) (by omega)
    cases h5:lt d[m]! d[y-1]! with
    |true=>rfl
    |false=>rw[S.ntrans _ _ _ h5 h4]at h3;cases h3)
  ·rw[if_neg hx2,if_neg (by omega:¬y=i),if_pos (by omega:i<y/\y<=m),if_pos (by omega:i<x/\x<=m)];exact h1 _ _ (by omega) (by omega) (by omega)
end
section
open Go.Shelf Go.RowKit Go.Lib Go.Sort
namespace SM
variable {P:Program} {α:Type} [Inhabited α]
def RotPost(enc:α->List Value)(k:Nat)(w0:World)(blk off:Nat)(d:Array α)(a m b:Nat)(e:Ending)(w':World):Prop:=
 e= .returned (.tuple #[])/\∃d':Array α,SWK enc k w0 blk off d' w'/\PermIn a b d d'/\∀t,d'[t]! =z6 d a m b t
end SM
namespace SM
variable {P:Program} {α:Type} [Inhabited α]
def SymPost(enc:α->List Value)(k:Nat)(w0:World)(blk off:Nat)(lt:α->α->Bool)(d:Array α)(a b:Nat)(e:Ending)(w':World):Prop:=
 e= .returned (.tuple #[])/\∃d':Array α,SWK enc k w0 blk off d' w'/\PermIn a b d d'/\SortedIn lt a b d'
end SM
namespace SM
variable {P:Program} {α:Type} [Inhabited α]
def SymPre(cf:α->α->Int)(lt:α->α->Bool)(d:Array α)(a m b:Nat):Prop:=
 SortedIn lt a m d/\SortedIn lt m b d/\∀i j,a<=i->i<m->m<=j->j<b->ltOf cf d[j]! d[i]! =lt d[j]! d[i]!
theorem rot_triv(d:Array α)(s m e t:Nat)(h:s=m\/m=e)(hs:s<=m)(he:m<=e):d[t]! =z6 d s m e t:=by
 unfold z6
 rcases h with rfl|rfl
 ·by_cases h1:s<=t/\t<s+(e-s)
  ·rw[if_pos h1,ybi,Nat.add_zero]
  ·rw[if_neg h1,if_neg (by omega)]
 ·rw[if_neg (by omega),ybi]
  by_cases h1:s+0<=t/\t<m
  ·rw[if_pos h1,Nat.sub_zero]
  ·rw[if_neg h1]
end SM
end
section
open Go.Sort Go.Proofs
variable {α:Type} [Inhabited α] {lt l1 l2:α->α->Bool}
theorem zfn(a:Nat):∀(j:Nat) (d:Array α),j<d.size->(∀t,a<=t->t<j->l1 d[j]! d[t]! =l2 d[j]! d[t]!)->insInner l1 a j d=insInner l2 a j d
 |0,_,_,_=>rfl
 | j + 1, d, hj, h => by
   unfold insInner;by_cases ha:j+1>a
   ·rw[h j (by omega) (by omega),zfn a j (swp d (j+1) j) (by rw[size_swp];omega) (fun t h1 h2=>by
     rw[swp_get d hj (by omega),swp_get d hj (by omega),if_pos rfl,if_neg (by omega),if_neg (by omega)]
     exact h t h1 (by omega))]
   ·simp[ha]
theorem zf7(l:α->α->Bool)(a hi:Nat):∀(j:Nat) (d:Array α),j<hi->hi<=d.size->PermIn a hi d (insInner l a j d)
 |0,_,_,_=>permIn_refl _ _ _
 | j + 1, d, hj, h => by
   unfold insInner
   split
   ·rename_i hc;simp only[Bool.and_eq_true,decide_eq_true_eq]at hc;exact permIn_trans _ _ _ _ _ (swp_permIn d a hi (j+1) j (by omega) hj (by omega) (by omega) h) (zf7 l a hi j _ (by omega) (by rw[size_swp];exact h))
   ·exact permIn_refl _ _ _
theorem zfo(a b:Nat):∀(n i:Nat) (d:Array α),b-i<=n->a<i->b<=d.size->(∀s t,a<=s->s<t->i<=t->t<b->l1 d[t]! d[s]! =l2 d[t]! d[s]!)->insOuter l1 a b i d=insOuter l2 a b i d
 |0,i,d,hn,_,_,_=>by rw[insOuter_stop l1 a b i d (by omega),insOuter_stop l2 a b i d (by omega)]
 | n + 1, i, d, hn, ha, hb, h => by
   by_cases hi:i<b
   ·rw[insOuter_go l1 a b i d hi,insOuter_go l2 a b i d hi,zfn a i d (by omega) (fun t h1 h2=>h t i h1 h2 (yd _) hi)]
    have hp:=zf7 l2 a (i+1) i d (by omega) (by omega)
    refine zfo a b n (i+1) _ (by omega) (by omega) (by rw[hp.1];exact hb) (fun s t h1 h2 h3 h4=> ?_)
    rw[hp.2.1 t (.inr h3)];by_cases hs:s<i+1
    ·exact permIn_all d _ a (i+1) (fun v=>l1 d[t]! v=l2 d[t]! v) (by omega) hp (fun x x1 x2=>h x t x1 (by omega) (by omega) h4) s h1 hs
    ·rw[hp.2.1 s (.inr (by omega))];exact h s t h1 h2 (by omega) h4
   ·rw[insOuter_stop l1 a b i d hi,insOuter_stop l2 a b i d hi]
theorem zmk(S:SWO lt){cf:α->α->Int}{d:Array α}{a b:Nat}(hab:a<=b)(hb:b<=d.size)(h:∀s t,a<=s->s<t->t<b->ltOf cf d[t]! d[s]! =lt d[t]! d[s]!):
 PermIn a b d (insertionSort (ltOf cf) d a b)/\SortedIn lt a b (insertionSort (ltOf cf) d a b):=by
 have e:insertionSort (ltOf cf) d a b=insertionSort lt d a b:=zfo a b (b-(a+1)) (a+1) d (yd _) (by omega) hb (fun s t h1 h2 h3 h4=>h s t h1 h2 h4)
 rw[e];exact insertionSort_holds S d a b hab hb
def OKb(lt:α->α->Bool)(tg:α->Nat)(d:Array α)(lo hi:Nat):Prop:=SortedIn lt lo hi d/\∀t,lo<=t->t<hi->lo<=tg d[t]! /\tg d[t]! <hi
theorem OKb.out{tg:α->Nat}{d d':Array α}{lo hi a b:Nat}(h:OKb lt tg d lo hi)(hp:PermIn a b d d')(ho:hi<=a\/b<=lo):OKb lt tg d' lo hi:=by
 refine⟨fun i j h1 h2 h3=> ?_,fun t h1 h2=> ?_⟩
 ·rw[hp.2.1 i (by omega),hp.2.1 j (by omega)];exact h.1 i j h1 h2 h3
 ·rw[hp.2.1 t (by omega)];exact h.2 t h1 h2
theorem OKb.tags{tg:α->Nat}{d d':Array α}{lo hi:Nat}(hb:hi<=d.size)(hp:PermIn lo hi d d')(hs:SortedIn lt lo hi d')(h:∀t,lo<=t->t<hi->lo<=tg d[t]! /\tg d[t]! <hi):OKb lt tg d' lo hi:=
 ⟨hs,permIn_all d d' lo hi (fun v=>lo<=tg v/\tg v<hi) hb hp h⟩
theorem OKb.cross{tg:α->Nat}{cf:α->α->Int}(hc:∀x y,tg x<tg y->ltOf cf y x=lt y x){d:Array α}{a m b:Nat}(h1:OKb lt tg d a m)(h2:OKb lt tg d m b):
 ∀i j,a<=i->i<m->m<=j->j<b->ltOf cf d[j]! d[i]! =lt d[j]! d[i]! :=fun i j y1 y2 y3 y4=>
 hc _ _ (by have:=(h1.2 i y1 y2).2;have:=(h2.2 j y3 y4).1;omega)
theorem OKb.join{tg:α->Nat}{d d':Array α}{a m b:Nat}(hm:a<=m)(hmb:m<=b)(hb:b<=d.size)(h1:OKb lt tg d a m)(h2:OKb lt tg d m b)(hp:PermIn a b d d')(hs:SortedIn lt a b d'):OKb lt tg d' a b:=
 OKb.tags hb hp hs (fun t y1 y2=>by
  by_cases h:t<m
  ·have:=h1.2 t y1 h;omega
  ·have:=h2.2 t (by omega) y2;omega)
def BlkFrom(lt:α->α->Bool)(tg:α->Nat)(bs n q0:Nat)(d:Array α):Prop:=∀q,q0<=q->q*bs<n->OKb lt tg d (q*bs) (min (q*bs+bs) n)
def BlkTo(lt:α->α->Bool)(tg:α->Nat)(bs n q0:Nat)(d:Array α):Prop:=∀q,q<q0->q*bs<n->OKb lt tg d (q*bs) (min (q*bs+bs) n)
theorem BlkTo.step{tg:α->Nat}{bs n q:Nat}{d d':Array α}(h:BlkTo lt tg bs n q d)(hp:PermIn (q*bs) (min (q*bs+bs) n) d d')(hn:OKb lt tg d' (q*bs) (min (q*bs+bs) n)):BlkTo lt tg bs n (q+1) d':=by
 intro p hpq hpn;by_cases e:p=q
 ·rw[e];exact hn
 ·refine(h p (by omega) hpn).out hp (.inl ?_)
  have:(p+1)*bs<=q*bs:=yaq _ (by omega)
  rw[yag,ybd]at this;exact yg (Nat.min_le_left _ _) this
theorem BlkFrom.step{tg:α->Nat}{bs n q hi:Nat}{d d':Array α}{lo:Nat}(h:BlkFrom lt tg bs n q d)(hp:PermIn lo hi d d')(q':Nat)(hq:q<=q')(hhi:hi<=q'*bs):BlkFrom lt tg bs n q' d':=by
 intro p hpq hpn;refine(h p (by omega) hpn).out hp (.inr ?_)
 exact yg hhi (yaq _ hpq)
theorem BlkTo.all{tg:α->Nat}{bs n q:Nat}{d:Array α}(h:BlkTo lt tg bs n q d)(hq:n<=q*bs):BlkFrom lt tg bs n 0 d:=fun p _ hpn=>h p (by
 apply Nat.lt_of_not_le;intro hc;have:=yaq bs hc;omega) hpn
section
variable {tg:α->Nat} {cf:α->α->Int} {d d0:Array α} {n q bs a:Nat}
def zhy(lt:α->α->Bool)(tg:α->Nat)(d0 d:Array α)(n q a:Nat):Prop:=
 a=q*20/\BlkTo lt tg 20 n q d/\(∀t,a<=t->d[t]! =d0[t]!)/\PermIn 0 n d0 d
theorem zks(lt:α->α->Bool)(tg:α->Nat)(d0:Array α)(n:Nat):zhy lt tg d0 d0 n 0 0:=
 ⟨rfl,fun q h=>by omega,fun _ _=>rfl,permIn_refl _ _ _⟩
theorem zid(S:SWO lt)(hc:∀x y,tg x<tg y->ltOf cf y x=lt y x)(h0:∀t,t<n->tg d0[t]! =t)(h:zhy lt tg d0 d n q a)(b:Nat)(hab:a<=b)(hbn:b<=n)(hn:n<=d.size)(hq:b=min (a+20) n):
 (insertionSort (ltOf cf) d a b).size=d.size/\(b=a+20->zhy lt tg d0 (insertionSort (ltOf cf) d a b) n (q+1) (a+20))/\(b=n->BlkFrom lt tg 20 n 0 (insertionSort (ltOf cf) d a b)/\PermIn 0 n d0 (insertionSort (ltOf cf) d a b)):=by
 obtain⟨rfl,hB,hE,hP⟩:=h;have htag:∀t,q*20<=t->t<b->tg d[t]! =t:=fun t h1 h2=>by rw[hE t h1];exact h0 t (by omega)
 obtain⟨p1,p2⟩:=zmk (d:=d) S hab (by omega) (fun s t h1 h2 h3=>hc _ _ (by rw[htag s h1 (by omega),htag t (by omega) h3];exact h2))
 have hok:=OKb.tags (tg:=tg) (by omega) p1 p2 (fun t h1 h2=>by rw[htag t h1 h2];omega)
 have hB':BlkTo lt tg 20 n (q+1) (insertionSort (ltOf cf) d (q*20) b):=hB.step (by rw[<-hq];exact p1) (by rw[<-hq];exact hok)
 have hP':PermIn 0 n d0 (insertionSort (ltOf cf) d (q*20) b):=permIn_trans _ _ _ _ _ hP (permIn_mono _ _ _ _ _ _ (yu _) hbn hn p1);exact⟨p1.1,fun hb=>⟨by omega,hB',fun t ht=>by rw[p1.2.1 t (.inr (by omega))];exact hE t (by omega),hP'⟩,fun hb=>⟨hB'.all (by omega),hP'⟩⟩
def zfh(lt:α->α->Bool)(tg:α->Nat)(d0 d:Array α)(n bs q a:Nat):Prop:=
 a=q*(2*bs)/\BlkTo lt tg (2*bs) n q d/\BlkFrom lt tg bs n (2*q) d/\PermIn 0 n d0 d
theorem zgT(q bs:Nat):2*q*bs=q*(2*bs):=by rw[Nat.mul_comm 2 q,Nat.mul_assoc]
theorem zoA(q bs:Nat):(2*q+1)*bs=q*(2*bs)+bs:=by rw[yag,ybd,zgT]
theorem zkv(q bs:Nat):(q+1)*(2*bs)=q*(2*bs)+2*bs:=by rw[yag,ybd]
theorem zkt{lt:α->α->Bool}{tg:α->Nat}{d0 d:Array α}{n bs:Nat}(h:BlkFrom lt tg bs n 0 d)(hP:PermIn 0 n d0 d):zfh lt tg d0 d n bs 0 0:=
 ⟨by simp,fun q h=>by omega,h,hP⟩
theorem zif(hc:∀x y,tg x<tg y->ltOf cf y x=lt y x)(h:zfh lt tg d0 d n bs q a)(b:Nat)(hb:b=min (a+2*bs) n)(hm:a+bs<n):
 SortedIn lt a (a+bs) d/\SortedIn lt (a+bs) b d/\(∀i j,a<=i->i<a+bs->a+bs<=j->j<b->ltOf cf d[j]! d[i]! =lt d[j]! d[i]!)/\OKb lt tg d a (a+bs)/\OKb lt tg d (a+bs) b:=by
 obtain⟨rfl,hT,hF,hP⟩:=h;have h1:=hF (2*q) (yd _) (by rw[zgT];omega)
 have h2:=hF (2*q+1) (by omega) (by rw[zoA];omega)
 rw[zgT,Nat.min_eq_left (by omega)]at h1
 rw[zoA,show min (q*(2*bs)+bs+bs) n=b by omega]at h2
 exact⟨h1.1,h2.1,h1.cross hc h2,h1,h2⟩
theorem zg4(hbs:0<bs)(h:zfh lt tg d0 d n bs q a)(b:Nat)(hb:b=min (a+2*bs) n)(hm:a+bs<n)(hn:n<=d.size){d':Array α}(ok1:OKb lt tg d a (a+bs))(ok2:OKb lt tg d (a+bs) b)(hp:PermIn a b d d')(hs:SortedIn lt a b d'):
 (b=a+2*bs->zfh lt tg d0 d' n bs (q+1) b)/\BlkTo lt tg (2*bs) n (q+1) d'/\PermIn 0 n d0 d':=by
 obtain⟨rfl,hT,hF,hP⟩:=h;have hj:=OKb.join (by omega) (by omega) (by omega) ok1 ok2 hp hs
 have hT':BlkTo lt tg (2*bs) n (q+1) d':=hT.step (by rw[<-hb];exact hp) (by rw[<-hb];exact hj)
 have hP':PermIn 0 n d0 d':=permIn_trans _ _ _ _ _ hP (permIn_mono _ _ _ _ _ _ (yu _) (by omega) hn hp)
 exact⟨fun e=>⟨by rw[zkv];exact e,hT',hF.step hp (2*(q+1)) (by omega) (by rw[zgT,zkv];omega),hP'⟩,hT',hP'⟩
theorem zlj(h:zfh lt tg d0 d n bs q a)(hm:n<=a+bs):BlkTo lt tg (2*bs) n (q+1) d:=by
 obtain⟨rfl,hT,hF,hP⟩:=h;intro p hp hpn;by_cases e:p=q
 ·subst e;have h1:=hF (2*p) (yd _) (by rw[zgT];exact hpn)
  rw[zgT,Nat.min_eq_right (by omega)]at h1
  rw[Nat.min_eq_right (by omega)]
  exact h1
 ·exact hT p (by omega) hpn
theorem zie{d:Array α}(h:BlkTo lt tg (2*bs) n (q+1) d)(hq:n<=q*(2*bs)+2*bs):BlkFrom lt tg (2*bs) n 0 d:=h.all (by rw[zkv];exact hq)
theorem zlX{d:Array α}(h:BlkFrom lt tg bs n 0 d)(hb:n<=bs):SortedIn lt 0 n d:=by
 intro i j h1 h2 h3;have:=h 0 (yd _) (by omega)
 rw[Nat.zero_mul,yal,Nat.min_eq_right hb]at this;exact this.1 i j h1 h2 h3
end
end
section
open Go.Shelf Go.RowKit Go.Lib Go.Sort
namespace SM
variable {P:Program} {α:Type} [Inhabited α]
def CmpAny(P:Program)(g:Nat)(cb:Array Value)(enc:α->List Value)(cf:α->α->Int):Prop:=
 ∀(W:World) (x y:α),Calls P g (#[.agg (enc x).toArray,.agg (enc y).toArray]++cb) W fun e w'=>e= .returned (.int .i64 (cf x y))/\∃q os',w'=grow (W.drewN q) os'
def StabPost(enc:α->List Value)(k:Nat)(w0:World)(blk off:Nat)(lt:α->α->Bool)(d:Array α)(e:Ending)(w':World):Prop:=
 e= .returned (.tuple #[])/\∃d':Array α,SWK enc k w0 blk off d' w'/\PermIn 0 d.size d d'/\SortedIn lt 0 d.size d'
end SM
end
section
open Go.Sort Go.Proofs
variable {β:Type} {cf:β->β->Int}
def tlt(cf:β->β->Int)(x y:β×Nat):Bool:=decide (cf x.1 y.1<0)||(!decide (cf y.1 x.1<0)&&decide (x.2<y.2))
theorem zeE(x y:β×Nat):tlt cf x y=true↔(cf x.1 y.1<0\/(¬cf y.1 x.1<0/\x.2<y.2)):=by simp[tlt]
theorem ziK(x y:β×Nat):tlt cf x y=false↔(¬cf x.1 y.1<0/\(cf y.1 x.1<0\/y.2<=x.2)):=by
 rw[<-Bool.not_eq_true,zeE]
 constructor
 ·intro h;refine⟨fun h1=>h (.inl h1),?_⟩
  by_cases h2:cf y.1 x.1<0
  ·exact .inl h2
  ·exact .inr (Nat.le_of_not_lt fun h3=>h (.inr ⟨h2,h3⟩))
 ·rintro⟨h1,h2⟩ (h|⟨h3,h4⟩)
  ·exact h1 h
  ·rcases h2 with h2|h2
   ·exact h3 h2
   ·omega
structure Cmp(cf:β->β->Int):Prop where
 irrefl:∀x,¬cf x x<0
 asymm:∀x y,cf x y<0->¬cf y x<0
 ntrans:∀x y z,¬cf x y<0->¬cf y z<0->¬cf x z<0
theorem Cmp.trans(C:Cmp cf){x y z:β}(h1:cf x y<0)(h2:cf y z<0):cf x z<0:=by
 by_cases h:cf x z<0
 ·exact h
 ·exact absurd h1 (C.ntrans x z y h (C.asymm _ _ h2))
theorem Cmp.lt_of_lt_of_le(C:Cmp cf){x y z:β}(h1:cf x y<0)(h2:¬cf z y<0):cf x z<0:=by
 by_cases h:cf x z<0
 ·exact h
 ·exact absurd h1 (C.ntrans x z y h h2)
theorem Cmp.swo(C:Cmp cf):SWO (tlt cf) where
 irrefl x:=by rw[ziK];exact⟨C.irrefl _,.inr (yd _)⟩
 trans x y z h1 h2:=by
  rw[zeE]at*
  rcases h1 with h1|⟨h1,h1'⟩<;>rcases h2 with h2|⟨h2,h2'⟩
  ·exact .inl (C.trans h1 h2)
  ·exact .inl (C.lt_of_lt_of_le h1 h2)
  ·left
   by_cases h:cf x.1 z.1<0
   ·exact h
   ·exact absurd h2 (C.ntrans _ _ _ h1 h)
  ·exact .inr ⟨C.ntrans _ _ _ h2 h1,by omega⟩
 ntrans x y z h1 h2:=by
  rw[ziK]at*;refine⟨C.ntrans _ _ _ h1.1 h2.1,?_⟩
  rcases h1.2 with h3|h3
  ·left
   by_cases h:cf z.1 x.1<0
   ·exact h
   ·exact absurd h3 (C.ntrans _ _ _ h2.1 h)
  ·rcases h2.2 with h4|h4
   ·left
    by_cases h:cf z.1 x.1<0
    ·exact h
    ·exact absurd h4 (C.ntrans _ _ _ h h1.1)
   ·exact .inr (by omega)
theorem zov{x y:β×Nat}(h:tlt cf y x=false)(hne:x.2≠y.2):tlt cf x y=true:=by
 rw[ziK]at h;rw[zeE]
 rcases h.2 with h2|h2
 ·exact .inl h2
 ·by_cases h3:cf x.1 y.1<0
  ·exact .inl h3
  ·exact .inr ⟨h.1,by omega⟩
def IsStable(cf:β->β->Int)(xs ys:List β):Prop:=
 ∃ts:List (β×Nat),ts.Perm xs.zipIdx/\ts.Pairwise (fun x y=>tlt cf x y=true)/\ys=ts.map (·.1)
theorem zdj{γ:Type}{r:γ->γ->Prop}(has:∀x y,r x y->r y x->False):∀{l m:List γ},l.Perm m->l.Pairwise r->m.Pairwise r->l=m
 |[],m,h,_,_=>by simpa using h.symm.eq_nil
 |a::l,[],h,_,_=>by simpa using h.eq_nil
 | a :: l, b :: m, h, h1, h2 => by
   rw[yaE]at h1 h2
   have hab:a=b:=by
    have ha:a∈b::m:=h.mem_iff.1 (by simp)
    have hb:b∈a::l:=h.mem_iff.2 (by simp)
    rcases yA.1 ha with e|ha
    ·exact e
    ·rcases yA.1 hb with e|hb
     ·exact e.symm
     ·exact(has a b (h1.1 b hb) (h2.1 a ha)).elim
   subst hab;rw[zdj has ((List.perm_cons a).1 h) h1.2 h2.2]
theorem IsStable.unique(C:Cmp cf){xs ys zs:List β}(h1:IsStable cf xs ys)(h2:IsStable cf xs zs):ys=zs:=by
 obtain⟨t1,p1,s1,rfl⟩:=h1;obtain⟨t2,p2,s2,rfl⟩:=h2;rw[zdj (fun x y h1 h2=>by rw[C.swo.asymmA h1]at h2;cases h2) (p1.trans p2.symm) s1 s2]
theorem IsStable.perm{xs ys:List β}(h:IsStable cf xs ys):ys.Perm xs:=by
 obtain⟨ts,p,_,rfl⟩:=h;have:=p.map (·.1)
 rwa[List.zipIdx_map_fst]at this
theorem IsStable.nil:IsStable cf [] []:=⟨[],by simp,List.Pairwise.nil,rfl⟩
theorem IsStable.snoc(C:Cmp cf){xs A B:List β}(h:IsStable cf xs (A++B)){p:β}(hA:∀a,A.getLast? =some a->¬cf p a<0)(hB:∀b∈B,cf p b<0):IsStable cf (xs++[p]) (A++p::B):=by
 obtain⟨ts,hp,hs,he⟩:=h
 obtain⟨tA,tB,rfl,rfl,rfl⟩:∃tA tB,ts=tA++tB/\A=tA.map (·.1)/\B=tB.map (·.1):=by
  obtain⟨tA,tB,h1,h2,h3⟩:=List.map_eq_append_iff.1 he.symm;exact⟨tA,tB,h1,h2.symm,h3.symm⟩
 rw[yaT]at hs;obtain⟨sA,sB,sAB⟩:=hs
 have htag:∀x∈tA++tB,x.2<xs.length:=fun x hx=>by
  have:=hp.mem_iff.1 hx;have:=List.mem_zipIdx this;omega
 refine⟨tA++(p,xs.length)::tB,?_,?_,by simp⟩
 ·have h1:(tA++(p,xs.length)::tB).Perm ((p,xs.length)::(tA++tB)):=List.perm_middle;rw[List.zipIdx_append];refine h1.trans (((List.perm_cons _).2 hp).trans ?_);have:[p].zipIdx xs.length=[(p,xs.length)]:=rfl;simp only[yal,this];exact(List.perm_append_singleton _ _).symm
 ·rw[yaT];refine⟨sA,?_,?_⟩
  ·rw[yaE];exact⟨fun b hb=>by rw[zeE];exact .inl (hB b.1 (List.mem_map.2 ⟨b,hb,rfl⟩)),sB⟩
  ·intro a ha b hb
   rcases yA.1 hb with rfl|hb
   ·rw[zeE]
    right
    refine⟨?_,htag a (by simp[ha])⟩
    cases hl:tA.getLast? with
    |none=>rw[List.getLast?_eq_none_iff]at hl;rw[hl]at ha;cases ha
    | some z =>
      have hz:=hA z.1 (by rw[List.getLast?_map,hl];rfl)
      obtain⟨t0,rfl⟩:=List.getLast?_eq_some_iff.1 hl;rw[yaT]at sA
      rcases List.mem_append.1 ha with ha|ha
      ·have:=sA.2.2 a ha z (by simp)
       exact C.ntrans _ _ _ hz (by rw[zeE]at this;rcases this with h|h;exact C.asymm _ _ h;exact h.1)
      ·simp at ha;rw[ha];exact hz
   ·exact sAB a ha b hb
theorem IsStable.of_sorted(C:Cmp cf)[Inhabited β]{xs:List β}{d':Array (β×Nat)}(hp:PermIn 0 xs.zipIdx.toArray.size xs.zipIdx.toArray d')(hs:SortedIn (tlt cf) 0 xs.zipIdx.toArray.size d'):IsStable cf xs (d'.toList.map (·.1)):=by
 have hsz:d'.size=xs.zipIdx.toArray.size:=hp.1
 have hperm:d'.toList.Perm xs.zipIdx:=by
  have h:=hp.2.2;have e1:d'.extract 0 xs.zipIdx.toArray.size=d':=by rw[<-hsz];simp
  have e2:xs.zipIdx.toArray.extract 0 xs.zipIdx.toArray.size=xs.zipIdx.toArray:=by
   simp;exact List.take_of_length_le (by simp)
  rw[e1,e2]at h;exact h
 refine⟨d'.toList,hperm,?_,rfl⟩
 have hnd:(d'.toList.map (·.2)).Nodup:=by
  have:=(hperm.map (·.2)).nodup_iff
  rw[this,List.zipIdx_map_snd];exact List.nodup_range'
 rw[yaD];intro i j hi hj hij;simp only[Array.length_toList]at hi hj;have h1:=hs i j (yu _) hij (by omega)
 rw[getElem!_pos d' i hi,getElem!_pos d' j hj]at h1;simp only[Array.getElem_toList];refine zov h1 (fun e=> ?_)
 have h2:=(List.nodup_iff_pairwise_ne.1 hnd);rw[yaD]at h2;have:=h2 i j (by simpa using hi) (by simpa using hj) hij
 simp only[List.getElem_map,Array.getElem_toList]at this;exact this e
end
section
open Go Go.Shelf
def zk5:Go.Shelf.Ren:=⟨fun|110=>111|109=>172|n=>n,fun|31=>42|9=>9|4=>4|3=>3|0=>0|n=>n,fun|n=>n⟩
theorem zlF:Go.Proofs.Lays.n110 ye zk5:={
 mixed:=by kernel_rfl
 f109:=Tryz.func172.trans (congrArg some (by kernel_rfl))
 f110:=Tryz.func111.trans (congrArg some (by kernel_rfl))
 t0:=Tryz.underlying0
 a0:=Tryz.isAgg0
 z0:=Tryz.sizeOf0
 v0:=Tryz.zeroValue0
 t3:=Tryz.underlying3
 a3:=Tryz.isAgg3
 z3:=Tryz.sizeOf3
 v3:=Tryz.zeroValue3
 t4:=Tryz.underlying4
 a4:=Tryz.isAgg4
 z4:=Tryz.sizeOf4
 v4:=Tryz.zeroValue4
 t9:=Tryz.underlying9
 a9:=Tryz.isAgg9
 z9:=Tryz.sizeOf9
 v9:=Tryz.zeroValue9
 t31:=Tryz.underlying42
 a31:=Tryz.isAgg42
 z31:=Tryz.sizeOf42
 v31:=Tryz.zeroValue42}
open Go.Lib in
theorem slices_Contains_string(b off n c:Nat)(zs:List ByteArray)(x:ByteArray)(w:World)(hz:n<=zs.length)(hbig:n<=9223372036854775807)(hc:∀j,j<zs.length->w.cell? ⟨b,off+j,none⟩=some (.string (zs.getD j ByteArray.empty))):
 Calls ye 111 #[.slice (some ⟨b,off,none⟩) n c,.string x] w fun e w'=>e= .returned (.bool (Lib.containsS (zs.take n) x))/\w'=w:=Any.slices_Contains_string zlF b off n c zs x w hz hbig hc
open Go.Lib in
theorem slices_Contains_string_empty(a:Option Addr)(c:Nat)(x:ByteArray)(w:World):
 Calls ye 111 #[.slice a 0 c,.string x] w fun e w'=>e= .returned (.bool false)/\w'=w:=Any.slices_Contains_string_empty zlF a c x w
def zk7:Go.Shelf.Ren:=⟨fun|144=>178|143=>209|219=>233|217=>166|225=>257|224=>258|267=>259|266=>194|314=>275|n=>n,fun|9=>9|4=>4|3=>3|5=>5|46=>153|146=>322|51=>208|n=>n,fun|1=>1|n=>n⟩
theorem zq3:Go.Proofs.Lays.n144 ye zk7:={
 mixed:=by kernel_rfl
 f143:=Tryz.func209.trans (congrArg some (by kernel_rfl))
 f144:=Tryz.func178.trans (congrArg some (by kernel_rfl))
 f217:=Tryz.func166.trans (congrArg some (by kernel_rfl))
 f219:=Tryz.func233.trans (congrArg some (by kernel_rfl))
 f224:=Tryz.func258.trans (congrArg some (by kernel_rfl))
 f225:=Tryz.func257.trans (congrArg some (by kernel_rfl))
 f266:=Tryz.func194.trans (congrArg some (by kernel_rfl))
 f267:=Tryz.func259.trans (congrArg some (by kernel_rfl))
 f314:=Tryz.func275.trans (congrArg some (by kernel_rfl))
 t3:=Tryz.underlying3
 a3:=Tryz.isAgg3
 z3:=Tryz.sizeOf3
 v3:=Tryz.zeroValue3
 t4:=Tryz.underlying4
 a4:=Tryz.isAgg4
 z4:=Tryz.sizeOf4
 v4:=Tryz.zeroValue4
 t5:=Tryz.underlying5
 a5:=Tryz.isAgg5
 z5:=Tryz.sizeOf5
 v5:=Tryz.zeroValue5
 t9:=Tryz.underlying9
 a9:=Tryz.isAgg9
 z9:=Tryz.sizeOf9
 v9:=Tryz.zeroValue9
 t46:=Tryz.underlying153
 a46:=Tryz.isAgg153
 z46:=Tryz.sizeOf153
 v46:=Tryz.zeroValue153
 t51:=Tryz.underlying208
 a51:=Tryz.isAgg208
 z51:=Tryz.sizeOf208
 v51:=Tryz.zeroValue208
 t146:=Tryz.underlying322
 a146:=Tryz.isAgg322
 z146:=Tryz.sizeOf322
 v146:=Tryz.zeroValue322
 g1:=by kernel_rfl}
open Go.RowKit Go.Lib in
theorem strings_Contains(s sub:ByteArray)(m:Int)(w:World)(hs:s.size<4294967281)(hm:w.cell? ⟨1,0,none⟩=some (.int .i64 m)):
 Calls ye 178 #[.string s,.string sub] w fun e w'=>e= .returned (.bool (Lib.contains s.data.toList sub.data.toList))/\w'=w:=Any.strings_Contains zq3 s sub m w hs hm
end
section
open Go.Shelf Go.RowKit Go.Lib Go.Sort
namespace SP
def ren:Ren:=⟨fun|20=>180|n=>n,fun|24=>87|22=>84|3=>3|25=>150|4=>4|0=>0|n=>n,fun|n=>n⟩
structure Lays(P:Program)(k:Nat):Prop where
 mixed:P.follows .mixedOrders=true
 fSwap:P.funcs[234]? =some Tryz.f234
 fRot:P.funcs[211]? =some Tryz.f211
 fSym:P.funcs[181]? =some Tryz.f181
 fStab:P.funcs[135]? =some Tryz.f135
 fTop:P.funcs[84]? =some Tryz.f84
 ins:SlLaysF0.n20 P ren
 aE:∀w,(isAgg 87).run P w= .ok true w
 zE:∀w,(Go.sizeOf 87).run P w= .ok k w
 t0:P.underlying 0=some (TypeDesc.tuple #[])
 a0:∀w,(isAgg 0).run P w= .ok false w
 z0:∀w,(Go.sizeOf 0).run P w= .ok 1 w
 v0:∀w,(zeroValue 0).run P w= .ok (Value.tuple #[]) w
 t3:P.underlying 3=some (TypeDesc.int IntKind.i64)
 a3:∀w,(isAgg 3).run P w= .ok false w
 z3:∀w,(Go.sizeOf 3).run P w= .ok 1 w
 v3:∀w,(zeroValue 3).run P w= .ok (Value.int IntKind.i64 0) w
 t4:P.underlying 4=some (TypeDesc.bool)
 a4:∀w,(isAgg 4).run P w= .ok false w
 z4:∀w,(Go.sizeOf 4).run P w= .ok 1 w
 v4:∀w,(zeroValue 4).run P w= .ok (Value.bool false) w
 tu:P.underlying 153=some (TypeDesc.int IntKind.u64)
 au:∀w,(isAgg 153).run P w= .ok false w
 zu:∀w,(Go.sizeOf 153).run P w= .ok 1 w
 vu:∀w,(zeroValue 153).run P w= .ok (Value.int IntKind.u64 0) w
 tS:P.underlying 84=some (TypeDesc.slice 87)
 aS:∀w,(isAgg 84).run P w= .ok false w
 zS:∀w,(Go.sizeOf 84).run P w= .ok 1 w
 vS:∀w,(zeroValue 84).run P w= .ok (Value.slice none 0 0) w
 tC:P.underlying 150=some (TypeDesc.func #[87,87] #[3] false)
 aC:∀w,(isAgg 150).run P w= .ok false w
 zC:∀w,(Go.sizeOf 150).run P w= .ok 1 w
 vC:∀w,(zeroValue 150).run P w= .ok (Value.nilFunc) w
theorem insLays:SlLaysF0.n20 ye ren:={
 mixed:=by kernel_rfl
 f20:=⟨Tryz.f180.name,by decide,Tryz.func180.trans (congrArg some (by kernel_rfl))⟩
 t0:=Tryz.underlying0
 a0:=Tryz.isAgg0
 z0:=Tryz.sizeOf0
 v0:=Tryz.zeroValue0
 t3:=Tryz.underlying3
 a3:=Tryz.isAgg3
 z3:=Tryz.sizeOf3
 v3:=Tryz.zeroValue3
 t4:=Tryz.underlying4
 a4:=Tryz.isAgg4
 z4:=Tryz.sizeOf4
 v4:=Tryz.zeroValue4
 t22:=Tryz.underlying84
 a22:=Tryz.isAgg84
 z22:=Tryz.sizeOf84
 v22:=Tryz.zeroValue84
 t25:=Tryz.underlying150
 a25:=Tryz.isAgg150
 z25:=Tryz.sizeOf150
 v25:=Tryz.zeroValue150}
theorem lays:Lays ye 4:={
 mixed:=by kernel_rfl
 fSwap:=Tryz.func234
 fRot:=Tryz.func211
 fSym:=Tryz.func181
 fStab:=Tryz.func135
 fTop:=Tryz.func84
 ins:=insLays
 aE:=Tryz.isAgg87
 zE:=Tryz.sizeOf87
 t0:=Tryz.underlying0
 a0:=Tryz.isAgg0
 z0:=Tryz.sizeOf0
 v0:=Tryz.zeroValue0
 t3:=Tryz.underlying3
 a3:=Tryz.isAgg3
 z3:=Tryz.sizeOf3
 v3:=Tryz.zeroValue3
 t4:=Tryz.underlying4
 a4:=Tryz.isAgg4
 z4:=Tryz.sizeOf4
 v4:=Tryz.zeroValue4
 tu:=Tryz.underlying153
 au:=Tryz.isAgg153
 zu:=Tryz.sizeOf153
 vu:=Tryz.zeroValue153
 tS:=Tryz.underlying84
 aS:=Tryz.isAgg84
 zS:=Tryz.sizeOf84
 vS:=Tryz.zeroValue84
 tC:=Tryz.underlying150
 aC:=Tryz.isAgg150
 zC:=Tryz.sizeOf150
 vC:=Tryz.zeroValue150}
variable {P:Program} {α:Type} [Inhabited α]
theorem swapRange_any(k:Nat)(L:Lays P k)(enc:α->List Value)(g:Nat)(cb:Array Value)(blk off cap a b n:Nat)(d0 d:Array α)(w0 w:World)
 (R:RowK enc k w0 blk off d0) (hs:d0.size=d.size) (S:SWK enc k w0 blk off d w) (hab:a+n<=b) (hb:b+n<=d.size) (hsz:d.size<4611686018427387904):
 Calls P 234 #[.slice (some ⟨blk,off,none⟩) d.size cap,.int .i64 a,.int .i64 b,.int .i64 n,.func (.func g) #[] cb] w fun e w'=>e= .returned (.tuple #[])/\SWK enc k w0 blk off (swr d a b n) w':=by
 have mixed:=L.mixed;have aE:=L.aE;have zE:=L.zE;have t0:=L.t0;have a0:=L.a0;have z0:=L.z0;have v0:=L.v0;have t3:=L.t3;have a3:=L.a3;have z3:=L.z3;have v3:=L.v3;have t4:=L.t4;have a4:=L.a4;have z4:=L.z4;have v4:=L.v4;have tS:=L.tS;have aS:=L.aS;have zS:=L.zS;have vS:=L.vS;have tC:=L.tC;have aC:=L.aC;have zC:=L.zC;have vC:=L.vC;have FG:=L.fSwap;have S0:Aside (SWK enc k w0 blk off d w):=S;clear S
 go_enter FG,Tryz.ntmps234
 go_wp2
 go_loopg [10] n (fun kx s10 wr=>∃(i:Nat),s10= .int .i64 i/\i<=n/\n-i<=kx/\Aside (SWK enc k w0 blk off (swr d a b i) wr))
 case atStart=>exact⟨0,rfl,yu _,by omega,S0⟩
 case round=>
  clear S0;obtain⟨i,rfl,hin,hkx,S1⟩:=hrel;by_cases hlt:i<n
  ·have hltz:(i:Int)<(n:Int):=by omega
   have hds:(swr d a b i).size=d.size:=zd9 _ _ _ _
   generalize hdk:swr d a b i=dk at S1 hds
   have HDK:=Lib.hid hdk;clear hdk
   go_wp2_with fail
   have ea44:((a:Int)+(i:Int)).toNat=a+i:=by omega
   have pa44:(0:Int)<=(a:Int)+(i:Int):=by omega
   have ba44:(a:Int)+(i:Int)<(d.size:Int):=by omega
   have ec44:((b:Int)+(i:Int)).toNat=b+i:=by omega
   have pc44:(0:Int)<=(b:Int)+(i:Int):=by omega
   have bc44:(b:Int)+(i:Int)<(d.size:Int):=by omega
   have S2:Aside (SWK enc k w0 blk off (swp dk (a+i) (b+i)) ((wr.drew.setCells blk (off+(a+i)*k) (enc dk[b+i]!)).setCells blk (off+(b+i)*k) (enc dk[a+i]!))):=S1.out.swapped R (a+i) (b+i) (by omega) (by omega)
   have l44a:=S1.out.ld1 R (by omega) P (a+i) (by omega)
   have l44b:=S1.out.ld1 R (by omega) P (b+i) (by omega)
   have s44a:=S1.out.st1 R (by omega) P (a+i) (by omega) dk[b+i]!
   have s44b:=S1.out.st2 R (by omega) P (a+i) (b+i) (by omega) (by omega) dk[b+i]! dk[a+i]!
   have n44a:(enc dk[a+i]!).length=k:=R.hk _;have n44b:(enc dk[b+i]!).length=k:=R.hk _
   generalize enc dk[a+i]! =cI44 at S2 l44a s44b n44a
   generalize enc dk[b+i]! =cJ44 at S2 l44b s44a s44b n44b
   clear S1
   go_big_region_o
   clear l44a l44b s44a s44b
   generalize(wr.drew.setCells blk (off+(a+i)*k) cJ44).setCells blk (off+(b+i)*k) cI44=w2 at S2⊢
   go_wp2
   go_roundg (n-(i+1))
   case measure=>omega
   case rel=>exact⟨i+1,by go_num,by omega,by omega,by rw[<-HDK.out]at S2;exact S2⟩
  ·obtain rfl:i=n:=by omega
   go_wp2
   go_end0
   exact⟨rfl,S1.out⟩
end SP
end
end Go.Proofs.YtemofofnkchmeaaGreatDoor
