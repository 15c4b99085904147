import Derived.Test.YtemofofnkchmeaaGreatDoorL01
import Derived.Deep.RegionHeld3
import Derived.Deep.AppendLies
import Derived.StillTactics
import Derived.Deep.DeepCutAuto
import Derived.Deep.CutRange
set_option linter.unusedSimpArgs false
set_option linter.unusedVariables false
set_option maxRecDepth 200000
set_option maxHeartbeats 8000000
namespace Go.Proofs.YtemofofnkchmeaaGreatDoor
open _root_.Go.Lib renaming hid->yc
open _root_.List renaming getElem?_eq_getElem->yf,length_append->yp
section
open Go.RowKit Go.OpenShut
def zbh(e:En):List Value:=[.int .i64 e.seq,.string e.id,.int .i64 e.what]
theorem codecE:Codec zbh 3:=⟨fun _=>rfl,fun x u hu=>by
 simp only[zbh,List.mem_cons,List.not_mem_nil,or_false]at hu
 rcases hu with rfl|rfl|rfl<;>rfl,by decide⟩
theorem rowE{w:World}{b o:Nat}{es:List En}:RowAt w b o zbh 3 es↔∀i,i<es.length->enAt w b (o+i*3) es[i]? :=by
 constructor
 ·intro h i hi;have hx:es[i]? =some es[i]:=yf hi;have:=h i es[i] hx;exact⟨es[i],hx,this 0 _ rfl,this 1 _ rfl,this 2 _ rfl⟩
 ·intro h i x hx j u hu;obtain⟨y,hy,h0,h1,h2⟩:=h i (List.getElem?_eq_some_iff.1 hx).1;rw[hx]at hy;cases hy
  match j,hu with
  |0,hu=>cases hu;exact h0
  |1,hu=>cases hu;exact h1
  |2,hu=>cases hu;exact h2
  |_+3,hu=>simp[zbh]at hu
theorem rdE_iff{w:World}{B:Nat}{v:Value}{es:List En}:RdE w B v es↔(∀e∈es,e.ok)/\Rd w B zbh 3 v es:=by
 unfold RdE Rd;simp only[rowE]
def zbs(n:Nat)(keep:Int):Nat:=n+1-keep.toNat
def zdC(l:List En)(keep:Int)(e:En):List En:=(l++[e]).drop (zbs l.length keep)
def zdB(l:List En)(floor keep:Int)(e:En):Int:=if zbs l.length keep=0 then floor else(((l++[e])[zbs l.length keep-1]?).map En.seq).getD 0
def zrq(w:World)(l:List En)(f:Int)(en:Ending)(w':World):Prop:=
 ∃u,en= .returned (.tuple #[u,.int .i64 f])/\Own w' w.heap.size 144 zbh 3 u l/\Below w.heap.size w w'
theorem zhq{u:Value}{k:IntKind}{a b:Int}(h:a=b):Ending.returned (.tuple #[u,.int k a])= .returned (.tuple #[u,.int k b]):=by rw[h]
def zrp(w:World)(l:List En)(e:En)(s:Value)(wr:World):Prop:=
 ∃gg cap,s= .slice (some ⟨gg,0,none⟩) (l.length+1) cap/\wr.ownsRow w.heap.size 144 3 (.slice (some ⟨gg,0,none⟩) (l.length+1) cap) (l.length+1) (cellsOf zbh l++zbh e)/\Below w.heap.size w wr
theorem zqu(w:World)(v:Value)(l:List En)(floor keep:Int)(e:En)(hv:Rd w w.heap.size zbh 3 v l)(hf:(Lit.int .i64 floor).wf=true)(hk:(Lit.int .i64 keep).wf=true)(hsz:(l.length+1)*32<=140737488355328):
 Calls Tryz.prog 163 #[v,.int .i64 floor,.int .i64 keep,.agg #[.int .i64 e.seq,.string e.id,.int .i64 e.what]] w (zrq w (zdC l keep e) (zdB l floor keep e)):=by
 have bk:=bounds_i64 hk;have hlen:l.length<=4398046511104:=by omega
 have HS:=yc hsz;obtain⟨i0,hi,hz0,hz1,hz2⟩:=info_parts zmj;clear hsz hk hf;have HM:Hid (l.length+1<=maxLen):=by unfold Hid maxLen;omega
 have HV:=yc hv;clear hv
 go_enter Tryz.func163,Tryz.ntmps163
 go_upto_region 1 with fail
 have HCL:=yc (show∀W,Below w.heap.size w W->Calls Tryz.prog 161 #[v] W (zD W 144 zbh 3 l)from fun W h=>zfB codecE W v l (HV.out.below h h.size) (by have:=HS.out;omega))
 go_cut [10]from 12 to 16 (fun s wr=>zrp w l e s wr)
 case first=>
  go_region_held3 (fun w'=>w'.cell? ⟨w.heap.size,0,none⟩=some (.int .i64 e.seq)/\w'.cell? ⟨w.heap.size,1,none⟩=some (.string e.id)/\w'.cell? ⟨w.heap.size,2,none⟩=some (.int .i64 e.what))
   (first
    |go_keep
    |(refine⟨?_,?_,?_⟩<;>(rw[hb.cell (by simp;try omega)];first|assumption|simp[*]))
    | (go_split_ands
       refine⟨?_,?_,?_⟩<;>(rw[hgrow.cell_far _ (by have:=hb.size;simp at this⊢;omega) (fun hh=>absurd (ho.lt _ hh.symm).1 (by simp;try omega))];first|assumption|simp[*])))
   (first
    |(go_at_call 161;refine(HCL.out _ ?_).mono ?_;(repeat (first|exact Below.refl _ _|apply Below.drew|refine Below.alloc ?_ (by simp) _));rintro e1 w1 ⟨u,rfl,ho,hb⟩)
    | (have _t := hb
       have q3:=World.ownsRow.alloc (ho.mono (base':=w.heap.size) (by simp;try omega)) (.cells #[.int .i64 e.seq,.string e.id,.int .i64 e.what] 144)
       have q5:=World.news_of_block (w:=w1.alloc (.cells #[.int .i64 e.seq,.string e.id,.int .i64 e.what] 144)) (cs:=#[.int .i64 e.seq,.string e.id,.int .i64 e.what]) (t:=144) (fr:=(0,0)) (heap_alloc_new w1 _);refine step_append_lies _ (by rfl) _ _ _ (by rfl) w.heap.size 144 i0 _ 3 32 Tryz.underlying38 hi hz0 hz1 hz2 rfl (by omega) u l.length (cellsOf zbh l) (by rfl) q3 ⟨w1.heap.size,0,none⟩ 1 1 (zbh e) (by rfl) (by rfl) q5 (codecE.one e) Nat.one_pos HM.out HS.out (by have:=hb.size;simp at this⊢;omega) (w1.heap.size+1) (by simp) ?_
       intro gg cap w2 hown2 hgrow hat hlt)
    | (have _t := hb
       have q3:=ho.mono (base':=w.heap.size) (by simp;try omega)
       have q5:∀j u,(zbh e)[j]? =some u->w1.cell? ((⟨w.heap.size+1,0,none⟩:Addr).add j)=some u:=by
        intro j u hu;rw[zbl,Nat.zero_add,hb.cell (p:=⟨w.heap.size+1,j,none⟩) (by simp),<-World.news_of_block (w:=((w.alloc (.cells #[.int .i64 e.seq,.string e.id,.int .i64 e.what] 144)).alloc (.cells #[.int .i64 e.seq,.string e.id,.int .i64 e.what] 144))) (B:=w.heap.size+1) (cs:=#[.int .i64 e.seq,.string e.id,.int .i64 e.what]) (t:=144) (fr:=(0,0)) (by have:=heap_alloc_new (w.alloc (.cells #[.int .i64 e.seq,.string e.id,.int .i64 e.what] 144)) (.cells #[.int .i64 e.seq,.string e.id,.int .i64 e.what] 144);simpa using this) j u hu,zbl,Nat.zero_add]
        rfl
       refine step_append_lies _ (by rfl) _ _ _ (by rfl) w.heap.size 144 i0 _ 3 32 Tryz.underlying38 hi hz0 hz1 hz2 rfl (by omega) u l.length (cellsOf zbh l) (by rfl) q3 ⟨w.heap.size+1,0,none⟩ 1 1 (zbh e) (by rfl) (by rfl) q5 (codecE.one e) Nat.one_pos HM.out HS.out (by have:=hb.size;simp at this⊢;omega) w1.heap.size rfl ?_
       intro gg cap w2 hown2 hgrow hat hlt))
  all_goals
   go_wp2_with fail
   go_meet
   refine⟨gg,cap,rfl,hown2,?_⟩
   first
    |exact((((Below.refl _ _).alloc (Nat.le_refl _) _).drew.trans (hb.mono (by simp))).alloc (by have:=hb.size;simp at this;omega) _).grown hgrow (by have:=hb.size;simp at this⊢;omega) (fun k hk=>by have:=(ho.lt k hk).1;simp at this;omega)
    |exact(((((Below.refl _ _).alloc (Nat.le_refl _) _).alloc (by simp) _).drew.trans (hb.mono (by simp;omega)))).grown hgrow (by have:=hb.size;simp at this⊢;omega) (fun k hk=>by have:=(ho.lt k hk).1;simp at this;omega)
 case rest=>
 obtain⟨gg,cap,rfl,hown2,hB2⟩:=hcut
 have HO:Own wc w.heap.size 144 zbh 3 (.slice (some ⟨gg,0,none⟩) (l++[e]).length cap) (l++[e]):=by
  unfold Own;rw[zv,zbG,yp];exact hown2
 have HRD:=HO.rd codecE;have hL:(l++[e]).length=l.length+1:=by simp
 rw[hL]at HRD;clear hown2 HO hL;have HRD':=yc HRD
 have hcell:∀k x,(l++[e])[k]? =some x->wc.cell? ⟨gg,k*3,none⟩=some (.int .i64 x.seq):=by
  obtain⟨p,c,he,_,_,_,hp⟩:=HRD;simp only[Value.slice.injEq]at he;obtain⟨rfl,_,rfl⟩:=he;obtain⟨b,o,hbo,_,hr⟩:=hp _ rfl (by simp)
  cases hbo;intro k x hx;simpa using hr k x hx 0 _ rfl
 have HCE:=yc hcell;clear hcell HRD;have HF:∀(g:Nat) (v2:Value),Rd wc wc.heap.size zbh 3 v2 ((l++[e]).drop g)->Calls Tryz.prog 161 #[v2] wc (zD wc 144 zbh 3 ((l++[e]).drop g)):=fun g v2 h2=>zfB codecE wc v2 _ h2 (by have:=HS.out;simp only[List.length_drop,yp,List.length_singleton];omega)
 have HFF:=yc HF;clear HF;by_cases hg0:zbs l.length keep=0
 ·have h1:(l.length:Int)+1<=keep:=by unfold zbs at hg0;omega
  obtain⟨v2,hsl,hr2⟩:=zh5 Tryz.underlying38 hi hz1 HRD'.out 0 (Nat.zero_le _);have HR2:=yc hr2;have hsl0:∀W,(Instr.sliceAt 38 (.slice (some ⟨gg,0,none⟩) (l.length+1) cap) (some (.int .i64 0)) none none).run Tryz.prog W= .ok v2 W:=hsl;have HE:Hid (zdB l floor keep e=floor/\zdC l keep e=(l++[e]).drop 0):=by unfold Hid zdB zdC;rw[if_pos hg0,hg0];exact⟨rfl,rfl⟩
  clear hsl hr2 hi hz0 hz1 hz2 hg0
  go_wp2_with (go_at_call 161;refine(HFF.out 0 v2 HR2.out).mono ?_;rintro e3 w3 ⟨u3,rfl,ho3,hb3⟩)
  go_ret2
  exact⟨u3,zhq HE.out.1.symm,by rw[HE.out.2];exact ho3.mono hB2.size,hB2.trans (hb3.mono hB2.size)⟩
 ·have h1:keep<=(l.length:Int):=by unfold zbs at hg0;omega
  have hgl:zbs l.length keep-1<(l++[e]).length:=by unfold zbs;simp;omega
  obtain⟨x,hx⟩:∃x,(l++[e])[zbs l.length keep-1]? =some x:=⟨_,yf hgl⟩;obtain⟨v2,hsl,hr2⟩:=zh5 Tryz.underlying38 hi hz1 HRD'.out (zbs l.length keep) (by unfold zbs;omega)
  have HR2:=yc hr2;have HE:Hid (zdB l floor keep e=x.seq/\zdC l keep e=(l++[e]).drop (zbs l.length keep)):=by unfold Hid zdB zdC;rw[if_neg hg0,hx];exact⟨rfl,rfl⟩
  have hc:=HCE.out _ x hx;clear hr2 hi hz0 hz1 hz2 hg0 hgl hx;by_cases hk0:0<=keep
  ·obtain⟨K,rfl⟩:=Int.eq_ofNat_of_zero_le hk0;have h2:K<=l.length:=by omega
   have e1:zbs l.length (K:Int)=l.length+1-K:=by unfold zbs;simp
   have e2:((l.length+1-K:Nat):Int)=(l.length:Int)+1-K:=by omega
   rw[e1]at hc hsl HR2 HE;rw[e2]at hsl;clear e1 e2
   go_wp2_with (go_at_call 161;refine(HFF.out _ v2 HR2.out).mono ?_;rintro e3 w3 ⟨u3,rfl,ho3,hb3⟩)
   go_ret2
   exact⟨u3,zhq HE.out.1.symm,by rw[HE.out.2];exact ho3.mono hB2.size,hB2.trans (hb3.mono hB2.size)⟩
  ·have e1:zbs l.length keep=l.length+1:=by unfold zbs;omega
   have e2:((l.length+1:Nat):Int)=(l.length:Int)+1:=by omega
   rw[e1]at hc hsl HR2 HE;rw[e2]at hsl;rw[Nat.add_sub_cancel]at hc;clear e1 e2
   go_wp2_with (go_at_call 161;refine(HFF.out _ v2 HR2.out).mono ?_;rintro e3 w3 ⟨u3,rfl,ho3,hb3⟩)
   go_ret2
   exact⟨u3,zhq HE.out.1.symm,by rw[HE.out.2];exact ho3.mono hB2.size,hB2.trans (hb3.mono hB2.size)⟩
end
end Go.Proofs.YtemofofnkchmeaaGreatDoor
