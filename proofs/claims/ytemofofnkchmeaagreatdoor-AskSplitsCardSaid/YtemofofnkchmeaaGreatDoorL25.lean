import Derived.Test.YtemofofnkchmeaaGreatDoorL23
import Derived.Test.YtemofofnkchmeaaGreatDoorL11
import Derived.Deep.RegionHeld3
import Derived.Deep.AppendLies
import Derived.IntWalk
set_option linter.unusedSimpArgs false
set_option linter.unusedVariables false
set_option maxRecDepth 200000
set_option maxHeartbeats 8000000
namespace Go.Proofs.YtemofofnkchmeaaGreatDoor
section
open Go.RowKit Go.OpenShut
def FirstR(sq:Int)(x:En)(l:List En)(k m:Nat)(a:Int):Prop:=
 (a= -1/\∀j y,m<=j->j<=k->l[j]? =some y->ziy sq x y=false)\/∃(f:Nat) (y:En),a=f/\m<=f/\f<=k/\l[f]? =some y/\ziy sq x y=true/\∀j z,m<=j->j<f->l[j]? =some z->ziy sq x z=false
theorem FirstR.start(sq:Int)(x:En)(l:List En)(k:Nat):FirstR sq x l k (k+1) (-1):= .inl ⟨rfl,fun j _ h1 h2=>by omega⟩
theorem FirstR.done{sq:Int}{x:En}{l:List En}{k:Nat}{a:Int}(h:FirstR sq x l k 0 a)(hx:l[k]? =some x)(hs:sq<x.seq):∃(f:Nat) (y:En),a=f/\l[f]? =some y/\l.find? (ziy sq x)=some y:=by
 have hxx:ziy sq x x=true:=by unfold ziy;simpa using hs
 rcases h with⟨h1,h2⟩|⟨f,z,h1,h2,h3,h4,h5,h6⟩
 ·have:=h2 k x (Nat.zero_le _) (Nat.le_refl _) hx;rw[hxx]at this;cases this
 ·refine⟨f,z,h1,h4,?_⟩;rw[List.find?_eq_some_iff_getElem];obtain⟨hf,e⟩:=List.getElem?_eq_some_iff.1 h4;refine⟨h5,f,hf,e,fun j hj=> ?_⟩
  have:=h6 j _ (Nat.zero_le _) hj (List.getElem?_eq_getElem (by omega))
  simpa using this
def PbAt(W:World)(b:Nat)(p:Pa):Prop:=W.heap[b]? =some (.cells #[.string p.id,.bool p.was,.bool p.isb,.int .i64 p.last] 95 (0,0))
theorem PbAt.cell{W:World}{b:Nat}{p:Pa}(h:PbAt W b p)(j:Nat){u:Value}(hu:(zcB p)[j]? =some u):W.cell? ⟨b,j,none⟩=some u:=by
 unfold PbAt at h;rw[<-hu];simp[World.cell?,h,zcB]
theorem PbAt.kept{W W':World}{row:Option Nat}{b:Nat}{p:Pa}(h:PbAt W b p)(hg:W.grownBy W' row)(hne:some b≠row):PbAt W' b p:=(hg.block b (Array.getElem?_eq_some_iff.1 h).1 hne).trans h
end
end Go.Proofs.YtemofofnkchmeaaGreatDoor
