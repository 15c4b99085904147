import Derived.Test.YtemofofnkchmeaaGreatDoorS00
import Derived.Great.Frames
import Derived.OrdersHeld
import Derived.Deep.RegionHeld3
set_option linter.unusedSimpArgs false
set_option linter.unusedVariables false
set_option maxRecDepth 200000
set_option maxHeartbeats 8000000
namespace Go.Proofs.YtemofofnkchmeaaGreatDoor
open _root_.List renaming mem_singleton->yi
open _root_.Nat renaming blt->yA
section
open Go
def frm(a:Act):List (Nat×Value)->Act
 |[]=>a
 |p::l=>(frm a l).put (some p.1) p.2
def zoG(l:List (Nat×Value))(n:Nat)(u:Value):Value:=
 match l with
 |[]=>u
 |p::r=>if Nat.beq p.1 n then p.2 else zoG r n u
theorem zsT(a:Act):∀l,(frm a l).tmps.size=a.tmps.size
 |[]=>rfl
 | p :: l => by
   unfold frm;rw[Act.size_put,zsT a l]
theorem zst{a:Act}{n:Nat}(h:n<a.tmps.size):∀l,(frm a l).eval (.tmp n)=zoG l n (a.eval (.tmp n))
 |[]=>rfl
 | p :: l => by
   unfold frm zoG;by_cases e:p.1=n
   ·subst e;rw[Act.eval_put_same _ _ _ (by rw[zsT];exact h),if_pos (by rw[Nat.beq_eq])]
   ·rw[Act.eval_put_ne _ _ _ _ e,zst h l,if_neg (by rw[Nat.beq_eq];exact e)]
theorem zsi{a:Act}{l:List (Nat×Value)}{n:Nat}{v:Value}(N:Nat)(hN:a.tmps.size=N)(hn:yA n N=true)(h:zoG l n undef=v)(hv:v≠undef):(frm a l).eval (.tmp n)=v:=by
 have hl:n<a.tmps.size:=by rw[hN];exact Nat.blt_eq.mp hn
 rw[zst hl]
 have:∀(l:List (Nat×Value)) (u:Value),zoG l n undef=v->zoG l n u=v:=by
  intro l u h
  induction l with
  |nil=>exact absurd h.symm hv
  | cons p r ih =>
    unfold zoG at h⊢;by_cases e:Nat.beq p.1 n=true
    ·rw[if_pos e]at h⊢;exact h
    ·rw[if_neg e]at h⊢;exact ih h
 exact this l _ h
theorem zcT{a:Act}{l:List (Nat×Value)}{n:Nat}{v:Value}(N:Nat)(hN:a.tmps.size=N)(hn:yA n N=true)(h:l.all (fun p=> !Nat.beq p.1 n)=true)(hv:a.eval (.tmp n)=v):(frm a l).eval (.tmp n)=v:=by
 have hl:n<a.tmps.size:=by rw[hN];exact Nat.blt_eq.mp hn
 rw[zst hl,<-hv]
 induction l with
 |nil=>rfl
 | cons p r ih =>
   simp only[List.all_cons,Bool.and_eq_true,Bool.not_eq_true']at h;unfold zoG;rw[if_neg (by rw[h.1];decide)]
   exact ih h.2
theorem ztt{ops:Array Oper}{a:Act}{j d:Nat}{t:Bool}(hj:(ops[j]?).bind (·.dst)=some d)(hv:a.eval (.tmp d)= .bool t):yielded ops a.tmps j=some t:=by
 unfold yielded;rw[hj];have hv:a.tmps.getD d undef= .bool t:=hv;rw[Array.getD_eq_getD_getElem?]at hv;simp only[Option.bind_some];cases h:a.tmps[d]? with
 |none=>rw[h]at hv;simp[undef]at hv
 | some u =>
   rw[h]at hv;simp only[Option.getD_some]at hv;rw[hv]
theorem zbM{ops:Array Oper}{a:Act}{o:Oper}(hg:o.guard=none):Region.wanted o (yielded ops a.tmps)=true:=by
 unfold Region.wanted;rw[hg]
theorem zbE{ops:Array Oper}{a:Act}{o:Oper}{j d:Nat}{b t c:Bool}(hg:o.guard=some (j,b))(hj:(ops[j]?).bind (·.dst)=some d)(hv:a.eval (.tmp d)= .bool t)(hc:(t==b)=c):Region.wanted o (yielded ops a.tmps)=c:=by
 unfold Region.wanted;rw[hg];simp only[ztt hj hv];rw[<-hc];cases t<;>cases b<;>rfl
section
variable {P:Program} {ρ:Operand->Value} {o:Oper} {w:World}
theorem zfg(T:TypeId)(x:Operand){b:Bool}(ho:o.op= .unOp .not T x)(hx:ρ x= .bool b):(execOp ρ o).run P w= .ok (.value (.bool (!b))) w:=by
 unfold execOp;rw[ho];simp[go_sem,hx]<;>rfl
theorem zdl(x:Operand){v:Value}(ho:o.op= .move x)(hx:ρ x=v):(execOp ρ o).run P w= .ok (.value v) w:=by
 unfold execOp;rw[ho];simp only[Sem.run_pure,hx]
theorem ztc(x:Operand){v:Value}(ho:o.op= .assign x)(hx:ρ x=v):(execOp ρ o).run P w= .ok (.value v) w:=by
 unfold execOp;rw[ho];simp only[Sem.run_pure,hx]
theorem zrJ(T:TypeId)(x:Operand)(f:Nat){u v:Value}(ho:o.op= .fieldAddr T x f)(hx:ρ x=u)(h:(Instr.fieldAt T u f).run P w= .ok v w):(execOp ρ o).run P w= .ok (.value v) w:=by
 unfold execOp;rw[ho];simp only[Sem.run_bind,Sem.run_pure,Result.andThen_ok,hx,h]
theorem zeO(op:BinOp)(T R:TypeId)(x y:Operand){u v r:Value}(ho:o.op= .binOp op T x y R)(hx:ρ x=u)(hy:ρ y=v)(h:(do eqGuard op T x y u v;binOp op T u v:Sem Value).run P w= .ok r w):(execOp ρ o).run P w= .ok (.value r) w:=by
 unfold execOp;rw[ho];simp only[hx,hy];rw[Sem.run_bind,h]
 rfl
theorem zds(c x y:Operand){b:Bool}{u v:Value}(ho:o.op= .pick c x y)(hc:ρ c= .bool b)(hx:b=true->ρ x=u)(hy:b=false->ρ y=v):(execOp ρ o).run P w= .ok (.value (bif b then u else v)) w:=by
 unfold execOp;rw[ho];cases b
 ·simp[go_sem,hc,hy]
 ·simp[go_sem,hc,hx]
end
theorem zbd{a:Act}{l:List (Nat×Value)}{n:Nat}{b:Bool}(N:Nat)(hN:a.tmps.size=N)(hn:yA n N=true)(h:zoG l n undef= .bool b):(frm a l).eval (.tmp n)= .bool b:=zsi N hN hn h (by intro h;cases h)
theorem zrt{a:Act}{l:List (Nat×Value)}{n:Nat}{k:IntKind}{b:Int}(N:Nat)(hN:a.tmps.size=N)(hn:yA n N=true)(h:zoG l n undef= .int k b):(frm a l).eval (.tmp n)= .int k b:=zsi N hN hn h (by intro h;cases h)
theorem ztk{a:Act}{l:List (Nat×Value)}{n:Nat}{b:Option Addr}(N:Nat)(hN:a.tmps.size=N)(hn:yA n N=true)(h:zoG l n undef= .pointer b):(frm a l).eval (.tmp n)= .pointer b:=zsi N hN hn h (by intro h;cases h)
theorem zsM{a:Act}{l:List (Nat×Value)}{n:Nat}{b:Option Addr}{k c:Nat}(N:Nat)(hN:a.tmps.size=N)(hn:yA n N=true)(h:zoG l n undef= .slice b k c):(frm a l).eval (.tmp n)= .slice b k c:=zsi N hN hn h (by intro h;cases h)
theorem zdE{a:Act}{l:List (Nat×Value)}{n:Nat}{b:Array Value}(N:Nat)(hN:a.tmps.size=N)(hn:yA n N=true)(h:zoG l n undef= .agg b):(frm a l).eval (.tmp n)= .agg b:=zsi N hN hn h (by intro h;cases h)
structure WQ(P:Program)(ops:Array Oper)(C:World->Prop)(Q:Act->Prop)(l:List Oper)(a:Act):Prop where
 h:wpQuiet P ops C Q l a
structure QA(P:Program)(o:Oper)(a:Act)(C:World->Prop)(w:World)(v:Value):Prop where
 h:o.quietAt P a C w v
section
variable {P:Program} {C:World->Prop} {a:Act} {o:Oper}
theorem zcC{w:World}{v:Value}(h:(execOp a.eval o).run P w= .ok (.value v) w):QA P o a C w v:=⟨zs9 h⟩
theorem zn3{w:World}{v:Value}(f:FuncId)(args:Array Value)(h:(execOp a.eval o).run P w= .ok (.enter f args) w)(hc:Calls P f args w fun e w''=>e= .returned v/\C w''):QA P o a C w v:=⟨zs1 f args h hc⟩
end
section
variable {P:Program} {ops:Array Oper} {C:World->Prop} {Q:Act->Prop} {a:Act} {o:Oper} {rest:List Oper} {L:List (Nat×Value)}
theorem WQ.frm(N:Nat)(hN:a.tmps.size=N)(h:∀A,a=A->A.tmps.size=N->WQ P ops C Q rest (frm A [])):wpQuiet P ops C Q rest a:=(h a rfl hN).h
theorem WQ.one(d:Nat)(v:Value)(hd:o.dst=some d)(hw:Region.wanted o (yielded ops (Go.Proofs.YtemofofnkchmeaaGreatDoor.frm a L).tmps)=true)(hq:∀w,C w->QA P o (Go.Proofs.YtemofofnkchmeaaGreatDoor.frm a L) C w v)(h:WQ P ops C Q rest (Go.Proofs.YtemofofnkchmeaaGreatDoor.frm a ((d,v)::L))):WQ P ops C Q (o::rest) (Go.Proofs.YtemofofnkchmeaaGreatDoor.frm a L):=
 ⟨ztL v hw (fun w hw=>(hq w hw).h) (by rw[hd];exact h.h)⟩
theorem WQ.may(d:Nat)(c:Bool)(v:Value)(hd:o.dst=some d)(hw:Region.wanted o (yielded ops (Go.Proofs.YtemofofnkchmeaaGreatDoor.frm a L).tmps)=c)(hq:c=true->∀w,C w->QA P o (Go.Proofs.YtemofofnkchmeaaGreatDoor.frm a L) C w v)(h:WQ P ops C Q rest (Go.Proofs.YtemofofnkchmeaaGreatDoor.frm a ((d,bif c then v else undef)::L))):WQ P ops C Q (o::rest) (Go.Proofs.YtemofofnkchmeaaGreatDoor.frm a L):=
 ⟨ztM c v hw (fun hc w hw=>(hq hc w hw).h) (by rw[hd];exact h.h)⟩
theorem WQ.done(h:Q a):WQ P ops C Q [] a:=⟨h⟩
end
structure WH(P:Program)(md:Region.Mode)(ops:Array Oper)(Q:Exit->Act->World->Prop)(S:World->Prop)(fuel:Nat)(listed:Array Bool)(a:Act)(w:World):Prop where
 h:wpAnyH P md ops Q S fuel listed a w
section
variable {P:Program} {md:Region.Mode} {ops:Array Oper} {Q:Exit->Act->World->Prop} {S:World->Prop} {fuel:Nat} {listed:Array Bool} {a:Act} {w:World} {oi:Oper} {L:List (Nat×Value)}
theorem WH.frm(N:Nat)(hN:a.tmps.size=N)(h:∀A,a=A->A.tmps.size=N->WH P md ops Q S fuel listed (Go.Proofs.YtemofofnkchmeaaGreatDoor.frm A []) w):wpAnyH P md ops Q S fuel listed a w:=(h a rfl hN).h
theorem WH.may(i d:Nat)(c:Bool)(v:Value)(hi:ops[i]? =some oi)(hd:oi.dst=some d)(hs:Region.noSelect ops=true)(hf:Region.free md ops listed i=true)(hr:(Region.ready md ops listed).contains i=true)
 (hQ:∀c v a w,Q (.panic c) (a.put oi.dst v) w->Q (.panic c) a w) (hw:Region.wanted oi (yielded ops (Go.Proofs.YtemofofnkchmeaaGreatDoor.frm a L).tmps)=c) (hy:c=true->∀w',S w'->(execOp (Go.Proofs.YtemofofnkchmeaaGreatDoor.frm a L).eval oi).run P w'= .ok (.value v) w') (hS:S w)
 (h:WH P md ops Q S fuel (listed.setIfInBounds i true) (Go.Proofs.YtemofofnkchmeaaGreatDoor.frm a ((d,bif c then v else undef)::L)) w):WH P md ops Q S (fuel+1) listed (Go.Proofs.YtemofofnkchmeaaGreatDoor.frm a L) w:=by
 refine⟨wpAnyH_take (v:=bif c then v else undef) hi hs hf hr (fun c' a' w'=>hQ c' _ a' w') ?_ hS (by rw[hd];exact h.h)⟩
 cases c with
 |true=>exact .inl ⟨hw,fun w' hw'=>hy rfl w' hw'⟩
 |false=>exact .inr ⟨hw,rfl⟩
theorem WH.run(i d:Nat)(v:Value)(w1:World)(hi:ops[i]? =some oi)(hd:oi.dst=some d)(hr:Region.ready md ops listed=[i])(hw:Region.wanted oi (yielded ops (Go.Proofs.YtemofofnkchmeaaGreatDoor.frm a L).tmps)=true)
 (hy:(execOp (Go.Proofs.YtemofofnkchmeaaGreatDoor.frm a L).eval oi).run P w= .ok (.value v) w1) (hS:S w1) (h:WH P md ops Q S fuel (listed.setIfInBounds i true) (Go.Proofs.YtemofofnkchmeaaGreatDoor.frm a ((d,v)::L)) w1):WH P md ops Q S (fuel+1) listed (Go.Proofs.YtemofofnkchmeaaGreatDoor.frm a L) w:=by
 refine⟨?_⟩;unfold wpAnyH;rw[hr];refine⟨fun h=>(by cases h),fun j hj=> ?_⟩
 rw[yi]at hj;subst hj;unfold wpOp;rw[hi];simp only[hw,if_true]
 left
 unfold Oper.wp;rw[hy];simp only[Oper.upon];rw[hd];exact⟨hS,h.h⟩
theorem WH.call(i d:Nat)(f:FuncId)(args:Array Value)(hi:ops[i]? =some oi)(hd:oi.dst=some d)(hr:Region.ready md ops listed=[i])(hw:Region.wanted oi (yielded ops (Go.Proofs.YtemofofnkchmeaaGreatDoor.frm a L).tmps)=true)
 (hy:(execOp (Go.Proofs.YtemofofnkchmeaaGreatDoor.frm a L).eval oi).run P w= .ok (.enter f args) w) (hc:Calls P f args w fun e w1=>∃v,e= .returned v/\S w1/\WH P md ops Q S fuel (listed.setIfInBounds i true) (Go.Proofs.YtemofofnkchmeaaGreatDoor.frm a ((d,v)::L)) w1):WH P md ops Q S (fuel+1) listed (Go.Proofs.YtemofofnkchmeaaGreatDoor.frm a L) w:=by
 refine⟨?_⟩;unfold wpAnyH;rw[hr];refine⟨fun h=>(by cases h),fun j hj=> ?_⟩
 rw[yi]at hj;subst hj;unfold wpOp;rw[hi];simp only[hw,if_true]
 left
 unfold Oper.wp;rw[hy];simp only[Oper.upon];refine hc.mono fun e w1 h=> ?_
 obtain⟨v,rfl,hS,h⟩:=h;rw[hd];exact⟨hS,h.h⟩
theorem WH.callmay(i d:Nat)(c:Bool)(f:FuncId)(args:Array Value)(R:Bool->Prop)(hi:ops[i]? =some oi)(hd:oi.dst=some d)(hr:Region.ready md ops listed=[i])(hw:Region.wanted oi (yielded ops (Go.Proofs.YtemofofnkchmeaaGreatDoor.frm a L).tmps)=c)
 (hy:c=true->(execOp (Go.Proofs.YtemofofnkchmeaaGreatDoor.frm a L).eval oi).run P w= .ok (.enter f args) w) (hS:S w) (hc:c=true->Calls P f args w fun e w1=>∃b:Bool,e= .returned (.bool b)/\S w1/\R b)
 (h:∀(b:Bool) w1,S w1->(c=true->R b)->WH P md ops Q S fuel (listed.setIfInBounds i true) (Go.Proofs.YtemofofnkchmeaaGreatDoor.frm a ((d,bif c then .bool b else undef)::L)) w1):WH P md ops Q S (fuel+1) listed (Go.Proofs.YtemofofnkchmeaaGreatDoor.frm a L) w:=by
 cases c with
 | true =>
   refine WH.call i d f args hi hd hr hw (hy rfl) ((hc rfl).mono fun e w1 h1=> ?_)
   obtain⟨b,h1,h2,h3⟩:=h1;exact⟨.bool b,h1,h2,h b w1 h2 (fun _=>h3)⟩
 | false =>
   refine⟨?_⟩;unfold wpAnyH;rw[hr];refine⟨fun h=>(by cases h),fun j hj=> ?_⟩
   rw[yi]at hj;subst hj;unfold wpOp;rw[hi];simp only[hw,Bool.false_eq_true,if_false];rw[hd];exact⟨hS,(h false w hS (fun h=>by cases h)).h⟩
theorem WH.quiet{l:List Oper}(k:Nat)(hf:fuel=(l.drop k).length)(hS:S w)(hs:Region.noSelect l.toArray=true)(hB:Region.lexFrom md l.toArray (l.drop k).length k listed=true)
 (h:WQ P l.toArray S (fun a'=>∀w',S w'->Q .normal a' w') (l.drop k) (Go.Proofs.YtemofofnkchmeaaGreatDoor.frm a L)):WH P md l.toArray Q S fuel listed (Go.Proofs.YtemofofnkchmeaaGreatDoor.frm a L) w:=
 ⟨zs4 (C:=S) k hf hS (fun _ h=>h) hs hB h.h⟩
theorem WH.done(hr:Region.ready md ops listed=[])(h:Q .normal a w):WH P md ops Q S 0 listed a w:=⟨⟨hr,h⟩⟩
end
end
end Go.Proofs.YtemofofnkchmeaaGreatDoor
