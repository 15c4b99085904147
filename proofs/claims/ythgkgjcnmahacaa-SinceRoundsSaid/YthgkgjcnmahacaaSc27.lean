import Derived.Test.YthgkgjcnmahacaaSc24
import Derived.Test.YthgkgjcnmahacaaSc26
import Derived.Test.YthgkgjcnmahacaaSc10
import Derived.Test.YthgkgjcnmahacaaSc15
import Derived.Test.YthgkgjcnmahacaaSc13
section
/- What the law of keeping knows: boxes and lists of its own, apart from one another. -/
set_option linter.unusedSimpArgs false
set_option linter.unusedVariables false
namespace Go.Proofs.Ythgkgjcnmahacaa
open Go.RowKit Go.OpenShut

/-- Some list of the call's own, of a length. -/
def Some_ {α : Type} (W : World) (base : Nat) (e : TypeId) (enc : α → List Value) (sz : Nat) (p : Option Addr) (n c : Nat) : Prop := ∃ ms : List α, ms.length = n ∧ Own W base e enc sz (.slice p n c) ms
theorem Some_.kept {α : Type} {W W' : World} {base : Nat} {e : TypeId} {enc : α → List Value} {sz : Nat} {p : Option Addr} {n c : Nat} {row : Option Nat} (h : Some_ W base e enc sz p n c) (hg : W.grownBy W' row) (hne : ∀ k, (Value.slice p n c).ownBlock = some k → row ≠ some k) : Some_ W' base e enc sz p n c := by
  obtain ⟨ms, h1, h2⟩ := h
  refine ⟨ms, h1, h2.kept hg ?_⟩
  cases e : (Value.slice p n c).ownBlock with
  | none => exact .inl rfl
  | some k => exact .inr (fun h => hne k e h.symm)
theorem Some_.len {α : Type} {W : World} {base : Nat} {e : TypeId} {enc : α → List Value} {sz : Nat} {p : Option Addr} {n c : Nat} (h : Some_ W base e enc sz p n c) : n ≤ maxLen := by
  obtain ⟨ms, h1, h2⟩ := h
  obtain ⟨q, d, hv, h3, h4⟩ := h2.len
  omega
theorem Own.keptR {α : Type} {enc : α → List Value} {sz : Nat} {w w' : World} {base : Nat} {e : TypeId} {v : Value} {xs : List α} {row : Option Nat} (h : Own w base e enc sz v xs) (hg : w.grownBy w' row) (hne : ∀ k, v.ownBlock = some k → row ≠ some k) : Own w' base e enc sz v xs := by
  refine h.kept hg ?_
  cases e : v.ownBlock with
  | none => exact .inl rfl
  | some k => exact .inr (fun h => hne k e h.symm)
theorem NewBox.keptR {W W' : World} {base B : Nat} {row : Option Nat} {b : BoxD} {r : RB} (h : NewBox W base B b r) (hg : W.grownBy W' row) (h1 : ∀ k, (Value.slice r.po r.no r.co).ownBlock = some k → row ≠ some k) (h2 : ∀ k, (Value.slice r.pt r.nt r.ct).ownBlock = some k → row ≠ some k) (hBW : B ≤ W.heap.size) (hB : ∀ k, row = some k → B ≤ k) : NewBox W' base B b r := by
  obtain ⟨ros, h3, h4⟩ := h.objs
  have hk : ∀ {v : Value}, (∀ k, v.ownBlock = some k → row ≠ some k) → v.ownBlock = none ∨ v.ownBlock ≠ row := fun {v} hv => by
    cases e : v.ownBlock with
    | none => exact .inl rfl
    | some k => exact .inr (fun h => hv k e h.symm)
  exact ⟨⟨ros, h3.kept hg (hk h1), h4.under ((Below.refl B W).grown hg hBW hB) (Nat.le_refl _)⟩, h.trail.kept hg (hk h2), h.ok, h.seq, h.floor, h.keep⟩
theorem BoxAt.keptR {W W' : World} {x : Nat} {row : Option Nat} {r : RB} (h : BoxAt W x r) (hg : W.grownBy W' row) (hne : row ≠ some x) : BoxAt W' x r := (hg.block x h.lt (fun e => hne e.symm)).trans h

structure KeepF (w W : World) (b : BoxD) (r rw rx ry : RB) (pl : Option Addr) (nl cl : Nat) (g5 g6 g8 A B C : Nat) : Prop where
  below : Below w.heap.size w W
  o1 : w.heap.size + 1 < g5
  o2 : g5 < A
  o3 : A ≤ g6
  o4 : g6 < B
  o5 : B ≤ g8
  o6 : g8 < C
  o7 : C ≤ W.heap.size
  b0 : BoxAt W w.heap.size r
  b5 : BoxAt W g5 rw
  b6 : BoxAt W g6 rx
  b8 : BoxAt W g8 ry
  was : NewBox W w.heap.size w.heap.size b rw
  was1 : ∀ k, (Value.slice rw.po rw.no rw.co).ownBlock = some k → g5 < k ∧ k < A
  was2 : ∀ k, (Value.slice rw.pt rw.nt rw.ct).ownBlock = some k → g5 < k ∧ k < A
  xo : Some_ W A 46 encM 6 rx.po rx.no rx.co
  xo1 : ∀ k, (Value.slice rx.po rx.no rx.co).ownBlock = some k → A ≤ k ∧ k < g6
  xt : Some_ W A 48 encE 3 rx.pt rx.nt rx.ct
  xt1 : ∀ k, (Value.slice rx.pt rx.nt rx.ct).ownBlock = some k → A ≤ k ∧ k < g6
  yo : Some_ W B 46 encM 6 ry.po ry.no ry.co
  yo1 : ∀ k, (Value.slice ry.po ry.no ry.co).ownBlock = some k → B ≤ k ∧ k < g8
  yt : Some_ W B 48 encE 3 ry.pt ry.nt ry.ct
  yt1 : ∀ k, (Value.slice ry.pt ry.nt ry.ct).ownBlock = some k → B ≤ k ∧ k < g8
  l : Some_ W C 9 encS 1 pl nl cl
  l1 : ∀ k, (Value.slice pl nl cl).ownBlock = some k → C ≤ k
theorem Some_.unlike {α β : Type} {e1 : α → List Value} {e2 : β → List Value} {s1 s2 b1 b2 : Nat} {t1 t2 : TypeId} {w : World} {p1 p2 : Option Addr} {n1 c1 n2 c2 : Nat} (h1 : Some_ w b1 t1 e1 s1 p1 n1 c1) (h2 : Some_ w b2 t2 e2 s2 p2 n2 c2) (hne : t1 ≠ t2) {k : Nat} (hk : (Value.slice p1 n1 c1).ownBlock = some k) : (Value.slice p2 n2 c2).ownBlock ≠ some k := by
  obtain ⟨ms, _, a⟩ := h1
  obtain ⟨ns, _, b⟩ := h2
  exact a.unlike b hne hk
section
variable {w W W' : World} {b : BoxD} {r rw rx ry : RB} {pl : Option Addr} {nl cl g5 g6 g8 A B C : Nat} (h : KeepF w W b r rw rx ry pl nl cl g5 g6 g8 A B C)
include h
/-- One of the lists is written over. -/
theorem KeepF.spoil {row : Option Nat} (hg : W.grownBy W' row) (hr : ∀ k, row = some k → A ≤ k ∧ k ≠ g6 ∧ k ≠ g8)
    (xo : Some_ W' A 46 encM 6 rx.po rx.no rx.co) (xt : Some_ W' A 48 encE 3 rx.pt rx.nt rx.ct) (yo : Some_ W' B 46 encM 6 ry.po ry.no ry.co) (yt : Some_ W' B 48 encE 3 ry.pt ry.nt ry.ct) (l : Some_ W' C 9 encS 1 pl nl cl) :
    KeepF w W' b r rw rx ry pl nl cl g5 g6 g8 A B C := by
  have o1 := h.o1
  have o2 := h.o2
  have o3 := h.o3
  have o4 := h.o4
  have o5 := h.o5
  have o6 := h.o6
  have o7 := h.o7
  have hz := hg.size
  refine ⟨h.below.grown hg (by omega) (fun k e => by have := hr k e; omega), o1, o2, o3, o4, o5, o6, by omega, h.b0.keptR hg (fun e => by have := hr _ e; omega), h.b5.keptR hg (fun e => by have := hr _ e; omega), h.b6.keptR hg (fun e => by have := hr _ e; omega), h.b8.keptR hg (fun e => by have := hr _ e; omega),
    h.was.keptR hg (fun k e e2 => by have := hr _ e2; have := h.was1 k e; omega) (fun k e e2 => by have := hr _ e2; have := h.was2 k e; omega) (by omega) (fun k e => by have := hr k e; omega), h.was1, h.was2, xo, h.xo1, xt, h.xt1, yo, h.yo1, yt, h.yt1, l, h.l1⟩
theorem KeepF.spoilXO (hg : W.grownBy W' (Value.slice rx.po rx.no rx.co).ownBlock) (hs : Some_ W' A 46 encM 6 rx.po rx.no rx.co) : KeepF w W' b r rw rx ry pl nl cl g5 g6 g8 A B C := by
  have o4 := h.o4; have o5 := h.o5; have o6 := h.o6
  exact h.spoil hg (fun k e => by have := h.xo1 k e; omega) hs (h.xt.kept hg fun k e e2 => h.xo.unlike h.xt (by decide) e2 e) (h.yo.kept hg fun k e e2 => by have := h.xo1 k e2; have := h.yo1 k e; omega) (h.yt.kept hg fun k e e2 => by have := h.xo1 k e2; have := h.yt1 k e; omega) (h.l.kept hg fun k e e2 => by have := h.xo1 k e2; have := h.l1 k e; omega)
theorem KeepF.spoilXT (hg : W.grownBy W' (Value.slice rx.pt rx.nt rx.ct).ownBlock) (hs : Some_ W' A 48 encE 3 rx.pt rx.nt rx.ct) : KeepF w W' b r rw rx ry pl nl cl g5 g6 g8 A B C := by
  have o4 := h.o4; have o5 := h.o5; have o6 := h.o6
  exact h.spoil hg (fun k e => by have := h.xt1 k e; omega) (h.xo.kept hg fun k e e2 => h.xo.unlike h.xt (by decide) e e2) hs (h.yo.kept hg fun k e e2 => by have := h.xt1 k e2; have := h.yo1 k e; omega) (h.yt.kept hg fun k e e2 => by have := h.xt1 k e2; have := h.yt1 k e; omega) (h.l.kept hg fun k e e2 => by have := h.xt1 k e2; have := h.l1 k e; omega)
theorem KeepF.spoilYO (hg : W.grownBy W' (Value.slice ry.po ry.no ry.co).ownBlock) (hs : Some_ W' B 46 encM 6 ry.po ry.no ry.co) : KeepF w W' b r rw rx ry pl nl cl g5 g6 g8 A B C := by
  have o3 := h.o3; have o4 := h.o4; have o5 := h.o5; have o6 := h.o6
  exact h.spoil hg (fun k e => by have := h.yo1 k e; omega) (h.xo.kept hg fun k e e2 => by have := h.yo1 k e2; have := h.xo1 k e; omega) (h.xt.kept hg fun k e e2 => by have := h.yo1 k e2; have := h.xt1 k e; omega) hs (h.yt.kept hg fun k e e2 => h.yo.unlike h.yt (by decide) e2 e) (h.l.kept hg fun k e e2 => by have := h.yo1 k e2; have := h.l1 k e; omega)
theorem KeepF.spoilYT (hg : W.grownBy W' (Value.slice ry.pt ry.nt ry.ct).ownBlock) (hs : Some_ W' B 48 encE 3 ry.pt ry.nt ry.ct) : KeepF w W' b r rw rx ry pl nl cl g5 g6 g8 A B C := by
  have o3 := h.o3; have o4 := h.o4; have o5 := h.o5; have o6 := h.o6
  exact h.spoil hg (fun k e => by have := h.yt1 k e; omega) (h.xo.kept hg fun k e e2 => by have := h.yt1 k e2; have := h.xo1 k e; omega) (h.xt.kept hg fun k e e2 => by have := h.yt1 k e2; have := h.xt1 k e; omega) (h.yo.kept hg fun k e e2 => h.yo.unlike h.yt (by decide) e e2) hs (h.l.kept hg fun k e e2 => by have := h.yt1 k e2; have := h.l1 k e; omega)
theorem KeepF.spoilL (hg : W.grownBy W' (Value.slice pl nl cl).ownBlock) (hs : Some_ W' C 9 encS 1 pl nl cl) : KeepF w W' b r rw rx ry pl nl cl g5 g6 g8 A B C := by
  have o3 := h.o3; have o4 := h.o4; have o5 := h.o5; have o6 := h.o6
  exact h.spoil hg (fun k e => by have := h.l1 k e; omega) (h.xo.kept hg fun k e e2 => by have := h.l1 k e2; have := h.xo1 k e; omega) (h.xt.kept hg fun k e e2 => by have := h.l1 k e2; have := h.xt1 k e; omega) (h.yo.kept hg fun k e e2 => by have := h.l1 k e2; have := h.yo1 k e; omega) (h.yt.kept hg fun k e e2 => by have := h.l1 k e2; have := h.yt1 k e; omega) hs
end
theorem NewBox.some {W : World} {base B : Nat} {b : BoxD} {r : RB} (h : NewBox W base B b r) :
    Some_ (α := RM) W base 46 encM 6 r.po r.no r.co ∧ Some_ (α := En) W base 48 encE 3 r.pt r.nt r.ct ∧ (∀ k, (Value.slice r.po r.no r.co).ownBlock = some k → base ≤ k ∧ k < W.heap.size) ∧ ∀ k, (Value.slice r.pt r.nt r.ct).ownBlock = some k → base ≤ k ∧ k < W.heap.size := by
  obtain ⟨ros, h1, h2⟩ := h.objs
  exact ⟨⟨ros, (rd_nlen (h1.rd codecM)).symm, h1⟩, ⟨b.trail, (rd_nlen (h.trail.rd codecE)).symm, h.trail⟩, h1.lt, h.trail.lt⟩
theorem Some_.below {α : Type} {W W' : World} {base : Nat} {e : TypeId} {enc : α → List Value} {sz : Nat} {p : Option Addr} {n c : Nat} (h : Some_ W base e enc sz p n c) (hb : Below W.heap.size W W') : Some_ W' base e enc sz p n c := by
  obtain ⟨ms, h1, h2⟩ := h
  exact ⟨ms, h1, h2.below hb (Nat.le_refl _)⟩
/-- One step of writing over: an object's id, an entry's, a text. -/
def spoilt : ByteArray := ⟨#[115, 112, 111, 105, 108, 116]⟩
theorem spoilO {W : World} {base g n c k : Nat} {ms : List RM} {x : RM} (h : Own W base 46 encM 6 (.slice (some ⟨g, 0, none⟩) n c) ms) (hx : ms[k]? = some x) (hl : ms.length = n) :
    Some_ (α := RM) (W.setCell ⟨g, k * 6, none⟩ (.string spoilt)) base 46 encM 6 (some ⟨g, 0, none⟩) n c := by
  have h1 := Own.storedAt codecM h (j := 0) (y := (⟨spoilt, x.v⟩ : RM)) (u := .string spoilt) hx (by decide) rfl
  exact ⟨ms.set k ⟨spoilt, x.v⟩, by rw [List.length_set, hl], h1.1⟩
theorem spoilEn {W : World} {base g n c k : Nat} {ms : List En} {x : En} (h : Own W base 48 encE 3 (.slice (some ⟨g, 0, none⟩) n c) ms) (hx : ms[k]? = some x) (hl : ms.length = n) :
    Some_ (α := En) (W.setCell ⟨g, k * 3 + 1, none⟩ (.string spoilt)) base 48 encE 3 (some ⟨g, 0, none⟩) n c := by
  have h1 := Own.storedAt codecE h (j := 1) (y := ({ x with id := spoilt } : En)) (u := .string spoilt) hx (by decide) rfl
  exact ⟨ms.set k { x with id := spoilt }, by rw [List.length_set, hl], h1.1⟩
theorem spoilS {W : World} {base g n c k : Nat} {ms : List ByteArray} {x : ByteArray} (h : Own W base 9 encS 1 (.slice (some ⟨g, 0, none⟩) n c) ms) (hx : ms[k]? = some x) (hl : ms.length = n) :
    Some_ (α := ByteArray) (W.setCell ⟨g, k, none⟩ (.string spoilt)) base 9 encS 1 (some ⟨g, 0, none⟩) n c := by
  have h1 := Own.storedAt codecS h (j := 0) (y := spoilt) (u := .string spoilt) hx (by decide) rfl
  rw [Nat.mul_one, Nat.add_zero] at h1
  exact ⟨ms.set k spoilt, by rw [List.length_set, hl], h1.1⟩
end Go.Proofs.Ythgkgjcnmahacaa
end

section
/- A box's own block is no tree's. -/
set_option linter.unusedSimpArgs false
set_option linter.unusedVariables false
namespace Go.Proofs.Ythgkgjcnmahacaa
open Go.RowKit Go.OpenShut

theorem BoxAt.noStr {W : World} {g : Nat} {x : RB} (h : BoxAt W g x) (k : Nat) (s : ByteArray) : W.cell? ⟨g, k, none⟩ ≠ some (.string s) := by
  unfold BoxAt at h
  rw [cell_of_row W g k _ _ _ h]
  intro e
  rcases k with _ | _ | _ | _ | _ | k <;> simp at e
theorem Rd.unbox {α : Type} {enc : α → List Value} {sz : Nat} {w w' : World} {B g : Nat} {v : Value} {xs : List α} {x : RB} (h : Rd w B enc sz v xs) (he : ∀ y, ∃ (j : Nat) (s : ByteArray), (enc y)[j]? = some (Value.string s)) (hx : BoxAt w g x) (hg : w.grownBy w' (some g)) (hB : B ≤ w.heap.size) : Rd w' B enc sz v xs := by
  obtain ⟨p, cap, h1, h2, h3, h4, h5⟩ := h
  refine ⟨p, cap, h1, h2, h3, h4, fun a ha h0 => ?_⟩
  obtain ⟨b, o, e, hb', hr⟩ := h5 a ha h0
  refine ⟨b, o, e, hb', fun i y hy j u hu => ?_⟩
  have hne : b ≠ g := by
    intro e
    subst e
    obtain ⟨y, hy⟩ : ∃ y, xs[0]? = some y := ⟨_, List.getElem?_eq_getElem h0⟩
    obtain ⟨j, s, hj⟩ := he y
    exact hx.noStr _ s (hr 0 y hy j _ hj)
  have hc := hr i y hy j u hu
  have hbl := hg.block b (by omega) (by simpa using hne)
  unfold World.cell? at hc ⊢
  rw [hbl]
  exact hc
theorem strV (y : RV) : ∃ (j : Nat) (s : ByteArray), (encV y)[j]? = some (Value.string s) := ⟨2, y.s, rfl⟩
theorem strM (y : RM) : ∃ (j : Nat) (s : ByteArray), (encM y)[j]? = some (Value.string s) := ⟨0, y.name, rfl⟩
theorem TreeOf.unbox {w w' : World} {B g : Nat} {t : JV} {r : RV} {x : RB} (h : TreeOf w B t r) (hx : BoxAt w g x) (hg : w.grownBy w' (some g)) (hB : B ≤ w.heap.size) : TreeOf w' B t r := by
  induction h with
  | mk hl el cl hm em cn cm ih1 ih2 => exact .mk (hl.unbox strV hx hg hB) el ih1 (hm.unbox strM hx hg hB) em cn ih2
theorem NewBox.unbox {W W' : World} {base B g : Nat} {b : BoxD} {r x : RB} (h : NewBox W base B b r) (hx : BoxAt W g x) (hg : W.grownBy W' (Option.some g)) (h1 : (Value.slice r.po r.no r.co).ownBlock ≠ Option.some g) (h2 : (Value.slice r.pt r.nt r.ct).ownBlock ≠ Option.some g) (hB : B ≤ W.heap.size) : NewBox W' base B b r := by
  obtain ⟨ros, h3, h4⟩ := h.objs
  refine ⟨⟨ros, h3.keptR hg (fun k e e2 => by cases e2; exact h1 e), h4.len, h4.name, fun i p q hp hq => (h4.val i p q hp hq).unbox hx hg hB⟩, h.trail.keptR hg (fun k e e2 => by cases e2; exact h2 e), h.ok, h.seq, h.floor, h.keep⟩
theorem strE (y : En) : ∃ (j : Nat) (s : ByteArray), (encE y)[j]? = some (Value.string s) := ⟨1, y.id, rfl⟩
theorem BoxOf.unbox {W W' : World} {g : Nat} {b : BoxD} {r x : RB} (h : BoxOf W W.heap.size b r) (hx : BoxAt W g x) (hg : W.grownBy W' (some g)) : BoxOf W' W'.heap.size b r := by
  have hz := hg.size
  obtain ⟨ros, h3, h4⟩ := h.objs
  refine ⟨⟨ros, (h3.unbox strM hx hg (Nat.le_refl _)).mono hz, h4.len, h4.name, fun i p q hp hq => ((h4.val i p q hp hq).unbox hx hg (Nat.le_refl _)).mono hz⟩, rdE_iff.2 ⟨(rdE_iff.1 h.trail).1, ((rdE_iff.1 h.trail).2.unbox strE hx hg (Nat.le_refl _)).mono hz⟩, h.seq, h.floor, h.keep⟩
end Go.Proofs.Ythgkgjcnmahacaa
end

section
/- The law's does: an act, if it goes; walked. -/
set_option linter.unusedSimpArgs false
set_option linter.unusedVariables false
namespace Go.Proofs.Ythgkgjcnmahacaa
open Go.RowKit Go.OpenShut

structure DoS (w W : World) (r : RB) (o : RO) (x : RB) : Prop where
  pre : PreS w W r o
  zero : BoxAt W (w.heap.size + 1 + 1) RB.zero
  x : BoxAt W (w.heap.size + 1 + 1 + 1) x
theorem DoS.go {w W W' : World} {r : RB} {o : RO} {x : RB} (h : DoS w W r o x) (hb : Below W.heap.size W W') : DoS w W' r o x := ⟨h.pre.go hb, h.zero.under hb h.zero.lt, h.x.under hb h.x.lt⟩
theorem DoS.set {w W : World} {r : RB} {o : RO} {x : RB} (h : DoS w W r o x) (q : RB) : DoS w (((((W.setCell ⟨(w.heap.size + 1 + 1 + 1), 0, none⟩ (.slice q.po q.no q.co)).setCell ⟨(w.heap.size + 1 + 1 + 1), 1, none⟩ (.slice q.pt q.nt q.ct)).setCell ⟨(w.heap.size + 1 + 1 + 1), 2, none⟩ (.int .i64 q.sq)).setCell ⟨(w.heap.size + 1 + 1 + 1), 3, none⟩ (.int .i64 q.fl)).setCell ⟨(w.heap.size + 1 + 1 + 1), 4, none⟩ (.int .i64 q.kp)) r o q := by
  have hg := grownBy_setB W (w.heap.size + 1 + 1 + 1) q
  exact ⟨h.pre.row hg (fun k e => by cases e; omega), h.zero.kept hg (by omega), h.x.stored q⟩
theorem DoS.start (w : World) (r : RB) (o : RO) : DoS w ((((w.alloc r.obj).alloc o.obj).alloc RB.zero.obj).alloc r.obj) r o r := by
  refine ⟨((PreS.start w r o).go (((Below.refl _ _).alloc (Nat.le_refl _) _).alloc (by simp) _)), ?_, ?_⟩
  · exact heap_alloc_lt (by simp) (heap_alloc_at (by simp))
  · exact heap_alloc_at (by simp)
/-- A box is answered; it may share what was there. -/
def DoesRet (w : World) (d : BoxD) (e : Ending) (w' : World) : Prop := ∃ q, e = .returned (RB.val q) ∧ BoxOf w' w'.heap.size d q ∧ Below w.heap.size w w'

set_option maxRecDepth 200000 in
set_option maxHeartbeats 8000000 in
theorem does_any (b : BoxD) (r : RB) (o : RO) (t : JV) (w : World) (hb : BoxOf w w.heap.size b r) (hr : Rising b.objs) (ob : b.Ok) (ht : TreeOf w w.heap.size t o.v) (ot : OpOk o t) :
    Calls Try.prog 33 #[r.val, o.val] w (DoesRet w (doesB b o.k o.id t)) := by
  have hS := DoS.start w r o
  have HBX := Lib.hid hb
  have HOB := Lib.hid ob
  have HT := Lib.hid ht
  have HOT := Lib.hid ot
  have HR := Lib.hid hr
  clear hb ob ht ot hr
  go_enter Try.func33, Try.ntmps33
  have z1' := (PreS.start w r o).box.lt
  have c0 := (PreS.start w r o).box.cell 0 rfl
  have c1 := (PreS.start w r o).box.cell 1 rfl
  have c2 := (PreS.start w r o).box.cell 2 rfl
  have c3 := (PreS.start w r o).box.cell 3 rfl
  have c4 := (PreS.start w r o).box.cell 4 rfl
  go_upto_region 2 with fail
  obtain ⟨W0, hW0⟩ : ∃ W0, ((((w.alloc r.obj).alloc o.obj).alloc RB.zero.obj).alloc r.obj) = W0 := ⟨_, rfl⟩
  rw [hW0] at hS
  dsimp only [RB.obj, RO.obj, RB.zero] at hW0
  rw [hW0]
  clear hW0 c0 c1 c2 c3 c4 z1'
  have HS := Lib.hid hS
  have hbl := hS.pre.below
  clear hS
  have c0 := HS.out.pre.box.cell 0 rfl
  have c1 := HS.out.pre.box.cell 1 rfl
  have c2 := HS.out.pre.box.cell 2 rfl
  have c3 := HS.out.pre.box.cell 3 rfl
  have c4 := HS.out.pre.box.cell 4 rfl
  have z0 := HS.out.pre.op.cell 0 rfl
  have z1 := HS.out.pre.op.cell 1 rfl
  have z2 := HS.out.pre.op.cell 2 rfl
  have z3 := HS.out.pre.op.cell 3 rfl
  have z4 := HS.out.pre.op.cell 4 rfl
  have z5 := HS.out.pre.op.cell 5 rfl
  have z6 := HS.out.pre.op.cell 6 rfl
  have HB0 := Lib.hid (HBX.out.under hbl hbl.size)
  have HT0 := Lib.hid (HT.out.under hbl hbl.size)
  clear hbl
  by_cases k1 : o.k = 1
  · have kb : (o.k == 1) = true := by simp [k1]
    have kb2 : (o.k == 2) = false := by simp [k1]
    have HP := Lib.hid (put_any b r o.id t o.v W0 HB0.out HR.out HOB.out HT0.out HOT.out.2 HOT.out.1)
    have HA : Hid (actB b o.k o.id t = putB b o.id t) := by unfold Hid actB; rw [if_pos k1]
    clear k1
    go_upto_region 5 with (go_at_call 22; refine HP.out.mono ?_; rintro e w1 ⟨q, rfl, hN, hb1⟩; (have HS1 := Lib.hid (HS.out.go hb1)); clear c0 c1 c2 c3 c4 z0 z1 z2 z3 z4; (have x0 := HS1.out.x.cell 0 rfl); (have x1 := HS1.out.x.cell 1 rfl); (have x2 := HS1.out.x.cell 2 rfl); (have x3 := HS1.out.x.cell 3 rfl); (have x4 := HS1.out.x.cell 4 rfl); (have y0 := HS1.out.x.frozen 0); (have y1 := HS1.out.x.frozen 1); (have y2 := HS1.out.x.frozen 2); (have y3 := HS1.out.x.frozen 3); (have y4 := HS1.out.x.frozen 4))
    have hlt := HS1.out.x.lt
    have hlt0 := HS.out.x.lt
    have hg := grownBy_setB w1 (w.heap.size + 1 + 1 + 1) q
    have hne := hN.ne (g := w.heap.size + 1 + 1 + 1) hlt0
    have hN2 := hN.unbox HS1.out.x hg hne.1 hne.2 hb1.size
    have HS2 := Lib.hid (HS1.out.set q)
    have hbo := hN2.box (by simp; exact hb1.size)
    obtain ⟨W2, hW2⟩ : ∃ W2, (((((w1.setCell ⟨(w.heap.size + 1 + 1 + 1), 0, none⟩ (.slice q.po q.no q.co)).setCell ⟨(w.heap.size + 1 + 1 + 1), 1, none⟩ (.slice q.pt q.nt q.ct)).setCell ⟨(w.heap.size + 1 + 1 + 1), 2, none⟩ (.int .i64 q.sq)).setCell ⟨(w.heap.size + 1 + 1 + 1), 3, none⟩ (.int .i64 q.fl)).setCell ⟨(w.heap.size + 1 + 1 + 1), 4, none⟩ (.int .i64 q.kp)) = W2 := ⟨_, rfl⟩
    rw [hW2] at HS2 hbo ⊢
    have HBO := Lib.hid hbo
    clear hN hN2 hbo hb1 hg hne hlt hlt0 hW2 HS HP HS1 x0 x1 x2 x3 x4 y0 y1 y2 y3 y4
    obtain ⟨er, her⟩ : ∃ er, (putB b o.id t).2 = er := ⟨_, rfl⟩
    rw [her]
    have HER : Hid ((actB b o.k o.id t).2 = er) := by unfold Hid; rw [HA.out]; exact her
    have HBO' : Hid (BoxOf W2 W2.heap.size (actB b o.k o.id t).1 q) := by unfold Hid; rw [HA.out]; exact HBO.out
    clear her HBO HA
    by_cases he : er = 0
    · have he1 : (er != 0) = false := by simp [he]
      have he2 : (er == 0) = true := by simp [he]
      have HD : Hid (doesB b o.k o.id t = (actB b o.k o.id t).1) := by unfold Hid doesB; rw [HER.out, if_pos he]
      clear he
      have d0 := HS2.out.pre.op.cell 0 rfl
      go_upto_region 9 with fail
      clear d0
      have x0 := HS2.out.x.cell 0 rfl
      have x1 := HS2.out.x.cell 1 rfl
      have x2 := HS2.out.x.cell 2 rfl
      have x3 := HS2.out.x.cell 3 rfl
      have x4 := HS2.out.x.cell 4 rfl
      have z0 := HS2.out.zero.cell 0 rfl
      have z1 := HS2.out.zero.cell 1 rfl
      have z2 := HS2.out.zero.cell 2 rfl
      have z3 := HS2.out.zero.cell 3 rfl
      have z4 := HS2.out.zero.cell 4 rfl
      have y0 := HS2.out.zero.frozen 0
      have y1 := HS2.out.zero.frozen 1
      have y2 := HS2.out.zero.frozen 2
      have y3 := HS2.out.zero.frozen 3
      have y4 := HS2.out.zero.frozen 4
      dsimp only [RB.zero] at z0 z1 z2 z3 z4
      go_wp2_with fail
      have hg := grownBy_setB W2 (w.heap.size + 1 + 1) q
      refine bodyPost_ret (v := RB.val q) (by simp [results, Try.results33, go_sem, z0, z1, z2, z3, z4]) rfl ⟨q, rfl, ?_, HS2.out.pre.below.grown hg HS2.out.pre.below.size (fun a e => by cases e; omega)⟩
      rw [HD.out]
      exact HBO'.out.unbox HS2.out.zero hg
    · have he1 : (er != 0) = true := by simp [he]
      have he2 : (er == 0) = false := by simp [he]
      have HD : Hid (doesB b o.k o.id t = b) := by unfold Hid doesB; rw [HER.out, if_neg he]
      clear he
      have d0 := HS2.out.pre.op.cell 0 rfl
      go_upto_region 8 with fail
      clear d0
      have c0 := HS2.out.pre.box.cell 0 rfl
      have c1 := HS2.out.pre.box.cell 1 rfl
      have c2 := HS2.out.pre.box.cell 2 rfl
      have c3 := HS2.out.pre.box.cell 3 rfl
      have c4 := HS2.out.pre.box.cell 4 rfl
      have z0 := HS2.out.zero.cell 0 rfl
      have z1 := HS2.out.zero.cell 1 rfl
      have z2 := HS2.out.zero.cell 2 rfl
      have z3 := HS2.out.zero.cell 3 rfl
      have z4 := HS2.out.zero.cell 4 rfl
      have y0 := HS2.out.zero.frozen 0
      have y1 := HS2.out.zero.frozen 1
      have y2 := HS2.out.zero.frozen 2
      have y3 := HS2.out.zero.frozen 3
      have y4 := HS2.out.zero.frozen 4
      dsimp only [RB.zero] at z0 z1 z2 z3 z4
      go_wp2_with fail
      have hg := grownBy_setB W2 (w.heap.size + 1 + 1) r
      refine bodyPost_ret (v := RB.val r) (by simp [results, Try.results33, go_sem, z0, z1, z2, z3, z4]) rfl ⟨r, rfl, ?_, HS2.out.pre.below.grown hg HS2.out.pre.below.size (fun a e => by cases e; omega)⟩
      rw [HD.out]
      exact (HBX.out.under HS2.out.pre.below HS2.out.pre.below.size).unbox HS2.out.zero hg
  · have kb : (o.k == 1) = false := by simp [k1]
    by_cases k2 : o.k = 2
    · have kb2 : (o.k == 2) = true := by simp [k2]
      have HP := Lib.hid (drop_any b r o.id W0 HB0.out HR.out HOB.out HOT.out.1)
      have HA : Hid (actB b o.k o.id t = dropB b o.id) := by unfold Hid actB; rw [if_neg k1, if_pos k2]
      clear k2
      clear k1
      go_upto_region 7 with (go_at_call 23; refine HP.out.mono ?_; rintro e w1 ⟨q, rfl, hN, hb1⟩; (have HS1 := Lib.hid (HS.out.go hb1)); clear c0 c1 c2 c3 c4 z0 z1 z2 z3 z4; (have x0 := HS1.out.x.cell 0 rfl); (have x1 := HS1.out.x.cell 1 rfl); (have x2 := HS1.out.x.cell 2 rfl); (have x3 := HS1.out.x.cell 3 rfl); (have x4 := HS1.out.x.cell 4 rfl); (have y0 := HS1.out.x.frozen 0); (have y1 := HS1.out.x.frozen 1); (have y2 := HS1.out.x.frozen 2); (have y3 := HS1.out.x.frozen 3); (have y4 := HS1.out.x.frozen 4))
      have hlt := HS1.out.x.lt
      have hlt0 := HS.out.x.lt
      have hg := grownBy_setB w1 (w.heap.size + 1 + 1 + 1) q
      have hne := hN.ne (g := w.heap.size + 1 + 1 + 1) hlt0
      have hN2 := hN.unbox HS1.out.x hg hne.1 hne.2 hb1.size
      have HS2 := Lib.hid (HS1.out.set q)
      have hbo := hN2.box (by simp; exact hb1.size)
      obtain ⟨W2, hW2⟩ : ∃ W2, (((((w1.setCell ⟨(w.heap.size + 1 + 1 + 1), 0, none⟩ (.slice q.po q.no q.co)).setCell ⟨(w.heap.size + 1 + 1 + 1), 1, none⟩ (.slice q.pt q.nt q.ct)).setCell ⟨(w.heap.size + 1 + 1 + 1), 2, none⟩ (.int .i64 q.sq)).setCell ⟨(w.heap.size + 1 + 1 + 1), 3, none⟩ (.int .i64 q.fl)).setCell ⟨(w.heap.size + 1 + 1 + 1), 4, none⟩ (.int .i64 q.kp)) = W2 := ⟨_, rfl⟩
      rw [hW2] at HS2 hbo ⊢
      have HBO := Lib.hid hbo
      clear hN hN2 hbo hb1 hg hne hlt hlt0 hW2 HS HP HS1 x0 x1 x2 x3 x4 y0 y1 y2 y3 y4
      obtain ⟨er, her⟩ : ∃ er, (dropB b o.id).2 = er := ⟨_, rfl⟩
      rw [her]
      have HER : Hid ((actB b o.k o.id t).2 = er) := by unfold Hid; rw [HA.out]; exact her
      have HBO' : Hid (BoxOf W2 W2.heap.size (actB b o.k o.id t).1 q) := by unfold Hid; rw [HA.out]; exact HBO.out
      clear her HBO HA
      by_cases he : er = 0
      · have he1 : (er != 0) = false := by simp [he]
        have he2 : (er == 0) = true := by simp [he]
        have HD : Hid (doesB b o.k o.id t = (actB b o.k o.id t).1) := by unfold Hid doesB; rw [HER.out, if_pos he]
        clear he
        have d0 := HS2.out.pre.op.cell 0 rfl
        go_upto_region 9 with fail
        clear d0
        have x0 := HS2.out.x.cell 0 rfl
        have x1 := HS2.out.x.cell 1 rfl
        have x2 := HS2.out.x.cell 2 rfl
        have x3 := HS2.out.x.cell 3 rfl
        have x4 := HS2.out.x.cell 4 rfl
        have z0 := HS2.out.zero.cell 0 rfl
        have z1 := HS2.out.zero.cell 1 rfl
        have z2 := HS2.out.zero.cell 2 rfl
        have z3 := HS2.out.zero.cell 3 rfl
        have z4 := HS2.out.zero.cell 4 rfl
        have y0 := HS2.out.zero.frozen 0
        have y1 := HS2.out.zero.frozen 1
        have y2 := HS2.out.zero.frozen 2
        have y3 := HS2.out.zero.frozen 3
        have y4 := HS2.out.zero.frozen 4
        dsimp only [RB.zero] at z0 z1 z2 z3 z4
        go_wp2_with fail
        have hg := grownBy_setB W2 (w.heap.size + 1 + 1) q
        refine bodyPost_ret (v := RB.val q) (by simp [results, Try.results33, go_sem, z0, z1, z2, z3, z4]) rfl ⟨q, rfl, ?_, HS2.out.pre.below.grown hg HS2.out.pre.below.size (fun a e => by cases e; omega)⟩
        rw [HD.out]
        exact HBO'.out.unbox HS2.out.zero hg
      · have he1 : (er != 0) = true := by simp [he]
        have he2 : (er == 0) = false := by simp [he]
        have HD : Hid (doesB b o.k o.id t = b) := by unfold Hid doesB; rw [HER.out, if_neg he]
        clear he
        have d0 := HS2.out.pre.op.cell 0 rfl
        go_upto_region 8 with fail
        clear d0
        have c0 := HS2.out.pre.box.cell 0 rfl
        have c1 := HS2.out.pre.box.cell 1 rfl
        have c2 := HS2.out.pre.box.cell 2 rfl
        have c3 := HS2.out.pre.box.cell 3 rfl
        have c4 := HS2.out.pre.box.cell 4 rfl
        have z0 := HS2.out.zero.cell 0 rfl
        have z1 := HS2.out.zero.cell 1 rfl
        have z2 := HS2.out.zero.cell 2 rfl
        have z3 := HS2.out.zero.cell 3 rfl
        have z4 := HS2.out.zero.cell 4 rfl
        have y0 := HS2.out.zero.frozen 0
        have y1 := HS2.out.zero.frozen 1
        have y2 := HS2.out.zero.frozen 2
        have y3 := HS2.out.zero.frozen 3
        have y4 := HS2.out.zero.frozen 4
        dsimp only [RB.zero] at z0 z1 z2 z3 z4
        go_wp2_with fail
        have hg := grownBy_setB W2 (w.heap.size + 1 + 1) r
        refine bodyPost_ret (v := RB.val r) (by simp [results, Try.results33, go_sem, z0, z1, z2, z3, z4]) rfl ⟨r, rfl, ?_, HS2.out.pre.below.grown hg HS2.out.pre.below.size (fun a e => by cases e; omega)⟩
        rw [HD.out]
        exact (HBX.out.under HS2.out.pre.below HS2.out.pre.below.size).unbox HS2.out.zero hg
    · have kb2 : (o.k == 2) = false := by simp [k2]
      have HD : Hid (doesB b o.k o.id t = b) := by unfold Hid doesB actB; rw [if_neg k1, if_neg k2]; rfl
      clear k1 k2
      go_upto_region 8 with fail
      clear c0 c1 c2 c3 c4 z0 z1 z2 z3 z4 z5 z6
      have c0 := HS.out.pre.box.cell 0 rfl
      have c1 := HS.out.pre.box.cell 1 rfl
      have c2 := HS.out.pre.box.cell 2 rfl
      have c3 := HS.out.pre.box.cell 3 rfl
      have c4 := HS.out.pre.box.cell 4 rfl
      have z0 := HS.out.zero.cell 0 rfl
      have z1 := HS.out.zero.cell 1 rfl
      have z2 := HS.out.zero.cell 2 rfl
      have z3 := HS.out.zero.cell 3 rfl
      have z4 := HS.out.zero.cell 4 rfl
      have y0 := HS.out.zero.frozen 0
      have y1 := HS.out.zero.frozen 1
      have y2 := HS.out.zero.frozen 2
      have y3 := HS.out.zero.frozen 3
      have y4 := HS.out.zero.frozen 4
      dsimp only [RB.zero] at z0 z1 z2 z3 z4
      go_wp2_with fail
      have hg := grownBy_setB W0 (w.heap.size + 1 + 1) r
      refine bodyPost_ret (v := RB.val r) (by simp [results, Try.results33, go_sem, z0, z1, z2, z3, z4]) rfl ⟨r, rfl, ?_, HS.out.pre.below.grown hg HS.out.pre.below.size (fun a e => by cases e; omega)⟩
      rw [HD.out]
      exact HB0.out.unbox HS.out.zero hg
end Go.Proofs.Ythgkgjcnmahacaa
end

section
/- What is kept below a call's own memory, step by step. -/
set_option linter.unusedSimpArgs false
set_option linter.unusedVariables false
namespace Go.Proofs.Ythgkgjcnmahacaa
open Go.RowKit Go.OpenShut

theorem KB.setV {W W' : World} (h : KB W.heap.size W W') (g : Nat) (q : RV) (hg : W.heap.size ≤ g) : KB W.heap.size W (((((W'.setCell ⟨g, 0, none⟩ (.int .i64 q.k)).setCell ⟨g, 1, none⟩ (.int .i64 q.n)).setCell ⟨g, 2, none⟩ (.string q.s)).setCell ⟨g, 3, none⟩ (.slice q.pl q.nl q.cl)).setCell ⟨g, 4, none⟩ (.slice q.pm q.nm q.cm)) :=
  KB.mk (Below.stored h.1 hg q)
theorem kt_drew (W : World) : Below W.heap.size W W.drew ∧ ∀ b o, b < W.heap.size → World.cell? W.drew ⟨b, o, none⟩ = W.cell? ⟨b, o, none⟩ := KB.drew W
theorem kt_da (W : World) (x : Obj) : Below W.heap.size W (W.alloc x).drew ∧ ∀ b o, b < W.heap.size → World.cell? (W.alloc x).drew ⟨b, o, none⟩ = W.cell? ⟨b, o, none⟩ := (KB.mk ((Below.refl _ _).alloc (Nat.le_refl _) x).drew : KB W.heap.size W (W.alloc x).drew)
theorem kt_same {W W' : World} (h : KB W.heap.size W W') : Below W.heap.size W W' ∧ ∀ b o, b < W.heap.size → World.cell? W' ⟨b, o, none⟩ = W.cell? ⟨b, o, none⟩ := h
theorem kt_alloc {W W' : World} (h : KB W.heap.size W W') (x : Obj) : Below W.heap.size W (W'.alloc x) ∧ ∀ b o, b < W.heap.size → World.cell? (W'.alloc x) ⟨b, o, none⟩ = W.cell? ⟨b, o, none⟩ := h.step ((Below.refl _ _).alloc (Nat.le_refl _) _)
theorem kt_setV {W W' : World} (h : KB W.heap.size W W') (g : Nat) (q : RV) (hg : W.heap.size ≤ g) : Below W.heap.size W (((((W'.setCell ⟨g, 0, none⟩ (.int .i64 q.k)).setCell ⟨g, 1, none⟩ (.int .i64 q.n)).setCell ⟨g, 2, none⟩ (.string q.s)).setCell ⟨g, 3, none⟩ (.slice q.pl q.nl q.cl)).setCell ⟨g, 4, none⟩ (.slice q.pm q.nm q.cm)) ∧ ∀ b o, b < W.heap.size → World.cell? (((((W'.setCell ⟨g, 0, none⟩ (.int .i64 q.k)).setCell ⟨g, 1, none⟩ (.int .i64 q.n)).setCell ⟨g, 2, none⟩ (.string q.s)).setCell ⟨g, 3, none⟩ (.slice q.pl q.nl q.cl)).setCell ⟨g, 4, none⟩ (.slice q.pm q.nm q.cm)) ⟨b, o, none⟩ = W.cell? ⟨b, o, none⟩ := h.setV g q hg
end Go.Proofs.Ythgkgjcnmahacaa
end
