import Derived.Test.YthgkgjcnmahacaaSk05
import Derived.Test.YthgkgjcnmahacaaSk24
import Derived.Test.YthgkgjcnmahacaaSk26
section
/- An act that came in reads as one. -/
set_option linter.unusedSimpArgs false
set_option linter.unusedVariables false
set_option maxRecDepth 100000
namespace Go.Proofs.Ythgkgjcnmahacaa
open Go Go.RowKit Go.ChangeShapes Go.WideShapes Go.Deep

/-- An act's own cells. -/
structure RO where
  k : Int
  id : ByteArray
  v : RV
abbrev RO.val (r : RO) : Value := .agg #[.int .i64 r.k, .string r.id, .int .i64 r.v.k, .int .i64 r.v.n, .string r.v.s, .slice r.v.pl r.v.nl r.v.cl, .slice r.v.pm r.v.nm r.v.cm]
abbrev RO.obj (r : RO) : Obj := .cells #[.int .i64 r.k, .string r.id, .int .i64 r.v.k, .int .i64 r.v.n, .string r.v.s, .slice r.v.pl r.v.nl r.v.cl, .slice r.v.pm r.v.nm r.v.cm] 37
def encOp (r : RO) : List Value := .int .i64 r.k :: .string r.id :: encV r.v
theorem codecOp : Codec encOp 7 := ⟨fun _ => rfl, fun x u hu => by
  simp only [encOp, encV, List.mem_cons, List.not_mem_nil, or_false] at hu
  rcases hu with rfl | rfl | rfl | rfl | rfl | rfl | rfl <;> rfl, by decide⟩
/-- Its text and its value have lengths that may be. -/
def OpOk (r : RO) (t : JV) : Prop := r.id.size ≤ 140737488351232 ∧ t.Ok
theorem cellsOp : Try.prog.cellsOf 37 = 7 := by kernel_rfl
section
variable {H : Type} {enc : TypeId × Value → H} {W : World} {base b0 : Nat} {spare : Nat → Bool} {held : Bool}
theorem open_op_cells {fuel : Nat} {cs : List Value} {x : DataW H × List MemPlace} (h : DataW.trod enc Try.prog W base spare held fuel 37 cs = some x) :
    ∃ r t, cs = encOp r ∧ TreeOf W W.heap.size t r.v ∧ ((∀ n ∈ x.1.weights Try.prog 37, n ≤ 140737488351232) → OpOk r t) := by
  obtain ⟨y0, y1, y2, n, rfl, hx1, hlen, t0, t1, t2⟩ := trodF3 Try.underlying37 h
  rw [cellsOp] at hlen
  obtain ⟨a0, a1, a2, a3, a4, a5, a6, rfl⟩ : ∃ a0 a1 a2 a3 a4 a5 a6, cs = [a0, a1, a2, a3, a4, a5, a6] := by
    match cs, hlen with
    | [a, b, c, d, e, f, g], _ => exact ⟨a, b, c, d, e, f, g, rfl⟩
  rw [hx1]
  dsimp only at t0 t1 t2
  rw [cel2] at t0
  rw [cel3] at t1
  rw [cellsV] at t2
  simp only [List.drop_zero, List.drop_succ_cons, List.take_succ_cons, List.take_zero] at t0 t1 t2
  obtain ⟨k, e0, f0, w0⟩ := DataW.trod_int Try.underlying3 t0
  obtain ⟨s, e1, f1, w1⟩ := DataW.trod_string Try.underlying9 t1
  simp only [List.cons.injEq, and_true] at e0 e1
  subst e0 e1 f0 f1
  obtain ⟨r, t, h1, h2, h3⟩ := open_val n _ _ t2
  refine ⟨⟨k, s, r⟩, t, by rw [h1]; rfl, h2, fun hw => ⟨weights_string (weights_struct Try.underlying37 hw (i := 1) rfl rfl), h3 (weights_struct Try.underlying37 hw (i := 2) rfl rfl)⟩⟩
theorem open_op {v : Value} {d : DataW H} {p : List MemPlace} (hval : Value.okWide Try.prog W .any b0 37 v) (h : DataW.Trod enc Try.prog W base spare held 37 v d p) :
    ∃ r t, v = RO.val r ∧ TreeOf W W.heap.size t r.v ∧ ((∀ n ∈ d.weights Try.prog 37, n ≤ 140737488351232) → OpOk r t) := by
  obtain ⟨cs, rfl, hsz⟩ := okWide_struct Try.underlying37 hval
  obtain ⟨fuel, hf⟩ := h
  obtain ⟨r, t, h1, h2, h3⟩ := open_op_cells hf
  refine ⟨r, t, ?_, h2, h3⟩
  have : cs = (encOp r).toArray := by
    apply Array.ext'
    simpa [Value.cells] using h1
  rw [this]
  rfl
end
end Go.Proofs.Ythgkgjcnmahacaa
end

section
/- What the law of keeping knows: boxes and lists of its own, apart from one another. -/
set_option linter.unusedSimpArgs false
set_option linter.unusedVariables false
namespace Go.Proofs.Ythgkgjcnmahacaa
open Go.RowKit Go.OpenShut

/-- Some list of the call's own, of a length. -/
def Some_ {α : Type} (W : World) (base : Nat) (e : TypeId) (enc : α → List Value) (sz : Nat) (p : Option Addr) (n c : Nat) : Prop := ∃ ms : List α, ms.length = n ∧ Own W base e enc sz (.slice p n c) ms
theorem Some_.kept {α : Type} {W W' : World} {base : Nat} {e : TypeId} {enc : α → List Value} {sz : Nat} {p : Option Addr} {n c : Nat} {row : Option Nat} (h : Some_ W base e enc sz p n c) (hg : W.grownBy W' row) (hne : ∀ k, (Value.slice p n c).ownBlock = some k → row ≠ some k) : Some_ W' base e enc sz p n c := by
  obtain ⟨ms, h1, h2⟩ := h
  refine ⟨ms, h1, h2.kept hg ?_⟩
  cases e : (Value.slice p n c).ownBlock with
  | none => exact .inl rfl
  | some k => exact .inr (fun h => hne k e h.symm)
theorem Some_.len {α : Type} {W : World} {base : Nat} {e : TypeId} {enc : α → List Value} {sz : Nat} {p : Option Addr} {n c : Nat} (h : Some_ W base e enc sz p n c) : n ≤ maxLen := by
  obtain ⟨ms, h1, h2⟩ := h
  obtain ⟨q, d, hv, h3, h4⟩ := h2.len
  omega
theorem Own.keptR {α : Type} {enc : α → List Value} {sz : Nat} {w w' : World} {base : Nat} {e : TypeId} {v : Value} {xs : List α} {row : Option Nat} (h : Own w base e enc sz v xs) (hg : w.grownBy w' row) (hne : ∀ k, v.ownBlock = some k → row ≠ some k) : Own w' base e enc sz v xs := by
  refine h.kept hg ?_
  cases e : v.ownBlock with
  | none => exact .inl rfl
  | some k => exact .inr (fun h => hne k e h.symm)
theorem NewBox.keptR {W W' : World} {base B : Nat} {row : Option Nat} {b : BoxD} {r : RB} (h : NewBox W base B b r) (hg : W.grownBy W' row) (h1 : ∀ k, (Value.slice r.po r.no r.co).ownBlock = some k → row ≠ some k) (h2 : ∀ k, (Value.slice r.pt r.nt r.ct).ownBlock = some k → row ≠ some k) (hBW : B ≤ W.heap.size) (hB : ∀ k, row = some k → B ≤ k) : NewBox W' base B b r := by
  obtain ⟨ros, h3, h4⟩ := h.objs
  have hk : ∀ {v : Value}, (∀ k, v.ownBlock = some k → row ≠ some k) → v.ownBlock = none ∨ v.ownBlock ≠ row := fun {v} hv => by
    cases e : v.ownBlock with
    | none => exact .inl rfl
    | some k => exact .inr (fun h => hv k e h.symm)
  exact ⟨⟨ros, h3.kept hg (hk h1), h4.under ((Below.refl B W).grown hg hBW hB) (Nat.le_refl _)⟩, h.trail.kept hg (hk h2), h.ok, h.seq, h.floor, h.keep⟩
theorem BoxAt.keptR {W W' : World} {x : Nat} {row : Option Nat} {r : RB} (h : BoxAt W x r) (hg : W.grownBy W' row) (hne : row ≠ some x) : BoxAt W' x r := (hg.block x h.lt (fun e => hne e.symm)).trans h

structure KeepF (w W : World) (b : BoxD) (r rw rx ry : RB) (pl : Option Addr) (nl cl : Nat) (g5 g6 g8 A B C : Nat) : Prop where
  below : Below w.heap.size w W
  o1 : w.heap.size + 1 < g5
  o2 : g5 < A
  o3 : A ≤ g6
  o4 : g6 < B
  o5 : B ≤ g8
  o6 : g8 < C
  o7 : C ≤ W.heap.size
  b0 : BoxAt W w.heap.size r
  b5 : BoxAt W g5 rw
  b6 : BoxAt W g6 rx
  b8 : BoxAt W g8 ry
  was : NewBox W w.heap.size w.heap.size b rw
  was1 : ∀ k, (Value.slice rw.po rw.no rw.co).ownBlock = some k → g5 < k ∧ k < A
  was2 : ∀ k, (Value.slice rw.pt rw.nt rw.ct).ownBlock = some k → g5 < k ∧ k < A
  xo : Some_ W A 46 encM 6 rx.po rx.no rx.co
  xo1 : ∀ k, (Value.slice rx.po rx.no rx.co).ownBlock = some k → A ≤ k ∧ k < g6
  xt : Some_ W A 48 encE 3 rx.pt rx.nt rx.ct
  xt1 : ∀ k, (Value.slice rx.pt rx.nt rx.ct).ownBlock = some k → A ≤ k ∧ k < g6
  yo : Some_ W B 46 encM 6 ry.po ry.no ry.co
  yo1 : ∀ k, (Value.slice ry.po ry.no ry.co).ownBlock = some k → B ≤ k ∧ k < g8
  yt : Some_ W B 48 encE 3 ry.pt ry.nt ry.ct
  yt1 : ∀ k, (Value.slice ry.pt ry.nt ry.ct).ownBlock = some k → B ≤ k ∧ k < g8
  l : Some_ W C 9 encS 1 pl nl cl
  l1 : ∀ k, (Value.slice pl nl cl).ownBlock = some k → C ≤ k
theorem Some_.unlike {α β : Type} {e1 : α → List Value} {e2 : β → List Value} {s1 s2 b1 b2 : Nat} {t1 t2 : TypeId} {w : World} {p1 p2 : Option Addr} {n1 c1 n2 c2 : Nat} (h1 : Some_ w b1 t1 e1 s1 p1 n1 c1) (h2 : Some_ w b2 t2 e2 s2 p2 n2 c2) (hne : t1 ≠ t2) {k : Nat} (hk : (Value.slice p1 n1 c1).ownBlock = some k) : (Value.slice p2 n2 c2).ownBlock ≠ some k := by
  obtain ⟨ms, _, a⟩ := h1
  obtain ⟨ns, _, b⟩ := h2
  exact a.unlike b hne hk
section
variable {w W W' : World} {b : BoxD} {r rw rx ry : RB} {pl : Option Addr} {nl cl g5 g6 g8 A B C : Nat} (h : KeepF w W b r rw rx ry pl nl cl g5 g6 g8 A B C)
include h
/-- One of the lists is written over. -/
theorem KeepF.spoil {row : Option Nat} (hg : W.grownBy W' row) (hr : ∀ k, row = some k → A ≤ k ∧ k ≠ g6 ∧ k ≠ g8)
    (xo : Some_ W' A 46 encM 6 rx.po rx.no rx.co) (xt : Some_ W' A 48 encE 3 rx.pt rx.nt rx.ct) (yo : Some_ W' B 46 encM 6 ry.po ry.no ry.co) (yt : Some_ W' B 48 encE 3 ry.pt ry.nt ry.ct) (l : Some_ W' C 9 encS 1 pl nl cl) :
    KeepF w W' b r rw rx ry pl nl cl g5 g6 g8 A B C := by
  have o1 := h.o1
  have o2 := h.o2
  have o3 := h.o3
  have o4 := h.o4
  have o5 := h.o5
  have o6 := h.o6
  have o7 := h.o7
  have hz := hg.size
  refine ⟨h.below.grown hg (by omega) (fun k e => by have := hr k e; omega), o1, o2, o3, o4, o5, o6, by omega, h.b0.keptR hg (fun e => by have := hr _ e; omega), h.b5.keptR hg (fun e => by have := hr _ e; omega), h.b6.keptR hg (fun e => by have := hr _ e; omega), h.b8.keptR hg (fun e => by have := hr _ e; omega),
    h.was.keptR hg (fun k e e2 => by have := hr _ e2; have := h.was1 k e; omega) (fun k e e2 => by have := hr _ e2; have := h.was2 k e; omega) (by omega) (fun k e => by have := hr k e; omega), h.was1, h.was2, xo, h.xo1, xt, h.xt1, yo, h.yo1, yt, h.yt1, l, h.l1⟩
theorem KeepF.spoilXO (hg : W.grownBy W' (Value.slice rx.po rx.no rx.co).ownBlock) (hs : Some_ W' A 46 encM 6 rx.po rx.no rx.co) : KeepF w W' b r rw rx ry pl nl cl g5 g6 g8 A B C := by
  have o4 := h.o4; have o5 := h.o5; have o6 := h.o6
  exact h.spoil hg (fun k e => by have := h.xo1 k e; omega) hs (h.xt.kept hg fun k e e2 => h.xo.unlike h.xt (by decide) e2 e) (h.yo.kept hg fun k e e2 => by have := h.xo1 k e2; have := h.yo1 k e; omega) (h.yt.kept hg fun k e e2 => by have := h.xo1 k e2; have := h.yt1 k e; omega) (h.l.kept hg fun k e e2 => by have := h.xo1 k e2; have := h.l1 k e; omega)
theorem KeepF.spoilXT (hg : W.grownBy W' (Value.slice rx.pt rx.nt rx.ct).ownBlock) (hs : Some_ W' A 48 encE 3 rx.pt rx.nt rx.ct) : KeepF w W' b r rw rx ry pl nl cl g5 g6 g8 A B C := by
  have o4 := h.o4; have o5 := h.o5; have o6 := h.o6
  exact h.spoil hg (fun k e => by have := h.xt1 k e; omega) (h.xo.kept hg fun k e e2 => h.xo.unlike h.xt (by decide) e e2) hs (h.yo.kept hg fun k e e2 => by have := h.xt1 k e2; have := h.yo1 k e; omega) (h.yt.kept hg fun k e e2 => by have := h.xt1 k e2; have := h.yt1 k e; omega) (h.l.kept hg fun k e e2 => by have := h.xt1 k e2; have := h.l1 k e; omega)
theorem KeepF.spoilYO (hg : W.grownBy W' (Value.slice ry.po ry.no ry.co).ownBlock) (hs : Some_ W' B 46 encM 6 ry.po ry.no ry.co) : KeepF w W' b r rw rx ry pl nl cl g5 g6 g8 A B C := by
  have o3 := h.o3; have o4 := h.o4; have o5 := h.o5; have o6 := h.o6
  exact h.spoil hg (fun k e => by have := h.yo1 k e; omega) (h.xo.kept hg fun k e e2 => by have := h.yo1 k e2; have := h.xo1 k e; omega) (h.xt.kept hg fun k e e2 => by have := h.yo1 k e2; have := h.xt1 k e; omega) hs (h.yt.kept hg fun k e e2 => h.yo.unlike h.yt (by decide) e2 e) (h.l.kept hg fun k e e2 => by have := h.yo1 k e2; have := h.l1 k e; omega)
theorem KeepF.spoilYT (hg : W.grownBy W' (Value.slice ry.pt ry.nt ry.ct).ownBlock) (hs : Some_ W' B 48 encE 3 ry.pt ry.nt ry.ct) : KeepF w W' b r rw rx ry pl nl cl g5 g6 g8 A B C := by
  have o3 := h.o3; have o4 := h.o4; have o5 := h.o5; have o6 := h.o6
  exact h.spoil hg (fun k e => by have := h.yt1 k e; omega) (h.xo.kept hg fun k e e2 => by have := h.yt1 k e2; have := h.xo1 k e; omega) (h.xt.kept hg fun k e e2 => by have := h.yt1 k e2; have := h.xt1 k e; omega) (h.yo.kept hg fun k e e2 => h.yo.unlike h.yt (by decide) e e2) hs (h.l.kept hg fun k e e2 => by have := h.yt1 k e2; have := h.l1 k e; omega)
theorem KeepF.spoilL (hg : W.grownBy W' (Value.slice pl nl cl).ownBlock) (hs : Some_ W' C 9 encS 1 pl nl cl) : KeepF w W' b r rw rx ry pl nl cl g5 g6 g8 A B C := by
  have o3 := h.o3; have o4 := h.o4; have o5 := h.o5; have o6 := h.o6
  exact h.spoil hg (fun k e => by have := h.l1 k e; omega) (h.xo.kept hg fun k e e2 => by have := h.l1 k e2; have := h.xo1 k e; omega) (h.xt.kept hg fun k e e2 => by have := h.l1 k e2; have := h.xt1 k e; omega) (h.yo.kept hg fun k e e2 => by have := h.l1 k e2; have := h.yo1 k e; omega) (h.yt.kept hg fun k e e2 => by have := h.l1 k e2; have := h.yt1 k e; omega) hs
end
theorem NewBox.some {W : World} {base B : Nat} {b : BoxD} {r : RB} (h : NewBox W base B b r) :
    Some_ (α := RM) W base 46 encM 6 r.po r.no r.co ∧ Some_ (α := En) W base 48 encE 3 r.pt r.nt r.ct ∧ (∀ k, (Value.slice r.po r.no r.co).ownBlock = some k → base ≤ k ∧ k < W.heap.size) ∧ ∀ k, (Value.slice r.pt r.nt r.ct).ownBlock = some k → base ≤ k ∧ k < W.heap.size := by
  obtain ⟨ros, h1, h2⟩ := h.objs
  exact ⟨⟨ros, (rd_nlen (h1.rd codecM)).symm, h1⟩, ⟨b.trail, (rd_nlen (h.trail.rd codecE)).symm, h.trail⟩, h1.lt, h.trail.lt⟩
theorem Some_.below {α : Type} {W W' : World} {base : Nat} {e : TypeId} {enc : α → List Value} {sz : Nat} {p : Option Addr} {n c : Nat} (h : Some_ W base e enc sz p n c) (hb : Below W.heap.size W W') : Some_ W' base e enc sz p n c := by
  obtain ⟨ms, h1, h2⟩ := h
  exact ⟨ms, h1, h2.below hb (Nat.le_refl _)⟩
/-- One step of writing over: an object's id, an entry's, a text. -/
def spoilt : ByteArray := ⟨#[115, 112, 111, 105, 108, 116]⟩
theorem spoilO {W : World} {base g n c k : Nat} {ms : List RM} {x : RM} (h : Own W base 46 encM 6 (.slice (some ⟨g, 0, none⟩) n c) ms) (hx : ms[k]? = some x) (hl : ms.length = n) :
    Some_ (α := RM) (W.setCell ⟨g, k * 6, none⟩ (.string spoilt)) base 46 encM 6 (some ⟨g, 0, none⟩) n c := by
  have h1 := Own.storedAt codecM h (j := 0) (y := (⟨spoilt, x.v⟩ : RM)) (u := .string spoilt) hx (by decide) rfl
  exact ⟨ms.set k ⟨spoilt, x.v⟩, by rw [List.length_set, hl], h1.1⟩
theorem spoilEn {W : World} {base g n c k : Nat} {ms : List En} {x : En} (h : Own W base 48 encE 3 (.slice (some ⟨g, 0, none⟩) n c) ms) (hx : ms[k]? = some x) (hl : ms.length = n) :
    Some_ (α := En) (W.setCell ⟨g, k * 3 + 1, none⟩ (.string spoilt)) base 48 encE 3 (some ⟨g, 0, none⟩) n c := by
  have h1 := Own.storedAt codecE h (j := 1) (y := ({ x with id := spoilt } : En)) (u := .string spoilt) hx (by decide) rfl
  exact ⟨ms.set k { x with id := spoilt }, by rw [List.length_set, hl], h1.1⟩
theorem spoilS {W : World} {base g n c k : Nat} {ms : List ByteArray} {x : ByteArray} (h : Own W base 9 encS 1 (.slice (some ⟨g, 0, none⟩) n c) ms) (hx : ms[k]? = some x) (hl : ms.length = n) :
    Some_ (α := ByteArray) (W.setCell ⟨g, k, none⟩ (.string spoilt)) base 9 encS 1 (some ⟨g, 0, none⟩) n c := by
  have h1 := Own.storedAt codecS h (j := 0) (y := spoilt) (u := .string spoilt) hx (by decide) rfl
  rw [Nat.mul_one, Nat.add_zero] at h1
  exact ⟨ms.set k spoilt, by rw [List.length_set, hl], h1.1⟩
end Go.Proofs.Ythgkgjcnmahacaa
end
