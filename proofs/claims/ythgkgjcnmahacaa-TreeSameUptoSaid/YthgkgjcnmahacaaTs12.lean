import Derived.Test.YthgkgjcnmahacaaTs11
import Derived.Test.YthgkgjcnmahacaaTs00
import Derived.ProofKit
import Derived.Below
import Derived.Test.YthgkgjcnmahacaaTs03
import Derived.Test.YthgkgjcnmahacaaTs10
import Derived.Test.YthgkgjcnmahacaaTs07
import Derived.Test.YthgkgjcnmahacaaTs09
import Derived.Test.YthgkgjcnmahacaaTs02
section
/- A slice of entries that came in reads as a list. -/
set_option linter.unusedSimpArgs false
set_option linter.unusedVariables false
set_option maxRecDepth 100000
namespace Go.Proofs.Ythgkgjcnmahacaa
open Go.ChangeShapes Go.WideShapes Go.Deep Go.RowKit Go.Lib

theorem cells2 : Try.prog.cellsOf 2 = 1 := by kernel_rfl
theorem cells3 : Try.prog.cellsOf 3 = 1 := by kernel_rfl
theorem cells9 : Try.prog.cellsOf 9 = 1 := by kernel_rfl
theorem cellsOf26 : Try.prog.cellsOf 48 = 3 := by kernel_rfl
theorem bytesOf26 : Try.prog.bytesOf 48 = 32 := by kernel_rfl

section
variable {H : Type} {enc : TypeId × Value → H} {W : World} {base b0 : Nat} {spare : Nat → Bool} {held : Bool}
theorem open_entry {n : Nat} {cs : List Value} {y : DataW H × List MemPlace} (h : DataW.trod enc Try.prog W base spare held n 48 cs = some y) : ∃ a : En, cs = encE a ∧ a.ok := by
  obtain ⟨y0, y1, y2, n, _, hlen, t0, t1, t2⟩ := trod_struct3 Try.underlying48 h
  rw [cellsOf26] at hlen
  obtain ⟨x0, x1, x2, rfl⟩ : ∃ x0 x1 x2, cs = [x0, x1, x2] := by
    match cs, hlen with
    | [x0, x1, x2], _ => exact ⟨x0, x1, x2, rfl⟩
  dsimp only at t0 t1 t2
  rw [cells2] at t0
  rw [cells9] at t1
  rw [cells3] at t2
  obtain ⟨s, e0, _, w0⟩ := DataW.trod_int Try.underlying2 t0
  obtain ⟨t, e1, _, w1⟩ := DataW.trod_string Try.underlying9 t1
  obtain ⟨u, e2, _, w2⟩ := DataW.trod_int Try.underlying3 t2
  simp at e0 e1 e2
  subst e0 e1 e2
  exact ⟨⟨s, t, u⟩, rfl, w0, w1, w2⟩
theorem open_ents_cells {fuel : Nat} {cs : List Value} {x : DataW H × List MemPlace} (h : DataW.trod enc Try.prog W base spare held fuel 33 cs = some x) :
    ∃ p n c, ∃ l : List En, cs = [.slice p n c] ∧ RdE W W.heap.size (.slice p n c) l ∧ (l = [] ∨ ∃ es sp, x.1 = .slice es sp ∧ es.length = l.length) := by
  obtain ⟨p, n, c, l, e, hr, hd⟩ := open_list (Q := fun (a : En) _ => a.ok) Try.underlying33 cellsOf26 codecE h (fun n _ cs y hy => open_entry hy)
  rcases hd with ⟨rfl, _⟩ | ⟨es, sp, h1, h2, h3⟩
  · exact ⟨p, n, c, [], e, rdE_iff.2 ⟨by simp, hr⟩, .inl rfl⟩
  · refine ⟨p, n, c, l, e, rdE_iff.2 ⟨fun a ha => ?_, hr⟩, .inr ⟨es, sp, h1, h2⟩⟩
    obtain ⟨i, hi⟩ := List.getElem?_of_mem ha
    obtain ⟨_, _, hq⟩ := h3 i a hi
    exact hq
theorem open_ents {v : Value} {d : DataW H} {p : List MemPlace} (hval : Value.okWide Try.prog W .any b0 33 v) (h : DataW.Trod enc Try.prog W base spare held 33 v d p) :
    ∃ l : List En, RdE W W.heap.size v l ∧ (l = [] ∨ ∃ es sp, d = .slice es sp ∧ es.length = l.length) := by
  obtain ⟨fuel, hf⟩ := h
  obtain ⟨a, len, cap, rfl⟩ := okWide_slice Try.underlying33 hval
  obtain ⟨p', n', c', l, e, h1, h2⟩ := open_ents_cells hf
  have hcs : (Value.slice a len cap).cells.toList = [.slice a len cap] := rfl
  rw [hcs] at e
  simp only [List.cons.injEq, Value.slice.injEq, and_true] at e
  obtain ⟨rfl, rfl, rfl⟩ := e
  exact ⟨l, h1, h2⟩
end
end Go.Proofs.Ythgkgjcnmahacaa
end

section
/- Boxes of objects, and how they lie in memory; a box that came in reads as one. -/
set_option linter.unusedSimpArgs false
set_option linter.unusedVariables false
set_option maxRecDepth 100000
namespace Go.Proofs.Ythgkgjcnmahacaa
open Go Go.RowKit Go.ChangeShapes Go.WideShapes Go.Deep

/-- A box, as data. -/
structure BoxD where
  objs : List (ByteArray × JV)
  trail : List En
  seq : Int
  floor : Int
  keep : Int
/-- A box's own cells. -/
structure RB where
  po : Option Addr
  no : Nat
  co : Nat
  pt : Option Addr
  nt : Nat
  ct : Nat
  sq : Int
  fl : Int
  kp : Int
abbrev RB.val (r : RB) : Value := .agg #[.slice r.po r.no r.co, .slice r.pt r.nt r.ct, .int .i64 r.sq, .int .i64 r.fl, .int .i64 r.kp]
def encB (r : RB) : List Value := [.slice r.po r.no r.co, .slice r.pt r.nt r.ct, .int .i64 r.sq, .int .i64 r.fl, .int .i64 r.kp]
abbrev RB.obj (r : RB) : Obj := .cells #[.slice r.po r.no r.co, .slice r.pt r.nt r.ct, .int .i64 r.sq, .int .i64 r.fl, .int .i64 r.kp] 35
def RB.zero : RB := ⟨none, 0, 0, none, 0, 0, 0, 0, 0⟩
def BoxD.zero : BoxD := ⟨[], [], 0, 0, 0⟩

/-- The value reads as a list of objects. -/
def ObjsOf (w : World) (B : Nat) (os : List (ByteArray × JV)) (v : Value) : Prop := ∃ ros, Rd w B encM 6 v ros ∧ MemsOf w B os ros
theorem ObjsOf.under {w w' : World} {B B' : Nat} {os : List (ByteArray × JV)} {v : Value} (h : ObjsOf w B os v) (hb : Below B w w') (hB : B ≤ B') : ObjsOf w' B' os v := by
  obtain ⟨ros, h1, h2⟩ := h
  exact ⟨ros, h1.below hb hB, h2.under hb hB⟩
theorem ObjsOf.nlen {w : World} {B n c : Nat} {os : List (ByteArray × JV)} {p : Option Addr} (h : ObjsOf w B os (.slice p n c)) : os.length = n := by
  obtain ⟨ros, h1, h2⟩ := h
  have := rd_nlen h1
  have := h2.len
  omega
theorem ObjsOf.nil (w : World) (B : Nat) : ObjsOf w B [] (.slice none 0 0) := ⟨[], Rd.nil _ _, MemsOf.nil _ _⟩
theorem RdE.under {w w' : World} {B B' : Nat} {v : Value} {l : List En} (h : RdE w B v l) (hb : Below B w w') (hB : B ≤ B') : RdE w' B' v l :=
  rdE_iff.2 ⟨(rdE_iff.1 h).1, (rdE_iff.1 h).2.below hb hB⟩
theorem RdE.nlen {w : World} {B n c : Nat} {l : List En} {p : Option Addr} (h : RdE w B (.slice p n c) l) : l.length = n := (rd_nlen (rdE_iff.1 h).2).symm
theorem RdE.nil (w : World) (B : Nat) : RdE w B (.slice none 0 0) [] := rdE_iff.2 ⟨fun e h => by simp at h, Rd.nil _ _⟩

structure BoxOf (w : World) (B : Nat) (b : BoxD) (r : RB) : Prop where
  objs : ObjsOf w B b.objs (.slice r.po r.no r.co)
  trail : RdE w B (.slice r.pt r.nt r.ct) b.trail
  seq : b.seq = r.sq
  floor : b.floor = r.fl
  keep : b.keep = r.kp
theorem BoxOf.under {w w' : World} {B B' : Nat} {b : BoxD} {r : RB} (h : BoxOf w B b r) (hb : Below B w w') (hB : B ≤ B') : BoxOf w' B' b r :=
  ⟨h.objs.under hb hB, h.trail.under hb hB, h.seq, h.floor, h.keep⟩
theorem BoxOf.zero (w : World) (B : Nat) : BoxOf w B BoxD.zero RB.zero := ⟨ObjsOf.nil _ _, RdE.nil _ _, rfl, rfl, rfl⟩

/-- Its numbers fit, its texts and lists have lengths that may be. -/
structure BoxD.Ok (b : BoxD) : Prop where
  objs : b.objs.length ≤ 1466015503658
  each : ∀ p ∈ b.objs, p.1.size ≤ 140737488351232 ∧ p.2.Ok
  trail : b.trail.length ≤ 4398046510976
  seq : (Lit.int .i64 b.seq).wf = true
  floor : (Lit.int .i64 b.floor).wf = true
  keep : (Lit.int .i64 b.keep).wf = true
theorem BoxD.zero_ok : BoxD.zero.Ok := ⟨by decide, fun p h => by simp [BoxD.zero] at h, by decide, by decide, by decide, by decide⟩

theorem slO : SlT Try.prog 32 46 6 96 := SlT.mk (z := .agg #[.string ByteArray.empty, .int .i64 0, .int .i64 0, .string ByteArray.empty, .slice none 0 0, .slice none 0 0]) Try.underlying32 (by kernel_rfl) rfl
theorem slEn : SlT Try.prog 33 48 3 32 := SlT.mk Try.underlying33 infoE rfl
theorem cellsO : Try.prog.cellsOf 46 = 6 := by kernel_rfl
theorem bytesO : Try.prog.bytesOf 46 = 96 := by kernel_rfl
theorem celO : Try.prog.cellsOf 32 = 1 := by kernel_rfl
theorem celE : Try.prog.cellsOf 33 = 1 := by kernel_rfl
theorem cellsB : Try.prog.cellsOf 35 = 5 := by kernel_rfl

section
variable {H : Type} {enc : TypeId × Value → H} {W : World} {base b0 : Nat} {spare : Nat → Bool} {held : Bool}
theorem open_objs {fuel : Nat} {cs : List Value} {x : DataW H × List MemPlace} (h : DataW.trod enc Try.prog W base spare held fuel 32 cs = some x) :
    ∃ p n c os, cs = [.slice p n c] ∧ ObjsOf W W.heap.size os (.slice p n c) ∧ ((∀ n ∈ x.1.weights Try.prog 32, n ≤ 140737488351232) → os.length ≤ 1466015503658 ∧ ∀ p ∈ os, p.1.size ≤ 140737488351232 ∧ p.2.Ok) := by
  obtain ⟨pm, nm, cm, rms, e4, hr4, hd4⟩ := open_list (Q := fun (r : RM) (d : DataW H) => ∃ t, TreeOf W W.heap.size t r.v ∧ ((∀ n ∈ d.weights Try.prog 46, n ≤ 140737488351232) → r.name.size ≤ 140737488351232 ∧ t.Ok)) Try.underlying32 cellsO codecM h
    (fun m hm cs y hy => by
      obtain ⟨z0, z1, j, rfl, hy1, hlen, u0, u1⟩ := trodF2 Try.underlying46 hy
      rw [cellsO] at hlen
      obtain ⟨a0, a1, a2, a3, a4, a5, rfl⟩ : ∃ a0 a1 a2 a3 a4 a5, cs = [a0, a1, a2, a3, a4, a5] := by
        match cs, hlen with
        | [a, b, c, d, e, f], _ => exact ⟨a, b, c, d, e, f, rfl⟩
      rw [hy1]
      dsimp only at u0 u1
      rw [cel3] at u0
      rw [cellsV] at u1
      simp only [List.drop_zero, List.drop_succ_cons, List.take_succ_cons, List.take_zero] at u0 u1
      obtain ⟨nm, g0, g1, g2⟩ := DataW.trod_string Try.underlying9 u0
      simp only [List.cons.injEq, and_true] at g0
      subst g0 g1
      obtain ⟨r, t, h1, h2, h3⟩ := open_val j _ _ u1
      refine ⟨⟨nm, r⟩, by rw [h1]; rfl, t, h2, fun hw => ⟨weights_string (weights_struct Try.underlying46 hw (i := 0) rfl rfl), h3 (weights_struct Try.underlying46 hw (i := 1) rfl rfl)⟩⟩)
  have hM : ∀ i, i < rms.length → ∃ p : ByteArray × JV, ∀ q, rms[i]? = some q → p.1 = q.name ∧ TreeOf W W.heap.size p.2 q.v ∧ ((∀ n ∈ x.1.weights Try.prog 32, n ≤ 140737488351232) → p.1.size ≤ 140737488351232 ∧ p.2.Ok) := by
    intro i hi
    obtain ⟨q, hq⟩ : ∃ q, rms[i]? = some q := ⟨_, List.getElem?_eq_getElem hi⟩
    rcases hd4 with ⟨rfl, _⟩ | ⟨es, sp, h1, h2, h3⟩
    · simp at hi
    · obtain ⟨d, hd, t, ht1, ht2⟩ := h3 i q hq
      refine ⟨(q.name, t), fun q' hq' => ?_⟩
      rw [hq] at hq'
      cases hq'
      refine ⟨rfl, ht1, fun hw => ht2 ?_⟩
      rw [h1] at hw
      exact (weights_slice Try.underlying32 hw).2 d (List.mem_of_getElem? hd)
  obtain ⟨ps, hps, hps2⟩ := list_of rms.length hM
  refine ⟨pm, nm, cm, ps, e4, ⟨rms, hr4, hps, fun i p q h1 h2 => (hps2 i p h1 q h2).1, fun i p q h1 h2 => (hps2 i p h1 q h2).2.1⟩, fun hw => ⟨?_, fun p hp => ?_⟩⟩
  · rcases hd4 with ⟨rfl, _⟩ | ⟨es, sp, h1, h2, _⟩
    · rw [hps]; simp
    · rw [h1] at hw
      have := (weights_slice Try.underlying32 hw).1
      rw [bytesO] at this
      omega
  · obtain ⟨i, hi⟩ := List.getElem?_of_mem hp
    obtain ⟨q, hq⟩ : ∃ q, rms[i]? = some q := ⟨_, List.getElem?_eq_getElem (by have := (List.getElem?_eq_some_iff.1 hi).1; omega)⟩
    exact (hps2 i p hi q hq).2.2 hw

theorem open_box_cells {fuel : Nat} {cs : List Value} {x : DataW H × List MemPlace} (h : DataW.trod enc Try.prog W base spare held fuel 35 cs = some x) :
    ∃ r b, cs = encB r ∧ BoxOf W W.heap.size b r ∧ ((∀ n ∈ x.1.weights Try.prog 35, n ≤ 140737488351232) → b.Ok) := by
  obtain ⟨y0, y1, y2, y3, y4, n, rfl, hx1, hlen, t0, t1, t2, t3, t4⟩ := trodF5 Try.underlying35 h
  rw [cellsB] at hlen
  obtain ⟨c0, c1, c2, c3, c4, rfl⟩ : ∃ c0 c1 c2 c3 c4, cs = [c0, c1, c2, c3, c4] := by
    match cs, hlen with
    | [a, b, c, d, e], _ => exact ⟨a, b, c, d, e, rfl⟩
  rw [hx1]
  dsimp only at t0 t1 t2 t3 t4
  rw [celO] at t0
  rw [celE] at t1
  rw [cel1] at t2 t3
  rw [cel2] at t4
  simp only [List.drop_zero, List.drop_succ_cons, List.take_succ_cons, List.take_zero] at t0 t1 t2 t3 t4
  obtain ⟨sq, e2, f2, w2⟩ := DataW.trod_int Try.underlying2 t2
  obtain ⟨fl, e3, f3, w3⟩ := DataW.trod_int Try.underlying2 t3
  obtain ⟨kp, e4, f4, w4⟩ := DataW.trod_int Try.underlying3 t4
  simp only [List.cons.injEq, and_true] at e2 e3 e4
  subst e2 e3 e4 f2 f3 f4
  obtain ⟨po, no, co, os, e0, ho, wo⟩ := open_objs t0
  obtain ⟨pt, nt, ct, l, e1, hl, wl⟩ := open_ents_cells t1
  simp only [List.cons.injEq, and_true] at e0 e1
  subst e0 e1
  refine ⟨⟨po, no, co, pt, nt, ct, sq, fl, kp⟩, ⟨os, l, sq, fl, kp⟩, rfl, ⟨ho, hl, rfl, rfl, rfl⟩, fun hw => ?_⟩
  have hwo := wo (weights_struct Try.underlying35 hw (i := 0) rfl rfl)
  have hwl : ∀ n ∈ y1.1.weights Try.prog 33, n ≤ 140737488351232 := weights_struct Try.underlying35 hw (i := 1) rfl rfl
  refine ⟨hwo.1, hwo.2, ?_, w2, w3, w4⟩
  rcases wl with rfl | ⟨es, sp, h1, h2⟩
  · simp
  · rw [h1] at hwl
    have := (weights_slice Try.underlying33 hwl).1
    rw [bytesOf26] at this
    show l.length ≤ _
    omega
theorem open_box {v : Value} {d : DataW H} {p : List MemPlace} (hval : Value.okWide Try.prog W .any b0 35 v) (h : DataW.Trod enc Try.prog W base spare held 35 v d p) :
    ∃ r b, v = RB.val r ∧ BoxOf W W.heap.size b r ∧ ((∀ n ∈ d.weights Try.prog 35, n ≤ 140737488351232) → b.Ok) := by
  obtain ⟨cs, rfl, hsz⟩ := okWide_struct Try.underlying35 hval
  obtain ⟨fuel, hf⟩ := h
  obtain ⟨r, b, h1, h2, h3⟩ := open_box_cells hf
  refine ⟨r, b, ?_, h2, h3⟩
  have : cs = (encB r).toArray := by
    apply Array.ext'
    simpa [Value.cells] using h1
  rw [this]
  rfl
end
end Go.Proofs.Ythgkgjcnmahacaa
end

section
/- Where an object of an id stands, walked: the library's BinarySearchFunc at objects. -/
set_option linter.unusedSimpArgs false
set_option linter.unusedVariables false
namespace Go.Proofs.Ythgkgjcnmahacaa
open Go.RowKit Go.OpenShut

/-- How many objects of lesser ids there are; whether the next one is of this id. -/
def lowN (os : List (ByteArray × JV)) (id : ByteArray) : Nat := (os.takeWhile (fun p => decide (cmpN p.1 id < 0))).length
def isAt (os : List (ByteArray × JV)) (id : ByteArray) : Bool := match os[lowN os id]? with
  | some p => decide (p.1 = id)
  | none => false
/-- Objects rise by their ids. -/
def Rising (os : List (ByteArray × JV)) : Prop := ∀ (i j : Nat) p q, i < j → os[i]? = some p → os[j]? = some q → cmpN p.1 q.1 < 0
theorem lowN_of : ∀ {os : List (ByteArray × JV)} {id : ByteArray} {a : Nat}, a ≤ os.length → (∀ k x, k < a → os[k]? = some x → cmpN x.1 id < 0) → (∀ k x, a ≤ k → os[k]? = some x → ¬ cmpN x.1 id < 0) → lowN os id = a
  | [], id, a, h, _, _ => by simp [lowN]; simp at h; omega
  | p :: os, id, 0, h, h1, h2 => by
    have := h2 0 p (Nat.le_refl _) rfl
    simp [lowN, List.takeWhile_cons, this]
  | p :: os, id, a + 1, h, h1, h2 => by
    have h0 := h1 0 p (by omega) rfl
    have ih := lowN_of (os := os) (id := id) (a := a) (by simpa using h) (fun k x hk hx => h1 (k + 1) x (by omega) (by simpa using hx)) (fun k x hk hx => h2 (k + 1) x (by omega) (by simpa using hx))
    unfold lowN at ih ⊢
    rw [List.takeWhile_cons, if_pos (by simpa using h0)]
    simp [ih]
theorem cmpN_lt_trans {a b c : ByteArray} (h1 : cmpN a b < 0) (h2 : ¬ cmpN c b < 0) : cmpN a c < 0 := by
  by_cases h : cmpN a c < 0
  · exact h
  · exact absurd h1 (cmpB_ntrans _ _ _ h h2)
theorem Rising.low {os : List (ByteArray × JV)} (hr : Rising os) {id : ByteArray} {h : Nat} {x : ByteArray × JV} (hx : os[h]? = some x) (hc : cmpN x.1 id < 0) : ∀ k y, k < h + 1 → os[k]? = some y → cmpN y.1 id < 0 := by
  intro k y hk hy
  by_cases e : k = h
  · subst e
    rw [hx] at hy
    cases hy
    exact hc
  · have := hr k h y x (by omega) hy hx
    by_cases g : cmpN y.1 id < 0
    · exact g
    · have h3 := cmpN_neg y.1 x.1
      have : ¬ cmpN y.1 x.1 < 0 := cmpB_ntrans _ _ _ g (by have h4 := cmpN_neg x.1 id; show ¬ cmpN id x.1 < 0; omega)
      omega
theorem Rising.high {os : List (ByteArray × JV)} (hr : Rising os) {id : ByteArray} {h : Nat} {x : ByteArray × JV} (hx : os[h]? = some x) (hc : ¬ cmpN x.1 id < 0) : ∀ k y, h ≤ k → os[k]? = some y → ¬ cmpN y.1 id < 0 := by
  intro k y hk hy
  by_cases e : k = h
  · subst e
    rw [hx] at hy
    cases hy
    exact hc
  · have h1 := hr h k x y (by omega) hx hy
    have h2 := cmpN_neg x.1 y.1
    exact cmpB_ntrans _ _ _ (by show ¬ cmpN y.1 x.1 < 0; omega) hc

def Lows (os : List (ByteArray × JV)) (id : ByteArray) (a : Nat) : Prop := ∀ k x, k < a → os[k]? = some x → cmpN x.1 id < 0
def Highs (os : List (ByteArray × JV)) (id : ByteArray) (b : Nat) : Prop := ∀ k x, b ≤ k → os[k]? = some x → ¬ cmpN x.1 id < 0
abbrev placeF : Value := .func (.func 96) #[] #[]
set_option maxRecDepth 100000 in
theorem place1_any (x : RM) (id : ByteArray) (w : World) :
    Calls Try.prog 96 #[x.val, .string id] w fun e w' => e = .returned (.int .i64 (cmpN x.name id)) ∧ Below w.heap.size w w' := by
  obtain ⟨nm, k, n, s, pl, nl, cl, pm, nm', cm⟩ := x
  dsimp only [RM.val]
  have hB : Below w.heap.size w (w.alloc (.cells #[.string nm, .int .i64 k, .int .i64 n, .string s, .slice pl nl cl, .slice pm nm' cm] 46)) := (Below.refl _ _).alloc (Nat.le_refl _) _
  go_enter Try.func96, Try.ntmps96
  go_wp2_with (go_at_call 55; refine (compare_any _ _ _).mono ?_; rintro e w' ⟨rfl, rfl⟩)
  go_ret
  exact ⟨rfl, hB⟩

set_option maxRecDepth 100000 in
set_option maxHeartbeats 2000000 in
theorem binarySearch_any (w : World) (p : Option Addr) (n c : Nat) (os : List (ByteArray × JV)) (id : ByteArray) (hv : ObjsOf w w.heap.size os (.slice p n c)) (hr : Rising os) (hlen : os.length ≤ 1466015503658) :
    Calls Try.prog 95 #[.slice p n c, .string id, placeF] w fun e w' => e = .returned (.tuple #[.int .i64 (lowN os id : Nat), .bool (isAt os id)]) ∧ Below w.heap.size w w' := by
  obtain ⟨rms, hv, hms⟩ := hv
  have hn := rd_nlen hv
  have hlm := hms.len
  have HV := Lib.hid hv
  have HR := Lib.hid hr
  have HN : Hid (os.length = n ∧ rms.length = n) := ⟨by omega, by omega⟩
  have HM := Lib.hid hms.name
  have hn1 : n ≤ 1466015503658 := by omega
  clear hv hr hn hlm hms hlen
  go_enter Try.func95, Try.ntmps95
  go_wp2_with fail
  go_loopw [9, 10] (fun i j wr => ∃ a b : Nat, a ≤ b ∧ b ≤ n ∧ i = .int .i64 a ∧ j = .int .i64 b ∧ Lows os id a ∧ Highs os id b ∧ Below w.heap.size w wr) (fun i j _ => (intOf j).toNat - (intOf i).toNat)
  case atStart => exact ⟨0, n, Nat.zero_le _, Nat.le_refl _, rfl, rfl, fun k x h => by omega, fun k x h1 h2 => by have := (List.getElem?_eq_some_iff.1 h2).1; have := HN.out; omega, Below.refl _ _⟩
  case round =>
    obtain ⟨a, b, hab, hbn, rfl, rfl, hlo, hhi, hbr⟩ := hrel
    by_cases hlt : a < b
    · obtain ⟨h, hh⟩ : ∃ h, (a + b) / 2 = h := ⟨_, rfl⟩
      have h1 : a ≤ h ∧ h < b := by omega
      have eh : ((a : Int) + (b : Int)) / 2 = (h : Int) := by omega
      have h0 : (0 : Int) ≤ (h : Int) := Int.natCast_nonneg _
      have h2 : (h : Int) < (n : Int) := by omega
      obtain ⟨y, hy⟩ : ∃ x, os[h]? = some x := ⟨_, List.getElem?_eq_getElem (by have := HN.out; omega)⟩
      obtain ⟨x, hx⟩ : ∃ x, rms[h]? = some x := ⟨_, List.getElem?_eq_getElem (by have := HN.out; omega)⟩
      have hyn := HM.out h y x hy hx
      obtain ⟨b1, o1, rfl, hb1, hc1⟩ := rd_at' (HV.out.below hbr (Nat.le_refl _)) hx
      have f0 := hc1 0 _ rfl
      have f1 := hc1 1 _ rfl
      have f2 := hc1 2 _ rfl
      have f3 := hc1 3 _ rfl
      have f4 := hc1 4 _ rfl
      have f5 := hc1 5 _ rfl
      rw [Nat.add_zero] at f0
      have HBR := Lib.hid hbr
      clear hx hc1 hbr hh
      by_cases hc : cmpN y.1 id < 0
      · have HL : Lows os id (h + 1) := HR.out.low hy hc
        have HC : Hid (cmpN x.name id < 0) := by rw [← hyn]; exact hc
        clear hy hc hyn hlo
        go_wp2_with (go_at_call 96; refine (place1_any x id _).mono ?_; rintro e w1 ⟨rfl, hb1'⟩; have hcc := HC.out)
        go_roundw
        case rel => exact ⟨h + 1, b, by omega, hbn, by go_num, rfl, HL, hhi, HBR.out.trans (hb1'.mono HBR.out.size)⟩
        case measure => simp [intOf]; omega
      · have HL : Highs os id h := HR.out.high hy hc
        have HC : Hid (¬ cmpN x.name id < 0) := by rw [← hyn]; exact hc
        clear hy hc hyn hhi
        go_wp2_with (go_at_call 96; refine (place1_any x id _).mono ?_; rintro e w1 ⟨rfl, hb1'⟩; have hcc := HC.out)
        go_roundw
        case rel => exact ⟨a, h, by omega, by omega, rfl, rfl, hlo, HL, HBR.out.trans (hb1'.mono HBR.out.size)⟩
        case measure => simp [intOf]; omega
    · obtain rfl : a = b := by omega
      have hd0 : decide ((a : Int) < (a : Int)) = false := by simp
      have hd1 : ¬ ((a : Int) < (a : Int)) := by omega
      clear hlt hab
      have HLOW := Lib.hid (lowN_of (by have := HN.out; omega) hlo hhi)
      clear hlo hhi
      by_cases hlt2 : a < n
      · obtain ⟨y, hy⟩ : ∃ x, os[a]? = some x := ⟨_, List.getElem?_eq_getElem (by have := HN.out; omega)⟩
        obtain ⟨x, hx⟩ : ∃ x, rms[a]? = some x := ⟨_, List.getElem?_eq_getElem (by have := HN.out; omega)⟩
        have hyn := HM.out a y x hy hx
        obtain ⟨b1, o1, rfl, hb1, hc1⟩ := rd_at' (HV.out.below hbr (Nat.le_refl _)) hx
        have f0 := hc1 0 _ rfl
        have f1 := hc1 1 _ rfl
        have f2 := hc1 2 _ rfl
        have f3 := hc1 3 _ rfl
        have f4 := hc1 4 _ rfl
        have f5 := hc1 5 _ rfl
        rw [Nat.add_zero] at f0
        have HIS : Hid (isAt os id = decide (x.name = id)) := by unfold Hid isAt; rw [HLOW.out, hy]; show decide (y.1 = id) = _; rw [hyn]
        have HBR := Lib.hid hbr
        have ha0 : (0 : Int) ≤ (a : Int) := Int.natCast_nonneg _
        have ha1 : (a : Int) < (n : Int) := by omega
        have hd : decide ((a : Int) < (n : Int)) = true := by simpa using ha1
        have HEQ : Hid ((cmpN x.name id == 0) = decide (x.name = id)) := by
          unfold Hid
          rw [Bool.eq_iff_iff]
          simp only [beq_iff_eq, decide_eq_true_eq]
          exact ⟨cmpN_eq, fun h => by rw [h]; exact cmpN_self _⟩
        clear hx hc1 hbr hy hyn
        go_wp2_with (go_at_call 96; refine (place1_any x id _).mono ?_; rintro e w1 ⟨rfl, hb1'⟩)
        go_ret2
        refine ⟨?_, HBR.out.trans (hb1'.mono HBR.out.size)⟩
        rw [HIS.out, ← HEQ.out, HLOW.out]
        rfl
      · obtain rfl : a = n := by omega
        have HIS : Hid (isAt os id = false) := by unfold Hid isAt; rw [HLOW.out, List.getElem?_eq_none (by have := HN.out; omega)]
        go_wp2_with fail
        go_ret2
        refine ⟨?_, hbr⟩
        rw [HIS.out, HLOW.out]
        rfl

set_option maxRecDepth 100000 in
set_option maxHeartbeats 2000000 in
theorem placeO_any (b : BoxD) (r : RB) (id : ByteArray) (w : World) (hb : BoxOf w w.heap.size b r) (hr : Rising b.objs) (ob : b.Ok) :
    Calls Try.prog 59 #[r.val, .string id] w fun e w' => e = .returned (.tuple #[.int .i64 (lowN b.objs id : Nat), .bool (isAt b.objs id)]) ∧ Below w.heap.size w w' := by
  have ho := hb.objs
  obtain ⟨po, no, co, pt, nt, ct, sq, fl, kp⟩ := r
  dsimp only [RB.val] at *
  have hB : Below w.heap.size w (w.alloc (.cells #[.slice po no co, .slice pt nt ct, .int .i64 sq, .int .i64 fl, .int .i64 kp] 35)) := (Below.refl _ _).alloc (Nat.le_refl _) _
  have HC := Lib.hid (binarySearch_any _ po no co b.objs id (ho.under hB hB.size) hr ob.objs)
  have HB := Lib.hid hB
  clear hb hr ob ho hB
  go_enter Try.func59, Try.ntmps59
  go_wp2_with (go_at_call 95; refine HC.out.mono ?_; rintro e w1 ⟨rfl, hb1⟩)
  go_ret2
  exact ⟨rfl, HB.out.trans (hb1.mono HB.out.size)⟩
end Go.Proofs.Ythgkgjcnmahacaa
end

section
/- store.Find, walked: the library's IndexFunc at objects. -/
set_option linter.unusedSimpArgs false
set_option linter.unusedVariables false
namespace Go.Proofs.Ythgkgjcnmahacaa
open Go.RowKit Go.OpenShut

/-- A box in a block of its own. -/
def BoxAt (W : World) (g : Nat) (r : RB) : Prop := W.heap[g]? = some (.cells #[.slice r.po r.no r.co, .slice r.pt r.nt r.ct, .int .i64 r.sq, .int .i64 r.fl, .int .i64 r.kp] 35 (0, 0))
theorem BoxAt.cell {W : World} {g : Nat} {r : RB} (h : BoxAt W g r) (j : Nat) {u : Value} (hu : (encB r)[j]? = some u) : W.cell? ⟨g, j, none⟩ = some u := by
  unfold BoxAt at h
  rw [cell_of_row W g j _ _ _ h, ← Array.getElem?_toList]
  exact hu
theorem BoxAt.frozen {W : World} {g : Nat} {r : RB} (h : BoxAt W g r) (j : Nat) : W.frozen? ⟨g, j, none⟩ = false := by
  unfold BoxAt at h
  simp [World.frozen?, h]
theorem BoxAt.under {W W' : World} {g B : Nat} {r : RB} (h : BoxAt W g r) (hb : Below B W W') (hg : g < B) : BoxAt W' g r := (hb.block g hg).trans h
theorem BoxAt.lt {W : World} {g : Nat} {r : RB} (h : BoxAt W g r) : g < W.heap.size := (Array.getElem?_eq_some_iff.1 h).1

/-- The object of an id. -/
def findJ (os : List (ByteArray × JV)) (id : ByteArray) : Option JV := (os.find? (fun p => decide (p.1 = id))).map (·.2)
abbrev isIdV (g : Nat) : Value := .func (.func 71) #[] #[.pointer (some ⟨g, 0, none⟩)]

set_option maxRecDepth 100000 in
theorem isIdO_any (x : RM) (g : Nat) (name : ByteArray) (w : World) (hg : w.cell? ⟨g, 0, none⟩ = some (.string name)) :
    Calls Try.prog 71 #[x.val, .pointer (some ⟨g, 0, none⟩)] w fun e w' => e = .returned (.bool (decide (x.name = name))) ∧ Below w.heap.size w w' := by
  obtain ⟨nm, k, n, s, pl, nl, cl, pm, nm', cm⟩ := x
  dsimp only [RM.val]
  have hlt := (cell_some hg).2
  have hne := World.new_ne w ⟨g, 0, none⟩ hg
  have hB : Below w.heap.size w (w.alloc (.cells #[.string nm, .int .i64 k, .int .i64 n, .string s, .slice pl nl cl, .slice pm nm' cm] 46)) := (Below.refl _ _).alloc (Nat.le_refl _) _
  have hc := bcs hB hlt hg
  have hq := str_beq nm name
  have HQ := Lib.hid hq
  clear hq
  go_enter Try.func71, Try.ntmps71
  go_wp2_with fail
  go_ret
  exact ⟨by rw [← HQ.out]; rfl, hB⟩

set_option maxRecDepth 100000 in
set_option maxHeartbeats 1000000 in
theorem indexO_any (w : World) (p : Option Addr) (n c : Nat) (rms : List RM) (hv : Rd w w.heap.size encM 6 (.slice p n c) rms) (g : Nat) (name : ByteArray) (hg : w.cell? ⟨g, 0, none⟩ = some (.string name)) (hlen : rms.length ≤ 1466015503658) :
    Calls Try.prog 70 #[.slice p n c, isIdV g] w fun e w' => e = .returned (.int .i64 (placeI (rms.findIdx? (nameB name)))) ∧ Below w.heap.size w w' := by
  have hn := rd_nlen hv
  subst hn
  have HV := Lib.hid hv
  have hgl := (cell_some hg).2
  clear hv
  go_enter Try.func70, Try.ntmps70
  go_wp2_with fail
  go_loopw [8] (fun i wr => ∃ k : Nat, k ≤ rms.length ∧ i = .int .i64 k ∧ Hid (∀ (j : Nat) y, j < k → rms[j]? = some y → nameB name y = false) ∧ Below w.heap.size w wr) (fun i _ => rms.length - (intOf i).toNat)
  case atStart => exact ⟨0, Nat.zero_le _, rfl, fun j y h => by omega, Below.refl _ _⟩
  case round =>
    obtain ⟨k, hk, rfl, hno, hbr⟩ := hrel
    by_cases hlt : k < rms.length
    · obtain ⟨x, hx⟩ : ∃ x, rms[k]? = some x := ⟨_, List.getElem?_eq_getElem hlt⟩
      obtain ⟨b1, o1, rfl, hb1, hc1⟩ := rd_at' (HV.out.below hbr (Nat.le_refl _)) hx
      have f0 := hc1 0 _ rfl
      have f1 := hc1 1 _ rfl
      have f2 := hc1 2 _ rfl
      have f3 := hc1 3 _ rfl
      have f4 := hc1 4 _ rfl
      have f5 := hc1 5 _ rfl
      rw [Nat.add_zero] at f0
      have HX := Lib.hid hx
      have hz := hbr.size
      have HBR := Lib.hid hbr
      have hgr := Lib.hid (bcs hbr hgl hg)
      cases hnb : nameB name x with
      | true =>
        have HF := Lib.hid (find_at HX.out hnb hno.out)
        have HNB : Hid (decide (x.name = name) = true) := hnb
        clear hx hc1 hbr hnb hno hg
        go_wp2_with (go_at_call 71; refine (isIdO_any x g name _ hgr.out).mono ?_; rintro e w1 ⟨rfl, hb1'⟩; rw [HNB.out])
        go_ret
        exact ⟨ret_int (by rw [HF.out]; rfl), HBR.out.trans (hb1'.mono HBR.out.size)⟩
      | false =>
        have HNB : Hid (decide (x.name = name) = false) := hnb
        have HNX : Hid (∀ (j : Nat) y, j < k + 1 → rms[j]? = some y → nameB name y = false) := by
          intro j y hj hy
          by_cases e : j = k
          · subst e
            rw [hx] at hy
            cases hy
            exact hnb
          · exact hno.out j y (by omega) hy
        clear hx hc1 hbr hnb hno hg
        go_wp2_with (go_at_call 71; refine (isIdO_any x g name _ hgr.out).mono ?_; rintro e w1 ⟨rfl, hb1'⟩; rw [HNB.out])
        go_roundw
        case rel => exact ⟨k + 1, by omega, by go_num, HNX, HBR.out.trans (hb1'.mono HBR.out.size)⟩
        case measure => simp [intOf]; omega
    · obtain rfl : k = rms.length := by omega
      have HF := Lib.hid (find_not (p := nameB name) (l := rms) (fun j y hy => hno.out j y (List.getElem?_eq_some_iff.1 hy).1 hy))
      go_wp2_with fail
      go_ret
      exact ⟨ret_int (by rw [HF.out]; rfl), hbr⟩

theorem find_same {os : List (ByteArray × JV)} {rms : List RM} (hl : os.length = rms.length) (hn : ∀ (i : Nat) p q, os[i]? = some p → rms[i]? = some q → p.1 = q.name) (id : ByteArray) : os.findIdx? (fun p => decide (p.1 = id)) = rms.findIdx? (nameB id) := by
  induction os generalizing rms with
  | nil =>
    have := List.eq_nil_of_length_eq_zero hl.symm
    subst this
    rfl
  | cons p os ih =>
    cases rms with
    | nil => simp at hl
    | cons q rms =>
      have h0 := hn 0 p q rfl rfl
      have ih := ih (rms := rms) (by simpa using hl) (fun i a b h1 h2 => hn (i + 1) a b (by simpa using h1) (by simpa using h2))
      rw [List.findIdx?_cons, List.findIdx?_cons, ih]
      unfold nameB
      rw [h0]
theorem findJ_some {os : List (ByteArray × JV)} {id : ByteArray} {i : Nat} (h : os.findIdx? (fun p => decide (p.1 = id)) = some i) : ∃ p, os[i]? = some p ∧ findJ os id = some p.2 := by
  induction os generalizing i with
  | nil => simp at h
  | cons p os ih =>
    rw [List.findIdx?_cons] at h
    unfold findJ at ih ⊢
    by_cases e : p.1 = id
    · simp [e] at h
      subst h
      exact ⟨p, rfl, by simp [List.find?_cons, e]⟩
    · simp [e] at h
      obtain ⟨j, hj, rfl⟩ := h
      obtain ⟨q, h1, h2⟩ := ih hj
      exact ⟨q, by simpa using h1, by simpa [List.find?_cons, e] using h2⟩
theorem findJ_none {os : List (ByteArray × JV)} {id : ByteArray} (h : os.findIdx? (fun p => decide (p.1 = id)) = none) : findJ os id = none := by
  unfold findJ
  rw [List.findIdx?_eq_none_iff] at h
  rw [List.find?_eq_none.2 (fun x hx => by have := h x hx; simpa using this)]
  rfl

/-- What Find answers. -/
def FindRet (w : World) (o : Option JV) (e : Ending) (w' : World) : Prop :=
  ∃ r, e = .returned (.tuple #[RV.val r, .bool o.isSome]) ∧ TreeOf w' w'.heap.size (o.getD JV.zero) r ∧ Below w.heap.size w w'

set_option maxRecDepth 100000 in
set_option maxHeartbeats 2000000 in
theorem find_any (b : BoxD) (r : RB) (id : ByteArray) (w : World) (hb : BoxOf w w.heap.size b r) (ob : b.Ok) :
    Calls Try.prog 26 #[r.val, .string id] w (FindRet w (findJ b.objs id)) := by
  have ho := hb.objs
  have hlo := ob.objs
  obtain ⟨po, no, co, pt, nt, ct, sq, fl, kp⟩ := r
  dsimp only [RB.val] at *
  obtain ⟨rms, hrd, hms⟩ := ho
  have hn := rd_nlen hrd
  have hlm := hms.len
  have hA0 : BoxAt (((w.alloc (.cells #[.slice po no co, .slice pt nt ct, .int .i64 sq, .int .i64 fl, .int .i64 kp] 35)).alloc (.cells #[.string id] 9)).alloc (.cells #[.int .i64 0, .int .i64 0, .string ⟨#[]⟩, .slice none 0 0, .slice none 0 0] 25)) w.heap.size ⟨po, no, co, pt, nt, ct, sq, fl, kp⟩ := heap_alloc_lt (by simp; omega) (heap_alloc_lt (by simp) (heap_alloc_at rfl))
  have hS0 : (((w.alloc (.cells #[.slice po no co, .slice pt nt ct, .int .i64 sq, .int .i64 fl, .int .i64 kp] 35)).alloc (.cells #[.string id] 9)).alloc (.cells #[.int .i64 0, .int .i64 0, .string ⟨#[]⟩, .slice none 0 0, .slice none 0 0] 25)).heap[w.heap.size + 1]? = some (.cells #[.string id] 9 (0, 0)) := heap_alloc_lt (by simp) (heap_alloc_at (by simp))
  have hZ0 : VAt (((w.alloc (.cells #[.slice po no co, .slice pt nt ct, .int .i64 sq, .int .i64 fl, .int .i64 kp] 35)).alloc (.cells #[.string id] 9)).alloc (.cells #[.int .i64 0, .int .i64 0, .string ⟨#[]⟩, .slice none 0 0, .slice none 0 0] 25)) (w.heap.size + 1 + 1) RV.zero := heap_alloc_at (by simp)
  have hB0 : Below w.heap.size w (((w.alloc (.cells #[.slice po no co, .slice pt nt ct, .int .i64 sq, .int .i64 fl, .int .i64 kp] 35)).alloc (.cells #[.string id] 9)).alloc (.cells #[.int .i64 0, .int .i64 0, .string ⟨#[]⟩, .slice none 0 0, .slice none 0 0] 25)) := (below2 w _ _).alloc (by simp; omega) _
  have HRD := Lib.hid hrd
  have HMS := Lib.hid hms
  have HN : Hid (b.objs.length = no ∧ rms.length = no) := ⟨by omega, by omega⟩
  clear hb ob hrd hms hn hlm
  go_enter Try.func26, Try.ntmps26
  go_upto_region 1 with fail
  obtain ⟨W0, hW0⟩ : ∃ W0, (((w.alloc (.cells #[.slice po no co, .slice pt nt ct, .int .i64 sq, .int .i64 fl, .int .i64 kp] 35)).alloc (.cells #[.string id] 9)).alloc (.cells #[.int .i64 0, .int .i64 0, .string ⟨#[]⟩, .slice none 0 0, .slice none 0 0] 25)) = W0 := ⟨_, rfl⟩
  rw [hW0] at hA0 hS0 hZ0 hB0 ⊢
  clear hW0
  have c0 := hA0.cell 0 rfl
  have hs0 : W0.cell? ⟨w.heap.size + 1, 0, none⟩ = some (.string id) := by rw [cell_of_row W0 _ 0 _ _ _ hS0]; rfl
  have HS := Lib.hid hs0
  have HC := Lib.hid (indexO_any W0 po no co rms (HRD.out.below hB0 hB0.size) (w.heap.size + 1) id HS.out (by have := HN.out; omega))
  have HB := Lib.hid hB0
  clear hs0 hB0 hS0
  go_upto_region 2 with (go_at_call 70; refine HC.out.mono ?_; rintro e w1 ⟨rfl, hb1⟩)
  have hz0 := hZ0.lt
  have HA1 := hA0.under hb1 hA0.lt
  have HZ1 := hZ0.under hb1 hz0
  have HB1 := Lib.hid (HB.out.trans (hb1.mono HB.out.size))
  have hz1 := HZ1.lt
  have c0 := HA1.cell 0 rfl
  dsimp only at c0
  have z0 := HZ1.cell 0 rfl
  have z1 := HZ1.cell 1 rfl
  have z2 := HZ1.cell 2 rfl
  have z3 := HZ1.cell 3 rfl
  have z4 := HZ1.cell 4 rfl
  have y0 := HZ1.frozen 0
  have y1 := HZ1.frozen 1
  have y2 := HZ1.frozen 2
  have y3 := HZ1.frozen 3
  have y4 := HZ1.frozen 4
  dsimp only [RV.zero] at z0 z1 z2 z3 z4
  have HZ := Lib.hid HZ1
  clear HA1 HZ1 hA0 hZ0 hb1 HC HS hz0
  cases hf : rms.findIdx? (nameB id) with
  | none =>
    have HG : Hid (findJ b.objs id = none) := findJ_none (by rw [find_same (by have := HN.out; omega) HMS.out.name]; exact hf)
    have hn1 : placeI (none : Option Nat) = -1 := rfl
    rw [hn1]
    clear hf hn1
    go_wp2_with fail
    have HZ2 := HZ.out.stored RV.zero
    refine bodyPost_ret (v := .tuple #[RV.val RV.zero, .bool false]) (by simp [results, Try.results26, go_sem, RV.zero, z0, z1, z2, z3, z4]) rfl ⟨RV.zero, by rw [HG.out]; rfl, by rw [HG.out]; exact TreeOf.zero _ _, Below.stored HB1.out (by omega) RV.zero⟩
  | some i =>
    obtain ⟨p, hp, hg⟩ := findJ_some (by rw [find_same (by have := HN.out; omega) HMS.out.name]; exact hf)
    have HG := Lib.hid hg
    have hi := (List.getElem?_eq_some_iff.1 hp).1
    obtain ⟨q, hq⟩ : ∃ q, rms[i]? = some q := ⟨_, List.getElem?_eq_getElem (by have := HN.out; omega)⟩
    have hTq := HMS.out.val i p q hp hq
    have HTq := Lib.hid (hTq.under HB1.out (Nat.le_refl _))
    obtain ⟨b1, o1, rfl, hb1, hc1⟩ := rd_at' (HRD.out.below HB1.out (Nat.le_refl _)) hq
    have f0 := hc1 0 _ rfl
    have f1 := hc1 1 _ rfl
    have f2 := hc1 2 _ rfl
    have f3 := hc1 3 _ rfl
    have f4 := hc1 4 _ rfl
    have f5 := hc1 5 _ rfl
    have hn1 : placeI (some i) = (i : Int) := rfl
    rw [hn1]
    have hi0 : (0 : Int) ≤ (i : Int) := Int.natCast_nonneg _
    have hi1 : (i : Int) < (no : Int) := by have := HN.out; omega
    clear hf hp hg hq hTq hc1 hn1
    go_wp2_with fail
    have HZ2 := HZ.out.stored q.v
    refine bodyPost_ret (v := .tuple #[RV.val q.v, .bool true]) (by simp [results, Try.results26, go_sem, z0, z1, z2, z3, z4]) rfl ⟨q.v, by rw [HG.out]; rfl, ?_, Below.stored HB1.out (by omega) q.v⟩
    rw [HG.out]
    exact HTq.out.under (Below.stored (Below.refl _ _) (by omega) q.v) (by have := HB1.out.size; simp; omega)
end Go.Proofs.Ythgkgjcnmahacaa
end

section
/- slices.Clone at api.Object, walked: a slice of the call's own with the same elements. -/
set_option linter.unusedSimpArgs false
set_option linter.unusedVariables false
namespace Go.Proofs.Ythgkgjcnmahacaa
open Go.RowKit

set_option maxRecDepth 100000 in
set_option maxHeartbeats 400000 in
theorem cloneO_any {α : Type} {enc : α → List Value} (C : Codec enc 6) (w : World) (p : Option Addr) (n c : Nat) (xs : List α) (hv : Rd w w.heap.size enc 6 (.slice p n c) xs) (hsz : xs.length * 96 ≤ 140737488355328) :
    Calls Try.prog 98 #[.slice p n c] w fun e w' => ∃ p' c', e = .returned (.slice p' n c') ∧ (p = none ↔ p' = none) ∧ Own w' w.heap.size 46 enc 6 (.slice p' n c') xs ∧ Below w.heap.size w w' := by
  have hn : n = xs.length := by
    obtain ⟨_, _, e, _⟩ := hv
    simp only [Value.slice.injEq] at e; exact e.2.1
  subst hn
  have HS := Lib.hid hsz
  have HV := Lib.hid hv
  cases p with
  | none =>
    have h0 : xs.length = 0 ∧ c = 0 := by
      obtain ⟨p', cap, he, hlc, hcm, hp0, hp⟩ := hv
      simp only [Value.slice.injEq] at he
      obtain ⟨rfl, h1, rfl⟩ := he
      have := hp0 rfl
      omega
    obtain ⟨h0, rfl⟩ := h0
    obtain rfl := List.eq_nil_of_length_eq_zero h0
    have hnil : ∀ W, (Go.binOp .eql 32 (.slice none 0 0) (.slice none 0 0)).run Try.prog W = .ok (.bool true) W := fun W => Lib.run_eql_slice_nil W 32 46 none 0 0 0 0 Try.underlying32
    clear hv
    go_enter Try.func98, Try.ntmps98
    go_wp2
    go_ret
    exact ⟨none, 0, rfl, by simp, Own.nil w _ _, Below.refl _ _⟩
  | some a =>
    have hnil : ∀ W, (Go.binOp .eql 32 (.slice (some a) xs.length c) (.slice none 0 0)).run Try.prog W = .ok (.bool false) W := fun W => Lib.run_eql_slice_nil W 32 46 (some a) xs.length c 0 0 Try.underlying32
    have hO : Own (w.alloc (.cells #[] 46)) w.heap.size 46 enc 6 (.slice (some ⟨w.heap.size, 0, none⟩) 0 0) ([] : List α) := Own.made (Nat.le_refl _)
    have hB0 : Below w.heap.size w (w.alloc (.cells #[] 46)) := (Below.refl _ _).alloc (Nat.le_refl _) _
    have HR := Lib.hid (HV.out.below hB0 (Nat.le_refl _))
    clear hv
    go_enter Try.func98, Try.ntmps98
    go_wp2_with (at_builtin; refine wpList_append_rd slO C (w.alloc (.cells #[] 46)) rfl (.tmp 5) (.tmp 6) rfl (v := .slice (some ⟨w.heap.size, 0, none⟩) 0 0) rfl rfl hO HR.out (by have := HS.out; simp; unfold maxLen; omega) (by have := HS.out; simp; omega) (by simp) ?_; intro v1 w1 ho1 hg1 hat1)
    have hb1 : Below w.heap.size w w1 := Below.appended hB0 hg1 hO (by simp)
    rw [List.nil_append] at ho1
    obtain ⟨p1, c1, rfl, _, _⟩ := ho1.len
    have hp1 : p1 ≠ none := by
      rintro rfl
      rcases hat1 with h | h <;> simp [Value.ownBlock] at h
    go_ret
    refine ⟨p1, c1, rfl, ⟨(fun h => by cases h), (fun h => absurd h hp1)⟩, ho1, hb1⟩
end Go.Proofs.Ythgkgjcnmahacaa
end
