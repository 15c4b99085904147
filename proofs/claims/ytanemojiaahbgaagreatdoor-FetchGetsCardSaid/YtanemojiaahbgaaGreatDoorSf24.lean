import Derived.Test.YtanemojiaahbgaaGreatDoorSf12
import Derived.Test.YtanemojiaahbgaaGreatDoorSf13
import Derived.Test.YtanemojiaahbgaaGreatDoorSf10
import Derived.Deep.RegionLaw
import Derived.Test.YtanemojiaahbgaaGreatDoorSf11
import Derived.WalkLawsBesides
import Derived.BigQuiet
import Derived.Test.YtanemojiaahbgaaGreatDoorSf07
import Derived.Test.YtanemojiaahbgaaGreatDoorSf23
import Derived.Test.YtanemojiaahbgaaGreatDoorSf16
import Derived.Test.YtanemojiaahbgaaGreatDoorSf19
import Derived.Test.YtanemojiaahbgaaGreatDoorSf21
import Derived.Test.YtanemojiaahbgaaGreatDoorSf08
import Derived.OrdersHeld
import Derived.StillTail
import Derived.Deep.RegionHeld3
import Derived.KernelRfl
section
/- slices.Clone at api.Object, walked: a slice of the call's own with the same elements. -/
set_option linter.unusedSimpArgs false
set_option linter.unusedVariables false
namespace Go.Proofs.YtanemojiaahbgaaGreatDoor
open Go.RowKit

end Go.Proofs.YtanemojiaahbgaaGreatDoor
end

section
/- store.own: a box with lists of its own, walked. -/
set_option linter.unusedSimpArgs false
set_option linter.unusedVariables false
namespace Go.Proofs.YtanemojiaahbgaaGreatDoor
open Go.RowKit Go.OpenShut

/-- A box whose lists are the call's own, from block base on; its values lie below B. -/
structure NewBox (W : World) (base B : Nat) (b : BoxD) (r : RB) : Prop where
  objs : ∃ ros, Own W base 40 encM 6 (.slice r.po r.no r.co) ros ∧ MemsOf W B b.objs ros
  trail : Own W base 121 encE 3 (.slice r.pt r.nt r.ct) b.trail
  ok : ∀ e ∈ b.trail, e.ok
  seq : b.seq = r.sq
  floor : b.floor = r.fl
  keep : b.keep = r.kp
theorem NewBox.box {W : World} {base B : Nat} {b : BoxD} {r : RB} (h : NewBox W base B b r) (hB : B ≤ W.heap.size) : BoxOf W W.heap.size b r := by
  obtain ⟨ros, h1, h2⟩ := h.objs
  exact ⟨⟨ros, h1.rd codecM, h2.len, h2.name, fun i p q a c => (h2.val i p q a c).mono hB⟩, rdE_iff.2 ⟨h.ok, h.trail.rd codecE⟩, h.seq, h.floor, h.keep⟩
theorem NewBox.below {W W' : World} {base B : Nat} {b : BoxD} {r : RB} (h : NewBox W base B b r) (hb : Below W.heap.size W W') (hB : B ≤ W.heap.size) : NewBox W' base B b r := by
  obtain ⟨ros, h1, h2⟩ := h.objs
  exact ⟨⟨ros, h1.below hb (Nat.le_refl _), h2.under (hb.mono hB) (Nat.le_refl _)⟩, h.trail.below hb (Nat.le_refl _), h.ok, h.seq, h.floor, h.keep⟩
theorem NewBox.mono {W : World} {base base' B B' : Nat} {b : BoxD} {r : RB} (h : NewBox W base B b r) (hb : base' ≤ base) (hB : B ≤ B') : NewBox W base' B' b r := by
  obtain ⟨ros, h1, h2⟩ := h.objs
  exact ⟨⟨ros, h1.mono hb, h2.len, h2.name, fun i p q a c => (h2.val i p q a c).mono hB⟩, h.trail.mono hb, h.ok, h.seq, h.floor, h.keep⟩
/-- A store into another block than its lists'. -/
theorem NewBox.kept {W W' : World} {base B g : Nat} {b : BoxD} {r : RB} (h : NewBox W base B b r) (hg : W.grownBy W' (some g)) (h1 : (Value.slice r.po r.no r.co).ownBlock ≠ some g) (h2 : (Value.slice r.pt r.nt r.ct).ownBlock ≠ some g) (hBW : B ≤ W.heap.size) (hB : B ≤ g) : NewBox W' base B b r := by
  obtain ⟨ros, h3, h4⟩ := h.objs
  exact ⟨⟨ros, h3.kept hg (.inr h1), h4.under ((Below.refl B W).grown hg hBW (fun a e => by cases e; exact hB)) (Nat.le_refl _)⟩, h.trail.kept hg (.inr h2), h.ok, h.seq, h.floor, h.keep⟩

theorem BoxAt.set {W : World} {g : Nat} {r : RB} (h : BoxAt W g r) (p p' : Option Addr) (n n' c c' : Nat) :
    BoxAt ((W.setCell ⟨g, 0, none⟩ (.slice p n c)).setCell ⟨g, 1, none⟩ (.slice p' n' c')) g { r with po := p, no := n, co := c, pt := p', nt := n', ct := c' } := by
  unfold BoxAt at h ⊢
  simp [World.setCell, Array.getElem?_modify, h]
theorem BoxAt.stored {W : World} {g : Nat} {r : RB} (h : BoxAt W g r) (q : RB) :
    BoxAt (((((W.setCell ⟨g, 0, none⟩ (.slice q.po q.no q.co)).setCell ⟨g, 1, none⟩ (.slice q.pt q.nt q.ct)).setCell ⟨g, 2, none⟩ (.int .i64 q.sq)).setCell ⟨g, 3, none⟩ (.int .i64 q.fl)).setCell ⟨g, 4, none⟩ (.int .i64 q.kp)) g q := by
  unfold BoxAt at h ⊢
  simp [World.setCell, Array.getElem?_modify, h]
theorem BoxAt.kept {W W' : World} {g x : Nat} {r : RB} (h : BoxAt W x r) (hg : W.grownBy W' (some g)) (hne : x ≠ g) : BoxAt W' x r := (hg.block x h.lt (by simpa using hne)).trans h
theorem grownBy_setB (W : World) (g : Nat) (q : RB) :
    W.grownBy (((((W.setCell ⟨g, 0, none⟩ (.slice q.po q.no q.co)).setCell ⟨g, 1, none⟩ (.slice q.pt q.nt q.ct)).setCell ⟨g, 2, none⟩ (.int .i64 q.sq)).setCell ⟨g, 3, none⟩ (.int .i64 q.fl)).setCell ⟨g, 4, none⟩ (.int .i64 q.kp)) (some g) :=
  ((((grownBy_set W g 0 _).trans (grownBy_set _ g 1 _)).trans (grownBy_set _ g 2 _)).trans (grownBy_set _ g 3 _)).trans (grownBy_set _ g 4 _)

def NewRet (w : World) (B : Nat) (b : BoxD) (e : Ending) (w' : World) : Prop := ∃ r, e = .returned (RB.val r) ∧ NewBox w' w.heap.size B b r ∧ Below w.heap.size w w'

/-- Behind both clones. -/
structure OwnMid (w W : World) (B : Nat) (b : BoxD) (q : RB) : Prop where
  box : BoxAt W w.heap.size q
  zero : BoxAt W (w.heap.size + 1) RB.zero
  new : NewBox W w.heap.size B b q
  below : Below w.heap.size w W
  b1 : (Value.slice q.po q.no q.co).ownBlock ≠ some (w.heap.size + 1)
  b2 : (Value.slice q.pt q.nt q.ct).ownBlock ≠ some (w.heap.size + 1)
theorem OwnMid.mk' {w w0 w1 w2 : World} {B : Nat} {b : BoxD} {po p' p2 pt : Option Addr} {no co nt ct c' c2 : Nat} {sq fl kp : Int} {ros : List RM} (hA : BoxAt w0 w.heap.size ⟨po, no, co, pt, nt, ct, sq, fl, kp⟩) (hZ : BoxAt w0 (w.heap.size + 1) RB.zero) (hB0 : Below w.heap.size w w0) (hw : w0.heap.size = w.heap.size + 1 + 1)
    (ho1 : Own w1 w0.heap.size 40 encM 6 (.slice p' no c') ros) (hb1 : Below w0.heap.size w0 w1) (ho2 : Own w2 w1.heap.size 121 encE 3 (.slice p2 nt c2) b.trail) (hb2 : Below w1.heap.size w1 w2) (hms : MemsOf w B b.objs ros) (hBw : B ≤ w.heap.size) (hok : ∀ e ∈ b.trail, e.ok) (he : b.seq = sq ∧ b.floor = fl ∧ b.keep = kp) :
    OwnMid w ((w2.setCell ⟨w.heap.size, 0, none⟩ (.slice p' no c')).setCell ⟨w.heap.size, 1, none⟩ (.slice p2 nt c2)) B b ⟨p', no, c', p2, nt, c2, sq, fl, kp⟩ := by
  have hz1 := hb1.size
  have hz2 := hb2.size
  have hA2 : BoxAt w2 w.heap.size ⟨po, no, co, pt, nt, ct, sq, fl, kp⟩ := (hA.under hb1 (by omega)).under hb2 (by omega)
  have hZ2 : BoxAt w2 (w.heap.size + 1) RB.zero := (hZ.under hb1 (by omega)).under hb2 (by omega)
  have hg : w2.grownBy ((w2.setCell ⟨w.heap.size, 0, none⟩ (.slice p' no c')).setCell ⟨w.heap.size, 1, none⟩ (.slice p2 nt c2)) (some w.heap.size) := (grownBy_set w2 _ 0 _).trans (grownBy_set _ _ 1 _)
  have ho1' : Own w2 w.heap.size 40 encM 6 (.slice p' no c') ros := (ho1.below hb2 (Nat.le_refl _)).mono (by omega)
  have hbb : Below w.heap.size w w2 := (hB0.trans (hb1.mono (by omega))).trans (hb2.mono (by omega))
  have n1 : (Value.slice p' no c').ownBlock ≠ some w.heap.size := fun e => by have := (ho1.lt _ e).1; omega
  have n2 : (Value.slice p2 nt c2).ownBlock ≠ some w.heap.size := fun e => by have := (ho2.lt _ e).1; omega
  refine ⟨hA2.set _ _ _ _ _ _, hZ2.kept hg (by omega), ?_, hbb.grown hg (by omega) (fun a e => by cases e; exact Nat.le_refl _), fun e => by have := (ho1.lt _ e).1; omega, fun e => by have := (ho2.lt _ e).1; omega⟩
  exact NewBox.kept (W := w2) (g := w.heap.size) ⟨⟨ros, ho1', hms.under (hbb.mono hBw) (Nat.le_refl _)⟩, ho2.mono (by omega), hok, he.1, he.2.1, he.2.2⟩ hg n1 n2 (by omega) hBw

end Go.Proofs.YtanemojiaahbgaaGreatDoor
end

section
/- What a trail says of an id; slices read by their places. -/
set_option linter.unusedSimpArgs false
set_option linter.unusedVariables false
namespace Go.Proofs.YtanemojiaahbgaaGreatDoor
open Go.RowKit Go.OpenShut

/-- What is said of an id. -/
structure Pa where
  id : ByteArray
  was : Bool
  isb : Bool
  last : Int
deriving DecidableEq
def encP (p : Pa) : List Value := [.string p.id, .bool p.was, .bool p.isb, .int .i64 p.last]
theorem codecP : Codec encP 4 := ⟨fun _ => rfl, fun x u hu => by
  simp only [encP, List.mem_cons, List.not_mem_nil, or_false] at hu
  rcases hu with rfl | rfl | rfl | rfl <;> rfl, by decide⟩

def Pa.eqv (a b : Pa) : Bool := a.id.toList == b.id.toList && a.was == b.was && a.isb == b.isb && a.last == b.last
theorem Pa.eqv_eq (a b : Pa) : a.eqv b = decide (a = b) := by
  obtain ⟨i, x, y, s⟩ := a
  obtain ⟨j, x', y', t⟩ := b
  unfold Pa.eqv
  rw [toList_beq]
  by_cases h1 : i = j <;> by_cases h2 : x = x' <;> by_cases h3 : y = y' <;> by_cases h4 : s = t <;> simp [h1, h2, h3, h4]

theorem rd_at {α : Type} {enc : α → List Value} {sz n cap k B : Nat} {w : World} {p : Option Addr} {xs : List α} (h : Rd w B enc sz (.slice p n cap) xs) {x : α} (hx : xs[k]? = some x) :
    ∃ b o, p = some ⟨b, o, none⟩ ∧ b < B ∧ ∀ j u, (enc x)[j]? = some u → w.cell? ⟨b, o + k * sz + j, none⟩ = some u := by
  obtain ⟨p', cap', he, h1, h2, h3, h4⟩ := h
  simp only [Value.slice.injEq] at he
  obtain ⟨rfl, rfl, rfl⟩ := he
  have hk := (List.getElem?_eq_some_iff.1 hx).1
  cases p with
  | none => have := h3 rfl; omega
  | some a =>
    obtain ⟨b, o, rfl, hb, hr⟩ := h4 a rfl (by omega)
    exact ⟨b, o, rfl, hb, hr k x hx⟩
theorem rd_len {α : Type} {enc : α → List Value} {sz B : Nat} {w : World} {v : Value} {xs : List α} (h : Rd w B enc sz v xs) : ∃ p cap, v = .slice p xs.length cap ∧ xs.length ≤ cap ∧ cap ≤ 9223372036854775807 := by
  obtain ⟨p, cap, he, h1, h2, _⟩ := h
  exact ⟨p, cap, he, h1, h2⟩

theorem eqTake_snoc {α : Type} [DecidableEq α] {l m : List α} {k : Nat} {x : α} (hx : l[k]? = some x) (hy : m[k]? = some x) (h : l.take k = m.take k) : l.take (k + 1) = m.take (k + 1) := by
  rw [List.take_add_one, List.take_add_one, hx, hy, h]
theorem eqTake_ne {α : Type} [DecidableEq α] {l m : List α} {k : Nat} {x y : α} (hx : l[k]? = some x) (hy : m[k]? = some y) (h : x ≠ y) : decide (l = m) = false := by
  rw [decide_eq_false_iff_not]
  rintro rfl
  rw [hx] at hy
  exact h (by simpa using hy)

end Go.Proofs.YtanemojiaahbgaaGreatDoor
end

section
/- New boxes; a number as a value; lists of texts compared: walked. -/
set_option linter.unusedSimpArgs false
set_option linter.unusedVariables false
namespace Go.Proofs.YtanemojiaahbgaaGreatDoor
open Go.RowKit Go.OpenShut

/-- A number between two others. -/
def clampI (n hi : Int) : Int := if n < 0 then 0 else if hi < n then hi else n
theorem clamp_eq {n hi : Int} (h : 0 ≤ hi := by decide) : min (max n 0) hi = clampI n hi := by unfold clampI; split <;> (try split) <;> omega
def newB (start keep : Int) : BoxD := ⟨[], [], clampI start 9007199254740991, clampI start 9007199254740991, clampI keep 1000⟩
def newR (start keep : Int) : RB := ⟨none, 0, 0, none, 0, 0, clampI start 9007199254740991, clampI start 9007199254740991, clampI keep 1000⟩
theorem newB_of (w : World) (B : Nat) (start keep : Int) : BoxOf w B (newB start keep) (newR start keep) := ⟨ObjsOf.nil _ _, RdE.nil _ _, rfl, rfl, rfl⟩
def NewRetB (w : World) (start keep : Int) (e : Ending) (w' : World) : Prop := e = .returned (RB.val (newR start keep)) ∧ Below w.heap.size w w'
theorem ret_new {a b c d : Int} (h1 : a = b) (h2 : c = d) : Ending.returned (RB.val ⟨none, 0, 0, none, 0, 0, a, a, c⟩) = .returned (RB.val ⟨none, 0, 0, none, 0, 0, b, b, d⟩) := by rw [h1, h2]

end Go.Proofs.YtanemojiaahbgaaGreatDoor
end

section
/- Small makers: fetch.box, law26.kind; walked. -/
set_option linter.unusedSimpArgs false
set_option linter.unusedVariables false
namespace Go.Proofs.YtanemojiaahbgaaGreatDoor
open Go Go.RowKit Go.OpenShut

/-- An account's own cells. -/
structure RAc where
  id : ByteArray
  cards : RB
  books : RB
  next : Int
abbrev RAc.val (r : RAc) : Value := .agg #[.string r.id, .slice r.cards.po r.cards.no r.cards.co, .slice r.cards.pt r.cards.nt r.cards.ct, .int .i64 r.cards.sq, .int .i64 r.cards.fl, .int .i64 r.cards.kp,
  .slice r.books.po r.books.no r.books.co, .slice r.books.pt r.books.nt r.books.ct, .int .i64 r.books.sq, .int .i64 r.books.fl, .int .i64 r.books.kp, .int .i64 r.next]
abbrev RAc.obj (r : RAc) : Obj := .cells #[.string r.id, .slice r.cards.po r.cards.no r.cards.co, .slice r.cards.pt r.cards.nt r.cards.ct, .int .i64 r.cards.sq, .int .i64 r.cards.fl, .int .i64 r.cards.kp,
  .slice r.books.po r.books.no r.books.co, .slice r.books.pt r.books.nt r.books.ct, .int .i64 r.books.sq, .int .i64 r.books.fl, .int .i64 r.books.kp, .int .i64 r.next] 27

set_option maxRecDepth 100000 in
set_option maxHeartbeats 4000000 in
theorem boxBooks_any (r : RAc) (w : World) : Calls Tryz.prog 23 #[RAc.val r, .int .i64 2] w fun e w' => e = .returned (RB.val r.books) ∧ Below w.heap.size w w' := by
  have hA0 : ((w.alloc (RAc.obj r)).alloc (.cells #[.slice none 0 0, .slice none 0 0, .int .i64 0, .int .i64 0, .int .i64 0] 25)).heap[w.heap.size]? = some (RAc.obj r) := heap_alloc_lt (by simp) (heap_alloc_at rfl)
  have hZ0 : BoxAt ((w.alloc (RAc.obj r)).alloc (.cells #[.slice none 0 0, .slice none 0 0, .int .i64 0, .int .i64 0, .int .i64 0] 25)) (w.heap.size + 1) RB.zero := heap_alloc_at (by simp)
  have hB0 : Below w.heap.size w ((w.alloc (RAc.obj r)).alloc (.cells #[.slice none 0 0, .slice none 0 0, .int .i64 0, .int .i64 0, .int .i64 0] 25)) := ((Below.refl _ _).alloc (Nat.le_refl _) _).alloc (by simp) _
  go_enter Tryz.func23, Tryz.ntmps23
  go_upto_region 1 with fail
  obtain ⟨W0, hW0⟩ : ∃ W0, ((w.alloc (RAc.obj r)).alloc (.cells #[.slice none 0 0, .slice none 0 0, .int .i64 0, .int .i64 0, .int .i64 0] 25)) = W0 := ⟨_, rfl⟩
  rw [hW0] at hA0 hZ0 hB0 ⊢
  clear hW0
  have z0 := hZ0.cell 0 rfl
  have z1 := hZ0.cell 1 rfl
  have z2 := hZ0.cell 2 rfl
  have z3 := hZ0.cell 3 rfl
  have z4 := hZ0.cell 4 rfl
  dsimp only [RB.zero] at z0 z1 z2 z3 z4
  have a0 : W0.cell? ⟨w.heap.size, 0, none⟩ = some (.string r.id) := (cell_of_row W0 w.heap.size 0 _ _ _ hA0).trans rfl
  have a1 : W0.cell? ⟨w.heap.size, 1, none⟩ = some (.slice r.cards.po r.cards.no r.cards.co) := (cell_of_row W0 w.heap.size 1 _ _ _ hA0).trans rfl
  have a2 : W0.cell? ⟨w.heap.size, 2, none⟩ = some (.slice r.cards.pt r.cards.nt r.cards.ct) := (cell_of_row W0 w.heap.size 2 _ _ _ hA0).trans rfl
  have a3 : W0.cell? ⟨w.heap.size, 3, none⟩ = some (.int .i64 r.cards.sq) := (cell_of_row W0 w.heap.size 3 _ _ _ hA0).trans rfl
  have a4 : W0.cell? ⟨w.heap.size, 4, none⟩ = some (.int .i64 r.cards.fl) := (cell_of_row W0 w.heap.size 4 _ _ _ hA0).trans rfl
  have a5 : W0.cell? ⟨w.heap.size, 5, none⟩ = some (.int .i64 r.cards.kp) := (cell_of_row W0 w.heap.size 5 _ _ _ hA0).trans rfl
  have a6 : W0.cell? ⟨w.heap.size, 6, none⟩ = some (.slice r.books.po r.books.no r.books.co) := (cell_of_row W0 w.heap.size 6 _ _ _ hA0).trans rfl
  have a7 : W0.cell? ⟨w.heap.size, 7, none⟩ = some (.slice r.books.pt r.books.nt r.books.ct) := (cell_of_row W0 w.heap.size 7 _ _ _ hA0).trans rfl
  have a8 : W0.cell? ⟨w.heap.size, 8, none⟩ = some (.int .i64 r.books.sq) := (cell_of_row W0 w.heap.size 8 _ _ _ hA0).trans rfl
  have a9 : W0.cell? ⟨w.heap.size, 9, none⟩ = some (.int .i64 r.books.fl) := (cell_of_row W0 w.heap.size 9 _ _ _ hA0).trans rfl
  have a10 : W0.cell? ⟨w.heap.size, 10, none⟩ = some (.int .i64 r.books.kp) := (cell_of_row W0 w.heap.size 10 _ _ _ hA0).trans rfl
  have a11 : W0.cell? ⟨w.heap.size, 11, none⟩ = some (.int .i64 r.next) := (cell_of_row W0 w.heap.size 11 _ _ _ hA0).trans rfl
  have y0 := hZ0.frozen 0
  have y1 := hZ0.frozen 1
  have y2 := hZ0.frozen 2
  have y3 := hZ0.frozen 3
  have y4 := hZ0.frozen 4
  have HB := Lib.hid hB0
  clear hA0 hZ0 hB0
  go_wp2_with fail
  refine bodyPost_ret (v := RB.val r.books) (by simp [results, Tryz.results23, go_sem, z0, z1, z2, z3, z4]) rfl ⟨rfl, ?_⟩
  exact Below.setCell (Below.setCell (Below.setCell (Below.setCell (Below.setCell HB.out (Nat.le_succ _) _) (Nat.le_succ _) _) (Nat.le_succ _) _) (Nat.le_succ _) _) (Nat.le_succ _) _
set_option maxRecDepth 100000 in
set_option maxHeartbeats 4000000 in
theorem boxCards_any (r : RAc) (w : World) : Calls Tryz.prog 23 #[RAc.val r, .int .i64 1] w fun e w' => e = .returned (RB.val r.cards) ∧ Below w.heap.size w w' := by
  have hA0 : ((w.alloc (RAc.obj r)).alloc (.cells #[.slice none 0 0, .slice none 0 0, .int .i64 0, .int .i64 0, .int .i64 0] 25)).heap[w.heap.size]? = some (RAc.obj r) := heap_alloc_lt (by simp) (heap_alloc_at rfl)
  have hZ0 : BoxAt ((w.alloc (RAc.obj r)).alloc (.cells #[.slice none 0 0, .slice none 0 0, .int .i64 0, .int .i64 0, .int .i64 0] 25)) (w.heap.size + 1) RB.zero := heap_alloc_at (by simp)
  have hB0 : Below w.heap.size w ((w.alloc (RAc.obj r)).alloc (.cells #[.slice none 0 0, .slice none 0 0, .int .i64 0, .int .i64 0, .int .i64 0] 25)) := ((Below.refl _ _).alloc (Nat.le_refl _) _).alloc (by simp) _
  go_enter Tryz.func23, Tryz.ntmps23
  go_upto_region 1 with fail
  obtain ⟨W0, hW0⟩ : ∃ W0, ((w.alloc (RAc.obj r)).alloc (.cells #[.slice none 0 0, .slice none 0 0, .int .i64 0, .int .i64 0, .int .i64 0] 25)) = W0 := ⟨_, rfl⟩
  rw [hW0] at hA0 hZ0 hB0 ⊢
  clear hW0
  have z0 := hZ0.cell 0 rfl
  have z1 := hZ0.cell 1 rfl
  have z2 := hZ0.cell 2 rfl
  have z3 := hZ0.cell 3 rfl
  have z4 := hZ0.cell 4 rfl
  dsimp only [RB.zero] at z0 z1 z2 z3 z4
  have a0 : W0.cell? ⟨w.heap.size, 0, none⟩ = some (.string r.id) := (cell_of_row W0 w.heap.size 0 _ _ _ hA0).trans rfl
  have a1 : W0.cell? ⟨w.heap.size, 1, none⟩ = some (.slice r.cards.po r.cards.no r.cards.co) := (cell_of_row W0 w.heap.size 1 _ _ _ hA0).trans rfl
  have a2 : W0.cell? ⟨w.heap.size, 2, none⟩ = some (.slice r.cards.pt r.cards.nt r.cards.ct) := (cell_of_row W0 w.heap.size 2 _ _ _ hA0).trans rfl
  have a3 : W0.cell? ⟨w.heap.size, 3, none⟩ = some (.int .i64 r.cards.sq) := (cell_of_row W0 w.heap.size 3 _ _ _ hA0).trans rfl
  have a4 : W0.cell? ⟨w.heap.size, 4, none⟩ = some (.int .i64 r.cards.fl) := (cell_of_row W0 w.heap.size 4 _ _ _ hA0).trans rfl
  have a5 : W0.cell? ⟨w.heap.size, 5, none⟩ = some (.int .i64 r.cards.kp) := (cell_of_row W0 w.heap.size 5 _ _ _ hA0).trans rfl
  have a6 : W0.cell? ⟨w.heap.size, 6, none⟩ = some (.slice r.books.po r.books.no r.books.co) := (cell_of_row W0 w.heap.size 6 _ _ _ hA0).trans rfl
  have a7 : W0.cell? ⟨w.heap.size, 7, none⟩ = some (.slice r.books.pt r.books.nt r.books.ct) := (cell_of_row W0 w.heap.size 7 _ _ _ hA0).trans rfl
  have a8 : W0.cell? ⟨w.heap.size, 8, none⟩ = some (.int .i64 r.books.sq) := (cell_of_row W0 w.heap.size 8 _ _ _ hA0).trans rfl
  have a9 : W0.cell? ⟨w.heap.size, 9, none⟩ = some (.int .i64 r.books.fl) := (cell_of_row W0 w.heap.size 9 _ _ _ hA0).trans rfl
  have a10 : W0.cell? ⟨w.heap.size, 10, none⟩ = some (.int .i64 r.books.kp) := (cell_of_row W0 w.heap.size 10 _ _ _ hA0).trans rfl
  have a11 : W0.cell? ⟨w.heap.size, 11, none⟩ = some (.int .i64 r.next) := (cell_of_row W0 w.heap.size 11 _ _ _ hA0).trans rfl
  have y0 := hZ0.frozen 0
  have y1 := hZ0.frozen 1
  have y2 := hZ0.frozen 2
  have y3 := hZ0.frozen 3
  have y4 := hZ0.frozen 4
  have HB := Lib.hid hB0
  clear hA0 hZ0 hB0
  go_wp2_with fail
  refine bodyPost_ret (v := RB.val r.cards) (by simp [results, Tryz.results23, go_sem, z0, z1, z2, z3, z4]) rfl ⟨rfl, ?_⟩
  exact Below.setCell (Below.setCell (Below.setCell (Below.setCell (Below.setCell HB.out (Nat.le_succ _) _) (Nat.le_succ _) _) (Nat.le_succ _) _) (Nat.le_succ _) _) (Nat.le_succ _) _
/-- An account's box of a kind. -/
def RAc.box (r : RAc) (book : Bool) : RB := if book then r.books else r.cards
def kindB (book : Bool) : Int := if book then 2 else 1
theorem boxOf_any (r : RAc) (book : Bool) (w : World) : Calls Tryz.prog 23 #[RAc.val r, .int .i64 (kindB book)] w fun e w' => e = .returned (RB.val (r.box book)) ∧ Below w.heap.size w w' := by
  cases book
  · exact boxCards_any r w
  · exact boxBooks_any r w

theorem kind26_any (book : Bool) (w : World) : Calls Tryz.prog 8 #[.bool book] w fun e w' => e = .returned (.int .i64 (if book then 2 else 1)) ∧ w' = w := by
  cases book
  · go_enter Tryz.func8, Tryz.ntmps8
    go_wp2_with fail
    go_ret
    exact ⟨rfl, rfl⟩
  · go_enter Tryz.func8, Tryz.ntmps8
    go_wp2_with fail
    go_ret
    exact ⟨rfl, rfl⟩
end Go.Proofs.YtanemojiaahbgaaGreatDoor
end

section
/- Arguments read, or why they won't do: fetch.begin, ref26.Begin; an account's box by the document; walked. -/
set_option linter.unusedSimpArgs false
set_option linter.unusedVariables false
namespace Go.Proofs.YtanemojiaahbgaaGreatDoor
open Go Go.RowKit Go.OpenShut

def badN : ByteArray := ⟨#[105, 110, 118, 97, 108, 105, 100, 65, 114, 103, 117, 109, 101, 110, 116, 115]⟩
def noAccN : ByteArray := ⟨#[97, 99, 99, 111, 117, 110, 116, 78, 111, 116, 70, 111, 117, 110, 100]⟩
def bigN : ByteArray := ⟨#[114, 101, 113, 117, 101, 115, 116, 84, 111, 111, 76, 97, 114, 103, 101]⟩
/-- Why arguments won't do; nothing: they do. -/
def whyB (known : Bool) (t : JV) (ks : List (ByteArray × Nat)) : ByteArray := if argsB t ks then (if known then ⟨#[]⟩ else noAccN) else badN
def BeginRet (w : World) (B : Nat) (known : Bool) (t : JV) (ks : List (ByteArray × Nat)) (e : Ending) (w' : World) : Prop := ∃ p n c, e = .returned (.tuple #[.slice p n c, .string (whyB known t ks)]) ∧ Below w.heap.size w w' ∧
  (argsB t ks = true → known = true → ∃ rs, Own w' w.heap.size 31 encV 5 (.slice p n c) rs ∧ ks.length = rs.length ∧ ∀ (i : Nat) k q, ks[i]? = some k → rs[i]? = some q → TreeOf w' B (argG t k) q)

set_option maxRecDepth 100000 in
set_option maxHeartbeats 2000000 in
theorem begin_any (w : World) (B : Nat) (known : Bool) (s : ByteArray) (ks : List (ByteArray × Nat)) (t : JV) (r : RV) (K : Kinds s ks) (hV : Vars w) (hBw : B ≤ w.heap.size) (ht : TreeOf w B t r) (ot : t.Ok) : Calls Tryz.prog 22 #[.bool known, r.val, .string s] w (BeginRet w B known t ks) := by
  have hB0 : Below w.heap.size w (w.alloc r.obj) := (Below.refl _ _).alloc (Nat.le_refl _) _
  have hA0 : VAt (w.alloc r.obj) w.heap.size r := heap_alloc_at rfl
  have HC : Hid (Calls Tryz.prog 53 #[r.val, .string s] (w.alloc r.obj) (ArgR (w.alloc r.obj) B t ks)) := args_any _ B s ks t r K (hV.below hB0) (Nat.le_trans hBw hB0.size) (ht.under (hB0.mono hBw) (Nat.le_refl _)) ot
  obtain ⟨k, n, s', pl, nl, cl, pm, nm, cm⟩ := r
  dsimp only [RV.val, RV.obj] at *
  obtain ⟨W0, hW0⟩ : ∃ W, w.alloc (.cells #[.int .i64 k, .int .i64 n, .string s', .slice pl nl cl, .slice pm nm cm] 31) = W := ⟨_, rfl⟩
  rw [hW0] at hB0 hA0 HC
  have HW := Lib.hid hW0
  have HB0 := Lib.hid hB0
  clear hW0 ht ot hB0
  unfold ArgR at HC
  unfold BeginRet whyB
  cases hab : argsB t ks
  · rw [hab] at HC
    simp only [Bool.false_eq_true, if_false] at HC ⊢
    clear hab
    go_enter Tryz.func22, Tryz.ntmps22
    go_upto_region 1 with fail
    rw [HW.out]
    clear HW
    have a0 := hA0.cell 0 rfl
    have a1 := hA0.cell 1 rfl
    have a2 := hA0.cell 2 rfl
    have a3 := hA0.cell 3 rfl
    have a4 := hA0.cell 4 rfl
    go_wp2_with (go_at_call 53; refine HC.out.mono ?_; rintro e w1 ⟨rfl, hb1⟩)
    go_ret2
    exact ⟨none, 0, 0, rfl, HB0.out.trans (hb1.mono HB0.out.size), fun h => by cases h⟩
  · rw [hab] at HC
    simp only [if_true] at HC ⊢
    clear hab
    unfold ArgOk at HC
    cases known
    · simp only [Bool.false_eq_true, if_false]
      go_enter Tryz.func22, Tryz.ntmps22
      go_upto_region 1 with fail
      rw [HW.out]
      clear HW
      have a0 := hA0.cell 0 rfl
      have a1 := hA0.cell 1 rfl
      have a2 := hA0.cell 2 rfl
      have a3 := hA0.cell 3 rfl
      have a4 := hA0.cell 4 rfl
      go_wp2_with (go_at_call 53; refine HC.out.mono ?_; rintro e w1 ⟨p, m, c, rs, rfl, ho, hl, ht, hb1⟩)
      go_ret2
      exact ⟨none, 0, 0, rfl, HB0.out.trans (hb1.mono HB0.out.size), fun _ h => by cases h⟩
    · simp only [if_true]
      go_enter Tryz.func22, Tryz.ntmps22
      go_upto_region 1 with fail
      rw [HW.out]
      clear HW
      have a0 := hA0.cell 0 rfl
      have a1 := hA0.cell 1 rfl
      have a2 := hA0.cell 2 rfl
      have a3 := hA0.cell 3 rfl
      have a4 := hA0.cell 4 rfl
      go_wp2_with (go_at_call 53; refine HC.out.mono ?_; rintro e w1 ⟨p, m, c, rs, rfl, ho, hl, ht, hb1⟩; have HX := Lib.hid (And.intro ho (And.intro hl ht)); clear ho hl ht)
      go_ret2
      exact ⟨p, m, c, rfl, HB0.out.trans (hb1.mono HB0.out.size), fun _ _ => ⟨rs, HX.out.1.mono HB0.out.size, HX.out.2.1, HX.out.2.2⟩⟩

set_option maxRecDepth 100000 in
set_option maxHeartbeats 2000000 in
theorem begin26_any (w : World) (B : Nat) (known : Bool) (s : ByteArray) (ks : List (ByteArray × Nat)) (t : JV) (r : RV) (K : KindsR s ks) (hBw : B ≤ w.heap.size) (ht : TreeOf w B t r) (ot : t.Ok) : Calls Tryz.prog 31 #[.bool known, r.val, .string s] w (BeginRet w B known t ks) := by
  have hB0 : Below w.heap.size w (w.alloc r.obj) := (Below.refl _ _).alloc (Nat.le_refl _) _
  have hA0 : VAt (w.alloc r.obj) w.heap.size r := heap_alloc_at rfl
  have HC : Hid (Calls Tryz.prog 62 #[r.val, .string s] (w.alloc r.obj) (ArgR (w.alloc r.obj) B t ks)) := args24_any _ B s ks t r K (Nat.le_trans hBw hB0.size) (ht.under (hB0.mono hBw) (Nat.le_refl _)) ot
  obtain ⟨k, n, s', pl, nl, cl, pm, nm, cm⟩ := r
  dsimp only [RV.val, RV.obj] at *
  obtain ⟨W0, hW0⟩ : ∃ W, w.alloc (.cells #[.int .i64 k, .int .i64 n, .string s', .slice pl nl cl, .slice pm nm cm] 31) = W := ⟨_, rfl⟩
  rw [hW0] at hB0 hA0 HC
  have HW := Lib.hid hW0
  have HB0 := Lib.hid hB0
  clear hW0 ht ot hB0
  unfold ArgR at HC
  unfold BeginRet whyB
  cases hab : argsB t ks
  · rw [hab] at HC
    simp only [Bool.false_eq_true, if_false] at HC ⊢
    clear hab
    go_enter Tryz.func31, Tryz.ntmps31
    go_upto_region 1 with fail
    rw [HW.out]
    clear HW
    have a0 := hA0.cell 0 rfl
    have a1 := hA0.cell 1 rfl
    have a2 := hA0.cell 2 rfl
    have a3 := hA0.cell 3 rfl
    have a4 := hA0.cell 4 rfl
    go_wp2_with (go_at_call 62; refine HC.out.mono ?_; rintro e w1 ⟨rfl, hb1⟩)
    go_ret2
    exact ⟨none, 0, 0, rfl, HB0.out.trans (hb1.mono HB0.out.size), fun h => by cases h⟩
  · rw [hab] at HC
    simp only [if_true] at HC ⊢
    clear hab
    unfold ArgOk at HC
    cases known
    · simp only [Bool.false_eq_true, if_false]
      go_enter Tryz.func31, Tryz.ntmps31
      go_upto_region 1 with fail
      rw [HW.out]
      clear HW
      have a0 := hA0.cell 0 rfl
      have a1 := hA0.cell 1 rfl
      have a2 := hA0.cell 2 rfl
      have a3 := hA0.cell 3 rfl
      have a4 := hA0.cell 4 rfl
      go_wp2_with (go_at_call 62; refine HC.out.mono ?_; rintro e w1 ⟨p, m, c, rs, rfl, ho, hl, ht, hb1⟩)
      go_ret2
      exact ⟨none, 0, 0, rfl, HB0.out.trans (hb1.mono HB0.out.size), fun _ h => by cases h⟩
    · simp only [if_true]
      go_enter Tryz.func31, Tryz.ntmps31
      go_upto_region 1 with fail
      rw [HW.out]
      clear HW
      have a0 := hA0.cell 0 rfl
      have a1 := hA0.cell 1 rfl
      have a2 := hA0.cell 2 rfl
      have a3 := hA0.cell 3 rfl
      have a4 := hA0.cell 4 rfl
      go_wp2_with (go_at_call 62; refine HC.out.mono ?_; rintro e w1 ⟨p, m, c, rs, rfl, ho, hl, ht, hb1⟩; have HX := Lib.hid (And.intro ho (And.intro hl ht)); clear ho hl ht)
      go_ret2
      exact ⟨p, m, c, rfl, HB0.out.trans (hb1.mono HB0.out.size), fun _ _ => ⟨rs, HX.out.1.mono HB0.out.size, HX.out.2.1, HX.out.2.2⟩⟩

set_option maxRecDepth 100000 in
set_option maxHeartbeats 4000000 in
theorem box26Books_any (r : RAc) (w : World) : Calls Tryz.prog 32 #[RAc.val r, .int .i64 2] w fun e w' => e = .returned (RB.val r.books) ∧ Below w.heap.size w w' := by
  have hA0 : ((w.alloc (RAc.obj r)).alloc (.cells #[.slice none 0 0, .slice none 0 0, .int .i64 0, .int .i64 0, .int .i64 0] 25)).heap[w.heap.size]? = some (RAc.obj r) := heap_alloc_lt (by simp) (heap_alloc_at rfl)
  have hZ0 : BoxAt ((w.alloc (RAc.obj r)).alloc (.cells #[.slice none 0 0, .slice none 0 0, .int .i64 0, .int .i64 0, .int .i64 0] 25)) (w.heap.size + 1) RB.zero := heap_alloc_at (by simp)
  have hB0 : Below w.heap.size w ((w.alloc (RAc.obj r)).alloc (.cells #[.slice none 0 0, .slice none 0 0, .int .i64 0, .int .i64 0, .int .i64 0] 25)) := ((Below.refl _ _).alloc (Nat.le_refl _) _).alloc (by simp) _
  go_enter Tryz.func32, Tryz.ntmps32
  go_upto_region 1 with fail
  obtain ⟨W0, hW0⟩ : ∃ W0, ((w.alloc (RAc.obj r)).alloc (.cells #[.slice none 0 0, .slice none 0 0, .int .i64 0, .int .i64 0, .int .i64 0] 25)) = W0 := ⟨_, rfl⟩
  rw [hW0] at hA0 hZ0 hB0 ⊢
  clear hW0
  have z0 := hZ0.cell 0 rfl
  have z1 := hZ0.cell 1 rfl
  have z2 := hZ0.cell 2 rfl
  have z3 := hZ0.cell 3 rfl
  have z4 := hZ0.cell 4 rfl
  dsimp only [RB.zero] at z0 z1 z2 z3 z4
  have a0 : W0.cell? ⟨w.heap.size, 0, none⟩ = some (.string r.id) := (cell_of_row W0 w.heap.size 0 _ _ _ hA0).trans rfl
  have a1 : W0.cell? ⟨w.heap.size, 1, none⟩ = some (.slice r.cards.po r.cards.no r.cards.co) := (cell_of_row W0 w.heap.size 1 _ _ _ hA0).trans rfl
  have a2 : W0.cell? ⟨w.heap.size, 2, none⟩ = some (.slice r.cards.pt r.cards.nt r.cards.ct) := (cell_of_row W0 w.heap.size 2 _ _ _ hA0).trans rfl
  have a3 : W0.cell? ⟨w.heap.size, 3, none⟩ = some (.int .i64 r.cards.sq) := (cell_of_row W0 w.heap.size 3 _ _ _ hA0).trans rfl
  have a4 : W0.cell? ⟨w.heap.size, 4, none⟩ = some (.int .i64 r.cards.fl) := (cell_of_row W0 w.heap.size 4 _ _ _ hA0).trans rfl
  have a5 : W0.cell? ⟨w.heap.size, 5, none⟩ = some (.int .i64 r.cards.kp) := (cell_of_row W0 w.heap.size 5 _ _ _ hA0).trans rfl
  have a6 : W0.cell? ⟨w.heap.size, 6, none⟩ = some (.slice r.books.po r.books.no r.books.co) := (cell_of_row W0 w.heap.size 6 _ _ _ hA0).trans rfl
  have a7 : W0.cell? ⟨w.heap.size, 7, none⟩ = some (.slice r.books.pt r.books.nt r.books.ct) := (cell_of_row W0 w.heap.size 7 _ _ _ hA0).trans rfl
  have a8 : W0.cell? ⟨w.heap.size, 8, none⟩ = some (.int .i64 r.books.sq) := (cell_of_row W0 w.heap.size 8 _ _ _ hA0).trans rfl
  have a9 : W0.cell? ⟨w.heap.size, 9, none⟩ = some (.int .i64 r.books.fl) := (cell_of_row W0 w.heap.size 9 _ _ _ hA0).trans rfl
  have a10 : W0.cell? ⟨w.heap.size, 10, none⟩ = some (.int .i64 r.books.kp) := (cell_of_row W0 w.heap.size 10 _ _ _ hA0).trans rfl
  have a11 : W0.cell? ⟨w.heap.size, 11, none⟩ = some (.int .i64 r.next) := (cell_of_row W0 w.heap.size 11 _ _ _ hA0).trans rfl
  have y0 := hZ0.frozen 0
  have y1 := hZ0.frozen 1
  have y2 := hZ0.frozen 2
  have y3 := hZ0.frozen 3
  have y4 := hZ0.frozen 4
  have HB := Lib.hid hB0
  clear hA0 hZ0 hB0
  go_wp2_with fail
  refine bodyPost_ret (v := RB.val r.books) (by simp [results, Tryz.results32, go_sem, z0, z1, z2, z3, z4]) rfl ⟨rfl, ?_⟩
  exact Below.setCell (Below.setCell (Below.setCell (Below.setCell (Below.setCell HB.out (Nat.le_succ _) _) (Nat.le_succ _) _) (Nat.le_succ _) _) (Nat.le_succ _) _) (Nat.le_succ _) _
set_option maxRecDepth 100000 in
set_option maxHeartbeats 4000000 in
theorem box26Cards_any (r : RAc) (w : World) : Calls Tryz.prog 32 #[RAc.val r, .int .i64 1] w fun e w' => e = .returned (RB.val r.cards) ∧ Below w.heap.size w w' := by
  have hA0 : ((w.alloc (RAc.obj r)).alloc (.cells #[.slice none 0 0, .slice none 0 0, .int .i64 0, .int .i64 0, .int .i64 0] 25)).heap[w.heap.size]? = some (RAc.obj r) := heap_alloc_lt (by simp) (heap_alloc_at rfl)
  have hZ0 : BoxAt ((w.alloc (RAc.obj r)).alloc (.cells #[.slice none 0 0, .slice none 0 0, .int .i64 0, .int .i64 0, .int .i64 0] 25)) (w.heap.size + 1) RB.zero := heap_alloc_at (by simp)
  have hB0 : Below w.heap.size w ((w.alloc (RAc.obj r)).alloc (.cells #[.slice none 0 0, .slice none 0 0, .int .i64 0, .int .i64 0, .int .i64 0] 25)) := ((Below.refl _ _).alloc (Nat.le_refl _) _).alloc (by simp) _
  go_enter Tryz.func32, Tryz.ntmps32
  go_upto_region 1 with fail
  obtain ⟨W0, hW0⟩ : ∃ W0, ((w.alloc (RAc.obj r)).alloc (.cells #[.slice none 0 0, .slice none 0 0, .int .i64 0, .int .i64 0, .int .i64 0] 25)) = W0 := ⟨_, rfl⟩
  rw [hW0] at hA0 hZ0 hB0 ⊢
  clear hW0
  have z0 := hZ0.cell 0 rfl
  have z1 := hZ0.cell 1 rfl
  have z2 := hZ0.cell 2 rfl
  have z3 := hZ0.cell 3 rfl
  have z4 := hZ0.cell 4 rfl
  dsimp only [RB.zero] at z0 z1 z2 z3 z4
  have a0 : W0.cell? ⟨w.heap.size, 0, none⟩ = some (.string r.id) := (cell_of_row W0 w.heap.size 0 _ _ _ hA0).trans rfl
  have a1 : W0.cell? ⟨w.heap.size, 1, none⟩ = some (.slice r.cards.po r.cards.no r.cards.co) := (cell_of_row W0 w.heap.size 1 _ _ _ hA0).trans rfl
  have a2 : W0.cell? ⟨w.heap.size, 2, none⟩ = some (.slice r.cards.pt r.cards.nt r.cards.ct) := (cell_of_row W0 w.heap.size 2 _ _ _ hA0).trans rfl
  have a3 : W0.cell? ⟨w.heap.size, 3, none⟩ = some (.int .i64 r.cards.sq) := (cell_of_row W0 w.heap.size 3 _ _ _ hA0).trans rfl
  have a4 : W0.cell? ⟨w.heap.size, 4, none⟩ = some (.int .i64 r.cards.fl) := (cell_of_row W0 w.heap.size 4 _ _ _ hA0).trans rfl
  have a5 : W0.cell? ⟨w.heap.size, 5, none⟩ = some (.int .i64 r.cards.kp) := (cell_of_row W0 w.heap.size 5 _ _ _ hA0).trans rfl
  have a6 : W0.cell? ⟨w.heap.size, 6, none⟩ = some (.slice r.books.po r.books.no r.books.co) := (cell_of_row W0 w.heap.size 6 _ _ _ hA0).trans rfl
  have a7 : W0.cell? ⟨w.heap.size, 7, none⟩ = some (.slice r.books.pt r.books.nt r.books.ct) := (cell_of_row W0 w.heap.size 7 _ _ _ hA0).trans rfl
  have a8 : W0.cell? ⟨w.heap.size, 8, none⟩ = some (.int .i64 r.books.sq) := (cell_of_row W0 w.heap.size 8 _ _ _ hA0).trans rfl
  have a9 : W0.cell? ⟨w.heap.size, 9, none⟩ = some (.int .i64 r.books.fl) := (cell_of_row W0 w.heap.size 9 _ _ _ hA0).trans rfl
  have a10 : W0.cell? ⟨w.heap.size, 10, none⟩ = some (.int .i64 r.books.kp) := (cell_of_row W0 w.heap.size 10 _ _ _ hA0).trans rfl
  have a11 : W0.cell? ⟨w.heap.size, 11, none⟩ = some (.int .i64 r.next) := (cell_of_row W0 w.heap.size 11 _ _ _ hA0).trans rfl
  have y0 := hZ0.frozen 0
  have y1 := hZ0.frozen 1
  have y2 := hZ0.frozen 2
  have y3 := hZ0.frozen 3
  have y4 := hZ0.frozen 4
  have HB := Lib.hid hB0
  clear hA0 hZ0 hB0
  go_wp2_with fail
  refine bodyPost_ret (v := RB.val r.cards) (by simp [results, Tryz.results32, go_sem, z0, z1, z2, z3, z4]) rfl ⟨rfl, ?_⟩
  exact Below.setCell (Below.setCell (Below.setCell (Below.setCell (Below.setCell HB.out (Nat.le_succ _) _) (Nat.le_succ _) _) (Nat.le_succ _) _) (Nat.le_succ _) _) (Nat.le_succ _) _
theorem box26_any (r : RAc) (book : Bool) (w : World) : Calls Tryz.prog 32 #[RAc.val r, .int .i64 (kindB book)] w fun e w' => e = .returned (RB.val (r.box book)) ∧ Below w.heap.size w w' := by
  cases book
  · exact box26Cards_any r w
  · exact box26Books_any r w
end Go.Proofs.YtanemojiaahbgaaGreatDoor
end

section
/- What Get tells, as data; the state of its loop. Plain laws. -/
set_option linter.unusedSimpArgs false
set_option linter.unusedVariables false
namespace Go.Proofs.YtanemojiaahbgaaGreatDoor
open Go Go.RowKit Go.OpenShut

def listJ (l : List JV) : JV := .mk 5 0 ⟨#[]⟩ l []
def objJ (m : List (ByteArray × JV)) : JV := .mk 6 0 ⟨#[]⟩ [] m
def accIdN : ByteArray := ⟨#[97, 99, 99, 111, 117, 110, 116, 73, 100]⟩
def stateN : ByteArray := ⟨#[115, 116, 97, 116, 101]⟩
def listN : ByteArray := ⟨#[108, 105, 115, 116]⟩
def notFoundN : ByteArray := ⟨#[110, 111, 116, 70, 111, 117, 110, 100]⟩
/-- One more id: what is found, what isn't. -/
def shownTo (b : BoxD) (names : JV) (ids : List ByteArray) : List JV := ids.filterMap (fun id => (findJ b.objs id).map (fun v => showJ id v names))
def missTo (b : BoxD) (ids : List ByteArray) : List ByteArray := ids.filter (fun id => (findJ b.objs id).isNone)
def getJ (aid : ByteArray) (card : Bool) (b : BoxD) (l1 l2 : JV) : JV := objJ [(accIdN, textJ aid), (stateN, textJ (stateB card b.seq)), (listN, listJ (shownTo b l2 (askedL b l1))), (notFoundN, listJ ((missTo b (askedL b l1)).map textJ))]
def bigB (b : BoxD) (l1 l2 : JV) : Bool := decide (32 < l1.l.length) || (decide (32 < l2.l.length) || (decide (l1.k = 1) && decide (32 < b.objs.length)))
theorem shownTo_take {b : BoxD} {names : JV} {ids : List ByteArray} {k : Nat} {id : ByteArray} (h : ids[k]? = some id) : shownTo b names (ids.take (k + 1)) = shownTo b names (ids.take k) ++ (match findJ b.objs id with | some v => [showJ id v names] | none => []) := by
  unfold shownTo
  rw [List.take_add_one, h, Option.toList_some, List.filterMap_append]
  cases hf : findJ b.objs id <;> simp [hf]
theorem missTo_take {b : BoxD} {ids : List ByteArray} {k : Nat} {id : ByteArray} (h : ids[k]? = some id) : missTo b (ids.take (k + 1)) = missTo b (ids.take k) ++ (match findJ b.objs id with | some _ => [] | none => [id]) := by
  unfold missTo
  rw [List.take_add_one, h, Option.toList_some, List.filter_append]
  cases hf : findJ b.objs id <;> simp [hf]
theorem shownTo_len (b : BoxD) (names : JV) (ids : List ByteArray) : (shownTo b names ids).length ≤ ids.length := List.length_filterMap_le _ _
theorem missTo_len (b : BoxD) (ids : List ByteArray) : (missTo b ids).length ≤ ids.length := List.length_filter_le _ _

theorem RdI.of_rd {α : Type} {enc : α → List Value} {sz : Nat} {w : World} {B : Nat} {v : Value} {xs : List α} (h : Rd w B enc sz v xs) : RdI w (fun k => k < B) enc sz v xs := by
  obtain ⟨p, cap, h1, h2, h3, h4, h5⟩ := h
  refine ⟨p, cap, h1, h2, h3, h4, fun a ha h0 => ?_⟩
  obtain ⟨b, o, e, hb, hr⟩ := h5 a ha h0
  exact ⟨b, o, e, hb, hr⟩
theorem TreeOf.treeS {w : World} {B : Nat} {t : JV} {r : RV} (h : TreeOf w B t r) : TreeS w (fun k => k < B) t r := by
  induction h with
  | mk hl el cl hm em cn cm ih1 ih2 => exact .mk (RdI.of_rd hl) el ih1 (RdI.of_rd hm) em cn ih2
/-- A map told: its blocks lay under B, or are new. -/
theorem own_treeS {w w' : World} {B : Nat} {ms : List (ByteArray × JV)} {p : Option Addr} {n c : Nat} {rms : List RM} (ho : Own w' w.heap.size 48 encM 6 (.slice p n c) rms) (hm : MemsOf w' B ms rms) : TreeS w' (fun k => k < B ∨ (w.heap.size ≤ k ∧ k < w'.heap.size)) (objJ ms) ⟨6, 0, ⟨#[]⟩, none, 0, 0, p, n, c⟩ :=
  .mk (r := ⟨6, 0, ⟨#[]⟩, none, 0, 0, p, n, c⟩) (rs := []) (rms := rms) (RdI.nil _ _) rfl (fun i t q h => by simp at h) (ho.rdI codecM (fun k e => .inr (ho.lt k e))) hm.len hm.name (fun i y q h1 h2 => (hm.val i y q h1 h2).treeS.mono (fun k h => .inl h))

/-- The state of the loop: the list that grows in block o, the missing ones. -/
structure GetS (W9 : World) (B o : Nat) (p : Option Addr) (n c : Nat) (ls : List JV) (m : Value) (ml : List ByteArray) (W : World) : Prop where
  grown : W9.grownBy W (some o)
  out : VAt W o ⟨5, 0, ⟨#[]⟩, p, n, c, none, 0, 0⟩
  lst : ∃ rs, Own W W9.heap.size 31 encV 5 (.slice p n c) rs ∧ ls.length = rs.length ∧ ∀ (i : Nat) t q, ls[i]? = some t → rs[i]? = some q → TreeS W (fun k => k < W.heap.size ∧ (k < B ∨ W9.heap.size ≤ k) ∧ (Value.slice p n c).ownBlock ≠ some k ∧ m.ownBlock ≠ some k) t q
  mis : Own W W9.heap.size 9 encS 1 m ml
  apart : ∀ k, (Value.slice p n c).ownBlock = some k → m.ownBlock ≠ some k
theorem GetS.start {W9 : World} {B o : Nat} (h : VAt W9 o ⟨5, 0, ⟨#[]⟩, none, 0, 0, none, 0, 0⟩) : GetS W9 B o none 0 0 [] (.slice none 0 0) [] W9 :=
  ⟨World.grownBy.refl _ _, h, ⟨[], Own.nil _ _ _, rfl, fun i t q h => by simp at h⟩, Own.nil _ _ _, fun k e => by cases e⟩
theorem GetS.step {W9 W W' : World} {B o : Nat} {p : Option Addr} {n c : Nat} {ls : List JV} {m : Value} {ml : List ByteArray} (h : GetS W9 B o p n c ls m ml W) (hb : Below W.heap.size W W') : GetS W9 B o p n c ls m ml W' := by
  obtain ⟨rs, h1, h2, h3⟩ := h.lst
  have hs := hb.size
  exact ⟨h.grown.trans (hb.gb _), h.out.under hb h.out.lt, ⟨rs, h1.below hb (Nat.le_refl _), h2, fun i t q a b => ((h3 i t q a b).same (fun k e => hb.block k e.1)).mono (fun k e => ⟨by omega, e.2⟩)⟩, h.mis.below hb (Nat.le_refl _), h.apart⟩
theorem GetS.pushM {W9 W W1 W2 : World} {B o : Nat} {p : Option Addr} {n c : Nat} {ls : List JV} {m m2 : Value} {ml : List ByteArray} {x : ByteArray} (h : GetS W9 B o p n c ls m ml W) (hBo : B ≤ o) (ho9 : o < W9.heap.size) (hb : Below W.heap.size W W1) (ho : Own W2 W9.heap.size 9 encS 1 m2 (ml ++ [x])) (hg : W1.grownBy W2 m.ownBlock)
    (hat : m2.ownBlock = m.ownBlock ∨ m2.ownBlock = some W1.heap.size) : GetS W9 B o p n c ls m2 (ml ++ [x]) W2 := by
  have h1 := h.step hb
  obtain ⟨rs, hO, hl, ht⟩ := h1.lst
  have hml := h1.mis.lt
  have hol := hO.lt
  have hs := hg.size
  have hz := h1.grown.size
  have hne : ∀ k, k < W1.heap.size → m.ownBlock ≠ some k → m2.ownBlock ≠ some k := fun k hk hn e => by
    rcases hat with h | h
    · rw [h] at e; exact hn e
    · rw [h] at e; injection e with e; omega
  refine ⟨⟨hg.os.trans h1.grown.os, hg.tape.trans h1.grown.tape, hg.output.trans h1.grown.output, by omega, fun k hk hne => (hg.block k (by omega) (fun e => by have := (hml k e.symm).1; omega)).trans (h1.grown.block k hk hne)⟩,
    (hg.block o (by omega) (fun e => by have := (hml o e.symm).1; omega)).trans h1.out, ⟨rs, hO.kept hg ?_, hl, fun i t q a b => ((ht i t q a b).same (fun k e => hg.block k e.1 (fun e2 => e.2.2.2 e2.symm))).mono (fun k e => ⟨by omega, e.2.1, e.2.2.1, hne k e.1 e.2.2.2⟩)⟩, ho, fun k e => hne k (hol k e).2 (h1.apart k e)⟩
  cases hob : (Value.slice p n c).ownBlock with
  | none => exact .inl rfl
  | some k => exact .inr (fun e => h1.apart k hob e.symm)
theorem GetS.pushL {W9 W W1 W2 : World} {B o : Nat} {p p2 : Option Addr} {n c n2 c2 : Nat} {ls : List JV} {m : Value} {ml : List ByteArray} {t : JV} {q : RV} {rs : List RV} (h : GetS W9 B o p n c ls m ml W) (hBo : B ≤ o) (ho9 : o < W9.heap.size) (hO : Own W W9.heap.size 31 encV 5 (.slice p n c) rs) (hl : ls.length = rs.length)
    (hT : ∀ (i : Nat) t q, ls[i]? = some t → rs[i]? = some q → TreeS W (fun k => k < W.heap.size ∧ (k < B ∨ W9.heap.size ≤ k) ∧ (Value.slice p n c).ownBlock ≠ some k ∧ m.ownBlock ≠ some k) t q) (hb : Below W.heap.size W W1)
    (ht : TreeS W1 (fun k => k < W1.heap.size ∧ (k < B ∨ W9.heap.size ≤ k) ∧ (Value.slice p n c).ownBlock ≠ some k ∧ m.ownBlock ≠ some k) t q) (ho : Own W2 W9.heap.size 31 encV 5 (.slice p2 n2 c2) (rs ++ [q])) (hg : W1.grownBy W2 (Value.slice p n c).ownBlock)
    (hat : (Value.slice p2 n2 c2).ownBlock = (Value.slice p n c).ownBlock ∨ (Value.slice p2 n2 c2).ownBlock = some W1.heap.size) : GetS W9 B o p2 n2 c2 (ls ++ [t]) m ml (W2.setCell ⟨o, 3, none⟩ (.slice p2 n2 c2)) := by
  have h1 := h.step hb
  have hO1 := hO.below hb (Nat.le_refl _)
  have hml := h1.mis.lt
  have hol := hO1.lt
  have hs := hg.size
  have hz := h1.grown.size
  have hg2 := grownBy_set W2 o 3 (.slice p2 n2 c2)
  have hs2 := hg2.size
  have hbs := hb.size
  have hne : ∀ k, k < W1.heap.size → (Value.slice p n c).ownBlock ≠ some k → (Value.slice p2 n2 c2).ownBlock ≠ some k := fun k hk hn e => by
    rcases hat with h | h
    · rw [h] at e; exact hn e
    · rw [h] at e; injection e with e; omega
  have hV : VAt W2 o ⟨5, 0, ⟨#[]⟩, p, n, c, none, 0, 0⟩ := (hg.block o (by omega) (fun e => by have := (hol o e.symm).1; omega)).trans h1.out
  have key : ∀ (t : JV) (q : RV), TreeS W1 (fun k => k < W1.heap.size ∧ (k < B ∨ W9.heap.size ≤ k) ∧ (Value.slice p n c).ownBlock ≠ some k ∧ m.ownBlock ≠ some k) t q → TreeS (W2.setCell ⟨o, 3, none⟩ (.slice p2 n2 c2)) (fun k => k < (W2.setCell ⟨o, 3, none⟩ (.slice p2 n2 c2)).heap.size ∧ (k < B ∨ W9.heap.size ≤ k) ∧ (Value.slice p2 n2 c2).ownBlock ≠ some k ∧ m.ownBlock ≠ some k) t q :=
    fun t q h => (h.same (fun k e => (hg2.block k (by omega) (fun e2 => by injection e2 with e2; rcases e.2.1 with h | h <;> omega)).trans (hg.block k e.1 (fun e2 => e.2.2.1 e2.symm)))).mono (fun k e => ⟨by omega, e.2.1, hne k e.1 e.2.2.1, e.2.2.2⟩)
  refine ⟨⟨hg2.os.trans (hg.os.trans h1.grown.os), hg2.tape.trans (hg.tape.trans h1.grown.tape), hg2.output.trans (hg.output.trans h1.grown.output), by omega, fun k hk hne => (hg2.block k (by omega) hne).trans ((hg.block k (by omega) (fun e => by have := (hol k e.symm).1; omega)).trans (h1.grown.block k hk hne))⟩,
    hV.setLs p2 n2 c2, ⟨rs ++ [q], ho.kept hg2 (.inr (fun e => by have := (ho.lt _ e).1; omega)), by simp [hl], fun i t' q' a b => ?_⟩, ?_, fun k e e2 => ?_⟩
  · rcases snoc_get a with ⟨ha, a⟩ | ⟨ha, rfl⟩
    · rcases snoc_get b with ⟨hb2, b⟩ | ⟨hb2, _⟩
      · exact key _ _ (((hT i t' q' a b).same (fun k e => hb.block k e.1)).mono (fun k e => ⟨by omega, e.2⟩))
      · omega
    · rcases snoc_get b with ⟨hb2, b⟩ | ⟨hb2, rfl⟩
      · omega
      · exact key _ _ ht
  · refine (h1.mis.kept hg ?_).kept hg2 (.inr (fun e => by have := (hml _ e).1; omega))
    cases hob : m.ownBlock with
    | none => exact .inl rfl
    | some k => exact .inr (fun e => h1.apart k e.symm hob)
  · rcases hat with h | h
    · rw [h] at e; exact h1.apart k e e2
    · rw [h] at e; injection e with e; have := (hml k e2).2; omega
/-- The list as a tree, at the end. -/
theorem GetS.whole {W9 W : World} {B o : Nat} {p : Option Addr} {n c : Nat} {ls : List JV} {m : Value} {ml : List ByteArray} (h : GetS W9 B o p n c ls m ml W) : TreeS W (fun k => k < W.heap.size ∧ (k < B ∨ W9.heap.size ≤ k)) (listJ ls) ⟨5, 0, ⟨#[]⟩, p, n, c, none, 0, 0⟩ := by
  obtain ⟨rs, h1, h2, h3⟩ := h.lst
  exact .mk (r := ⟨5, 0, ⟨#[]⟩, p, n, c, none, 0, 0⟩) (rs := rs) (rms := []) (h1.rdI codecV (fun k e => ⟨(h1.lt k e).2, .inr (h1.lt k e).1⟩)) h2 (fun i t q a b => (h3 i t q a b).mono (fun k e => ⟨e.1, e.2.1⟩)) (RdI.nil _ _) rfl (fun i p q h => by simp at h) (fun i p q h => by simp at h)
/-- A list of texts as a tree. -/
theorem texts_tree {w' : World} {base : Nat} {l : List ByteArray} {p : Option Addr} {n c : Nat} (h : Own w' base 31 encV 5 (.slice p n c) (l.map textR)) : TreeS w' (fun k => base ≤ k ∧ k < w'.heap.size) (listJ (l.map textJ)) ⟨5, 0, ⟨#[]⟩, p, n, c, none, 0, 0⟩ :=
  .mk (r := ⟨5, 0, ⟨#[]⟩, p, n, c, none, 0, 0⟩) (rs := l.map textR) (rms := []) (h.rdI codecV (fun k e => h.lt k e)) (by simp) (fun i t q a b => by
    rw [List.getElem?_map] at a b
    cases hx : l[i]? with
    | none => rw [hx] at a; cases a
    | some s =>
      rw [hx] at a b
      cases a; cases b
      exact TreeS.leaf _ _ 4 0 s) (RdI.nil _ _) rfl (fun i p q h => by simp at h) (fun i p q h => by simp at h)
/-- A map of four members. -/
theorem four_tree {w : World} {S : Nat → Prop} {base : Nat} {p : Option Addr} {n c : Nat} {n1 n2 n3 n4 : ByteArray} {t1 t2 t3 t4 : JV} {q1 q2 q3 q4 : RV} (ho : Own w base 48 encM 6 (.slice p n c) [⟨n1, q1⟩, ⟨n2, q2⟩, ⟨n3, q3⟩, ⟨n4, q4⟩]) (hs : ∀ k, base ≤ k → k < w.heap.size → S k)
    (h1 : TreeS w S t1 q1) (h2 : TreeS w S t2 q2) (h3 : TreeS w S t3 q3) (h4 : TreeS w S t4 q4) : TreeS w S (objJ [(n1, t1), (n2, t2), (n3, t3), (n4, t4)]) ⟨6, 0, ⟨#[]⟩, none, 0, 0, p, n, c⟩ := by
  refine .mk (r := ⟨6, 0, ⟨#[]⟩, none, 0, 0, p, n, c⟩) (rs := []) (RdI.nil _ _) rfl (fun i t q h => by simp at h) (ho.rdI codecM (fun k e => hs k (ho.lt k e).1 (ho.lt k e).2)) rfl (fun i y q a b => ?_) (fun i y q a b => ?_)
  · rcases i with _ | _ | _ | _ | i
    · cases a; cases b; rfl
    · cases a; cases b; rfl
    · cases a; cases b; rfl
    · cases a; cases b; rfl
    · simp at a
  · rcases i with _ | _ | _ | _ | i
    · cases a; cases b; exact h1
    · cases a; cases b; exact h2
    · cases a; cases b; exact h3
    · cases a; cases b; exact h4
    · simp at a
end Go.Proofs.YtanemojiaahbgaaGreatDoor
end

section
/- A region that draws its order and whose last operation writes what an earlier one loads: loads are taken first, what they read is asked anew behind each operation but the last. A plain law over any program. -/
set_option linter.unusedSimpArgs false
set_option linter.unusedVariables false
namespace Go.Proofs.YtanemojiaahbgaaGreatDoor
open Go

section
variable {P : Program} {ops : Array Oper} {Q : Exit → Act → World → Prop} {md : Region.Mode} {S : World → Prop} {n : Nat}

/-- Whatever order is picked from here on; S is asked behind each operation but number n. -/
def wpAnyK (P : Program) (md : Region.Mode) (ops : Array Oper) (Q : Exit → Act → World → Prop) (S : World → Prop) (n : Nat) : Nat → Array Bool → Act → World → Prop
  | 0, listed, a, w => Region.ready md ops listed = [] ∧ Q .normal a w
  | fuel + 1, listed, a, w => (Region.ready md ops listed = [] → Q .normal a w) ∧ ∀ i ∈ Region.ready md ops listed, wpOp P ops Q i (fun a' w' => (i ≠ n → S w') ∧ wpAnyK P md ops Q S n fuel (listed.setIfInBounds i true) a' w') a w
theorem wpAny_of_K : ∀ (fuel : Nat) (listed : Array Bool) (a : Act) (w : World), wpAnyK P md ops Q S n fuel listed a w → wpAny P md ops Q fuel listed a w
  | 0, _, _, _, h => h
  | fuel + 1, _, _, _, h => ⟨h.1, fun i hi => wpOp_mono (fun a' w' h' => wpAny_of_K fuel _ a' w' h'.2) (h.2 i hi)⟩

/-- The listed are closed, number n and what is behind it are not among them. -/
def headKB (md : Region.Mode) (ops : Array Oper) (n : Nat) (listed : Array Bool) : Bool :=
  decide (listed.size = ops.size) && ((List.range ops.size).all fun j => !listed.getD j false || (match ops[j]? with | some oj => oj.after.all fun e => !Region.binds md e || listed.getD e.on false | none => true)) && ((List.range ops.size).all fun t => decide (t < n) || !listed.getD t true)
theorem headKB_inv {listed : Array Bool} (h : headKB md ops n listed = true) : HeadInv md ops n listed := by
  unfold headKB at h
  simp only [Bool.and_eq_true, decide_eq_true_eq, List.all_eq_true, List.mem_range, Bool.or_eq_true, Bool.not_eq_true'] at h
  obtain ⟨⟨h1, h2⟩, h3⟩ := h
  refine ⟨h1, fun j oj hj hl e he hb => ?_, fun t ht hlt => ?_⟩
  · have hlt : j < ops.size := (Array.getElem?_eq_some_iff.1 hj).1
    rcases h2 j hlt with h | h
    · rw [h] at hl; cases hl
    · rw [hj] at h
      simp only at h
      rw [Array.all_eq_true_iff_forall_mem] at h
      have := h e he
      simp only [Bool.or_eq_true, Bool.not_eq_true'] at this
      rcases this with h | h
      · rw [h] at hb; cases hb
      · exact h
  · rcases h3 t hlt with h | h
    · omega
    · exact h

theorem wpAnyK_first {i : Nat} {oi : Oper} {v : Value} (hi : ops[i]? = some oi) (hsel : ∀ (j : Nat) (o : Oper) cs b, ops[j]? = some o → o.op ≠ .select cs b)
    (hs : Region.sinkB md ops n = true) (hc : Region.chainB md ops n = true) (hn : n < ops.size) (hin : i < n)
    (hQ : ∀ c a w, Q (.panic c) (a.put oi.dst v) w → Q (.panic c) a w) :
    ∀ (fuel : Nat) (listed : Array Bool) (a : Act) (w : World), HeadInv md ops n listed →
      (∀ j oj, ops[j]? = some oj → j ≠ i → listed.getD j true = false → (∀ e ∈ oj.after, Region.binds md e = true → e.on ≠ i) → oi.apart ops oj = true) →
      i ∈ Region.ready md ops listed → YieldsIf P ops S oi v a → S w →
      wpAnyK P md ops Q S n fuel (listed.setIfInBounds i true) (a.put oi.dst v) w → wpAnyK P md ops Q S n (fuel + 1) listed a w := by
  intro fuel
  induction fuel with
  | zero =>
    intro listed a w inv _ hr hy hS H
    refine ⟨fun h => absurd hr (by rw [h]; simp), fun j hj => ?_⟩
    by_cases hji : j = i
    · subst hji
      exact hy.wpOp hi hS ⟨fun _ => hS, H⟩
    · have hx := ready_mono hj hji
      rw [H.1] at hx
      cases hx
  | succ fuel ih =>
    intro listed a w inv hfree hr hy hS H
    refine ⟨fun h => absurd hr (by rw [h]; simp), fun j hj => ?_⟩
    by_cases hji : j = i
    · subst hji
      exact hy.wpOp hi hS ⟨fun _ => hS, H⟩
    · have hun := (mem_ready.1 hr).1
      have hjn : j < n := by
        rcases Nat.lt_or_ge j n with h | h
        · exact h
        · exact absurd hj (tail_waits hs hc hn inv _ i rfl hin hun j h)
      obtain ⟨hjun, oj, hoj, hall⟩ := mem_ready.1 hj
      have hnot : ∀ e ∈ oj.after, Region.binds md e = true → e.on ≠ i := fun e he hb heq => by
        have hx := hall e he hb
        rw [heq, getD_both hun] at hx
        cases hx
      have hput := wpOp_putIf hoj (hfree j oj hoj hji hjun hnot) (fun cs b => hsel i oi cs b hi) (fun cs b => hsel j oj cs b hoj) hQ hy (H.2 j (ready_mono hj hji))
      refine wpOp_mono (fun a' w' hx => ⟨hx.2.1, ?_⟩) hput
      refine ih (listed.setIfInBounds j true) a' w' (inv.set hj hjn) (fun k ok hk hki hkun hno => hfree k ok hk hki ?_ hno) (ready_mono hr (Ne.symm hji)) hx.1 (hx.2.1 (by omega)) ?_
      · by_cases hjk : j = k
        · subst hjk; exact hjun
        · rw [getD_set_ne true hjk] at hkun; exact hkun
      · rw [Array.setIfInBounds_comm _ _ hji]
        exact hx.2.2
end

section
variable {P : Program} {l : List Oper} {Q : Exit → Act → World → Prop} {md : Region.Mode} {S : World → Prop} {n : Nat}
theorem drop_at {i : Nat} {oi : Oper} {rest : List Oper} (hi : l.drop i = oi :: rest) : l.toArray[i]? = some oi := by
  have h : (l.drop i)[0]? = some oi := by rw [hi]; rfl
  rw [List.getElem?_drop, Nat.add_zero] at h
  simpa using h
/-- The facts on a region that the law asks, for the kernel. -/
def sinksKB (md : Region.Mode) (ops : Array Oper) (n : Nat) : Bool := Region.noSelect ops && Region.sinkB md ops n && Region.chainB md ops n && decide (n < ops.size)
/-- The beginning. -/
theorem wp_region_K {id : Nat} {a : Act} {w : World} (n : Nat) (S : World → Prop) (hm : P.follows .mixedOrders = true) (hS : S w.drew)
    (h : S w.drew → wpAnyK P .any l.toArray Q S n l.length (Array.replicate l.length false) a w.drew) : (Code.region id l.toArray true).wp P Q a w :=
  wp_region_any hm (wpAny_of_K _ _ _ _ (by simpa using h hS))
/-- A load, or what reckons alone, taken first. -/
theorem wpAnyK_take {fuel : Nat} {listed : Array Bool} {a : Act} {w : World} {oi : Oper} {v : Value} {rest : List Oper} (i : Nat) (hi : l.drop i = oi :: rest) (hs : sinksKB md l.toArray n = true) (hin : decide (i < n) = true) (hb : headKB md l.toArray n listed = true)
    (hf : Region.free md l.toArray listed i = true) (hr : (Region.ready md l.toArray listed).contains i = true) (hQ : ∀ c a w, Q (.panic c) (a.put oi.dst v) w → Q (.panic c) a w) (hS : S w) (hy : YieldsIf P l.toArray S oi v a)
    (h : wpAnyK P md l.toArray Q S n fuel (listed.setIfInBounds i true) (a.put oi.dst v) w) : wpAnyK P md l.toArray Q S n (fuel + 1) listed a w := by
  unfold sinksKB at hs
  simp only [Bool.and_eq_true, decide_eq_true_eq] at hs hin
  exact wpAnyK_first (drop_at hi) (Region.noSelect_spec hs.1.1.1) hs.1.1.2 hs.1.2 hs.2 hin hQ fuel listed a w (headKB_inv hb) (Region.free_spec (drop_at hi) hf) (by simpa using hr) hy hS h
/-- The one that may come up. -/
theorem wpAnyK_eff {fuel : Nat} {listed : Array Bool} {a : Act} {w : World} {oi : Oper} {rest : List Oper} (i : Nat) (hi : l.drop i = oi :: rest) (hr : Region.ready md l.toArray listed = [i])
    (h : ∀ K' : Act → World → Prop, Shut (∀ a w, S w → (S w → wpAnyK P md l.toArray Q S n fuel (listed.setIfInBounds i true) a w) → K' a w) → if Region.wanted oi (yielded l.toArray a.tmps) = true then Oper.wp P oi a w K' Q else K' (a.put oi.dst undef) w) : wpAnyK P md l.toArray Q S n (fuel + 1) listed a w := by
  refine ⟨fun h0 => absurd (hr.symm.trans h0) (by simp), fun j hj => ?_⟩
  rw [hr] at hj
  obtain rfl : j = i := by simpa using hj
  exact wpOp_step (drop_at hi) (fun K' hK => h K' (fun a w hS hW => hK a w ⟨fun _ => hS, hW hS⟩))
/-- The last one. -/
theorem wpAnyK_last {fuel : Nat} {listed : Array Bool} {a : Act} {w : World} {oi : Oper} {rest : List Oper} (hi : l.drop n = oi :: rest) (hr : Region.ready md l.toArray listed = [n]) (hr2 : Region.ready md l.toArray (listed.setIfInBounds n true) = [])
    (h : ∀ K' : Act → World → Prop, Shut (∀ a w, Q .normal a w → K' a w) → if Region.wanted oi (yielded l.toArray a.tmps) = true then Oper.wp P oi a w K' Q else K' (a.put oi.dst undef) w) : wpAnyK P md l.toArray Q S n (fuel + 1) listed a w := by
  refine ⟨fun h0 => absurd (hr.symm.trans h0) (by simp), fun j hj => ?_⟩
  rw [hr] at hj
  obtain rfl : j = n := by simpa using hj
  refine wpOp_step (drop_at hi) (fun K' hK => h K' (fun a w hq => hK a w ⟨fun e => absurd rfl e, ?_⟩))
  cases fuel with
  | zero => exact ⟨hr2, hq⟩
  | succ f => exact ⟨fun _ => hq, fun j hj => by rw [hr2] at hj; cases hj⟩
end
end Go.Proofs.YtanemojiaahbgaaGreatDoor
end
