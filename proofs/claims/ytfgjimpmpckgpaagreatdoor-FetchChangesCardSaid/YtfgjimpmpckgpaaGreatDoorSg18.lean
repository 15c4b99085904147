import Derived.Test.YtfgjimpmpckgpaaGreatDoorSg07
import Derived.RangeFuncNested
import Derived.RangeFuncBound
import Derived.RangeFuncCalls
import Derived.RangeFuncLeaves
import Derived.Shelf.Abstract
import Derived.OwnWalkIn
import Derived.TacticsInMore
import Derived.LoopNIn
import Derived.LoopIn
import Derived.Test.YtfgjimpmpckgpaaGreatDoorSg06
import Derived.Deep.DeepMust
import Derived.Test.YtfgjimpmpckgpaaGreatDoorSg13
import Derived.Test.YtfgjimpmpckgpaaGreatDoorProg
import Derived.Test.YtfgjimpmpckgpaaGreatDoorSg08
import Derived.Shelf.SlSortCmp.KitK
import Derived.Sort.WalkB2
import Derived.Sort.WalkB12
import Derived.Deep.LoopGhost
import Derived.WalkKit
import Derived.Lib.Hide
import Derived.Shelf.SlSortCmp.QuietGrown
set_option linter.unusedSimpArgs false
set_option linter.unusedVariables false
set_option maxRecDepth 200000
set_option maxHeartbeats 8000000
namespace Go.Proofs.YtfgjimpmpckgpaaGreatDoor
section
open Go.RowKit Go.Shelf
attribute [local go_sem] Oper.semAt_some
def Kq (n₀ Bs : Nat) (W W' : World) : Prop := Below n₀ W W' /\ W'.heap[Bs]? = W.heap[Bs]?
theorem Kq.refl (n₀ Bs : Nat) (W : World) : Kq n₀ Bs W W := ⟨Below.refl _ _, rfl⟩
theorem Kq.trans {n₀ Bs : Nat} {A B C : World} (h : Kq n₀ Bs A B) (k : Kq n₀ Bs B C) : Kq n₀ Bs A C := ⟨h.1.trans k.1, k.2.trans h.2⟩
theorem Kq.book {n₀ Bs : Nat} {w : World} (hn : n₀ <= w.heap.size) (hB : Bs < w.heap.size) (W : World) (l : Nat) (o o' : Obj) (hl : w.heap.size <= l) (h : W.heap[l]? = some o) (h1 : o.isCells = false) (h2 : o.isWalk = false) : Kq n₀ Bs W (W.putObj l o') :=
 ⟨belowK_b hn W l o o' hl h h1 h2, World.putObj_heap_other (by omega)⟩
theorem Kq.cell {n₀ Bs : Nat} {W W' : World} (h : Kq n₀ Bs W W') {v : Value} (hc : W.cell? ⟨Bs, 0, none⟩ = some v) : W'.cell? ⟨Bs, 0, none⟩ = some v := (World.cell?_of_block (w := W) h.2).trans hc
def backTo {α : Type} (xs : List α) (k : Nat) : List (Nat × α) := (xs.zipIdx.reverse.take k).map fun p => (p.2, p.1)
theorem backTo_succ {α : Type} (xs : List α) (k j : Nat) (x : α) (hk : k < xs.length) (hj : xs.length - 1 - k = j) (hx : xs[j]? = some x) : backTo xs (k + 1) = backTo xs k ++ [(j, x)] := by
 subst hj
 unfold backTo
 rw [List.take_add_one, List.getElem?_reverse (by simpa using hk), List.length_zipIdx, List.getElem?_zipIdx, hx]
 simp
theorem backTo_length {α : Type} (xs : List α) (k : Nat) (hk : k <= xs.length) : (backTo xs k).length = k := by simp [backTo]; omega
theorem backTo_all {α : Type} (xs : List α) : (backTo xs xs.length).map (·.2) = xs.reverse := by
 unfold backTo
 rw [List.take_of_length_le (by simp), List.map_map, List.map_reverse]
 congr 1
 apply List.ext_getElem
 ·simp
 ·intro i h1 h2
  simp
abbrev OkE := { e : En // e.ok }
def encO (x : OkE) : List Value := encE x.1
theorem backE1_in (F : Fence) (n : Nat) (h7 : F.fn 150) (hro : F.round = none) (hn : 1 <= n) (l Bs n₀ b off cap : Nat) (xs : List OkE) (hlen : xs.length <= 4398046511104) (hb : b < n₀) (J Jx : List (Nat × OkE) -> World -> Prop)
 (hY : ∀ pre x W, J pre W -> pre.length < xs.length -> YieldAt F (n - 1) Tryz.prog l #[.int .i64 (x.1 : Nat), .agg #[.int .i64 x.2.1.seq, .string x.2.1.id, .int .i64 x.2.1.what]] W fun e W' =>
  (e = .returned (.bool true) /\ J (pre ++ [x]) W' /\ Kq n₀ Bs W W') \/ (e = .returned (.bool false) /\ Jx (pre ++ [x]) W'))
 (W : World) (hBs : W.cell? ⟨Bs, 0, none⟩ = some (.slice (some ⟨b, off, none⟩) xs.length cap)) (hc : RowAt W b off encO 3 xs) (h0 : J [] W) :
 CallsIn F n Tryz.prog 150 #[.func (.yield l) #[] #[], .pointer (some ⟨Bs, 0, none⟩)] W fun e W' => (∃ v, e = .returned v) /\
  ((∃ ys, ys = backTo xs xs.length /\ J ys W') \/ (∃ pre, True /\ Jx pre W')) := by
 refine callsIn_of_wp Tryz.func150 rfl h7 ?_ hro
 simp only [Tryz.ntmps150, List.size_toArray, List.length_cons, List.length_nil, Nat.reduceAdd, Nat.reduceSub, Array.replicate_succ, Array.replicate_zero, List.push_toArray, List.append_toArray, List.nil_append, List.cons_append]
 gi_wp2
 gi_loopw [3] (fun i wr => ∃ k : Nat, k <= xs.length /\ i = .int .i64 ((xs.length : Int) - 1 - (k : Int)) /\ J (backTo xs k) wr /\ Kq n₀ Bs W wr)
  (fun i _ => (intOf i + 1).toNat)
 case atStart => exact ⟨0, Nat.zero_le _, by congr 1; omega, h0, Kq.refl _ _ _⟩
 case round =>
  obtain ⟨k, hk, rfl, hJs, hnx⟩ := hrel
  have hcs := hnx.cell hBs
  by_cases hlt : k < xs.length
  ·obtain ⟨j, hj⟩ : ∃ j, xs.length - 1 - k = j := ⟨_, rfl⟩
   have ej : (xs.length : Int) - 1 - (k : Int) = (j : Int) := by omega
   have hjl : j < xs.length := by omega
   obtain ⟨x, hx⟩ : ∃ x, xs[j]? = some x := ⟨_, List.getElem?_eq_getElem hjl⟩
   obtain ⟨fn, tmps, assign, body, hy, hR⟩ := hY _ (j, x) wr hJs (by rw [backTo_length _ _ hk]; exact hlt)
   dsimp only at hy
   have c0 := bcs hnx.1 hb (hc j x hx 0 _ rfl)
   have c1 := bcs hnx.1 hb (hc j x hx 1 _ rfl)
   have c2 := bcs hnx.1 hb (hc j x hx 2 _ rfl)
   rw [Nat.add_zero] at c0
   have hT : Hid (backTo xs (k + 1) = backTo xs k ++ [(j, x)]) := backTo_succ xs k j x hlt hj hx
   have HJ := Lib.hid hj
   clear hj hx hY
   have hR' := Lib.hid hR
   clear hR
   gi_wp2
   refine hR'.out.mono ?_
   rintro e W3 (⟨rfl, hJ3, hk3⟩ | ⟨rfl, hJx3⟩)
   ·gi_wp2
    go_roundw
    case rel => exact ⟨k + 1, by omega, by congr 1; omega, by rw [hT.out]; exact hJ3, hnx.trans hk3⟩
    case measure => simp [intOf]; omega
   ·gi_wp2
    refine bodyPost_ret (results_none rfl _ _ _) rfl ?_
    exact ⟨⟨_, rfl⟩, .inr ⟨_, trivial, hJx3⟩⟩
  ·obtain rfl : k = xs.length := by omega
   gi_wp2
   go_end0
   exact ⟨⟨_, rfl⟩, .inl ⟨_, rfl, hJs⟩⟩
theorem backE1_nil (pa : Option Addr) (ca : Nat) (F : Fence) (n : Nat) (h7 : F.fn 150) (hro : F.round = none) (l Bs : Nat) (J : List (Nat × OkE) -> World -> Prop) (W : World) (hBs : W.cell? ⟨Bs, 0, none⟩ = some (.slice pa 0 ca)) (h0 : J [] W) :
 CallsIn F n Tryz.prog 150 #[.func (.yield l) #[] #[], .pointer (some ⟨Bs, 0, none⟩)] W fun e W' => (∃ v, e = .returned v) /\ J [] W' := by
 refine callsIn_of_wp Tryz.func150 rfl h7 ?_ hro
 simp only [Tryz.ntmps150, List.size_toArray, List.length_cons, List.length_nil, Nat.reduceAdd, Nat.reduceSub, Array.replicate_succ, Array.replicate_zero, List.push_toArray, List.append_toArray, List.nil_append, List.cons_append]
 gi_wp2
 gi_loopw [3] (fun i wr => i = .int .i64 (-1) /\ J [] wr) (fun _ _ => 0)
 case atStart => exact ⟨rfl, h0⟩
 case round =>
  obtain ⟨rfl, hJs⟩ := hrel
  gi_wp2
  go_end0
  exact ⟨⟨_, rfl⟩, hJs⟩
theorem backE_in (F : Fence) (n : Nat) (h5 : F.fn 119) (hro : F.round = none) (v : Value) (w : World) (hv : ∃ a len cap, v = .slice a len cap) :
 CallsIn F n Tryz.prog 119 #[v] w fun e w' => e = .returned (.func (.func 150) #[] #[.pointer (some ⟨w.heap.size, 0, none⟩)]) /\ w' = w.alloc (.cells #[v] 23) := by
 obtain ⟨a, len, cap, rfl⟩ := hv
 refine callsIn_of_wp Tryz.func119 rfl h5 ?_ hro
 simp only [Tryz.ntmps119, List.size_toArray, List.length_cons, List.length_nil, Nat.reduceAdd, Nat.reduceSub, Array.replicate_succ, Array.replicate_zero, List.push_toArray, List.append_toArray, List.nil_append, List.cons_append]
 gi_wp2
 go_ret
 exact ⟨rfl, rfl⟩
theorem backE_stops (F : Fence) (n : Nat) (h7 : F.fn 150) (hro : F.round = none) (hn : 1 <= n) (Bs n₀ : Nat) (v : Value) (xs : List OkE) (hlen : xs.length <= 4398046511104) (w : World) (hBs : Bs < w.heap.size) (hn₀ : n₀ <= w.heap.size)
 (hc : w.cell? ⟨Bs, 0, none⟩ = some v) (hv : Rd w n₀ encO 3 v xs) :
 SeqStopsK F n Tryz.prog 150 #[.pointer (some ⟨Bs, 0, none⟩)] (fun x : Nat × OkE => #[.int .i64 (x.1 : Nat), .agg #[.int .i64 x.2.1.seq, .string x.2.1.id, .int .i64 x.2.1.what]]) (Kq n₀ Bs) (fun ys => ys = backTo xs xs.length) (fun _ => True) xs.length w := fun l J Jx W hW _ _ hY h0 => by
 have hc' := (hW.cell (p := ⟨Bs, 0, none⟩) hBs).trans hc
 obtain ⟨p, cap, rfl, h1, h2, h3, h4⟩ := hv
 cases p with
 | none =>
   have hc0 : cap = 0 := h3 rfl
   have hx : xs = [] := List.eq_nil_of_length_eq_zero (by omega)
   subst hx hc0
   exact (backE1_nil _ _ F n h7 hro l Bs J W hc' h0).mono fun e W' ⟨he, hj⟩ => ⟨he, .inl ⟨_, rfl, hj⟩⟩
 | some a =>
   by_cases hx0 : xs.length = 0
   ·have hx : xs = [] := List.eq_nil_of_length_eq_zero hx0
    subst hx
    exact (backE1_nil _ _ F n h7 hro l Bs J W hc' h0).mono fun e W' ⟨he, hj⟩ => ⟨he, .inl ⟨_, rfl, hj⟩⟩
   obtain ⟨b, o, rfl, hb, hr⟩ := h4 a rfl (by omega)
   exact backE1_in F n h7 hro hn l Bs n₀ b o cap xs hlen hb J Jx hY W hc' (hr.below hW (by omega)) h0
def encPt (b : Nat) : List Value := [.pointer (some ⟨b, 0, none⟩)]
theorem codecPt : Codec encPt 1 := ⟨fun _ => rfl, fun x u hu => by
 simp only [encPt, List.mem_cons, List.not_mem_nil, or_false] at hu
 rcases hu with rfl; rfl, by decide⟩
variable {p : Nat -> Prop}
def encPs (x : {b : Nat // p b}) : List Value := encPt x.1
theorem backQ1_in (F : Fence) (n : Nat) (h7 : F.fn 151) (hro : F.round = none) (hn : 1 <= n) (l Bs n₀ b off cap : Nat) (xs : List {b : Nat // p b}) (hlen : xs.length <= 17592186044416) (hb : b < n₀) (J Jx : List (Nat × {b : Nat // p b}) -> World -> Prop)
 (hY : ∀ pre x W, J pre W -> pre.length < xs.length -> YieldAt F (n - 1) Tryz.prog l #[.int .i64 (x.1 : Nat), .pointer (some ⟨x.2.1, 0, none⟩)] W fun e W' =>
  (e = .returned (.bool true) /\ J (pre ++ [x]) W' /\ Kq n₀ Bs W W') \/ (e = .returned (.bool false) /\ Jx (pre ++ [x]) W'))
 (W : World) (hBs : W.cell? ⟨Bs, 0, none⟩ = some (.slice (some ⟨b, off, none⟩) xs.length cap)) (hc : RowAt W b off encPs 1 xs) (h0 : J [] W) :
 CallsIn F n Tryz.prog 151 #[.func (.yield l) #[] #[], .pointer (some ⟨Bs, 0, none⟩)] W fun e W' => (∃ v, e = .returned v) /\
  ((∃ ys, ys = backTo xs xs.length /\ J ys W') \/ (∃ pre, True /\ Jx pre W')) := by
 refine callsIn_of_wp Tryz.func151 rfl h7 ?_ hro
 simp only [Tryz.ntmps151, List.size_toArray, List.length_cons, List.length_nil, Nat.reduceAdd, Nat.reduceSub, Array.replicate_succ, Array.replicate_zero, List.push_toArray, List.append_toArray, List.nil_append, List.cons_append]
 gi_wp2
 gi_loopw [3] (fun i wr => ∃ k : Nat, k <= xs.length /\ i = .int .i64 ((xs.length : Int) - 1 - (k : Int)) /\ J (backTo xs k) wr /\ Kq n₀ Bs W wr)
  (fun i _ => (intOf i + 1).toNat)
 case atStart => exact ⟨0, Nat.zero_le _, by congr 1; omega, h0, Kq.refl _ _ _⟩
 case round =>
  obtain ⟨k, hk, rfl, hJs, hnx⟩ := hrel
  have hcs := hnx.cell hBs
  by_cases hlt : k < xs.length
  ·obtain ⟨j, hj⟩ : ∃ j, xs.length - 1 - k = j := ⟨_, rfl⟩
   have ej : (xs.length : Int) - 1 - (k : Int) = (j : Int) := by omega
   have hjl : j < xs.length := by omega
   obtain ⟨x, hx⟩ : ∃ x, xs[j]? = some x := ⟨_, List.getElem?_eq_getElem hjl⟩
   obtain ⟨fn, tmps, assign, body, hy, hR⟩ := hY _ (j, x) wr hJs (by rw [backTo_length _ _ hk]; exact hlt)
   dsimp only at hy
   have c0 := bcs hnx.1 hb (hc j x hx 0 _ rfl)
   rw [Nat.add_zero, Nat.mul_one] at c0
   have hT : Hid (backTo xs (k + 1) = backTo xs k ++ [(j, x)]) := backTo_succ xs k j x hlt hj hx
   have HJ := Lib.hid hj
   clear hj hx hY
   have hR' := Lib.hid hR
   clear hR
   gi_wp2
   refine hR'.out.mono ?_
   rintro e W3 (⟨rfl, hJ3, hk3⟩ | ⟨rfl, hJx3⟩)
   ·gi_wp2
    go_roundw
    case rel => exact ⟨k + 1, by omega, by congr 1; omega, by rw [hT.out]; exact hJ3, hnx.trans hk3⟩
    case measure => simp [intOf]; omega
   ·gi_wp2
    refine bodyPost_ret (results_none rfl _ _ _) rfl ?_
    exact ⟨⟨_, rfl⟩, .inr ⟨_, trivial, hJx3⟩⟩
  ·obtain rfl : k = xs.length := by omega
   gi_wp2
   go_end0
   exact ⟨⟨_, rfl⟩, .inl ⟨_, rfl, hJs⟩⟩
theorem backQ1_nil (pa : Option Addr) (ca : Nat) (F : Fence) (n : Nat) (h7 : F.fn 151) (hro : F.round = none) (l Bs : Nat) (J : List (Nat × {b : Nat // p b}) -> World -> Prop) (W : World) (hBs : W.cell? ⟨Bs, 0, none⟩ = some (.slice pa 0 ca)) (h0 : J [] W) :
 CallsIn F n Tryz.prog 151 #[.func (.yield l) #[] #[], .pointer (some ⟨Bs, 0, none⟩)] W fun e W' => (∃ v, e = .returned v) /\ J [] W' := by
 refine callsIn_of_wp Tryz.func151 rfl h7 ?_ hro
 simp only [Tryz.ntmps151, List.size_toArray, List.length_cons, List.length_nil, Nat.reduceAdd, Nat.reduceSub, Array.replicate_succ, Array.replicate_zero, List.push_toArray, List.append_toArray, List.nil_append, List.cons_append]
 gi_wp2
 gi_loopw [3] (fun i wr => i = .int .i64 (-1) /\ J [] wr) (fun _ _ => 0)
 case atStart => exact ⟨rfl, h0⟩
 case round =>
  obtain ⟨rfl, hJs⟩ := hrel
  gi_wp2
  go_end0
  exact ⟨⟨_, rfl⟩, hJs⟩
theorem backQ_in (F : Fence) (n : Nat) (h5 : F.fn 120) (hro : F.round = none) (v : Value) (w : World) (hv : ∃ a len cap, v = .slice a len cap) :
 CallsIn F n Tryz.prog 120 #[v] w fun e w' => e = .returned (.func (.func 151) #[] #[.pointer (some ⟨w.heap.size, 0, none⟩)]) /\ w' = w.alloc (.cells #[v] 185) := by
 obtain ⟨a, len, cap, rfl⟩ := hv
 refine callsIn_of_wp Tryz.func120 rfl h5 ?_ hro
 simp only [Tryz.ntmps120, List.size_toArray, List.length_cons, List.length_nil, Nat.reduceAdd, Nat.reduceSub, Array.replicate_succ, Array.replicate_zero, List.push_toArray, List.append_toArray, List.nil_append, List.cons_append]
 gi_wp2
 go_ret
 exact ⟨rfl, rfl⟩
theorem backQ_stops (F : Fence) (n : Nat) (h7 : F.fn 151) (hro : F.round = none) (hn : 1 <= n) (Bs n₀ : Nat) (v : Value) (xs : List {b : Nat // p b}) (hlen : xs.length <= 17592186044416) (w : World) (hBs : Bs < w.heap.size) (hn₀ : n₀ <= w.heap.size)
 (hc : w.cell? ⟨Bs, 0, none⟩ = some v) (hv : Rd w n₀ encPs 1 v xs) :
 SeqStopsK F n Tryz.prog 151 #[.pointer (some ⟨Bs, 0, none⟩)] (fun x : Nat × {b : Nat // p b} => #[.int .i64 (x.1 : Nat), .pointer (some ⟨x.2.1, 0, none⟩)]) (Kq n₀ Bs) (fun ys => ys = backTo xs xs.length) (fun _ => True) xs.length w := fun l J Jx W hW _ _ hY h0 => by
 have hc' := (hW.cell (p := ⟨Bs, 0, none⟩) hBs).trans hc
 obtain ⟨p, cap, rfl, h1, h2, h3, h4⟩ := hv
 cases p with
 | none =>
   have hc0 : cap = 0 := h3 rfl
   have hx : xs = [] := List.eq_nil_of_length_eq_zero (by omega)
   subst hx hc0
   exact (backQ1_nil _ _ F n h7 hro l Bs J W hc' h0).mono fun e W' ⟨he, hj⟩ => ⟨he, .inl ⟨_, rfl, hj⟩⟩
 | some a =>
   by_cases hx0 : xs.length = 0
   ·have hx : xs = [] := List.eq_nil_of_length_eq_zero hx0
    subst hx
    exact (backQ1_nil _ _ F n h7 hro l Bs J W hc' h0).mono fun e W' ⟨he, hj⟩ => ⟨he, .inl ⟨_, rfl, hj⟩⟩
   obtain ⟨b, o, rfl, hb, hr⟩ := h4 a rfl (by omega)
   exact backQ1_in F n h7 hro hn l Bs n₀ b o cap xs hlen hb J Jx hY W hc' (hr.below hW (by omega)) h0
end
section
open Go.RowKit Go.OpenShut
theorem data_inj (a b : ByteArray) : a.data.toList = b.data.toList ↔ a = b := by
 obtain ⟨⟨x⟩⟩ := a
 obtain ⟨⟨y⟩⟩ := b
 simp
end
section
open Go.RowKit Go.Shelf
def updP (e : En) (p : Pa) : Pa := if p.id = e.id then { p with was := e.what != 1 } else p
def newP (e : En) : Pa := ⟨e.id, e.what != 1, e.what != 3, e.seq⟩
def stepP (sq : Int) (acc : List Pa) (e : En) : List Pa :=
 if e.seq <= sq then acc
 else if acc.any (fun p => decide (p.id = e.id)) then acc.map (updP e)
 else acc ++ [newP e]
def PaAt (W : World) (b : Nat) (p : Pa) : Prop := W.heap[b]? = some (.cells #[.string p.id, .bool p.was, .bool p.isb, .int .i64 p.last] 136 (0, 0))
def EnAt (W : World) (b : Nat) (e : En) : Prop := W.heap[b]? = some (.cells #[.int .i64 e.seq, .string e.id, .int .i64 e.what] 104 (0, 0))
theorem obj_ne {W : World} {i j : Nat} {o o' : Obj} (h : W.heap[i]? = some o) (h' : W.heap[j]? = some o') (hne : o ≠ o') : some i ≠ some j := by
 intro e
 simp only [Option.some.injEq] at e
 subst e
 rw [h] at h'
 exact hne (by simpa using h')
theorem PaAt.lt {W : World} {b : Nat} {p : Pa} (h : PaAt W b p) : b < W.heap.size := (Array.getElem?_eq_some_iff.1 h).1
theorem PaAt.cell {W : World} {b : Nat} {p : Pa} (h : PaAt W b p) (j : Nat) {u : Value} (hu : (encP p)[j]? = some u) : W.cell? ⟨b, j, none⟩ = some u := by
 unfold PaAt at h
 rw [<- hu]
 simp [World.cell?, h, encP]
theorem EnAt.cell {W : World} {b : Nat} {e : En} (h : EnAt W b e) (j : Nat) {u : Value} (hu : (encE e)[j]? = some u) : W.cell? ⟨b, j, none⟩ = some u := by
 unfold EnAt at h
 rw [<- hu]
 simp [World.cell?, h, encE]
theorem PaAt.frozen {W : World} {b : Nat} {p : Pa} (h : PaAt W b p) (j : Nat) : W.frozen? ⟨b, j, none⟩ = false := by
 unfold PaAt at h
 simp [World.frozen?, h]
theorem PaAt.kept {W W' : World} {row : Option Nat} {b : Nat} {p : Pa} (h : PaAt W b p) (hg : W.grownBy W' row) (hne : some b ≠ row) : PaAt W' b p := (hg.block b h.lt hne).trans h
theorem PaAt.set {W : World} {b : Nat} {p : Pa} (h : PaAt W b p) (x : Bool) : PaAt (W.setCell ⟨b, 1, none⟩ (.bool x)) b { p with was := x } := by
 obtain ⟨hlt, hk⟩ := Array.getElem?_eq_some_iff.1 h
 show (W.heap.modify b _)[b]? = _
 rw [Array.getElem?_eq_getElem (by rw [Array.size_modify]; exact hlt), Array.getElem_modify_self, hk]
 rfl
theorem grownBy_setCell1 (W : World) (b o : Nat) (v : Value) : W.grownBy (W.setCell ⟨b, o, none⟩ v) (some b) :=
 ⟨rfl, rfl, rfl, (KeepsWalks.setCell W _ v).size, fun k _ hk => Below.heap_setCell _ _ _ k (fun e => hk (by rw [e]))⟩
def keepO (mb k : Nat) : Obj -> Prop
 | .cells _ t _ => t ≠ 136 /\ t ≠ 185 /\ t ≠ 189
 | _ => k ≠ mb
structure Trn (base mb : Nat) (W W' : World) : Prop where
 below : Below base W W'
 keep : ∀ k o, W.heap[k]? = some o -> keepO mb k o -> W'.heap[k]? = some o
theorem Trn.refl (base mb : Nat) (W : World) : Trn base mb W W := ⟨Below.refl _ _, fun _ _ h _ => h⟩
theorem Trn.trans {base mb : Nat} {A B C : World} (h : Trn base mb A B) (k : Trn base mb B C) : Trn base mb A C := ⟨h.below.trans k.below, fun i o h1 h2 => k.keep i o (h.keep i o h1 h2) h2⟩
theorem Trn.alloc {base mb : Nat} {W : World} (hb : base <= W.heap.size) (o : Obj) : Trn base mb W (W.alloc o) :=
 ⟨(Below.refl _ W).alloc hb o, fun k o' h1 _ => (Below.heap_alloc W o k (Array.getElem?_eq_some_iff.1 h1).1).trans h1⟩
theorem Trn.grown {base mb : Nat} {W W' : World} {row : Option Nat} (hb : base <= W.heap.size) (hg : W.grownBy W' row) (hr : ∀ r, row = some r -> base <= r /\ ∀ o, W.heap[r]? = some o -> ¬ keepO mb r o) : Trn base mb W W' :=
 ⟨(Below.refl _ W).grown hg hb (fun k e => (hr k e).1), fun k o h1 h2 => (hg.block k (Array.getElem?_eq_some_iff.1 h1).1 (fun e => (hr k e.symm).2 o h1 h2)).trans h1⟩
theorem Trn.from {base mb B : Nat} {W W' : World} (h : Trn base mb W W') (hm : mb < B) : KeepsFrom B W W' :=
 ⟨h.below.size, fun k o hB h1 h2 => h.keep k o h1 (by cases o <;> simp_all [Obj.isCells, keepO] <;> omega)⟩
theorem Trn.boxed {base mb : Nat} {W W' : World} (h : Trn base mb W W') {B : Nat} {t : TypeId} {v : Value} (hb : Boxed W B t v) (ht : t ≠ 136 /\ t ≠ 185 /\ t ≠ 189) : Boxed W' B t v := h.keep _ _ hb ht
theorem Trn.en {base mb : Nat} {W W' : World} (h : Trn base mb W W') {B : Nat} {e : En} (hb : EnAt W B e) : EnAt W' B e := h.keep _ _ hb ⟨by decide, by decide, by decide⟩
structure SQ (base mb n : Nat) (Q : List (Nat × Pa)) (f : List UInt8 -> Option Value) (v : Value) (t6 : Nat) (R : List Nat) (W : World) : Prop where
 map : MapF W Tryz.prog 9 mb n f
 fq : ∀ q ∈ Q, f q.2.id.data.toList = some (.pointer (some ⟨q.1, 0, none⟩))
 fn : ∀ s u, f s = some u -> ∃ q ∈ Q, q.2.id.data.toList = s
 inj : ∀ q ∈ Q, ∀ q' ∈ Q, (q.1 = q'.1 ↔ q.2.id = q'.2.id)
 pas : ∀ q ∈ Q, base <= q.1 /\ PaAt W q.1 q.2
 box : Boxed W t6 185 v
 own : Own W base 189 encPt 1 v R
 len : Q.length <= n
theorem MapF.obj {w : World} {P : Program} {k : TypeId} {b n : Nat} {f : List UInt8 -> Option Value} (h : MapF w P k b n f) : ∃ es c, w.heap[b]? = some (.map es c) := by
 obtain ⟨E, ⟨es, clock, h1, h2⟩, he⟩ := h
 exact ⟨_, _, h1⟩
theorem Own.blk {α : Type} {enc : α -> List Value} {sz : Nat} {w : World} {base : Nat} {e : TypeId} {v : Value} {xs : List α} (h : Own w base e enc sz v xs) : ∀ r, v.ownBlock = some r -> base <= r /\ ∃ cur, w.heap[r]? = some (.cells cur e (0, 0)) := by
 intro r hr
 rcases h.2 with ⟨rfl, _⟩ | ⟨g, cap, cur, rfl, hb, hgb, _⟩
 ·simp [Value.ownBlock] at hr
 ·obtain rfl : g = r := by simpa [Value.ownBlock] using hr
  exact ⟨hb, cur, hgb⟩
section
variable {base mb n t6 : Nat} {Q : List (Nat × Pa)} {f : List UInt8 -> Option Value} {v : Value} {R : List Nat} {W : World}
theorem SQ.kept {W' : World} {row : Option Nat} (h : SQ base mb n Q f v t6 R W) (hg : W.grownBy W' row) (hr : ∀ r, row = some r -> r ≠ mb /\ ∃ o : Obj, W.heap[r]? = some o /\ o.isCells = false) : SQ base mb n Q f v t6 R W' := by
 refine ⟨h.map.kept hg (fun e => (hr _ e.symm).1 rfl), h.fq, h.fn, h.inj, fun q hq => ⟨(h.pas q hq).1, (h.pas q hq).2.kept hg (fun e => ?_)⟩, h.box.kept hg (fun e => ?_), h.own.kept hg ?_, h.len⟩
 ·obtain ⟨_, o, ho, hc⟩ := hr _ e.symm
  rw [show W.heap[q.1]? = _ from (h.pas q hq).2] at ho; cases ho; cases hc
 ·obtain ⟨_, o, ho, hc⟩ := hr _ e.symm
  rw [show W.heap[t6]? = _ from h.box] at ho; cases ho; cases hc
 ·cases hv : v.ownBlock with
  | none => exact .inl rfl
  | some r =>
    refine .inr fun e => ?_
    obtain ⟨_, cur, hc⟩ := h.own.blk r hv
    obtain ⟨_, o, ho, hoc⟩ := hr _ e.symm
    rw [hc] at ho; cases ho; cases hoc
theorem SQ.known (h : SQ base mb n Q f v t6 R W) (hb : base <= W.heap.size) {q : Nat × Pa} (hq : q ∈ Q) (e : En) (he : q.2.id = e.id) :
 SQ base mb n (Q.map fun q => (q.1, updP e q.2)) f v t6 R (W.setCell ⟨q.1, 1, none⟩ (.bool (e.what != 1))) /\ Trn base mb W (W.setCell ⟨q.1, 1, none⟩ (.bool (e.what != 1))) := by
 have hg := grownBy_setCell1 W q.1 1 (.bool (e.what != 1))
 have hid : ∀ p : Pa, (updP e p).id = p.id := fun p => by unfold updP; split <;> rfl
 have hQ := (h.pas q hq).2
 refine ⟨⟨h.map.kept hg (fun e' => ?_), ?_, ?_, ?_, ?_, h.box.kept hg (fun e' => ?_), h.own.kept hg ?_, by simpa using h.len⟩, Trn.grown hb hg (fun r er => ?_)⟩
 ·obtain ⟨es, c, hm⟩ := h.map.obj
  exact obj_ne hm hQ (by simp) e'
 ·intro q' hq'
  obtain ⟨q1, h1, rfl⟩ := List.mem_map.1 hq'
  show f (updP e q1.2).id.data.toList = _
  rw [hid]
  exact h.fq q1 h1
 ·intro s u hs
  obtain ⟨q1, h1, h2⟩ := h.fn s u hs
  exact ⟨_, List.mem_map.2 ⟨q1, h1, rfl⟩, by show (updP e q1.2).id.data.toList = _; rw [hid]; exact h2⟩
 ·intro q1 h1 q2 h2
  obtain ⟨q1, h1', rfl⟩ := List.mem_map.1 h1
  obtain ⟨q2, h2', rfl⟩ := List.mem_map.1 h2
  show q1.1 = q2.1 ↔ (updP e q1.2).id = (updP e q2.2).id
  rw [hid, hid]
  exact h.inj q1 h1' q2 h2'
 ·intro q1 h1
  obtain ⟨q1, h1', rfl⟩ := List.mem_map.1 h1
  clear h1
  have h1 := h1'
  refine ⟨(h.pas q1 h1).1, ?_⟩
  show PaAt _ q1.1 (updP e q1.2)
  by_cases hi : q1.2.id = e.id
  ·have e1 : q1.1 = q.1 := (h.inj q1 h1 q hq).2 (hi.trans he.symm)
   unfold updP
   rw [if_pos hi, <- e1]
   exact (h.pas q1 h1).2.set _
  ·have e1 : q1.1 ≠ q.1 := fun e2 => hi (((h.inj q1 h1 q hq).1 e2).trans he)
   unfold updP
   rw [if_neg hi]
   exact (h.pas q1 h1).2.kept hg (fun e2 => e1 (by simpa using e2))
 ·exact obj_ne h.box hQ (by simp) e'
 ·cases hv : v.ownBlock with
  | none => exact .inl rfl
  | some r =>
    refine .inr fun e' => ?_
    obtain ⟨_, cur, hc⟩ := h.own.blk r hv
    exact obj_ne hc hQ (by simp) e'
 ·cases er
  refine ⟨(h.pas q hq).1, fun o ho hk => ?_⟩
  rw [show W.heap[q.1]? = _ from hQ] at ho; cases ho
  exact hk.1 rfl
theorem SQ.fresh (h : SQ base mb n Q f v t6 R W) (hb : base <= W.heap.size) (hm : base <= mb) (p : Pa) (hf : f p.id.data.toList = none) {W2 : World}
 (hg : (W.alloc (.cells #[.string p.id, .bool p.was, .bool p.isb, .int .i64 p.last] 136)).grownBy W2 (some mb)) (hM : MapF W2 Tryz.prog 9 mb (n + 1) (fun u => if u = p.id.data.toList then some (.pointer (some ⟨W.heap.size, 0, none⟩)) else f u)) :
 SQ base mb (n + 1) (Q ++ [(W.heap.size, p)]) (fun u => if u = p.id.data.toList then some (.pointer (some ⟨W.heap.size, 0, none⟩)) else f u) v t6 R W2 /\ Trn base mb W W2 := by
 have hnew : PaAt (W.alloc (.cells #[.string p.id, .bool p.was, .bool p.isb, .int .i64 p.last] 136)) W.heap.size p := World.alloc_heap_new W _
 obtain ⟨W1, hW1⟩ : ∃ W1, W.alloc (.cells #[.string p.id, .bool p.was, .bool p.isb, .int .i64 p.last] 136) = W1 := ⟨_, rfl⟩
 have hga : W.grownBy W1 none := by rw [<- hW1]; exact World.grownBy_alloc W _ none
 have hta : Trn base mb W W1 := by rw [<- hW1]; exact Trn.alloc hb _
 rw [hW1] at hg hnew
 obtain ⟨es, c, hmo⟩ := (h.map.kept hga (by simp)).obj
 have hno : ∀ q ∈ Q, q.2.id ≠ p.id := fun q hq e => by
  have := h.fq q hq
  rw [e, hf] at this; cases this
 have hlt : ∀ q ∈ Q, q.1 < W.heap.size := fun q hq => (h.pas q hq).2.lt
 have hnm : ∀ b p', PaAt W1 b p' -> some b ≠ some mb := fun b p' hp => obj_ne hp hmo (by simp)
 refine ⟨⟨hM, ?_, ?_, ?_, ?_, (h.box.kept hga (by simp)).kept hg (fun e => ?_), (h.own.kept hga ?_).kept hg ?_, by simp; exact h.len⟩, hta.trans (Trn.grown (Nat.le_trans hb hta.below.size) hg (fun r er => ?_))⟩
 ·intro q hq
  rcases List.mem_append.1 hq with h1 | h1
  ·show (if _ then _ else _) = _
   rw [if_neg (fun e => hno q h1 ((data_inj _ _).1 e))]
   exact h.fq q h1
  ·obtain rfl : q = (W.heap.size, p) := by simpa using h1
   simp
 ·intro s u hs
  split at hs
  ·rename_i e
   exact ⟨_, List.mem_append_right _ (List.mem_singleton.2 rfl), e.symm⟩
  ·obtain ⟨q, h1, h2⟩ := h.fn s u hs
   exact ⟨q, List.mem_append_left _ h1, h2⟩
 ·intro q1 h1 q2 h2
  rcases List.mem_append.1 h1 with h1 | h1 <;> rcases List.mem_append.1 h2 with h2 | h2
  ·exact h.inj q1 h1 q2 h2
  ·obtain rfl : q2 = (W.heap.size, p) := by simpa using h2
   have := hlt q1 h1
   exact ⟨fun e => by dsimp only at e; omega, fun e => absurd e (hno q1 h1)⟩
  ·obtain rfl : q1 = (W.heap.size, p) := by simpa using h1
   have := hlt q2 h2
   exact ⟨fun e => by dsimp only at e; omega, fun e => absurd e.symm (hno q2 h2)⟩
  ·obtain rfl : q1 = (W.heap.size, p) := by simpa using h1
   obtain rfl : q2 = (W.heap.size, p) := by simpa using h2
   simp
 ·intro q hq
  rcases List.mem_append.1 hq with h1 | h1
  ·have hk := (h.pas q h1).2.kept hga (by simp)
   exact ⟨(h.pas q h1).1, hk.kept hg (hnm _ _ hk)⟩
  ·obtain rfl : q = (W.heap.size, p) := by simpa using h1
   exact ⟨hb, hnew.kept hg (hnm _ _ hnew)⟩
 ·exact obj_ne (h.box.kept hga (by simp)) hmo (by simp) e
 ·cases v.ownBlock <;> simp
 ·cases hv : v.ownBlock with
  | none => exact .inl rfl
  | some r =>
    refine .inr fun e' => ?_
    obtain ⟨_, cur, hc⟩ := (h.own.kept hga (by cases v.ownBlock <;> simp)).blk r hv
    exact obj_ne hc hmo (by simp) e'
 ·cases er
  refine ⟨hm, fun o ho hk => ?_⟩
  rw [hmo] at ho; cases ho
  exact hk rfl
theorem SQ.append (h : SQ base mb n Q f v t6 R W) (hb : base <= W.heap.size) (ht : base <= t6) (tmp : Obj) {W4 : World} {v' : Value} {R' : List Nat} (hg : (W.alloc tmp).grownBy W4 v.ownBlock) (ho : Own W4 base 189 encPt 1 v' R') :
 Boxed W4 t6 185 v /\ SQ base mb n Q f v' t6 R' (W4.setCell ⟨t6, 0, none⟩ v') /\ Trn base mb W (W4.setCell ⟨t6, 0, none⟩ v') := by
 obtain ⟨W1, hW1⟩ : ∃ W1, W.alloc tmp = W1 := ⟨_, rfl⟩
 have hga : W.grownBy W1 none := by rw [<- hW1]; exact World.grownBy_alloc W _ none
 have hta : Trn base mb W W1 := by rw [<- hW1]; exact Trn.alloc hb _
 rw [hW1] at hg
 have hO := h.own.kept hga (by cases v.ownBlock <;> simp)
 have hrow : ∀ b o, W1.heap[b]? = some o -> (∀ cur, o ≠ .cells cur 189 (0, 0)) -> some b ≠ v.ownBlock := fun b o hbo hne e => by
  obtain ⟨_, cur, hc⟩ := hO.blk b e.symm
  rw [hbo] at hc; cases hc
  exact hne cur rfl
 have hbox1 : Boxed W1 t6 185 v := h.box.kept hga (by simp)
 have hbox4 : Boxed W4 t6 185 v := hbox1.kept hg (hrow _ _ hbox1 (by simp))
 have hg5 := grownBy_setCell1 W4 t6 0 v'
 have hmp : MapF W4 Tryz.prog 9 mb n f := (h.map.kept hga (by simp)).kept hg (by
  obtain ⟨es, c, hmo⟩ := (h.map.kept hga (by simp)).obj
  exact hrow _ _ hmo (by simp))
 have hp4 : ∀ q ∈ Q, PaAt W4 q.1 q.2 := fun q hq => by
  have hk := (h.pas q hq).2.kept hga (by simp)
  exact hk.kept hg (hrow _ _ hk (by simp))
 have hs1 : Trn base mb W1 W4 := Trn.grown (Nat.le_trans hb hta.below.size) hg (fun r er => by
  obtain ⟨h1, cur, hc⟩ := hO.blk r er
  refine ⟨h1, fun o ho hk => ?_⟩
  rw [hc] at ho; cases ho
  exact hk.2.2 rfl)
 refine ⟨hbox4, ⟨hmp.kept hg5 (fun e => ?_), h.fq, h.fn, h.inj, fun q hq => ⟨(h.pas q hq).1, (hp4 q hq).kept hg5 (fun e => ?_)⟩, hbox4.set v', ho.kept hg5 ?_, h.len⟩, (hta.trans hs1).trans (Trn.grown (Nat.le_trans hb (hta.trans hs1).below.size) hg5 (fun r er => ?_))⟩
 ·obtain ⟨es, c, hm⟩ := hmp.obj
  exact obj_ne hm hbox4 (by simp) e
 ·exact obj_ne (hp4 q hq) hbox4 (by simp) e
 ·cases hv : v'.ownBlock with
  | none => exact .inl rfl
  | some r =>
    refine .inr fun e' => ?_
    obtain ⟨_, cur, hc⟩ := ho.blk r hv
    exact obj_ne hc hbox4 (by simp) e'
 ·cases er
  refine ⟨ht, fun o ho hk => ?_⟩
  rw [show W4.heap[t6]? = _ from hbox4] at ho; cases ho
  exact hk.2.1 rfl
end
section
variable {F : Fence} {nF : Nat} {P : Program} (w : World) {ops : Array Oper} {rest : List Oper} {o : Oper} {a : Act} {Q : Exit -> Act -> World -> Prop}
theorem wpListIn_look_F (hg : o.guard = none) (m x : Operand) (t : TypeId) (hop : o.op = Op.lookup t m x false) (k e : TypeId) (hk : P.underlying k = some .string) (ht : P.underlying t = some (.map k e)) {z : Value} (hz : (zeroValue e).run P w = .ok z w)
 (b n : Nat) (f : List UInt8 -> Option Value) (hm : a.eval m = .map (some b)) (hown : MapF w P k b n f) (s : ByteArray) (hx : a.eval x = .string s) (hs : s.size <= maxLen) {v : Value} (hv : (f s.data.toList).getD z = v)
 (hK : wpListIn F nF P ops Q rest (a.put o.dst v) w) : wpListIn F nF P ops Q (o :: rest) a w := by
 refine wpListIn_plain hg fun K' hK' => ?_
 have hrun := hown.look hk ht hz hs
 rw [hv] at hrun
 unfold Oper.wpIn
 refine ⟨by simp [Oper.about, hop], ?_⟩
 rw [Oper.semAt_plain F _ _ (by rw [hop]; intro c hc'; cases hc')]
 simp [execOp, hop, hm, hx, hrun, Result.andThen]
 exact hK' _ _ hK
theorem wpListIn_store_F (hg : o.guard = none) (m x v : Operand) (t : TypeId) (hop : o.op = Op.mapUpdate t m x v) (k e : TypeId) (hk : P.underlying k = some .string) (ht : P.underlying t = some (.map k e))
 (b n : Nat) (f : List UInt8 -> Option Value) (hm : a.eval m = .map (some b)) (hown : MapF w P k b n f) (hn : n < maxLen) (s : ByteArray) (hx : a.eval x = .string s) (hs : s.size <= maxLen) (val : Value) (hv : a.eval v = val)
 (hK : ∀ w', MapF w' P k b (n + 1) (fun u => if u = s.data.toList then some val else f u) -> w.grownBy w' (some b) -> wpListIn F nF P ops Q rest (a.put o.dst undef) w') : wpListIn F nF P ops Q (o :: rest) a w := by
 refine wpListIn_plain hg fun K' hK' => ?_
 obtain ⟨w', hrun, h1, h2⟩ := hown.store hk ht hn hs val
 unfold Oper.wpIn
 refine ⟨by simp [Oper.about, hop], ?_⟩
 rw [Oper.semAt_plain F _ _ (by rw [hop]; intro c hc'; cases hc')]
 simp [execOp, hop, hm, hx, hv, hrun, Result.andThen]
 exact hK' _ _ (hK w' h1 h2)
end
end
section
open Go.Shelf Go.RowKit Go.Lib Go.Sort
namespace SP
def ren : Ren := ⟨fun | 20 => 179 | n => n, fun | 24 => 136 | 22 => 133 | 3 => 3 | 25 => 194 | 4 => 4 | 0 => 0 | n => n, fun | n => n⟩
structure Lays (P : Program) (k : Nat) : Prop where
 mixed : P.follows .mixedOrders = true
 fSwap : P.funcs[203]? = some Tryz.f203
 fRot : P.funcs[198]? = some Tryz.f198
 fSym : P.funcs[180]? = some Tryz.f180
 fStab : P.funcs[152]? = some Tryz.f152
 fTop : P.funcs[121]? = some Tryz.f121
 ins : SlLaysF0.n20 P ren
 aE : ∀ w, (isAgg 136).run P w = .ok true w
 zE : ∀ w, (Go.sizeOf 136).run P w = .ok k w
 t0 : P.underlying 0 = some (TypeDesc.tuple #[])
 a0 : ∀ w, (isAgg 0).run P w = .ok false w
 z0 : ∀ w, (Go.sizeOf 0).run P w = .ok 1 w
 v0 : ∀ w, (zeroValue 0).run P w = .ok (Value.tuple #[]) w
 t3 : P.underlying 3 = some (TypeDesc.int IntKind.i64)
 a3 : ∀ w, (isAgg 3).run P w = .ok false w
 z3 : ∀ w, (Go.sizeOf 3).run P w = .ok 1 w
 v3 : ∀ w, (zeroValue 3).run P w = .ok (Value.int IntKind.i64 0) w
 t4 : P.underlying 4 = some (TypeDesc.bool)
 a4 : ∀ w, (isAgg 4).run P w = .ok false w
 z4 : ∀ w, (Go.sizeOf 4).run P w = .ok 1 w
 v4 : ∀ w, (zeroValue 4).run P w = .ok (Value.bool false) w
 tu : P.underlying 197 = some (TypeDesc.int IntKind.u64)
 au : ∀ w, (isAgg 197).run P w = .ok false w
 zu : ∀ w, (Go.sizeOf 197).run P w = .ok 1 w
 vu : ∀ w, (zeroValue 197).run P w = .ok (Value.int IntKind.u64 0) w
 tS : P.underlying 133 = some (TypeDesc.slice 136)
 aS : ∀ w, (isAgg 133).run P w = .ok false w
 zS : ∀ w, (Go.sizeOf 133).run P w = .ok 1 w
 vS : ∀ w, (zeroValue 133).run P w = .ok (Value.slice none 0 0) w
 tC : P.underlying 194 = some (TypeDesc.func #[136, 136] #[3] false)
 aC : ∀ w, (isAgg 194).run P w = .ok false w
 zC : ∀ w, (Go.sizeOf 194).run P w = .ok 1 w
 vC : ∀ w, (zeroValue 194).run P w = .ok (Value.nilFunc) w
theorem insLays : SlLaysF0.n20 Tryz.prog ren := {
 mixed := by kernel_rfl
 f20 := ⟨Tryz.f179.name, by decide, Tryz.func179.trans (congrArg some (by kernel_rfl))⟩
 t0 := Tryz.underlying0
 a0 := Tryz.isAgg0
 z0 := Tryz.sizeOf0
 v0 := Tryz.zeroValue0
 t3 := Tryz.underlying3
 a3 := Tryz.isAgg3
 z3 := Tryz.sizeOf3
 v3 := Tryz.zeroValue3
 t4 := Tryz.underlying4
 a4 := Tryz.isAgg4
 z4 := Tryz.sizeOf4
 v4 := Tryz.zeroValue4
 t22 := Tryz.underlying133
 a22 := Tryz.isAgg133
 z22 := Tryz.sizeOf133
 v22 := Tryz.zeroValue133
 t25 := Tryz.underlying194
 a25 := Tryz.isAgg194
 z25 := Tryz.sizeOf194
 v25 := Tryz.zeroValue194 }
theorem lays : Lays Tryz.prog 4 := {
 mixed := by kernel_rfl
 fSwap := Tryz.func203
 fRot := Tryz.func198
 fSym := Tryz.func180
 fStab := Tryz.func152
 fTop := Tryz.func121
 ins := insLays
 aE := Tryz.isAgg136
 zE := Tryz.sizeOf136
 t0 := Tryz.underlying0
 a0 := Tryz.isAgg0
 z0 := Tryz.sizeOf0
 v0 := Tryz.zeroValue0
 t3 := Tryz.underlying3
 a3 := Tryz.isAgg3
 z3 := Tryz.sizeOf3
 v3 := Tryz.zeroValue3
 t4 := Tryz.underlying4
 a4 := Tryz.isAgg4
 z4 := Tryz.sizeOf4
 v4 := Tryz.zeroValue4
 tu := Tryz.underlying197
 au := Tryz.isAgg197
 zu := Tryz.sizeOf197
 vu := Tryz.zeroValue197
 tS := Tryz.underlying133
 aS := Tryz.isAgg133
 zS := Tryz.sizeOf133
 vS := Tryz.zeroValue133
 tC := Tryz.underlying194
 aC := Tryz.isAgg194
 zC := Tryz.sizeOf194
 vC := Tryz.zeroValue194 }
variable {P : Program} {α : Type} [Inhabited α]
theorem swapRange_any (k : Nat) (L : Lays P k) (enc : α -> List Value) (g : Nat) (cb : Array Value) (blk off cap a b n : Nat) (d0 d : Array α) (w0 w : World)
 (R : RowK enc k w0 blk off d0) (hs : d0.size = d.size) (S : SWK enc k w0 blk off d w) (hab : a + n <= b) (hb : b + n <= d.size) (hsz : d.size < 4611686018427387904) :
 Calls P 203 #[.slice (some ⟨blk, off, none⟩) d.size cap, .int .i64 a, .int .i64 b, .int .i64 n, .func (.func g) #[] cb] w fun e w' => e = .returned (.tuple #[]) /\ SWK enc k w0 blk off (swr d a b n) w' := by
 have mixed := L.mixed; have aE := L.aE; have zE := L.zE; have t0 := L.t0; have a0 := L.a0; have z0 := L.z0; have v0 := L.v0; have t3 := L.t3; have a3 := L.a3; have z3 := L.z3; have v3 := L.v3; have t4 := L.t4; have a4 := L.a4; have z4 := L.z4; have v4 := L.v4; have tS := L.tS; have aS := L.aS; have zS := L.zS; have vS := L.vS; have tC := L.tC; have aC := L.aC; have zC := L.zC; have vC := L.vC
 have FG := L.fSwap
 have S0 : Aside (SWK enc k w0 blk off d w) := S
 clear S
 go_enter FG, Tryz.ntmps203
 go_wp2
 go_loopg [10] n (fun kx s10 wr => ∃ (i : Nat), s10 = .int .i64 i /\ i <= n /\ n - i <= kx /\ Aside (SWK enc k w0 blk off (swr d a b i) wr))
 case atStart => exact ⟨0, rfl, Nat.zero_le _, by omega, S0⟩
 case round =>
  clear S0
  obtain ⟨i, rfl, hin, hkx, S1⟩ := hrel
  by_cases hlt : i < n
  ·have hltz : (i : Int) < (n : Int) := by omega
   have hds : (swr d a b i).size = d.size := size_swr _ _ _ _
   generalize hdk : swr d a b i = dk at S1 hds
   have HDK := Lib.hid hdk
   clear hdk
   go_wp2_with fail
   have ea44 : ((a : Int) + (i : Int)).toNat = a + i := by omega
   have pa44 : (0 : Int) <= (a : Int) + (i : Int) := by omega
   have ba44 : (a : Int) + (i : Int) < (d.size : Int) := by omega
   have ec44 : ((b : Int) + (i : Int)).toNat = b + i := by omega
   have pc44 : (0 : Int) <= (b : Int) + (i : Int) := by omega
   have bc44 : (b : Int) + (i : Int) < (d.size : Int) := by omega
   have S2 : Aside (SWK enc k w0 blk off (swp dk (a + i) (b + i)) ((wr.drew.setCells blk (off + (a + i) * k) (enc dk[b + i]!)).setCells blk (off + (b + i) * k) (enc dk[a + i]!))) := S1.out.swapped R (a + i) (b + i) (by omega) (by omega)
   have l44a := S1.out.ld1 R (by omega) P (a + i) (by omega)
   have l44b := S1.out.ld1 R (by omega) P (b + i) (by omega)
   have s44a := S1.out.st1 R (by omega) P (a + i) (by omega) dk[b + i]!
   have s44b := S1.out.st2 R (by omega) P (a + i) (b + i) (by omega) (by omega) dk[b + i]! dk[a + i]!
   have n44a : (enc dk[a + i]!).length = k := R.hk _
   have n44b : (enc dk[b + i]!).length = k := R.hk _
   generalize enc dk[a + i]! = cI44 at S2 l44a s44b n44a
   generalize enc dk[b + i]! = cJ44 at S2 l44b s44a s44b n44b
   clear S1
   go_big_region_o
   clear l44a l44b s44a s44b
   generalize (wr.drew.setCells blk (off + (a + i) * k) cJ44).setCells blk (off + (b + i) * k) cI44 = w2 at S2 ⊢
   go_wp2
   go_roundg (n - (i + 1))
   case measure => omega
   case rel => exact ⟨i + 1, by go_num, by omega, by omega, by rw [<- HDK.out] at S2; exact S2⟩
  ·obtain rfl : i = n := by omega
   go_wp2
   go_end0
   exact ⟨rfl, S1.out⟩
end SP
namespace SP
variable {P : Program} {α : Type} [Inhabited α]
theorem swapRange_z (k : Nat) (L : Lays P k) (enc : α -> List Value) (g : Nat) (cb : Array Value) (blk off cap a b n : Nat) (d0 d : Array α) (w0 w : World)
 (R : RowK enc k w0 blk off d0) (hs : d0.size = d.size) (S : SWK enc k w0 blk off d w) (hab : a + n <= b) (hb : b + n <= d.size) (hsz : d.size < 4611686018427387904) (s : Nat) (az bz nz : Int) (h0 : s = d.size) (h1 : az = a) (h2 : bz = b) (h3 : nz = n) :
 Calls P 203 #[.slice (some ⟨blk, off, none⟩) s cap, .int .i64 az, .int .i64 bz, .int .i64 nz, .func (.func g) #[] cb] w fun e w' => e = .returned (.tuple #[]) /\ SWK enc k w0 blk off (swr d a b n) w' := by
 subst h0 h1 h2 h3
 exact swapRange_any k L enc g cb blk off cap a b n d0 d w0 w R hs S hab hb hsz
def RotPost (enc : α -> List Value) (k : Nat) (w0 : World) (blk off : Nat) (d : Array α) (a m b : Nat) (e : Ending) (w' : World) : Prop :=
 e = .returned (.tuple #[]) /\ ∃ d' : Array α, SWK enc k w0 blk off d' w' /\ PermIn a b d d' /\ ∀ t, d'[t]! = rotG d a m b t
theorem rotate_any (k : Nat) (L : Lays P k) (enc : α -> List Value) (g : Nat) (cb : Array Value) (blk off cap a m b : Nat) (d0 d : Array α) (w0 w : World)
 (R : RowK enc k w0 blk off d0) (hs : d0.size = d.size) (S : SWK enc k w0 blk off d w) (ham : a < m) (hmb : m < b) (hb : b <= d.size) (hsz : d.size < 4611686018427387904) :
 Calls P 198 #[.slice (some ⟨blk, off, none⟩) d.size cap, .int .i64 a, .int .i64 m, .int .i64 b, .func (.func g) #[] cb] w (RotPost enc k w0 blk off d a m b) := by
 have mixed := L.mixed; have aE := L.aE; have zE := L.zE; have t0 := L.t0; have a0 := L.a0; have z0 := L.z0; have v0 := L.v0; have t3 := L.t3; have a3 := L.a3; have z3 := L.z3; have v3 := L.v3; have t4 := L.t4; have a4 := L.a4; have z4 := L.z4; have v4 := L.v4; have tS := L.tS; have aS := L.aS; have zS := L.zS; have vS := L.vS; have tC := L.tC; have aC := L.aC; have zC := L.zC; have vC := L.vC
 have FG := L.fRot
 have eSwap : ∀ args w, (callFunc 203 args).run P w = .ok (.enter 203 args) w := enters_of L.fSwap (by kernel_rfl) rfl
 have S0 : Aside (SWK enc k w0 blk off d w) := S
 have HSW := Lib.hid (fun a b n (d : Array α) w => swapRange_z k L enc g cb blk off cap a b n d0 d w0 w R)
 clear S
 have hslot : Hid (m - (m - a) = a /\ m + (b - m) = b) := by unfold Hid; omega
 go_enter FG, Tryz.ntmps198
 go_wp2_with fail
 go_loopg [10, 11] (m - a + (b - m)) (fun kx s10 s11 wr => ∃ (i j : Nat) (dk : Array α), s10 = .int .i64 i /\ s11 = .int .i64 j /\ 0 < i /\ i <= m - a /\ 0 < j /\ j <= b - m /\ i + j <= kx /\ dk.size = d.size /\ Aside (SWK enc k w0 blk off dk wr) /\ Hid (PermIn a b d dk /\ ∀ t, rotG dk (m - i) m (m + j) t = rotG d a m b t))
 case atStart => exact ⟨m - a, b - m, d, by congr 1; omega, by congr 1; omega, by omega, Nat.le_refl _, by omega, Nat.le_refl _, Nat.le_refl _, rfl, S0, permIn_refl _ _ _, fun t => by rw [hslot.out.1, hslot.out.2]⟩
 case round =>
  clear S0
  obtain ⟨i, j, dk, rfl, rfl, hi0, hi, hj0, hj, hkx, hds, S1, HP⟩ := hrel
  rcases Nat.lt_trichotomy i j with hlt | heq | hgt
  ·have hne : ((i : Int) != (j : Int)) = true := by rw [bne_iff_ne]; omega
   have hnz : ¬ (j : Int) < (i : Int) := by omega
   have HX : Hid (PermIn a b d (swr dk (m - i) (m + j - i) i) /\ ∀ t, rotG (swr dk (m - i) (m + j - i) i) (m - i) m (m + (j - i)) t = rotG d a m b t) :=
    ⟨permIn_trans _ _ _ _ _ HP.out.1 (swr_perm dk _ _ i a b (by omega) (by omega) (by omega) (by omega) (by omega)), fun t => (rot_lt dk m i j t hlt (by omega) (by omega)).trans (HP.out.2 t)⟩
   go_wp2_with fail
   refine (HSW.out (m - i) (m + j - i) i dk _ (by omega) S1.out (by omega) (by omega) (by omega) _ _ _ _ (by omega) (by omega) (by omega) (by omega)).mono ?_
   rintro e w1 ⟨rfl, S2⟩
   go_wp2_with fail
   have S2' : Aside (SWK enc k w0 blk off (swr dk (m - i) (m + j - i) i) w1) := S2
   clear S2
   go_roundg (i + (j - i))
   case measure => omega
   case rel => exact ⟨i, j - i, _, rfl, by congr 1; omega, by omega, by omega, by omega, by omega, by omega, by rw [size_swr]; exact hds, S2', HX⟩
  ·subst heq
   have hne : ((i : Int) != (i : Int)) = false := by simp
   have HX : Hid (PermIn a b d (swr dk (m - i) m i) /\ ∀ t, (swr dk (m - i) m i)[t]! = rotG d a m b t) :=
    ⟨permIn_trans _ _ _ _ _ HP.out.1 (swr_perm dk _ _ i a b (by omega) (by omega) (by omega) (by omega) (by omega)), fun t => (rot_eq dk m i t (by omega) (by omega)).trans (HP.out.2 t)⟩
   go_wp2_with fail
   refine (HSW.out (m - i) m i dk _ (by omega) S1.out (by omega) (by omega) (by omega) _ _ _ _ (by omega) (by omega) (by omega) (by omega)).mono ?_
   rintro e w1 ⟨rfl, S2⟩
   go_wp2_with fail
   go_end0
   exact ⟨rfl, _, S2, HX.out.1, HX.out.2⟩
  ·have hne : ((i : Int) != (j : Int)) = true := by rw [bne_iff_ne]; omega
   have hnz : (j : Int) < (i : Int) := by omega
   have HX : Hid (PermIn a b d (swr dk (m - i) m j) /\ ∀ t, rotG (swr dk (m - i) m j) (m - (i - j)) m (m + j) t = rotG d a m b t) :=
    ⟨permIn_trans _ _ _ _ _ HP.out.1 (swr_perm dk _ _ j a b (by omega) (by omega) (by omega) (by omega) (by omega)), fun t => (rot_gt dk m i j t hgt (by omega) (by omega)).trans (HP.out.2 t)⟩
   go_wp2_with fail
   refine (HSW.out (m - i) m j dk _ (by omega) S1.out (by omega) (by omega) (by omega) _ _ _ _ (by omega) (by omega) (by omega) (by omega)).mono ?_
   rintro e w1 ⟨rfl, S2⟩
   go_wp2_with fail
   have S2' : Aside (SWK enc k w0 blk off (swr dk (m - i) m j) w1) := S2
   clear S2
   go_roundg (i - j + j)
   case measure => omega
   case rel => exact ⟨i - j, j, _, by congr 1; omega, rfl, by omega, by omega, by omega, by omega, by omega, by rw [size_swr]; exact hds, S2', HX⟩
end SP
namespace SP
variable {P : Program} {α : Type} [Inhabited α]
def SymPost (enc : α -> List Value) (k : Nat) (w0 : World) (blk off : Nat) (lt : α -> α -> Bool) (d : Array α) (a b : Nat) (e : Ending) (w' : World) : Prop :=
 e = .returned (.tuple #[]) /\ ∃ d' : Array α, SWK enc k w0 blk off d' w' /\ PermIn a b d d' /\ SortedIn lt a b d'
theorem sym_left (k : Nat) (L : Lays P k) (enc : α -> List Value) (cf : α -> α -> Int) (lt : α -> α -> Bool) (Sw : SWO lt) (g : Nat) (cb : Array Value) (blk off cap a m b : Nat) (d0 d : Array α) (w0 w : World)
 (eg : ∀ args w, (callFunc g args).run P w = .ok (.enter g args) w) (hcmp : CmpLays P g cb enc k cf blk off d0.size w0)
 (R : RowK enc k w0 blk off d0) (hs : d0.size = d.size) (S : SWK enc k w0 blk off d w) (ham : m = a + 1) (hmb : m < b) (hb : b <= d.size) (hsz : d.size < 4611686018427387904)
 (h2 : SortedIn lt m b d) (hx : ∀ i j, a <= i -> i < m -> m <= j -> j < b -> ltOf cf d[j]! d[i]! = lt d[j]! d[i]!) :
 Calls P 180 #[.slice (some ⟨blk, off, none⟩) d.size cap, .int .i64 a, .int .i64 m, .int .i64 b, .func (.func g) #[] cb] w (SymPost enc k w0 blk off lt d a b) := by
 have mixed := L.mixed; have aE := L.aE; have zE := L.zE; have t0 := L.t0; have a0 := L.a0; have z0 := L.z0; have v0 := L.v0; have t3 := L.t3; have a3 := L.a3; have z3 := L.z3; have v3 := L.v3; have t4 := L.t4; have a4 := L.a4; have z4 := L.z4; have v4 := L.v4; have tu := L.tu; have au := L.au; have zu := L.zu; have vu := L.vu; have tS := L.tS; have aS := L.aS; have zS := L.zS; have vS := L.vS; have tC := L.tC; have aC := L.aC; have zC := L.zC; have vC := L.vC
 have FG := L.fSym
 have S0 : Aside (SWK enc k w0 blk off d w) := S
 have HC : Aside _ := hcmp
 have HSW := Lib.hid Sw
 have HX := Lib.hid hx
 have H2 := Lib.hid h2
 clear S hcmp Sw hx h2
 subst ham
 have hone : (((a + 1 : Nat) : Int) - (a : Int) == 1) = true := by simp; omega
 have hone' : ((a : Int) + 1 - (a : Int) == 1) = true := by simp; omega
 go_enter FG, Tryz.ntmps180
 go_wp2_with fail
 go_loopg [10, 11] (b - a) (fun kx s10 s11 wr => ∃ (i j : Nat), s10 = .int .i64 i /\ s11 = .int .i64 j /\ a + 1 <= i /\ i <= j /\ j <= b /\ j - i <= kx /\ Aside (SWK enc k w0 blk off d wr) /\ Hid (a + 1 < i -> lt d[i - 1]! d[a]! = true) /\ Hid (j < b -> lt d[j]! d[a]! = false))
 case atStart => exact ⟨a + 1, b, by go_num, rfl, Nat.le_refl _, by omega, Nat.le_refl _, by omega, S0, fun h => by omega, fun h => by omega⟩
 case round =>
  clear S0
  obtain ⟨i, j, rfl, rfl, hi1, hij, hjb, hkx, S1, HA, HB⟩ := hrel
  by_cases hlt : i < j
  ·have hltz : (i : Int) < (j : Int) := by omega
   have eh : (((i : Int) + (j : Int)) / 2).toNat = (i + j) / 2 := by omega
   have ph : (0 : Int) <= ((i : Int) + (j : Int)) / 2 := by omega
   have bh : ((i : Int) + (j : Int)) / 2 < (d.size : Int) := by omega
   have ba : (a : Int) < (d.size : Int) := by omega
   have pa : (0 : Int) <= (a : Int) := by omega
   have hh : i <= (i + j) / 2 /\ (i + j) / 2 < j := by omega
   obtain ⟨xh, hxh⟩ : ∃ x, d[(i + j) / 2]! = x := ⟨_, rfl⟩
   obtain ⟨xa, hxa⟩ : ∃ x, d[a]! = x := ⟨_, rfl⟩
   have hcr : ltOf cf xh xa = lt xh xa := by rw [<- hxh, <- hxa]; exact HX.out a _ (Nat.le_refl _) (by omega) (by omega) (by omega)
   have lh := S1.out.ld R hs.symm P ((i + j) / 2) (by omega)
   have la := S1.out.ld R hs.symm P a (by omega)
   rw [hxh] at lh
   rw [hxa] at la
   have hcg := S1.out.cmp HC.out hs.symm xh xa
   have GR : Aside (∀ n os, SWK enc k w0 blk off d (grow (wr.drewN n) os)) := fun n os => S1.out.grown n os
   have HXH := Lib.hid hxh
   have HXA := Lib.hid hxa
   have HCR := Lib.hid hcr
   clear hxh hxa hcr S1
   by_cases hlv : cf xh xa < 0
   ·have HA' : Hid (a + 1 < (i + j) / 2 + 1 -> lt d[(i + j) / 2 + 1 - 1]! d[a]! = true) := fun _ => by
     rw [Nat.add_sub_cancel, HXH.out, HXA.out, <- HCR.out]; exact decide_eq_true hlv
    go_wp2_with fail
    go_quiet_grown (first | (go_at_fn g; refine Calls.grown_of (hcg _ _)))
    go_wp2_with fail
    go_roundg (j - ((i + j) / 2 + 1))
    case measure => omega
    case rel => exact ⟨(i + j) / 2 + 1, j, by first | rfl | (congr 1; omega), rfl, by omega, by omega, by omega, by omega, GR.out nq osq, HA', HB⟩
   ·have HB' : Hid ((i + j) / 2 < b -> lt d[(i + j) / 2]! d[a]! = false) := fun _ => by
     rw [HXH.out, HXA.out, <- HCR.out]; exact decide_eq_false hlv
    go_wp2_with fail
    go_quiet_grown (first | (go_at_fn g; refine Calls.grown_of (hcg _ _)))
    go_wp2_with fail
    go_roundg ((i + j) / 2 - i)
    case measure => omega
    case rel => exact ⟨i, (i + j) / 2, rfl, by first | rfl | (congr 1; omega), by omega, by omega, by omega, by omega, GR.out nq osq, HA, HB'⟩
  ·obtain rfl : i = j := by omega
   have hltz : ¬ (i : Int) < (i : Int) := by omega
   have HI := Lib.hid (ins_left HSW.out H2.out hi1 hjb hb HA.out HB.out)
   go_wp2_with fail
   go_loopg [13] (i - a) (fun kx s13 wr2 => ∃ c : Nat, s13 = .int .i64 ((a + c : Nat) : Int) /\ c <= i - 1 - a /\ i - a - c <= kx /\ Aside (SWK enc k w0 blk off (bubUp d a c) wr2))
   case atStart => exact ⟨0, rfl, Nat.zero_le _, by omega, S1⟩
   case round =>
    clear S1
    obtain ⟨c, rfl, hc, hkx2, S1⟩ := hrel
    by_cases hlt2 : c < i - 1 - a
    ·have hltz2 : ((a + c : Nat) : Int) < (i : Int) - 1 := by omega
     have hds : (bubUp d a c).size = d.size := size_bubUp _ _ _
     generalize hdk : bubUp d a c = dk at S1 hds
     have HDK := Lib.hid hdk
     clear hdk
     have hacl : a + c + 1 < d.size := by omega
     have HSTEP : Hid (swp dk (a + c) (a + c + 1) = bubUp d a (c + 1)) := by unfold Hid; rw [bubUp, HDK.out]
     generalize hac : a + c = ac at *
     have HAC := Lib.hid hac
     clear hac
     have ea44 : ((ac : Int) + 1).toNat = ac + 1 := by omega
     have pa44 : (0 : Int) <= (ac : Int) + 1 := by omega
     have ba44 : (ac : Int) + 1 < (d.size : Int) := by omega
     have pc44 : (0 : Int) <= (ac : Int) := by omega
     have bc44 : (ac : Int) < (d.size : Int) := by omega
     go_wp2_with fail
     have S2 : Aside (SWK enc k w0 blk off (swp dk ac (ac + 1)) ((wr.drew.setCells blk (off + ac * k) (enc dk[ac + 1]!)).setCells blk (off + (ac + 1) * k) (enc dk[ac]!))) := S1.out.swapped R ac (ac + 1) (by omega) (by omega)
     have l44a := S1.out.ld1 R (by omega) P ac (by omega)
     have l44b := S1.out.ld1 R (by omega) P (ac + 1) (by omega)
     have s44a := S1.out.st1 R (by omega) P ac (by omega) dk[ac + 1]!
     have s44b := S1.out.st2 R (by omega) P ac (ac + 1) (by omega) (by omega) dk[ac + 1]! dk[ac]!
     have n44a : (enc dk[ac]!).length = k := R.hk _
     have n44b : (enc dk[ac + 1]!).length = k := R.hk _
     generalize enc dk[ac]! = cI44 at S2 l44a s44b n44a
     generalize enc dk[ac + 1]! = cJ44 at S2 l44b s44a s44b n44b
     clear S1
     go_big_region_o
     clear l44a l44b s44a s44b
     generalize (wr.drew.setCells blk (off + ac * k) cJ44).setCells blk (off + (ac + 1) * k) cI44 = w2 at S2 ⊢
     go_wp2
     go_roundg (i - a - (c + 1))
     case measure => have := HAC.out; omega
     case rel => exact ⟨c + 1, by have := HAC.out; first | rfl | (congr 1; omega), by have := HAC.out; omega, by omega, by rw [HSTEP.out] at S2; exact S2⟩
    ·obtain rfl : c = i - 1 - a := by omega
     have hltz2 : ¬ ((a + (i - 1 - a) : Nat) : Int) < (i : Int) - 1 := by omega
     go_wp2_with fail
     go_end0
     exact ⟨rfl, _, S1.out, bubUp_perm d a _ a b (Nat.le_refl _) (by omega) hb, HI.out⟩
end SP
namespace SP
variable {P : Program} {α : Type} [Inhabited α]
theorem sym_right (k : Nat) (L : Lays P k) (enc : α -> List Value) (cf : α -> α -> Int) (lt : α -> α -> Bool) (Sw : SWO lt) (g : Nat) (cb : Array Value) (blk off cap a m b : Nat) (d0 d : Array α) (w0 w : World)
 (eg : ∀ args w, (callFunc g args).run P w = .ok (.enter g args) w) (hcmp : CmpLays P g cb enc k cf blk off d0.size w0)
 (R : RowK enc k w0 blk off d0) (hs : d0.size = d.size) (S : SWK enc k w0 blk off d w) (ham : a + 1 < m) (hmb : b = m + 1) (hb : b <= d.size) (hsz : d.size < 4611686018427387904)
 (h1 : SortedIn lt a m d) (hx : ∀ i j, a <= i -> i < m -> m <= j -> j < b -> ltOf cf d[j]! d[i]! = lt d[j]! d[i]!) :
 Calls P 180 #[.slice (some ⟨blk, off, none⟩) d.size cap, .int .i64 a, .int .i64 m, .int .i64 b, .func (.func g) #[] cb] w (SymPost enc k w0 blk off lt d a b) := by
 have mixed := L.mixed; have aE := L.aE; have zE := L.zE; have t0 := L.t0; have a0 := L.a0; have z0 := L.z0; have v0 := L.v0; have t3 := L.t3; have a3 := L.a3; have z3 := L.z3; have v3 := L.v3; have t4 := L.t4; have a4 := L.a4; have z4 := L.z4; have v4 := L.v4; have tu := L.tu; have au := L.au; have zu := L.zu; have vu := L.vu; have tS := L.tS; have aS := L.aS; have zS := L.zS; have vS := L.vS; have tC := L.tC; have aC := L.aC; have zC := L.zC; have vC := L.vC
 have FG := L.fSym
 have S0 : Aside (SWK enc k w0 blk off d w) := S
 have HC : Aside _ := hcmp
 have HSW := Lib.hid Sw
 have HX := Lib.hid hx
 have H1 := Lib.hid h1
 clear S hcmp Sw hx h1
 subst hmb
 have hone : ((m : Int) - (a : Int) == 1) = false := by rw [beq_eq_false_iff_ne]; omega
 have hone2 : (((m + 1 : Nat) : Int) - (m : Int) == 1) = true := by rw [beq_iff_eq]; omega
 have hone3 : ((m : Int) + 1 - (m : Int) == 1) = true := by rw [beq_iff_eq]; omega
 go_enter FG, Tryz.ntmps180
 go_wp2_with fail
 go_loopg [14, 15] (m - a) (fun kx s10 s11 wr => ∃ (i j : Nat), s10 = .int .i64 i /\ s11 = .int .i64 j /\ a <= i /\ i <= j /\ j <= m /\ j - i <= kx /\ Aside (SWK enc k w0 blk off d wr) /\ Hid (a < i -> lt d[m]! d[i - 1]! = false) /\ Hid (j < m -> lt d[m]! d[j]! = true))
 case atStart => exact ⟨a, m, rfl, rfl, Nat.le_refl _, by omega, Nat.le_refl _, by omega, S0, fun h => by omega, fun h => by omega⟩
 case round =>
  clear S0
  obtain ⟨i, j, rfl, rfl, hi1, hij, hjb, hkx, S1, HA, HB⟩ := hrel
  by_cases hlt : i < j
  ·have hltz : (i : Int) < (j : Int) := by omega
   have eh : (((i : Int) + (j : Int)) / 2).toNat = (i + j) / 2 := by omega
   have ph : (0 : Int) <= ((i : Int) + (j : Int)) / 2 := by omega
   have bh : ((i : Int) + (j : Int)) / 2 < (d.size : Int) := by omega
   have ba : (m : Int) < (d.size : Int) := by omega
   have pa : (0 : Int) <= (m : Int) := by omega
   have hh : i <= (i + j) / 2 /\ (i + j) / 2 < j := by omega
   obtain ⟨xh, hxh⟩ : ∃ x, d[(i + j) / 2]! = x := ⟨_, rfl⟩
   obtain ⟨xa, hxa⟩ : ∃ x, d[m]! = x := ⟨_, rfl⟩
   have hcr : ltOf cf xa xh = lt xa xh := by rw [<- hxh, <- hxa]; exact HX.out _ m (by omega) (by omega) (Nat.le_refl _) (by omega)
   have lh := S1.out.ld R hs.symm P ((i + j) / 2) (by omega)
   have la := S1.out.ld R hs.symm P m (by omega)
   rw [hxh] at lh
   rw [hxa] at la
   have hcg := S1.out.cmp HC.out hs.symm xa xh
   have GR : Aside (∀ n os, SWK enc k w0 blk off d (grow (wr.drewN n) os)) := fun n os => S1.out.grown n os
   have HXH := Lib.hid hxh
   have HXA := Lib.hid hxa
   have HCR := Lib.hid hcr
   clear hxh hxa hcr S1
   by_cases hlv : cf xa xh < 0
   ·have HB' : Hid ((i + j) / 2 < m -> lt d[m]! d[(i + j) / 2]! = true) := fun _ => by
     rw [HXH.out, HXA.out, <- HCR.out]; exact decide_eq_true hlv
    go_wp2_with fail
    go_quiet_grown (first | (go_at_fn g; refine Calls.grown_of (hcg _ _)))
    go_wp2_with fail
    go_roundg ((i + j) / 2 - i)
    case measure => omega
    case rel => exact ⟨i, (i + j) / 2, rfl, by first | rfl | (congr 1; omega), by omega, by omega, by omega, by omega, GR.out nq osq, HA, HB'⟩
   ·have HA' : Hid (a < (i + j) / 2 + 1 -> lt d[m]! d[(i + j) / 2 + 1 - 1]! = false) := fun _ => by
     rw [Nat.add_sub_cancel, HXH.out, HXA.out, <- HCR.out]; exact decide_eq_false hlv
    have hlv2 : decide (cf xa xh < 0) = false := decide_eq_false hlv
    have hlv3 : 0 <= cf xa xh := by omega
    go_wp2_with fail
    go_quiet_grown (first | (go_at_fn g; refine Calls.grown_of (hcg _ _)))
    go_wp2_with fail
    go_roundg (j - ((i + j) / 2 + 1))
    case measure => omega
    case rel => exact ⟨(i + j) / 2 + 1, j, by first | rfl | (congr 1; omega), rfl, by omega, by omega, by omega, by omega, GR.out nq osq, HA', HB⟩
  ·obtain rfl : i = j := by omega
   have hltz : ¬ (i : Int) < (i : Int) := by omega
   have HI := Lib.hid (ins_right HSW.out H1.out hi1 hjb (by omega) HA.out HB.out)
   go_wp2_with fail
   go_loopg [17] (m - i) (fun kx s13 wr2 => ∃ c : Nat, s13 = .int .i64 ((m - c : Nat) : Int) /\ c <= m - i /\ m - i - c <= kx /\ Aside (SWK enc k w0 blk off (bubDn d m c) wr2))
   case atStart => exact ⟨0, rfl, Nat.zero_le _, by omega, S1⟩
   case round =>
    clear S1
    obtain ⟨c, rfl, hc, hkx2, S1⟩ := hrel
    by_cases hlt2 : c < m - i
    ·have hds : (bubDn d m c).size = d.size := size_bubDn _ _ _
     generalize hdk : bubDn d m c = dk at S1 hds
     have HDK := Lib.hid hdk
     clear hdk
     have HSTEP : Hid (swp dk (m - c) (m - c - 1) = bubDn d m (c + 1)) := by unfold Hid; rw [bubDn, HDK.out]
     obtain ⟨ac, hac⟩ : ∃ ac, m - c = ac + 1 := ⟨m - c - 1, by omega⟩
     rw [hac, Nat.add_sub_cancel] at HSTEP
     rw [hac]
     have hacl : ac + 1 < d.size := by omega
     have hiac : i <= ac := by omega
     have HAC := Lib.hid hac
     clear hac
     have hltz2 : (i : Int) < ((ac + 1 : Nat) : Int) := by omega
     have hltz3 : (i : Int) < (ac : Int) + 1 := by omega
     have ea44 : ((ac : Int) + 1).toNat = ac + 1 := by omega
     have pa44 : (0 : Int) <= (ac : Int) + 1 := by omega
     have ba44 : (ac : Int) + 1 < (d.size : Int) := by omega
     have pc44 : (0 : Int) <= (ac : Int) := by omega
     have bc44 : (ac : Int) < (d.size : Int) := by omega
     have em44 : (ac : Int) + 1 - 1 = (ac : Int) := by omega
     go_wp2_with fail
     have S2 : Aside (SWK enc k w0 blk off (swp dk (ac + 1) ac) ((wr.drew.setCells blk (off + (ac + 1) * k) (enc dk[ac]!)).setCells blk (off + ac * k) (enc dk[ac + 1]!))) := S1.out.swapped R (ac + 1) ac (by omega) (by omega)
     have l44a := S1.out.ld1 R (by omega) P (ac + 1) (by omega)
     have l44b := S1.out.ld1 R (by omega) P ac (by omega)
     have s44a := S1.out.st1 R (by omega) P (ac + 1) (by omega) dk[ac]!
     have s44b := S1.out.st2 R (by omega) P (ac + 1) ac (by omega) (by omega) dk[ac]! dk[ac + 1]!
     have n44a : (enc dk[ac + 1]!).length = k := R.hk _
     have n44b : (enc dk[ac]!).length = k := R.hk _
     generalize enc dk[ac + 1]! = cI44 at S2 l44a s44b n44a
     generalize enc dk[ac]! = cJ44 at S2 l44b s44a s44b n44b
     clear S1
     go_big_region_o
     clear l44a l44b s44a s44b
     generalize (wr.drew.setCells blk (off + (ac + 1) * k) cJ44).setCells blk (off + ac * k) cI44 = w2 at S2 ⊢
     go_wp2
     go_roundg (m - i - (c + 1))
     case measure => have := HAC.out; omega
     case rel => exact ⟨c + 1, by have := HAC.out; first | rfl | (congr 1; omega), by have := HAC.out; omega, by omega, by rw [HSTEP.out] at S2; exact S2⟩
    ·obtain rfl : c = m - i := by omega
     have hmi : m - (m - i) = i := by omega
     rw [hmi]
     have hltz2 : ¬ (i : Int) < (i : Int) := by omega
     go_wp2_with fail
     go_end0
     exact ⟨rfl, _, S1.out, bubDn_perm d m _ a (m + 1) (by omega) (by omega) (by omega) hb, HI.out⟩
end SP
end
end Go.Proofs.YtfgjimpmpckgpaaGreatDoor
