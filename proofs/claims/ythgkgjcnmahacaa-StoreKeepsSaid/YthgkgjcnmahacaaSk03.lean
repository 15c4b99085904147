import Derived.Test.YthgkgjcnmahacaaSk00
import Derived.RangeFuncNested
import Derived.RangeFuncBound
import Derived.RangeFuncCalls
import Derived.RangeFuncLeaves
import Derived.Shelf.Abstract
import Derived.OwnWalkIn
import Derived.TacticsInMore
import Derived.LoopNIn
import Derived.LoopIn
import Derived.Deep.DeepMust
import Derived.Test.YthgkgjcnmahacaaSk02
import Derived.Test.YthgkgjcnmahacaaProg
import Derived.Shelf.SlSortCmp.KitK
import Derived.Sort.WalkB2
import Derived.Sort.WalkB12
import Derived.Deep.LoopGhost
import Derived.WalkKit
import Derived.Lib.Hide
import Derived.Shelf.SlSortCmp.QuietGrown
import Derived.Deep.Cut
import Derived.Deep.CutRange
import Derived.Test.YthgkgjcnmahacaaSk01
import Derived.Maps.OwnIn
import Derived.RangeFuncBox
import Derived.Stop.RegionWithIn
import Derived.BigQuiet
section
/- slices.Backward at a slice of entries and at a slice of pointers: what it hands to a loop's body, from the last element to the first. -/
set_option linter.unusedSimpArgs false
set_option linter.unusedVariables false
namespace Go.Proofs.Ythgkgjcnmahacaa
open Go.RowKit Go.Shelf

attribute [local go_sem] Oper.semAt_some

/-- What a round keeps: all below n₀, and the block in which the slice is held. -/
def Kq (n₀ Bs : Nat) (W W' : World) : Prop := Below n₀ W W' ∧ W'.heap[Bs]? = W.heap[Bs]?
theorem Kq.refl (n₀ Bs : Nat) (W : World) : Kq n₀ Bs W W := ⟨Below.refl _ _, rfl⟩
theorem Kq.trans {n₀ Bs : Nat} {A B C : World} (h : Kq n₀ Bs A B) (k : Kq n₀ Bs B C) : Kq n₀ Bs A C := ⟨h.1.trans k.1, k.2.trans h.2⟩
theorem Kq.book {n₀ Bs : Nat} {w : World} (hn : n₀ ≤ w.heap.size) (hB : Bs < w.heap.size) (W : World) (l : Nat) (o o' : Obj) (hl : w.heap.size ≤ l) (h : W.heap[l]? = some o) (h1 : o.isCells = false) (h2 : o.isWalk = false) : Kq n₀ Bs W (W.putObj l o') :=
  ⟨belowK_b hn W l o o' hl h h1 h2, World.putObj_heap_other (by omega)⟩
theorem Kq.cell {n₀ Bs : Nat} {W W' : World} (h : Kq n₀ Bs W W') {v : Value} (hc : W.cell? ⟨Bs, 0, none⟩ = some v) : W'.cell? ⟨Bs, 0, none⟩ = some v := (World.cell?_of_block (w := W) h.2).trans hc

/-- What has come when k rounds are over. -/
def backTo {α : Type} (xs : List α) (k : Nat) : List (Nat × α) := (xs.zipIdx.reverse.take k).map fun p => (p.2, p.1)
theorem backTo_succ {α : Type} (xs : List α) (k j : Nat) (x : α) (hk : k < xs.length) (hj : xs.length - 1 - k = j) (hx : xs[j]? = some x) : backTo xs (k + 1) = backTo xs k ++ [(j, x)] := by
  subst hj
  unfold backTo
  rw [List.take_add_one, List.getElem?_reverse (by simpa using hk), List.length_zipIdx, List.getElem?_zipIdx, hx]
  simp
theorem backTo_length {α : Type} (xs : List α) (k : Nat) (hk : k ≤ xs.length) : (backTo xs k).length = k := by simp [backTo]; omega
theorem backTo_all {α : Type} (xs : List α) : (backTo xs xs.length).map (·.2) = xs.reverse := by
  unfold backTo
  rw [List.take_of_length_le (by simp), List.map_map, List.map_reverse]
  congr 1
  apply List.ext_getElem
  · simp
  · intro i h1 h2
    simp

/-- An entry that may be. -/
abbrev OkE := { e : En // e.ok }
def encO (x : OkE) : List Value := encE x.1

set_option maxRecDepth 100000 in
set_option maxHeartbeats 2000000 in
theorem backE1_in (F : Fence) (n : Nat) (h7 : F.fn 116) (hro : F.round = none) (hn : 1 ≤ n) (l Bs n₀ b off cap : Nat) (xs : List OkE) (hlen : xs.length ≤ 4398046511104) (hb : b < n₀) (J Jx : List (Nat × OkE) → World → Prop)
    (hY : ∀ pre x W, J pre W → pre.length < xs.length → YieldAt F (n - 1) Try.prog l #[.int .i64 (x.1 : Nat), .agg #[.int .i64 x.2.1.seq, .string x.2.1.id, .int .i64 x.2.1.what]] W fun e W' =>
      (e = .returned (.bool true) ∧ J (pre ++ [x]) W' ∧ Kq n₀ Bs W W') ∨ (e = .returned (.bool false) ∧ Jx (pre ++ [x]) W'))
    (W : World) (hBs : W.cell? ⟨Bs, 0, none⟩ = some (.slice (some ⟨b, off, none⟩) xs.length cap)) (hc : RowAt W b off encO 3 xs) (h0 : J [] W) :
    CallsIn F n Try.prog 116 #[.func (.yield l) #[] #[], .pointer (some ⟨Bs, 0, none⟩)] W fun e W' => (∃ v, e = .returned v) ∧
      ((∃ ys, ys = backTo xs xs.length ∧ J ys W') ∨ (∃ pre, True ∧ Jx pre W')) := by
  refine callsIn_of_wp Try.func116 rfl h7 ?_ hro
  simp only [Try.ntmps116, List.size_toArray, List.length_cons, List.length_nil, Nat.reduceAdd, Nat.reduceSub, Array.replicate_succ, Array.replicate_zero, List.push_toArray, List.append_toArray, List.nil_append, List.cons_append]
  gi_wp2
  gi_loopw [3] (fun i wr => ∃ k : Nat, k ≤ xs.length ∧ i = .int .i64 ((xs.length : Int) - 1 - (k : Int)) ∧ J (backTo xs k) wr ∧ Kq n₀ Bs W wr)
    (fun i _ => (intOf i + 1).toNat)
  case atStart => exact ⟨0, Nat.zero_le _, by congr 1; omega, h0, Kq.refl _ _ _⟩
  case round =>
    obtain ⟨k, hk, rfl, hJs, hnx⟩ := hrel
    have hcs := hnx.cell hBs
    by_cases hlt : k < xs.length
    · obtain ⟨j, hj⟩ : ∃ j, xs.length - 1 - k = j := ⟨_, rfl⟩
      have ej : (xs.length : Int) - 1 - (k : Int) = (j : Int) := by omega
      have hjl : j < xs.length := by omega
      obtain ⟨x, hx⟩ : ∃ x, xs[j]? = some x := ⟨_, List.getElem?_eq_getElem hjl⟩
      obtain ⟨fn, tmps, assign, body, hy, hR⟩ := hY _ (j, x) wr hJs (by rw [backTo_length _ _ hk]; exact hlt)
      dsimp only at hy
      have c0 := bcs hnx.1 hb (hc j x hx 0 _ rfl)
      have c1 := bcs hnx.1 hb (hc j x hx 1 _ rfl)
      have c2 := bcs hnx.1 hb (hc j x hx 2 _ rfl)
      rw [Nat.add_zero] at c0
      have hT : Hid (backTo xs (k + 1) = backTo xs k ++ [(j, x)]) := backTo_succ xs k j x hlt hj hx
      have HJ := Lib.hid hj
      clear hj hx hY
      have hR' := Lib.hid hR
      clear hR
      gi_wp2
      refine hR'.out.mono ?_
      rintro e W3 (⟨rfl, hJ3, hk3⟩ | ⟨rfl, hJx3⟩)
      · gi_wp2
        go_roundw
        case rel => exact ⟨k + 1, by omega, by congr 1; omega, by rw [hT.out]; exact hJ3, hnx.trans hk3⟩
        case measure => simp [intOf]; omega
      · gi_wp2
        refine bodyPost_ret (results_none rfl _ _ _) rfl ?_
        exact ⟨⟨_, rfl⟩, .inr ⟨_, trivial, hJx3⟩⟩
    · obtain rfl : k = xs.length := by omega
      gi_wp2
      go_end0
      exact ⟨⟨_, rfl⟩, .inl ⟨_, rfl, hJs⟩⟩

set_option maxRecDepth 100000 in
set_option maxHeartbeats 1000000 in
theorem backE1_nil (pa : Option Addr) (ca : Nat) (F : Fence) (n : Nat) (h7 : F.fn 116) (hro : F.round = none) (l Bs : Nat) (J : List (Nat × OkE) → World → Prop) (W : World) (hBs : W.cell? ⟨Bs, 0, none⟩ = some (.slice pa 0 ca)) (h0 : J [] W) :
    CallsIn F n Try.prog 116 #[.func (.yield l) #[] #[], .pointer (some ⟨Bs, 0, none⟩)] W fun e W' => (∃ v, e = .returned v) ∧ J [] W' := by
  refine callsIn_of_wp Try.func116 rfl h7 ?_ hro
  simp only [Try.ntmps116, List.size_toArray, List.length_cons, List.length_nil, Nat.reduceAdd, Nat.reduceSub, Array.replicate_succ, Array.replicate_zero, List.push_toArray, List.append_toArray, List.nil_append, List.cons_append]
  gi_wp2
  gi_loopw [3] (fun i wr => i = .int .i64 (-1) ∧ J [] wr) (fun _ _ => 0)
  case atStart => exact ⟨rfl, h0⟩
  case round =>
    obtain ⟨rfl, hJs⟩ := hrel
    gi_wp2
    go_end0
    exact ⟨⟨_, rfl⟩, hJs⟩

set_option maxHeartbeats 1000000 in
theorem backE_in (F : Fence) (n : Nat) (h5 : F.fn 91) (hro : F.round = none) (v : Value) (w : World) (hv : ∃ a len cap, v = .slice a len cap) :
    CallsIn F n Try.prog 91 #[v] w fun e w' => e = .returned (.func (.func 116) #[] #[.pointer (some ⟨w.heap.size, 0, none⟩)]) ∧ w' = w.alloc (.cells #[v] 33) := by
  obtain ⟨a, len, cap, rfl⟩ := hv
  refine callsIn_of_wp Try.func91 rfl h5 ?_ hro
  simp only [Try.ntmps91, List.size_toArray, List.length_cons, List.length_nil, Nat.reduceAdd, Nat.reduceSub, Array.replicate_succ, Array.replicate_zero, List.push_toArray, List.append_toArray, List.nil_append, List.cons_append]
  gi_wp2
  go_ret
  exact ⟨rfl, rfl⟩

theorem backE_stops (F : Fence) (n : Nat) (h7 : F.fn 116) (hro : F.round = none) (hn : 1 ≤ n) (Bs n₀ : Nat) (v : Value) (xs : List OkE) (hlen : xs.length ≤ 4398046511104) (w : World) (hBs : Bs < w.heap.size) (hn₀ : n₀ ≤ w.heap.size)
    (hc : w.cell? ⟨Bs, 0, none⟩ = some v) (hv : Rd w n₀ encO 3 v xs) :
    SeqStopsK F n Try.prog 116 #[.pointer (some ⟨Bs, 0, none⟩)] (fun x : Nat × OkE => #[.int .i64 (x.1 : Nat), .agg #[.int .i64 x.2.1.seq, .string x.2.1.id, .int .i64 x.2.1.what]]) (Kq n₀ Bs) (fun ys => ys = backTo xs xs.length) (fun _ => True) xs.length w := fun l J Jx W hW _ _ hY h0 => by
  have hc' := (hW.cell (p := ⟨Bs, 0, none⟩) hBs).trans hc
  obtain ⟨p, cap, rfl, h1, h2, h3, h4⟩ := hv
  cases p with
  | none =>
    have hc0 : cap = 0 := h3 rfl
    have hx : xs = [] := List.eq_nil_of_length_eq_zero (by omega)
    subst hx hc0
    exact (backE1_nil _ _ F n h7 hro l Bs J W hc' h0).mono fun e W' ⟨he, hj⟩ => ⟨he, .inl ⟨_, rfl, hj⟩⟩
  | some a =>
    by_cases hx0 : xs.length = 0
    · have hx : xs = [] := List.eq_nil_of_length_eq_zero hx0
      subst hx
      exact (backE1_nil _ _ F n h7 hro l Bs J W hc' h0).mono fun e W' ⟨he, hj⟩ => ⟨he, .inl ⟨_, rfl, hj⟩⟩
    obtain ⟨b, o, rfl, hb, hr⟩ := h4 a rfl (by omega)
    exact backE1_in F n h7 hro hn l Bs n₀ b o cap xs hlen hb J Jx hY W hc' (hr.below hW (by omega)) h0

/-- A pointer to the head of a block. -/
def encPt (b : Nat) : List Value := [.pointer (some ⟨b, 0, none⟩)]
theorem codecPt : Codec encPt 1 := ⟨fun _ => rfl, fun x u hu => by
  simp only [encPt, List.mem_cons, List.not_mem_nil, or_false] at hu
  rcases hu with rfl; rfl, by decide⟩

variable {p : Nat → Prop}
def encPs (x : {b : Nat // p b}) : List Value := encPt x.1

set_option maxRecDepth 100000 in
set_option maxHeartbeats 2000000 in
theorem backQ1_in (F : Fence) (n : Nat) (h7 : F.fn 117) (hro : F.round = none) (hn : 1 ≤ n) (l Bs n₀ b off cap : Nat) (xs : List {b : Nat // p b}) (hlen : xs.length ≤ 17592186044416) (hb : b < n₀) (J Jx : List (Nat × {b : Nat // p b}) → World → Prop)
    (hY : ∀ pre x W, J pre W → pre.length < xs.length → YieldAt F (n - 1) Try.prog l #[.int .i64 (x.1 : Nat), .pointer (some ⟨x.2.1, 0, none⟩)] W fun e W' =>
      (e = .returned (.bool true) ∧ J (pre ++ [x]) W' ∧ Kq n₀ Bs W W') ∨ (e = .returned (.bool false) ∧ Jx (pre ++ [x]) W'))
    (W : World) (hBs : W.cell? ⟨Bs, 0, none⟩ = some (.slice (some ⟨b, off, none⟩) xs.length cap)) (hc : RowAt W b off encPs 1 xs) (h0 : J [] W) :
    CallsIn F n Try.prog 117 #[.func (.yield l) #[] #[], .pointer (some ⟨Bs, 0, none⟩)] W fun e W' => (∃ v, e = .returned v) ∧
      ((∃ ys, ys = backTo xs xs.length ∧ J ys W') ∨ (∃ pre, True ∧ Jx pre W')) := by
  refine callsIn_of_wp Try.func117 rfl h7 ?_ hro
  simp only [Try.ntmps117, List.size_toArray, List.length_cons, List.length_nil, Nat.reduceAdd, Nat.reduceSub, Array.replicate_succ, Array.replicate_zero, List.push_toArray, List.append_toArray, List.nil_append, List.cons_append]
  gi_wp2
  gi_loopw [3] (fun i wr => ∃ k : Nat, k ≤ xs.length ∧ i = .int .i64 ((xs.length : Int) - 1 - (k : Int)) ∧ J (backTo xs k) wr ∧ Kq n₀ Bs W wr)
    (fun i _ => (intOf i + 1).toNat)
  case atStart => exact ⟨0, Nat.zero_le _, by congr 1; omega, h0, Kq.refl _ _ _⟩
  case round =>
    obtain ⟨k, hk, rfl, hJs, hnx⟩ := hrel
    have hcs := hnx.cell hBs
    by_cases hlt : k < xs.length
    · obtain ⟨j, hj⟩ : ∃ j, xs.length - 1 - k = j := ⟨_, rfl⟩
      have ej : (xs.length : Int) - 1 - (k : Int) = (j : Int) := by omega
      have hjl : j < xs.length := by omega
      obtain ⟨x, hx⟩ : ∃ x, xs[j]? = some x := ⟨_, List.getElem?_eq_getElem hjl⟩
      obtain ⟨fn, tmps, assign, body, hy, hR⟩ := hY _ (j, x) wr hJs (by rw [backTo_length _ _ hk]; exact hlt)
      dsimp only at hy
      have c0 := bcs hnx.1 hb (hc j x hx 0 _ rfl)
      rw [Nat.add_zero, Nat.mul_one] at c0
      have hT : Hid (backTo xs (k + 1) = backTo xs k ++ [(j, x)]) := backTo_succ xs k j x hlt hj hx
      have HJ := Lib.hid hj
      clear hj hx hY
      have hR' := Lib.hid hR
      clear hR
      gi_wp2
      refine hR'.out.mono ?_
      rintro e W3 (⟨rfl, hJ3, hk3⟩ | ⟨rfl, hJx3⟩)
      · gi_wp2
        go_roundw
        case rel => exact ⟨k + 1, by omega, by congr 1; omega, by rw [hT.out]; exact hJ3, hnx.trans hk3⟩
        case measure => simp [intOf]; omega
      · gi_wp2
        refine bodyPost_ret (results_none rfl _ _ _) rfl ?_
        exact ⟨⟨_, rfl⟩, .inr ⟨_, trivial, hJx3⟩⟩
    · obtain rfl : k = xs.length := by omega
      gi_wp2
      go_end0
      exact ⟨⟨_, rfl⟩, .inl ⟨_, rfl, hJs⟩⟩

set_option maxRecDepth 100000 in
set_option maxHeartbeats 1000000 in
theorem backQ1_nil (pa : Option Addr) (ca : Nat) (F : Fence) (n : Nat) (h7 : F.fn 117) (hro : F.round = none) (l Bs : Nat) (J : List (Nat × {b : Nat // p b}) → World → Prop) (W : World) (hBs : W.cell? ⟨Bs, 0, none⟩ = some (.slice pa 0 ca)) (h0 : J [] W) :
    CallsIn F n Try.prog 117 #[.func (.yield l) #[] #[], .pointer (some ⟨Bs, 0, none⟩)] W fun e W' => (∃ v, e = .returned v) ∧ J [] W' := by
  refine callsIn_of_wp Try.func117 rfl h7 ?_ hro
  simp only [Try.ntmps117, List.size_toArray, List.length_cons, List.length_nil, Nat.reduceAdd, Nat.reduceSub, Array.replicate_succ, Array.replicate_zero, List.push_toArray, List.append_toArray, List.nil_append, List.cons_append]
  gi_wp2
  gi_loopw [3] (fun i wr => i = .int .i64 (-1) ∧ J [] wr) (fun _ _ => 0)
  case atStart => exact ⟨rfl, h0⟩
  case round =>
    obtain ⟨rfl, hJs⟩ := hrel
    gi_wp2
    go_end0
    exact ⟨⟨_, rfl⟩, hJs⟩

set_option maxHeartbeats 1000000 in
theorem backQ_in (F : Fence) (n : Nat) (h5 : F.fn 92) (hro : F.round = none) (v : Value) (w : World) (hv : ∃ a len cap, v = .slice a len cap) :
    CallsIn F n Try.prog 92 #[v] w fun e w' => e = .returned (.func (.func 117) #[] #[.pointer (some ⟨w.heap.size, 0, none⟩)]) ∧ w' = w.alloc (.cells #[v] 135) := by
  obtain ⟨a, len, cap, rfl⟩ := hv
  refine callsIn_of_wp Try.func92 rfl h5 ?_ hro
  simp only [Try.ntmps92, List.size_toArray, List.length_cons, List.length_nil, Nat.reduceAdd, Nat.reduceSub, Array.replicate_succ, Array.replicate_zero, List.push_toArray, List.append_toArray, List.nil_append, List.cons_append]
  gi_wp2
  go_ret
  exact ⟨rfl, rfl⟩

theorem backQ_stops (F : Fence) (n : Nat) (h7 : F.fn 117) (hro : F.round = none) (hn : 1 ≤ n) (Bs n₀ : Nat) (v : Value) (xs : List {b : Nat // p b}) (hlen : xs.length ≤ 17592186044416) (w : World) (hBs : Bs < w.heap.size) (hn₀ : n₀ ≤ w.heap.size)
    (hc : w.cell? ⟨Bs, 0, none⟩ = some v) (hv : Rd w n₀ encPs 1 v xs) :
    SeqStopsK F n Try.prog 117 #[.pointer (some ⟨Bs, 0, none⟩)] (fun x : Nat × {b : Nat // p b} => #[.int .i64 (x.1 : Nat), .pointer (some ⟨x.2.1, 0, none⟩)]) (Kq n₀ Bs) (fun ys => ys = backTo xs xs.length) (fun _ => True) xs.length w := fun l J Jx W hW _ _ hY h0 => by
  have hc' := (hW.cell (p := ⟨Bs, 0, none⟩) hBs).trans hc
  obtain ⟨p, cap, rfl, h1, h2, h3, h4⟩ := hv
  cases p with
  | none =>
    have hc0 : cap = 0 := h3 rfl
    have hx : xs = [] := List.eq_nil_of_length_eq_zero (by omega)
    subst hx hc0
    exact (backQ1_nil _ _ F n h7 hro l Bs J W hc' h0).mono fun e W' ⟨he, hj⟩ => ⟨he, .inl ⟨_, rfl, hj⟩⟩
  | some a =>
    by_cases hx0 : xs.length = 0
    · have hx : xs = [] := List.eq_nil_of_length_eq_zero hx0
      subst hx
      exact (backQ1_nil _ _ F n h7 hro l Bs J W hc' h0).mono fun e W' ⟨he, hj⟩ => ⟨he, .inl ⟨_, rfl, hj⟩⟩
    obtain ⟨b, o, rfl, hb, hr⟩ := h4 a rfl (by omega)
    exact backQ1_in F n h7 hro hn l Bs n₀ b o cap xs hlen hb J Jx hY W hc' (hr.below hW (by omega)) h0
end Go.Proofs.Ythgkgjcnmahacaa
end

section
set_option linter.unusedSimpArgs false
set_option linter.unusedVariables false
namespace Go.Proofs.Ythgkgjcnmahacaa
open Go.RowKit Go.OpenShut

def lastF (l : List En) (s : List UInt8) : Option Value := l.foldl (fun a e => if s = e.id.data.toList then some (.int .i64 e.what) else a) none
theorem lastF_take {l : List En} {j : Nat} {y : En} (hy : l[j]? = some y) : lastF (l.take (j + 1)) = fun s => if s = y.id.data.toList then some (.int .i64 y.what) else lastF (l.take j) s := by
  funext s
  rw [List.take_add_one, hy]
  simp [lastF]
theorem data_inj (a b : ByteArray) : a.data.toList = b.data.toList ↔ a = b := by
  obtain ⟨⟨x⟩⟩ := a
  obtain ⟨⟨y⟩⟩ := b
  simp
theorem lastF_W (l : List En) (id : ByteArray) : (lastF l id.data.toList).getD (.int .i64 0) = .int .i64 (lastW l id) := by
  suffices ∀ (l : List En) (o : Option Value) (a : Int), o.getD (.int .i64 0) = .int .i64 a →
    (l.foldl (fun a e => if id.data.toList = e.id.data.toList then some (.int .i64 e.what) else a) o).getD (.int .i64 0) = .int .i64 (l.foldl (fun a e => if e.id = id then e.what else a) a) from this l none 0 rfl
  intro l
  induction l with
  | nil => intro o a h; exact h
  | cons e l ih =>
    intro o a h
    simp only [List.foldl_cons]
    refine ih _ _ ?_
    by_cases h1 : e.id = id
    · rw [if_pos h1, if_pos (by rw [h1])]; rfl
    · rw [if_neg h1, if_neg (fun e1 => h1 ((data_inj _ _).1 e1).symm)]; exact h
theorem zeroInt (w : World) : (zeroValue 3).run Try.prog w = .ok (.int .i64 0) w := by kernel_rfl

set_option maxRecDepth 100000 in
set_option maxHeartbeats 1000000 in
theorem right_head (w : World) (B : Nat) (v : Value) (l : List En) (floor seq : Int) (hv : RdE w B v l) (hf : (Lit.int .i64 floor).wf = true) (hs : (Lit.int .i64 seq).wf = true) (hh : headB l.length floor seq = false) :
    Calls Try.prog 57 #[v, .int .i64 floor, .int .i64 seq] w fun e w' => e = .returned (.bool (rightB l floor seq)) ∧ Below w.heap.size w w' := by
  rw [rightB_no hh]
  obtain ⟨_, p, c, rfl, hlc, hcm, hp0, hp⟩ := hv
  unfold maxLen at hcm
  have b1 := bounds_i64 hf
  have b2 := bounds_i64 hs
  have hd : 0 ≤ floor → floor ≤ seq → seq ≤ 9007199254740991 → ((seq - floor != (l.length : Int)) = true) := by
    intro h1 h2 h3
    unfold headB at hh
    simp only [decide_eq_false_iff_not] at hh
    rw [bne_iff_ne]
    intro h4
    exact hh ⟨h1, h2, h3, h4⟩
  clear hh hp hp0
  go_enter Try.func57, Try.ntmps57
  go_wp2_with fail
  all_goals (go_ret; exact ⟨rfl, Below.refl _ _⟩)

set_option maxRecDepth 100000 in
set_option maxHeartbeats 1000000 in
theorem right_yes (w : World) (v : Value) (l : List En) (floor seq : Int) (hv : RdE w w.heap.size v l) (hf : (Lit.int .i64 floor).wf = true) (hs : (Lit.int .i64 seq).wf = true) (hh : headB l.length floor seq = true) :
    Calls Try.prog 57 #[v, .int .i64 floor, .int .i64 seq] w fun e w' => e = .returned (.bool (rightB l floor seq)) ∧ Below w.heap.size w w' := by
  obtain ⟨hok, p, c, rfl, hlc, hcm, hp0, hp⟩ := hv
  unfold maxLen at hcm
  have HH := Lib.hid hh
  unfold headB at hh
  simp only [decide_eq_true_eq] at hh
  obtain ⟨h1, h2, h3, h4⟩ := hh
  have hne : (seq - floor != (l.length : Int)) = false := by rw [bne_eq_false_iff_eq]; exact h4
  have hlen : (l.length : Int) ≤ 9007199254740991 := by omega
  have h5 : 0 ≤ seq := by omega
  have hok' := Lib.hid hok
  clear h4 hf hs hok
  have hmm := @run_makeMap Try.prog
  have HM0 := MapF.made w Try.prog 9
  have HB0 : Below w.heap.size w (w.alloc (.map #[] 0)) := (Below.refl _ w).alloc (Nat.le_refl _) _
  go_enter Try.func57, Try.ntmps57
  go_wp2_with fail
  clear hmm
  go_loopw [32] (fun i wr => ∃ k : Nat, k ≤ l.length ∧ i = .int .i64 k ∧ Hid (∀ j, j < k → okAt l floor j = true) ∧ MapF wr Try.prog 9 w.heap.size k (lastF (l.take k)) ∧ Below w.heap.size w wr) (fun i _ => l.length - (intOf i).toNat)
  case atStart => exact ⟨0, Nat.zero_le _, rfl, fun j hj => by omega, HM0, HB0⟩
  case round =>
    obtain ⟨k, hk, rfl, HO, HM, HB⟩ := hrel
    by_cases hlt : k < l.length
    · obtain ⟨b1, o1, rfl, hb1, hc1⟩ := slice_at (k := k) hp0 hp (by omega)
      obtain ⟨x, hx, g10, g11, g12⟩ := hc1 k hlt
      have okx := get_ok hok'.out hx
      have HX := Lib.hid hx
      have bx := bounds_i64 okx.1
      have bw := bounds_i64 okx.2.2
      have hxs := okx.2.1
      clear hx okx hp hp0 hc1
      rw [← HB.cell (p := ⟨_, _, none⟩) hb1] at g10 g11 g12
      have hlook : ∀ o, (Instr.lookup 132 (.map (some w.heap.size)) (.string x.id) false).run Try.prog (wr.alloc o) = .ok (.int .i64 (lastW (l.take k) x.id)) (wr.alloc o) := by
        intro o
        rw [(HM.alloc o).look Try.underlying9 Try.underlying132 (zeroInt _) hxs, lastF_W]
      have HT := Lib.hid (lastF_take HX.out)
      have HOK := Lib.hid (okAt_of (floor := floor) HX.out)
      cases hsq : (x.seq != floor + 1 + k) with
      | true =>
        have HBAD : Hid (okAt l floor k = false) := by
          rw [bne_iff_ne] at hsq
          exact okAt_bad HX.out (.inl hsq)
        go_wp2_with fail
        go_ret
        exact ⟨ret_bool (rightB_bad hlt HBAD.out).symm, HB.alloc HB.size _⟩
      | false =>
        cases hmay : mayB (lastW (l.take k) x.id) x.what with
        | false =>
          have HBAD : Hid (okAt l floor k = false) := by
            have := HOK.out
            rw [hmay, Bool.and_false] at this
            exact this
          go_wp2_with (go_at_call 90; refine (may_any _ _ _).mono ?_; rintro e w' ⟨rfl, rfl⟩)
          go_ret
          exact ⟨ret_bool (rightB_bad hlt HBAD.out).symm, HB.alloc HB.size _⟩
        | true =>
          have hnx : Hid (∀ j, j < k + 1 → okAt l floor j = true) := by
            intro j hj
            by_cases e : j = k
            · rw [e]
              have := HOK.out
              rw [hmay] at this
              rw [bne_eq_false_iff_eq] at hsq
              rw [this, hsq]; simp
            · exact HO.out j (by omega)
          have hkm : k < maxLen := by unfold maxLen; omega
          have HM1 := HM.alloc (.cells #[.int .i64 x.seq, .string x.id, .int .i64 x.what] 48)
          go_wp2_with (first | (go_at_call 90; refine (may_any _ _ _).mono ?_; rintro e w' ⟨rfl, rfl⟩) | (at_mapUpdate; go_must (refine wpList_store_F _ rfl _ _ _ _ rfl 9 3 Try.underlying9 Try.underlying132 _ _ _ rfl HM1 hkm _ rfl hxs _ rfl ?_); intro w1 hM2 hg2))
          go_roundw
          case rel => exact ⟨k + 1, by omega, by go_num, hnx, by rw [HT.out]; exact hM2, (HB.alloc HB.size _).grown hg2 (by simp; have := HB.size; omega) (fun j e => by cases e; exact Nat.le_refl _)⟩
          case measure => simp [intOf]; omega
    · obtain rfl : k = l.length := by omega
      have HR := Lib.hid (rightB_yes HH.out HO.out)
      go_wp2_with fail
      go_ret
      exact ⟨ret_bool HR.out.symm, HB⟩

theorem right_any (w : World) (v : Value) (l : List En) (floor seq : Int) (hv : RdE w w.heap.size v l) (hf : (Lit.int .i64 floor).wf = true) (hs : (Lit.int .i64 seq).wf = true) :
    Calls Try.prog 57 #[v, .int .i64 floor, .int .i64 seq] w fun e w' => e = .returned (.bool (rightB l floor seq)) ∧ Below w.heap.size w w' := by
  cases hh : headB l.length floor seq with
  | true => exact right_yes w v l floor seq hv hf hs hh
  | false => exact right_head w _ v l floor seq hv hf hs hh
end Go.Proofs.Ythgkgjcnmahacaa
end

section
/- What became of ids: the state of the loop, and what its steps do to it. -/
set_option linter.unusedSimpArgs false
set_option linter.unusedVariables false
namespace Go.Proofs.Ythgkgjcnmahacaa
open Go.RowKit Go.Shelf

/-! ### The plain answer -/
def updP (e : En) (p : Pa) : Pa := if p.id = e.id then { p with was := e.what != 1 } else p
def newP (e : En) : Pa := ⟨e.id, e.what != 1, e.what != 3, e.seq⟩
def stepP (sq : Int) (acc : List Pa) (e : En) : List Pa :=
  if e.seq ≤ sq then acc
  else if acc.any (fun p => decide (p.id = e.id)) then acc.map (updP e)
  else acc ++ [newP e]

/-! ### Blocks -/
def PaAt (W : World) (b : Nat) (p : Pa) : Prop := W.heap[b]? = some (.cells #[.string p.id, .bool p.was, .bool p.isb, .int .i64 p.last] 99 (0, 0))
def EnAt (W : World) (b : Nat) (e : En) : Prop := W.heap[b]? = some (.cells #[.int .i64 e.seq, .string e.id, .int .i64 e.what] 48 (0, 0))
theorem obj_ne {W : World} {i j : Nat} {o o' : Obj} (h : W.heap[i]? = some o) (h' : W.heap[j]? = some o') (hne : o ≠ o') : some i ≠ some j := by
  intro e
  simp only [Option.some.injEq] at e
  subst e
  rw [h] at h'
  exact hne (by simpa using h')
theorem PaAt.lt {W : World} {b : Nat} {p : Pa} (h : PaAt W b p) : b < W.heap.size := (Array.getElem?_eq_some_iff.1 h).1
theorem PaAt.cell {W : World} {b : Nat} {p : Pa} (h : PaAt W b p) (j : Nat) {u : Value} (hu : (encP p)[j]? = some u) : W.cell? ⟨b, j, none⟩ = some u := by
  unfold PaAt at h
  rw [← hu]
  simp [World.cell?, h, encP]
theorem EnAt.cell {W : World} {b : Nat} {e : En} (h : EnAt W b e) (j : Nat) {u : Value} (hu : (encE e)[j]? = some u) : W.cell? ⟨b, j, none⟩ = some u := by
  unfold EnAt at h
  rw [← hu]
  simp [World.cell?, h, encE]
theorem PaAt.frozen {W : World} {b : Nat} {p : Pa} (h : PaAt W b p) (j : Nat) : W.frozen? ⟨b, j, none⟩ = false := by
  unfold PaAt at h
  simp [World.frozen?, h]
theorem PaAt.kept {W W' : World} {row : Option Nat} {b : Nat} {p : Pa} (h : PaAt W b p) (hg : W.grownBy W' row) (hne : some b ≠ row) : PaAt W' b p := (hg.block b h.lt hne).trans h
theorem PaAt.set {W : World} {b : Nat} {p : Pa} (h : PaAt W b p) (x : Bool) : PaAt (W.setCell ⟨b, 1, none⟩ (.bool x)) b { p with was := x } := by
  obtain ⟨hlt, hk⟩ := Array.getElem?_eq_some_iff.1 h
  show (W.heap.modify b _)[b]? = _
  rw [Array.getElem?_eq_getElem (by rw [Array.size_modify]; exact hlt), Array.getElem_modify_self, hk]
  rfl
theorem grownBy_setCell1 (W : World) (b o : Nat) (v : Value) : W.grownBy (W.setCell ⟨b, o, none⟩ v) (some b) :=
  ⟨rfl, rfl, rfl, (KeepsWalks.setCell W _ v).size, fun k _ hk => Below.heap_setCell _ _ _ k (fun e => hk (by rw [e]))⟩

/-! ### What a step leaves as it was -/
def keepO (mb k : Nat) : Obj → Prop
  | .cells _ t _ => t ≠ 99 ∧ t ≠ 135 ∧ t ≠ 139
  | _ => k ≠ mb
structure Trn (base mb : Nat) (W W' : World) : Prop where
  below : Below base W W'
  keep : ∀ k o, W.heap[k]? = some o → keepO mb k o → W'.heap[k]? = some o
theorem Trn.refl (base mb : Nat) (W : World) : Trn base mb W W := ⟨Below.refl _ _, fun _ _ h _ => h⟩
theorem Trn.trans {base mb : Nat} {A B C : World} (h : Trn base mb A B) (k : Trn base mb B C) : Trn base mb A C := ⟨h.below.trans k.below, fun i o h1 h2 => k.keep i o (h.keep i o h1 h2) h2⟩
theorem Trn.alloc {base mb : Nat} {W : World} (hb : base ≤ W.heap.size) (o : Obj) : Trn base mb W (W.alloc o) :=
  ⟨(Below.refl _ W).alloc hb o, fun k o' h1 _ => (Below.heap_alloc W o k (Array.getElem?_eq_some_iff.1 h1).1).trans h1⟩
/-- A turn of one block, which is none of those to be kept. -/
theorem Trn.grown {base mb : Nat} {W W' : World} {row : Option Nat} (hb : base ≤ W.heap.size) (hg : W.grownBy W' row) (hr : ∀ r, row = some r → base ≤ r ∧ ∀ o, W.heap[r]? = some o → ¬ keepO mb r o) : Trn base mb W W' :=
  ⟨(Below.refl _ W).grown hg hb (fun k e => (hr k e).1), fun k o h1 h2 => (hg.block k (Array.getElem?_eq_some_iff.1 h1).1 (fun e => (hr k e.symm).2 o h1 h2)).trans h1⟩
theorem Trn.from {base mb B : Nat} {W W' : World} (h : Trn base mb W W') (hm : mb < B) : KeepsFrom B W W' :=
  ⟨h.below.size, fun k o hB h1 h2 => h.keep k o h1 (by cases o <;> simp_all [Obj.isCells, keepO] <;> omega)⟩
theorem Trn.boxed {base mb : Nat} {W W' : World} (h : Trn base mb W W') {B : Nat} {t : TypeId} {v : Value} (hb : Boxed W B t v) (ht : t ≠ 99 ∧ t ≠ 135 ∧ t ≠ 139) : Boxed W' B t v := h.keep _ _ hb ht
theorem Trn.en {base mb : Nat} {W W' : World} (h : Trn base mb W W') {B : Nat} {e : En} (hb : EnAt W B e) : EnAt W' B e := h.keep _ _ hb ⟨by decide, by decide, by decide⟩

/-! ### The state -/
structure SQ (base mb n : Nat) (Q : List (Nat × Pa)) (f : List UInt8 → Option Value) (v : Value) (t6 : Nat) (R : List Nat) (W : World) : Prop where
  map : MapF W Try.prog 9 mb n f
  fq : ∀ q ∈ Q, f q.2.id.data.toList = some (.pointer (some ⟨q.1, 0, none⟩))
  fn : ∀ s u, f s = some u → ∃ q ∈ Q, q.2.id.data.toList = s
  inj : ∀ q ∈ Q, ∀ q' ∈ Q, (q.1 = q'.1 ↔ q.2.id = q'.2.id)
  pas : ∀ q ∈ Q, base ≤ q.1 ∧ PaAt W q.1 q.2
  box : Boxed W t6 135 v
  own : Own W base 139 encPt 1 v R
  len : Q.length ≤ n

theorem MapF.obj {w : World} {P : Program} {k : TypeId} {b n : Nat} {f : List UInt8 → Option Value} (h : MapF w P k b n f) : ∃ es c, w.heap[b]? = some (.map es c) := by
  obtain ⟨E, ⟨es, clock, h1, h2⟩, he⟩ := h
  exact ⟨_, _, h1⟩
theorem Own.blk {α : Type} {enc : α → List Value} {sz : Nat} {w : World} {base : Nat} {e : TypeId} {v : Value} {xs : List α} (h : Own w base e enc sz v xs) : ∀ r, v.ownBlock = some r → base ≤ r ∧ ∃ cur, w.heap[r]? = some (.cells cur e (0, 0)) := by
  intro r hr
  rcases h.2 with ⟨rfl, _⟩ | ⟨g, cap, cur, rfl, hb, hgb, _⟩
  · simp [Value.ownBlock] at hr
  · obtain rfl : g = r := by simpa [Value.ownBlock] using hr
    exact ⟨hb, cur, hgb⟩

section
variable {base mb n t6 : Nat} {Q : List (Nat × Pa)} {f : List UInt8 → Option Value} {v : Value} {R : List Nat} {W : World}
theorem SQ.kept {W' : World} {row : Option Nat} (h : SQ base mb n Q f v t6 R W) (hg : W.grownBy W' row) (hr : ∀ r, row = some r → r ≠ mb ∧ ∃ o : Obj, W.heap[r]? = some o ∧ o.isCells = false) : SQ base mb n Q f v t6 R W' := by
  refine ⟨h.map.kept hg (fun e => (hr _ e.symm).1 rfl), h.fq, h.fn, h.inj, fun q hq => ⟨(h.pas q hq).1, (h.pas q hq).2.kept hg (fun e => ?_)⟩, h.box.kept hg (fun e => ?_), h.own.kept hg ?_, h.len⟩
  · obtain ⟨_, o, ho, hc⟩ := hr _ e.symm
    rw [show W.heap[q.1]? = _ from (h.pas q hq).2] at ho; cases ho; cases hc
  · obtain ⟨_, o, ho, hc⟩ := hr _ e.symm
    rw [show W.heap[t6]? = _ from h.box] at ho; cases ho; cases hc
  · cases hv : v.ownBlock with
    | none => exact .inl rfl
    | some r =>
      refine .inr fun e => ?_
      obtain ⟨_, cur, hc⟩ := h.own.blk r hv
      obtain ⟨_, o, ho, hoc⟩ := hr _ e.symm
      rw [hc] at ho; cases ho; cases hoc

/-- An id that is known: its mark is set. -/
theorem SQ.known (h : SQ base mb n Q f v t6 R W) (hb : base ≤ W.heap.size) {q : Nat × Pa} (hq : q ∈ Q) (e : En) (he : q.2.id = e.id) :
    SQ base mb n (Q.map fun q => (q.1, updP e q.2)) f v t6 R (W.setCell ⟨q.1, 1, none⟩ (.bool (e.what != 1))) ∧ Trn base mb W (W.setCell ⟨q.1, 1, none⟩ (.bool (e.what != 1))) := by
  have hg := grownBy_setCell1 W q.1 1 (.bool (e.what != 1))
  have hid : ∀ p : Pa, (updP e p).id = p.id := fun p => by unfold updP; split <;> rfl
  have hQ := (h.pas q hq).2
  refine ⟨⟨h.map.kept hg (fun e' => ?_), ?_, ?_, ?_, ?_, h.box.kept hg (fun e' => ?_), h.own.kept hg ?_, by simpa using h.len⟩, Trn.grown hb hg (fun r er => ?_)⟩
  · obtain ⟨es, c, hm⟩ := h.map.obj
    exact obj_ne hm hQ (by simp) e'
  · intro q' hq'
    obtain ⟨q1, h1, rfl⟩ := List.mem_map.1 hq'
    show f (updP e q1.2).id.data.toList = _
    rw [hid]
    exact h.fq q1 h1
  · intro s u hs
    obtain ⟨q1, h1, h2⟩ := h.fn s u hs
    exact ⟨_, List.mem_map.2 ⟨q1, h1, rfl⟩, by show (updP e q1.2).id.data.toList = _; rw [hid]; exact h2⟩
  · intro q1 h1 q2 h2
    obtain ⟨q1, h1', rfl⟩ := List.mem_map.1 h1
    obtain ⟨q2, h2', rfl⟩ := List.mem_map.1 h2
    show q1.1 = q2.1 ↔ (updP e q1.2).id = (updP e q2.2).id
    rw [hid, hid]
    exact h.inj q1 h1' q2 h2'
  · intro q1 h1
    obtain ⟨q1, h1', rfl⟩ := List.mem_map.1 h1
    clear h1
    have h1 := h1'
    refine ⟨(h.pas q1 h1).1, ?_⟩
    show PaAt _ q1.1 (updP e q1.2)
    by_cases hi : q1.2.id = e.id
    · have e1 : q1.1 = q.1 := (h.inj q1 h1 q hq).2 (hi.trans he.symm)
      unfold updP
      rw [if_pos hi, ← e1]
      exact (h.pas q1 h1).2.set _
    · have e1 : q1.1 ≠ q.1 := fun e2 => hi (((h.inj q1 h1 q hq).1 e2).trans he)
      unfold updP
      rw [if_neg hi]
      exact (h.pas q1 h1).2.kept hg (fun e2 => e1 (by simpa using e2))
  · exact obj_ne h.box hQ (by simp) e'
  · cases hv : v.ownBlock with
    | none => exact .inl rfl
    | some r =>
      refine .inr fun e' => ?_
      obtain ⟨_, cur, hc⟩ := h.own.blk r hv
      exact obj_ne hc hQ (by simp) e'
  · cases er
    refine ⟨(h.pas q hq).1, fun o ho hk => ?_⟩
    rw [show W.heap[q.1]? = _ from hQ] at ho; cases ho
    exact hk.1 rfl

/-- An id that is new: its block is laid, and the map is told. -/
theorem SQ.fresh (h : SQ base mb n Q f v t6 R W) (hb : base ≤ W.heap.size) (hm : base ≤ mb) (p : Pa) (hf : f p.id.data.toList = none) {W2 : World}
    (hg : (W.alloc (.cells #[.string p.id, .bool p.was, .bool p.isb, .int .i64 p.last] 99)).grownBy W2 (some mb)) (hM : MapF W2 Try.prog 9 mb (n + 1) (fun u => if u = p.id.data.toList then some (.pointer (some ⟨W.heap.size, 0, none⟩)) else f u)) :
    SQ base mb (n + 1) (Q ++ [(W.heap.size, p)]) (fun u => if u = p.id.data.toList then some (.pointer (some ⟨W.heap.size, 0, none⟩)) else f u) v t6 R W2 ∧ Trn base mb W W2 := by
  have hnew : PaAt (W.alloc (.cells #[.string p.id, .bool p.was, .bool p.isb, .int .i64 p.last] 99)) W.heap.size p := World.alloc_heap_new W _
  obtain ⟨W1, hW1⟩ : ∃ W1, W.alloc (.cells #[.string p.id, .bool p.was, .bool p.isb, .int .i64 p.last] 99) = W1 := ⟨_, rfl⟩
  have hga : W.grownBy W1 none := by rw [← hW1]; exact World.grownBy_alloc W _ none
  have hta : Trn base mb W W1 := by rw [← hW1]; exact Trn.alloc hb _
  rw [hW1] at hg hnew
  obtain ⟨es, c, hmo⟩ := (h.map.kept hga (by simp)).obj
  have hno : ∀ q ∈ Q, q.2.id ≠ p.id := fun q hq e => by
    have := h.fq q hq
    rw [e, hf] at this; cases this
  have hlt : ∀ q ∈ Q, q.1 < W.heap.size := fun q hq => (h.pas q hq).2.lt
  have hnm : ∀ b p', PaAt W1 b p' → some b ≠ some mb := fun b p' hp => obj_ne hp hmo (by simp)
  refine ⟨⟨hM, ?_, ?_, ?_, ?_, (h.box.kept hga (by simp)).kept hg (fun e => ?_), (h.own.kept hga ?_).kept hg ?_, by simp; exact h.len⟩, hta.trans (Trn.grown (Nat.le_trans hb hta.below.size) hg (fun r er => ?_))⟩
  · intro q hq
    rcases List.mem_append.1 hq with h1 | h1
    · show (if _ then _ else _) = _
      rw [if_neg (fun e => hno q h1 ((data_inj _ _).1 e))]
      exact h.fq q h1
    · obtain rfl : q = (W.heap.size, p) := by simpa using h1
      simp
  · intro s u hs
    split at hs
    · rename_i e
      exact ⟨_, List.mem_append_right _ (List.mem_singleton.2 rfl), e.symm⟩
    · obtain ⟨q, h1, h2⟩ := h.fn s u hs
      exact ⟨q, List.mem_append_left _ h1, h2⟩
  · intro q1 h1 q2 h2
    rcases List.mem_append.1 h1 with h1 | h1 <;> rcases List.mem_append.1 h2 with h2 | h2
    · exact h.inj q1 h1 q2 h2
    · obtain rfl : q2 = (W.heap.size, p) := by simpa using h2
      have := hlt q1 h1
      exact ⟨fun e => by dsimp only at e; omega, fun e => absurd e (hno q1 h1)⟩
    · obtain rfl : q1 = (W.heap.size, p) := by simpa using h1
      have := hlt q2 h2
      exact ⟨fun e => by dsimp only at e; omega, fun e => absurd e.symm (hno q2 h2)⟩
    · obtain rfl : q1 = (W.heap.size, p) := by simpa using h1
      obtain rfl : q2 = (W.heap.size, p) := by simpa using h2
      simp
  · intro q hq
    rcases List.mem_append.1 hq with h1 | h1
    · have hk := (h.pas q h1).2.kept hga (by simp)
      exact ⟨(h.pas q h1).1, hk.kept hg (hnm _ _ hk)⟩
    · obtain rfl : q = (W.heap.size, p) := by simpa using h1
      exact ⟨hb, hnew.kept hg (hnm _ _ hnew)⟩
  · exact obj_ne (h.box.kept hga (by simp)) hmo (by simp) e
  · cases v.ownBlock <;> simp
  · cases hv : v.ownBlock with
    | none => exact .inl rfl
    | some r =>
      refine .inr fun e' => ?_
      obtain ⟨_, cur, hc⟩ := (h.own.kept hga (by cases v.ownBlock <;> simp)).blk r hv
      exact obj_ne hc hmo (by simp) e'
  · cases er
    refine ⟨hm, fun o ho hk => ?_⟩
    rw [hmo] at ho; cases ho
    exact hk rfl

/-- A pointer is appended, and the slice is stored. -/
theorem SQ.append (h : SQ base mb n Q f v t6 R W) (hb : base ≤ W.heap.size) (ht : base ≤ t6) (tmp : Obj) {W4 : World} {v' : Value} {R' : List Nat} (hg : (W.alloc tmp).grownBy W4 v.ownBlock) (ho : Own W4 base 139 encPt 1 v' R') :
    Boxed W4 t6 135 v ∧ SQ base mb n Q f v' t6 R' (W4.setCell ⟨t6, 0, none⟩ v') ∧ Trn base mb W (W4.setCell ⟨t6, 0, none⟩ v') := by
  obtain ⟨W1, hW1⟩ : ∃ W1, W.alloc tmp = W1 := ⟨_, rfl⟩
  have hga : W.grownBy W1 none := by rw [← hW1]; exact World.grownBy_alloc W _ none
  have hta : Trn base mb W W1 := by rw [← hW1]; exact Trn.alloc hb _
  rw [hW1] at hg
  have hO := h.own.kept hga (by cases v.ownBlock <;> simp)
  have hrow : ∀ b o, W1.heap[b]? = some o → (∀ cur, o ≠ .cells cur 139 (0, 0)) → some b ≠ v.ownBlock := fun b o hbo hne e => by
    obtain ⟨_, cur, hc⟩ := hO.blk b e.symm
    rw [hbo] at hc; cases hc
    exact hne cur rfl
  have hbox1 : Boxed W1 t6 135 v := h.box.kept hga (by simp)
  have hbox4 : Boxed W4 t6 135 v := hbox1.kept hg (hrow _ _ hbox1 (by simp))
  have hg5 := grownBy_setCell1 W4 t6 0 v'
  have hmp : MapF W4 Try.prog 9 mb n f := (h.map.kept hga (by simp)).kept hg (by
    obtain ⟨es, c, hmo⟩ := (h.map.kept hga (by simp)).obj
    exact hrow _ _ hmo (by simp))
  have hp4 : ∀ q ∈ Q, PaAt W4 q.1 q.2 := fun q hq => by
    have hk := (h.pas q hq).2.kept hga (by simp)
    exact hk.kept hg (hrow _ _ hk (by simp))
  have hs1 : Trn base mb W1 W4 := Trn.grown (Nat.le_trans hb hta.below.size) hg (fun r er => by
    obtain ⟨h1, cur, hc⟩ := hO.blk r er
    refine ⟨h1, fun o ho hk => ?_⟩
    rw [hc] at ho; cases ho
    exact hk.2.2 rfl)
  refine ⟨hbox4, ⟨hmp.kept hg5 (fun e => ?_), h.fq, h.fn, h.inj, fun q hq => ⟨(h.pas q hq).1, (hp4 q hq).kept hg5 (fun e => ?_)⟩, hbox4.set v', ho.kept hg5 ?_, h.len⟩, (hta.trans hs1).trans (Trn.grown (Nat.le_trans hb (hta.trans hs1).below.size) hg5 (fun r er => ?_))⟩
  · obtain ⟨es, c, hm⟩ := hmp.obj
    exact obj_ne hm hbox4 (by simp) e
  · exact obj_ne (hp4 q hq) hbox4 (by simp) e
  · cases hv : v'.ownBlock with
    | none => exact .inl rfl
    | some r =>
      refine .inr fun e' => ?_
      obtain ⟨_, cur, hc⟩ := ho.blk r hv
      exact obj_ne hc hbox4 (by simp) e'
  · cases er
    refine ⟨ht, fun o ho hk => ?_⟩
    rw [show W4.heap[t6]? = _ from hbox4] at ho; cases ho
    exact hk.2.1 rfl
end

section
variable {F : Fence} {nF : Nat} {P : Program} (w : World) {ops : Array Oper} {rest : List Oper} {o : Oper} {a : Act} {Q : Exit → Act → World → Prop}
theorem wpListIn_look_F (hg : o.guard = none) (m x : Operand) (t : TypeId) (hop : o.op = Op.lookup t m x false) (k e : TypeId) (hk : P.underlying k = some .string) (ht : P.underlying t = some (.map k e)) {z : Value} (hz : (zeroValue e).run P w = .ok z w)
    (b n : Nat) (f : List UInt8 → Option Value) (hm : a.eval m = .map (some b)) (hown : MapF w P k b n f) (s : ByteArray) (hx : a.eval x = .string s) (hs : s.size ≤ maxLen) {v : Value} (hv : (f s.data.toList).getD z = v)
    (hK : wpListIn F nF P ops Q rest (a.put o.dst v) w) : wpListIn F nF P ops Q (o :: rest) a w := by
  refine wpListIn_plain hg fun K' hK' => ?_
  have hrun := hown.look hk ht hz hs
  rw [hv] at hrun
  unfold Oper.wpIn
  refine ⟨by simp [Oper.about, hop], ?_⟩
  rw [Oper.semAt_plain F _ _ (by rw [hop]; intro c hc'; cases hc')]
  simp [execOp, hop, hm, hx, hrun, Result.andThen]
  exact hK' _ _ hK
theorem wpListIn_store_F (hg : o.guard = none) (m x v : Operand) (t : TypeId) (hop : o.op = Op.mapUpdate t m x v) (k e : TypeId) (hk : P.underlying k = some .string) (ht : P.underlying t = some (.map k e)) 
    (b n : Nat) (f : List UInt8 → Option Value) (hm : a.eval m = .map (some b)) (hown : MapF w P k b n f) (hn : n < maxLen) (s : ByteArray) (hx : a.eval x = .string s) (hs : s.size ≤ maxLen) (val : Value) (hv : a.eval v = val)
    (hK : ∀ w', MapF w' P k b (n + 1) (fun u => if u = s.data.toList then some val else f u) → w.grownBy w' (some b) → wpListIn F nF P ops Q rest (a.put o.dst undef) w') : wpListIn F nF P ops Q (o :: rest) a w := by
  refine wpListIn_plain hg fun K' hK' => ?_
  obtain ⟨w', hrun, h1, h2⟩ := hown.store hk ht hn hs val
  unfold Oper.wpIn
  refine ⟨by simp [Oper.about, hop], ?_⟩
  rw [Oper.semAt_plain F _ _ (by rw [hop]; intro c hc'; cases hc')]
  simp [execOp, hop, hm, hx, hv, hrun, Result.andThen]
  exact hK' _ _ (hK w' h1 h2)
end
end Go.Proofs.Ythgkgjcnmahacaa
end

section
/- The exchange of two ranges, as the library's stable sort has it, at elements of 4 cells. -/
set_option linter.unusedSimpArgs false
set_option linter.unusedVariables false
namespace Go.Proofs.Ythgkgjcnmahacaa
open Go.Shelf Go.RowKit Go.Lib Go.Sort
namespace SP
def ren : Ren := ⟨fun | 20 => 135 | n => n, fun | 24 => 99 | 22 => 96 | 3 => 3 | 25 => 144 | 4 => 4 | 0 => 0 | n => n, fun | n => n⟩

/-- What the walks ask of a program: its bodies, its types. (The element's cells are k, a variable: the walk then takes them by runs.) -/
structure Lays (P : Program) (k : Nat) : Prop where
  mixed : P.follows .mixedOrders = true
  fSwap : P.funcs[150]? = some Try.f150
  fRot : P.funcs[148]? = some Try.f148
  fSym : P.funcs[136]? = some Try.f136
  fStab : P.funcs[118]? = some Try.f118
  fTop : P.funcs[93]? = some Try.f93
  ins : SlLaysF0.n20 P ren
  aE : ∀ w, (isAgg 99).run P w = .ok true w
  zE : ∀ w, (Go.sizeOf 99).run P w = .ok k w
  t0 : P.underlying 0 = some (TypeDesc.tuple #[])
  a0 : ∀ w, (isAgg 0).run P w = .ok false w
  z0 : ∀ w, (Go.sizeOf 0).run P w = .ok 1 w
  v0 : ∀ w, (zeroValue 0).run P w = .ok (Value.tuple #[]) w
  t3 : P.underlying 3 = some (TypeDesc.int IntKind.i64)
  a3 : ∀ w, (isAgg 3).run P w = .ok false w
  z3 : ∀ w, (Go.sizeOf 3).run P w = .ok 1 w
  v3 : ∀ w, (zeroValue 3).run P w = .ok (Value.int IntKind.i64 0) w
  t4 : P.underlying 4 = some (TypeDesc.bool)
  a4 : ∀ w, (isAgg 4).run P w = .ok false w
  z4 : ∀ w, (Go.sizeOf 4).run P w = .ok 1 w
  v4 : ∀ w, (zeroValue 4).run P w = .ok (Value.bool false) w
  tu : P.underlying 161 = some (TypeDesc.int IntKind.u64)
  au : ∀ w, (isAgg 161).run P w = .ok false w
  zu : ∀ w, (Go.sizeOf 161).run P w = .ok 1 w
  vu : ∀ w, (zeroValue 161).run P w = .ok (Value.int IntKind.u64 0) w
  tS : P.underlying 96 = some (TypeDesc.slice 99)
  aS : ∀ w, (isAgg 96).run P w = .ok false w
  zS : ∀ w, (Go.sizeOf 96).run P w = .ok 1 w
  vS : ∀ w, (zeroValue 96).run P w = .ok (Value.slice none 0 0) w
  tC : P.underlying 144 = some (TypeDesc.func #[99, 99] #[3] false)
  aC : ∀ w, (isAgg 144).run P w = .ok false w
  zC : ∀ w, (Go.sizeOf 144).run P w = .ok 1 w
  vC : ∀ w, (zeroValue 144).run P w = .ok (Value.nilFunc) w

theorem insLays : SlLaysF0.n20 Try.prog ren := {
  mixed := by kernel_rfl
  f20 := ⟨Try.f135.name, by decide, Try.func135.trans (congrArg some (by kernel_rfl))⟩
  t0 := Try.underlying0
  a0 := Try.isAgg0
  z0 := Try.sizeOf0
  v0 := Try.zeroValue0
  t3 := Try.underlying3
  a3 := Try.isAgg3
  z3 := Try.sizeOf3
  v3 := Try.zeroValue3
  t4 := Try.underlying4
  a4 := Try.isAgg4
  z4 := Try.sizeOf4
  v4 := Try.zeroValue4
  t22 := Try.underlying96
  a22 := Try.isAgg96
  z22 := Try.sizeOf96
  v22 := Try.zeroValue96
  t25 := Try.underlying144
  a25 := Try.isAgg144
  z25 := Try.sizeOf144
  v25 := Try.zeroValue144 }

theorem lays : Lays Try.prog 4 := {
  mixed := by kernel_rfl
  fSwap := Try.func150
  fRot := Try.func148
  fSym := Try.func136
  fStab := Try.func118
  fTop := Try.func93
  ins := insLays
  aE := Try.isAgg99
  zE := Try.sizeOf99
  t0 := Try.underlying0
  a0 := Try.isAgg0
  z0 := Try.sizeOf0
  v0 := Try.zeroValue0
  t3 := Try.underlying3
  a3 := Try.isAgg3
  z3 := Try.sizeOf3
  v3 := Try.zeroValue3
  t4 := Try.underlying4
  a4 := Try.isAgg4
  z4 := Try.sizeOf4
  v4 := Try.zeroValue4
  tu := Try.underlying161
  au := Try.isAgg161
  zu := Try.sizeOf161
  vu := Try.zeroValue161
  tS := Try.underlying96
  aS := Try.isAgg96
  zS := Try.sizeOf96
  vS := Try.zeroValue96
  tC := Try.underlying144
  aC := Try.isAgg144
  zC := Try.sizeOf144
  vC := Try.zeroValue144 }

variable {P : Program} {α : Type} [Inhabited α]

set_option maxHeartbeats 4000000 in
set_option maxRecDepth 1000000 in
theorem swapRange_any (k : Nat) (L : Lays P k) (enc : α → List Value) (g : Nat) (cb : Array Value) (blk off cap a b n : Nat) (d0 d : Array α) (w0 w : World)
    (R : RowK enc k w0 blk off d0) (hs : d0.size = d.size) (S : SWK enc k w0 blk off d w) (hab : a + n ≤ b) (hb : b + n ≤ d.size) (hsz : d.size < 4611686018427387904) :
    Calls P 150 #[.slice (some ⟨blk, off, none⟩) d.size cap, .int .i64 a, .int .i64 b, .int .i64 n, .func (.func g) #[] cb] w fun e w' => e = .returned (.tuple #[]) ∧ SWK enc k w0 blk off (swr d a b n) w' := by
  have mixed := L.mixed; have aE := L.aE; have zE := L.zE; have t0 := L.t0; have a0 := L.a0; have z0 := L.z0; have v0 := L.v0; have t3 := L.t3; have a3 := L.a3; have z3 := L.z3; have v3 := L.v3; have t4 := L.t4; have a4 := L.a4; have z4 := L.z4; have v4 := L.v4; have tS := L.tS; have aS := L.aS; have zS := L.zS; have vS := L.vS; have tC := L.tC; have aC := L.aC; have zC := L.zC; have vC := L.vC
  have FG := L.fSwap
  have S0 : Aside (SWK enc k w0 blk off d w) := S
  clear S
  go_enter FG, Try.ntmps150
  go_wp2
  go_loopg [10] n (fun kx s10 wr => ∃ (i : Nat), s10 = .int .i64 i ∧ i ≤ n ∧ n - i ≤ kx ∧ Aside (SWK enc k w0 blk off (swr d a b i) wr))
  case atStart => exact ⟨0, rfl, Nat.zero_le _, by omega, S0⟩
  case round =>
    clear S0
    obtain ⟨i, rfl, hin, hkx, S1⟩ := hrel
    by_cases hlt : i < n
    · have hltz : (i : Int) < (n : Int) := by omega
      have hds : (swr d a b i).size = d.size := size_swr _ _ _ _
      generalize hdk : swr d a b i = dk at S1 hds
      have HDK := Lib.hid hdk
      clear hdk
      go_wp2_with fail
      have ea44 : ((a : Int) + (i : Int)).toNat = a + i := by omega
      have pa44 : (0 : Int) ≤ (a : Int) + (i : Int) := by omega
      have ba44 : (a : Int) + (i : Int) < (d.size : Int) := by omega
      have ec44 : ((b : Int) + (i : Int)).toNat = b + i := by omega
      have pc44 : (0 : Int) ≤ (b : Int) + (i : Int) := by omega
      have bc44 : (b : Int) + (i : Int) < (d.size : Int) := by omega
      have S2 : Aside (SWK enc k w0 blk off (swp dk (a + i) (b + i)) ((wr.drew.setCells blk (off + (a + i) * k) (enc dk[b + i]!)).setCells blk (off + (b + i) * k) (enc dk[a + i]!))) := S1.out.swapped R (a + i) (b + i) (by omega) (by omega)
      have l44a := S1.out.ld1 R (by omega) P (a + i) (by omega)
      have l44b := S1.out.ld1 R (by omega) P (b + i) (by omega)
      have s44a := S1.out.st1 R (by omega) P (a + i) (by omega) dk[b + i]!
      have s44b := S1.out.st2 R (by omega) P (a + i) (b + i) (by omega) (by omega) dk[b + i]! dk[a + i]!
      have n44a : (enc dk[a + i]!).length = k := R.hk _
      have n44b : (enc dk[b + i]!).length = k := R.hk _
      generalize enc dk[a + i]! = cI44 at S2 l44a s44b n44a
      generalize enc dk[b + i]! = cJ44 at S2 l44b s44a s44b n44b
      clear S1
      go_big_region_o
      clear l44a l44b s44a s44b
      generalize (wr.drew.setCells blk (off + (a + i) * k) cJ44).setCells blk (off + (b + i) * k) cI44 = w2 at S2 ⊢
      go_wp2
      go_roundg (n - (i + 1))
      case measure => omega
      case rel => exact ⟨i + 1, by go_num, by omega, by omega, by rw [← HDK.out] at S2; exact S2⟩
    · obtain rfl : i = n := by omega
      go_wp2
      go_end0
      exact ⟨rfl, S1.out⟩
end SP
end Go.Proofs.Ythgkgjcnmahacaa
end

section
/- The rotation, as the library's stable sort has it. -/
set_option linter.unusedSimpArgs false
set_option linter.unusedVariables false
namespace Go.Proofs.Ythgkgjcnmahacaa
open Go.Shelf Go.RowKit Go.Lib Go.Sort
namespace SP
variable {P : Program} {α : Type} [Inhabited α]

theorem swapRange_z (k : Nat) (L : Lays P k) (enc : α → List Value) (g : Nat) (cb : Array Value) (blk off cap a b n : Nat) (d0 d : Array α) (w0 w : World)
    (R : RowK enc k w0 blk off d0) (hs : d0.size = d.size) (S : SWK enc k w0 blk off d w) (hab : a + n ≤ b) (hb : b + n ≤ d.size) (hsz : d.size < 4611686018427387904) (s : Nat) (az bz nz : Int) (h0 : s = d.size) (h1 : az = a) (h2 : bz = b) (h3 : nz = n) :
    Calls P 150 #[.slice (some ⟨blk, off, none⟩) s cap, .int .i64 az, .int .i64 bz, .int .i64 nz, .func (.func g) #[] cb] w fun e w' => e = .returned (.tuple #[]) ∧ SWK enc k w0 blk off (swr d a b n) w' := by
  subst h0 h1 h2 h3
  exact swapRange_any k L enc g cb blk off cap a b n d0 d w0 w R hs S hab hb hsz

def RotPost (enc : α → List Value) (k : Nat) (w0 : World) (blk off : Nat) (d : Array α) (a m b : Nat) (e : Ending) (w' : World) : Prop :=
  e = .returned (.tuple #[]) ∧ ∃ d' : Array α, SWK enc k w0 blk off d' w' ∧ PermIn a b d d' ∧ ∀ t, d'[t]! = rotG d a m b t

set_option maxHeartbeats 4000000 in
set_option maxRecDepth 1000000 in
theorem rotate_any (k : Nat) (L : Lays P k) (enc : α → List Value) (g : Nat) (cb : Array Value) (blk off cap a m b : Nat) (d0 d : Array α) (w0 w : World)
    (R : RowK enc k w0 blk off d0) (hs : d0.size = d.size) (S : SWK enc k w0 blk off d w) (ham : a < m) (hmb : m < b) (hb : b ≤ d.size) (hsz : d.size < 4611686018427387904) :
    Calls P 148 #[.slice (some ⟨blk, off, none⟩) d.size cap, .int .i64 a, .int .i64 m, .int .i64 b, .func (.func g) #[] cb] w (RotPost enc k w0 blk off d a m b) := by
  have mixed := L.mixed; have aE := L.aE; have zE := L.zE; have t0 := L.t0; have a0 := L.a0; have z0 := L.z0; have v0 := L.v0; have t3 := L.t3; have a3 := L.a3; have z3 := L.z3; have v3 := L.v3; have t4 := L.t4; have a4 := L.a4; have z4 := L.z4; have v4 := L.v4; have tS := L.tS; have aS := L.aS; have zS := L.zS; have vS := L.vS; have tC := L.tC; have aC := L.aC; have zC := L.zC; have vC := L.vC
  have FG := L.fRot
  have eSwap : ∀ args w, (callFunc 150 args).run P w = .ok (.enter 150 args) w := enters_of L.fSwap (by kernel_rfl) rfl
  have S0 : Aside (SWK enc k w0 blk off d w) := S
  have HSW := Lib.hid (fun a b n (d : Array α) w => swapRange_z k L enc g cb blk off cap a b n d0 d w0 w R)
  clear S
  have hslot : Hid (m - (m - a) = a ∧ m + (b - m) = b) := by unfold Hid; omega
  go_enter FG, Try.ntmps148
  go_wp2_with fail
  go_loopg [10, 11] (m - a + (b - m)) (fun kx s10 s11 wr => ∃ (i j : Nat) (dk : Array α), s10 = .int .i64 i ∧ s11 = .int .i64 j ∧ 0 < i ∧ i ≤ m - a ∧ 0 < j ∧ j ≤ b - m ∧ i + j ≤ kx ∧ dk.size = d.size ∧ Aside (SWK enc k w0 blk off dk wr) ∧ Hid (PermIn a b d dk ∧ ∀ t, rotG dk (m - i) m (m + j) t = rotG d a m b t))
  case atStart => exact ⟨m - a, b - m, d, by congr 1; omega, by congr 1; omega, by omega, Nat.le_refl _, by omega, Nat.le_refl _, Nat.le_refl _, rfl, S0, permIn_refl _ _ _, fun t => by rw [hslot.out.1, hslot.out.2]⟩
  case round =>
    clear S0
    obtain ⟨i, j, dk, rfl, rfl, hi0, hi, hj0, hj, hkx, hds, S1, HP⟩ := hrel
    rcases Nat.lt_trichotomy i j with hlt | heq | hgt
    · have hne : ((i : Int) != (j : Int)) = true := by rw [bne_iff_ne]; omega
      have hnz : ¬ (j : Int) < (i : Int) := by omega
      have HX : Hid (PermIn a b d (swr dk (m - i) (m + j - i) i) ∧ ∀ t, rotG (swr dk (m - i) (m + j - i) i) (m - i) m (m + (j - i)) t = rotG d a m b t) :=
        ⟨permIn_trans _ _ _ _ _ HP.out.1 (swr_perm dk _ _ i a b (by omega) (by omega) (by omega) (by omega) (by omega)), fun t => (rot_lt dk m i j t hlt (by omega) (by omega)).trans (HP.out.2 t)⟩
      go_wp2_with fail
      refine (HSW.out (m - i) (m + j - i) i dk _ (by omega) S1.out (by omega) (by omega) (by omega) _ _ _ _ (by omega) (by omega) (by omega) (by omega)).mono ?_
      rintro e w1 ⟨rfl, S2⟩
      go_wp2_with fail
      have S2' : Aside (SWK enc k w0 blk off (swr dk (m - i) (m + j - i) i) w1) := S2
      clear S2
      go_roundg (i + (j - i))
      case measure => omega
      case rel => exact ⟨i, j - i, _, rfl, by congr 1; omega, by omega, by omega, by omega, by omega, by omega, by rw [size_swr]; exact hds, S2', HX⟩
    · subst heq
      have hne : ((i : Int) != (i : Int)) = false := by simp
      have HX : Hid (PermIn a b d (swr dk (m - i) m i) ∧ ∀ t, (swr dk (m - i) m i)[t]! = rotG d a m b t) :=
        ⟨permIn_trans _ _ _ _ _ HP.out.1 (swr_perm dk _ _ i a b (by omega) (by omega) (by omega) (by omega) (by omega)), fun t => (rot_eq dk m i t (by omega) (by omega)).trans (HP.out.2 t)⟩
      go_wp2_with fail
      refine (HSW.out (m - i) m i dk _ (by omega) S1.out (by omega) (by omega) (by omega) _ _ _ _ (by omega) (by omega) (by omega) (by omega)).mono ?_
      rintro e w1 ⟨rfl, S2⟩
      go_wp2_with fail
      go_end0
      exact ⟨rfl, _, S2, HX.out.1, HX.out.2⟩
    · have hne : ((i : Int) != (j : Int)) = true := by rw [bne_iff_ne]; omega
      have hnz : (j : Int) < (i : Int) := by omega
      have HX : Hid (PermIn a b d (swr dk (m - i) m j) ∧ ∀ t, rotG (swr dk (m - i) m j) (m - (i - j)) m (m + j) t = rotG d a m b t) :=
        ⟨permIn_trans _ _ _ _ _ HP.out.1 (swr_perm dk _ _ j a b (by omega) (by omega) (by omega) (by omega) (by omega)), fun t => (rot_gt dk m i j t hgt (by omega) (by omega)).trans (HP.out.2 t)⟩
      go_wp2_with fail
      refine (HSW.out (m - i) m j dk _ (by omega) S1.out (by omega) (by omega) (by omega) _ _ _ _ (by omega) (by omega) (by omega) (by omega)).mono ?_
      rintro e w1 ⟨rfl, S2⟩
      go_wp2_with fail
      have S2' : Aside (SWK enc k w0 blk off (swr dk (m - i) m j) w1) := S2
      clear S2
      go_roundg (i - j + j)
      case measure => omega
      case rel => exact ⟨i - j, j, _, by congr 1; omega, rfl, by omega, by omega, by omega, by omega, by omega, by rw [size_swr]; exact hds, S2', HX⟩
end SP
end Go.Proofs.Ythgkgjcnmahacaa
end

section
/- The symmetric merge where the left is one element: it is laid into the right. -/
set_option linter.unusedSimpArgs false
set_option linter.unusedVariables false
namespace Go.Proofs.Ythgkgjcnmahacaa
open Go.Shelf Go.RowKit Go.Lib Go.Sort
namespace SP
variable {P : Program} {α : Type} [Inhabited α]

def SymPost (enc : α → List Value) (k : Nat) (w0 : World) (blk off : Nat) (lt : α → α → Bool) (d : Array α) (a b : Nat) (e : Ending) (w' : World) : Prop :=
  e = .returned (.tuple #[]) ∧ ∃ d' : Array α, SWK enc k w0 blk off d' w' ∧ PermIn a b d d' ∧ SortedIn lt a b d'

set_option maxHeartbeats 4000000 in
set_option maxRecDepth 1000000 in
theorem sym_left (k : Nat) (L : Lays P k) (enc : α → List Value) (cf : α → α → Int) (lt : α → α → Bool) (Sw : SWO lt) (g : Nat) (cb : Array Value) (blk off cap a m b : Nat) (d0 d : Array α) (w0 w : World)
    (eg : ∀ args w, (callFunc g args).run P w = .ok (.enter g args) w) (hcmp : CmpLays P g cb enc k cf blk off d0.size w0)
    (R : RowK enc k w0 blk off d0) (hs : d0.size = d.size) (S : SWK enc k w0 blk off d w) (ham : m = a + 1) (hmb : m < b) (hb : b ≤ d.size) (hsz : d.size < 4611686018427387904)
    (h2 : SortedIn lt m b d) (hx : ∀ i j, a ≤ i → i < m → m ≤ j → j < b → ltOf cf d[j]! d[i]! = lt d[j]! d[i]!) :
    Calls P 136 #[.slice (some ⟨blk, off, none⟩) d.size cap, .int .i64 a, .int .i64 m, .int .i64 b, .func (.func g) #[] cb] w (SymPost enc k w0 blk off lt d a b) := by
  have mixed := L.mixed; have aE := L.aE; have zE := L.zE; have t0 := L.t0; have a0 := L.a0; have z0 := L.z0; have v0 := L.v0; have t3 := L.t3; have a3 := L.a3; have z3 := L.z3; have v3 := L.v3; have t4 := L.t4; have a4 := L.a4; have z4 := L.z4; have v4 := L.v4; have tu := L.tu; have au := L.au; have zu := L.zu; have vu := L.vu; have tS := L.tS; have aS := L.aS; have zS := L.zS; have vS := L.vS; have tC := L.tC; have aC := L.aC; have zC := L.zC; have vC := L.vC
  have FG := L.fSym
  have S0 : Aside (SWK enc k w0 blk off d w) := S
  have HC : Aside _ := hcmp
  have HSW := Lib.hid Sw
  have HX := Lib.hid hx
  have H2 := Lib.hid h2
  clear S hcmp Sw hx h2
  subst ham
  have hone : (((a + 1 : Nat) : Int) - (a : Int) == 1) = true := by simp; omega
  have hone' : ((a : Int) + 1 - (a : Int) == 1) = true := by simp; omega
  go_enter FG, Try.ntmps136
  go_wp2_with fail
  go_loopg [10, 11] (b - a) (fun kx s10 s11 wr => ∃ (i j : Nat), s10 = .int .i64 i ∧ s11 = .int .i64 j ∧ a + 1 ≤ i ∧ i ≤ j ∧ j ≤ b ∧ j - i ≤ kx ∧ Aside (SWK enc k w0 blk off d wr) ∧ Hid (a + 1 < i → lt d[i - 1]! d[a]! = true) ∧ Hid (j < b → lt d[j]! d[a]! = false))
  case atStart => exact ⟨a + 1, b, by go_num, rfl, Nat.le_refl _, by omega, Nat.le_refl _, by omega, S0, fun h => by omega, fun h => by omega⟩
  case round =>
    clear S0
    obtain ⟨i, j, rfl, rfl, hi1, hij, hjb, hkx, S1, HA, HB⟩ := hrel
    by_cases hlt : i < j
    · have hltz : (i : Int) < (j : Int) := by omega
      have eh : (((i : Int) + (j : Int)) / 2).toNat = (i + j) / 2 := by omega
      have ph : (0 : Int) ≤ ((i : Int) + (j : Int)) / 2 := by omega
      have bh : ((i : Int) + (j : Int)) / 2 < (d.size : Int) := by omega
      have ba : (a : Int) < (d.size : Int) := by omega
      have pa : (0 : Int) ≤ (a : Int) := by omega
      have hh : i ≤ (i + j) / 2 ∧ (i + j) / 2 < j := by omega
      obtain ⟨xh, hxh⟩ : ∃ x, d[(i + j) / 2]! = x := ⟨_, rfl⟩
      obtain ⟨xa, hxa⟩ : ∃ x, d[a]! = x := ⟨_, rfl⟩
      have hcr : ltOf cf xh xa = lt xh xa := by rw [← hxh, ← hxa]; exact HX.out a _ (Nat.le_refl _) (by omega) (by omega) (by omega)
      have lh := S1.out.ld R hs.symm P ((i + j) / 2) (by omega)
      have la := S1.out.ld R hs.symm P a (by omega)
      rw [hxh] at lh
      rw [hxa] at la
      have hcg := S1.out.cmp HC.out hs.symm xh xa
      have GR : Aside (∀ n os, SWK enc k w0 blk off d (grow (wr.drewN n) os)) := fun n os => S1.out.grown n os
      have HXH := Lib.hid hxh
      have HXA := Lib.hid hxa
      have HCR := Lib.hid hcr
      clear hxh hxa hcr S1
      by_cases hlv : cf xh xa < 0
      · have HA' : Hid (a + 1 < (i + j) / 2 + 1 → lt d[(i + j) / 2 + 1 - 1]! d[a]! = true) := fun _ => by
          rw [Nat.add_sub_cancel, HXH.out, HXA.out, ← HCR.out]; exact decide_eq_true hlv
        go_wp2_with fail
        go_quiet_grown (first | (go_at_fn g; refine Calls.grown_of (hcg _ _)))
        go_wp2_with fail
        go_roundg (j - ((i + j) / 2 + 1))
        case measure => omega
        case rel => exact ⟨(i + j) / 2 + 1, j, by first | rfl | (congr 1; omega), rfl, by omega, by omega, by omega, by omega, GR.out nq osq, HA', HB⟩
      · have HB' : Hid ((i + j) / 2 < b → lt d[(i + j) / 2]! d[a]! = false) := fun _ => by
          rw [HXH.out, HXA.out, ← HCR.out]; exact decide_eq_false hlv
        go_wp2_with fail
        go_quiet_grown (first | (go_at_fn g; refine Calls.grown_of (hcg _ _)))
        go_wp2_with fail
        go_roundg ((i + j) / 2 - i)
        case measure => omega
        case rel => exact ⟨i, (i + j) / 2, rfl, by first | rfl | (congr 1; omega), by omega, by omega, by omega, by omega, GR.out nq osq, HA, HB'⟩
    · obtain rfl : i = j := by omega
      have hltz : ¬ (i : Int) < (i : Int) := by omega
      have HI := Lib.hid (ins_left HSW.out H2.out hi1 hjb hb HA.out HB.out)
      go_wp2_with fail
      go_loopg [13] (i - a) (fun kx s13 wr2 => ∃ c : Nat, s13 = .int .i64 ((a + c : Nat) : Int) ∧ c ≤ i - 1 - a ∧ i - a - c ≤ kx ∧ Aside (SWK enc k w0 blk off (bubUp d a c) wr2))
      case atStart => exact ⟨0, rfl, Nat.zero_le _, by omega, S1⟩
      case round =>
        clear S1
        obtain ⟨c, rfl, hc, hkx2, S1⟩ := hrel
        by_cases hlt2 : c < i - 1 - a
        · have hltz2 : ((a + c : Nat) : Int) < (i : Int) - 1 := by omega
          have hds : (bubUp d a c).size = d.size := size_bubUp _ _ _
          generalize hdk : bubUp d a c = dk at S1 hds
          have HDK := Lib.hid hdk
          clear hdk
          have hacl : a + c + 1 < d.size := by omega
          have HSTEP : Hid (swp dk (a + c) (a + c + 1) = bubUp d a (c + 1)) := by unfold Hid; rw [bubUp, HDK.out]
          generalize hac : a + c = ac at *
          have HAC := Lib.hid hac
          clear hac
          have ea44 : ((ac : Int) + 1).toNat = ac + 1 := by omega
          have pa44 : (0 : Int) ≤ (ac : Int) + 1 := by omega
          have ba44 : (ac : Int) + 1 < (d.size : Int) := by omega
          have pc44 : (0 : Int) ≤ (ac : Int) := by omega
          have bc44 : (ac : Int) < (d.size : Int) := by omega
          go_wp2_with fail
          have S2 : Aside (SWK enc k w0 blk off (swp dk ac (ac + 1)) ((wr.drew.setCells blk (off + ac * k) (enc dk[ac + 1]!)).setCells blk (off + (ac + 1) * k) (enc dk[ac]!))) := S1.out.swapped R ac (ac + 1) (by omega) (by omega)
          have l44a := S1.out.ld1 R (by omega) P ac (by omega)
          have l44b := S1.out.ld1 R (by omega) P (ac + 1) (by omega)
          have s44a := S1.out.st1 R (by omega) P ac (by omega) dk[ac + 1]!
          have s44b := S1.out.st2 R (by omega) P ac (ac + 1) (by omega) (by omega) dk[ac + 1]! dk[ac]!
          have n44a : (enc dk[ac]!).length = k := R.hk _
          have n44b : (enc dk[ac + 1]!).length = k := R.hk _
          generalize enc dk[ac]! = cI44 at S2 l44a s44b n44a
          generalize enc dk[ac + 1]! = cJ44 at S2 l44b s44a s44b n44b
          clear S1
          go_big_region_o
          clear l44a l44b s44a s44b
          generalize (wr.drew.setCells blk (off + ac * k) cJ44).setCells blk (off + (ac + 1) * k) cI44 = w2 at S2 ⊢
          go_wp2
          go_roundg (i - a - (c + 1))
          case measure => have := HAC.out; omega
          case rel => exact ⟨c + 1, by have := HAC.out; first | rfl | (congr 1; omega), by have := HAC.out; omega, by omega, by rw [HSTEP.out] at S2; exact S2⟩
        · obtain rfl : c = i - 1 - a := by omega
          have hltz2 : ¬ ((a + (i - 1 - a) : Nat) : Int) < (i : Int) - 1 := by omega
          go_wp2_with fail
          go_end0
          exact ⟨rfl, _, S1.out, bubUp_perm d a _ a b (Nat.le_refl _) (by omega) hb, HI.out⟩
end SP
end Go.Proofs.Ythgkgjcnmahacaa
end

section
/- The symmetric merge where the right is one element: it is laid into the left. -/
set_option linter.unusedSimpArgs false
set_option linter.unusedVariables false
namespace Go.Proofs.Ythgkgjcnmahacaa
open Go.Shelf Go.RowKit Go.Lib Go.Sort
namespace SP
variable {P : Program} {α : Type} [Inhabited α]

set_option maxHeartbeats 4000000 in
set_option maxRecDepth 1000000 in
theorem sym_right (k : Nat) (L : Lays P k) (enc : α → List Value) (cf : α → α → Int) (lt : α → α → Bool) (Sw : SWO lt) (g : Nat) (cb : Array Value) (blk off cap a m b : Nat) (d0 d : Array α) (w0 w : World)
    (eg : ∀ args w, (callFunc g args).run P w = .ok (.enter g args) w) (hcmp : CmpLays P g cb enc k cf blk off d0.size w0)
    (R : RowK enc k w0 blk off d0) (hs : d0.size = d.size) (S : SWK enc k w0 blk off d w) (ham : a + 1 < m) (hmb : b = m + 1) (hb : b ≤ d.size) (hsz : d.size < 4611686018427387904)
    (h1 : SortedIn lt a m d) (hx : ∀ i j, a ≤ i → i < m → m ≤ j → j < b → ltOf cf d[j]! d[i]! = lt d[j]! d[i]!) :
    Calls P 136 #[.slice (some ⟨blk, off, none⟩) d.size cap, .int .i64 a, .int .i64 m, .int .i64 b, .func (.func g) #[] cb] w (SymPost enc k w0 blk off lt d a b) := by
  have mixed := L.mixed; have aE := L.aE; have zE := L.zE; have t0 := L.t0; have a0 := L.a0; have z0 := L.z0; have v0 := L.v0; have t3 := L.t3; have a3 := L.a3; have z3 := L.z3; have v3 := L.v3; have t4 := L.t4; have a4 := L.a4; have z4 := L.z4; have v4 := L.v4; have tu := L.tu; have au := L.au; have zu := L.zu; have vu := L.vu; have tS := L.tS; have aS := L.aS; have zS := L.zS; have vS := L.vS; have tC := L.tC; have aC := L.aC; have zC := L.zC; have vC := L.vC
  have FG := L.fSym
  have S0 : Aside (SWK enc k w0 blk off d w) := S
  have HC : Aside _ := hcmp
  have HSW := Lib.hid Sw
  have HX := Lib.hid hx
  have H1 := Lib.hid h1
  clear S hcmp Sw hx h1
  subst hmb
  have hone : ((m : Int) - (a : Int) == 1) = false := by rw [beq_eq_false_iff_ne]; omega
  have hone2 : (((m + 1 : Nat) : Int) - (m : Int) == 1) = true := by rw [beq_iff_eq]; omega
  have hone3 : ((m : Int) + 1 - (m : Int) == 1) = true := by rw [beq_iff_eq]; omega
  go_enter FG, Try.ntmps136
  go_wp2_with fail
  go_loopg [14, 15] (m - a) (fun kx s10 s11 wr => ∃ (i j : Nat), s10 = .int .i64 i ∧ s11 = .int .i64 j ∧ a ≤ i ∧ i ≤ j ∧ j ≤ m ∧ j - i ≤ kx ∧ Aside (SWK enc k w0 blk off d wr) ∧ Hid (a < i → lt d[m]! d[i - 1]! = false) ∧ Hid (j < m → lt d[m]! d[j]! = true))
  case atStart => exact ⟨a, m, rfl, rfl, Nat.le_refl _, by omega, Nat.le_refl _, by omega, S0, fun h => by omega, fun h => by omega⟩
  case round =>
    clear S0
    obtain ⟨i, j, rfl, rfl, hi1, hij, hjb, hkx, S1, HA, HB⟩ := hrel
    by_cases hlt : i < j
    · have hltz : (i : Int) < (j : Int) := by omega
      have eh : (((i : Int) + (j : Int)) / 2).toNat = (i + j) / 2 := by omega
      have ph : (0 : Int) ≤ ((i : Int) + (j : Int)) / 2 := by omega
      have bh : ((i : Int) + (j : Int)) / 2 < (d.size : Int) := by omega
      have ba : (m : Int) < (d.size : Int) := by omega
      have pa : (0 : Int) ≤ (m : Int) := by omega
      have hh : i ≤ (i + j) / 2 ∧ (i + j) / 2 < j := by omega
      obtain ⟨xh, hxh⟩ : ∃ x, d[(i + j) / 2]! = x := ⟨_, rfl⟩
      obtain ⟨xa, hxa⟩ : ∃ x, d[m]! = x := ⟨_, rfl⟩
      have hcr : ltOf cf xa xh = lt xa xh := by rw [← hxh, ← hxa]; exact HX.out _ m (by omega) (by omega) (Nat.le_refl _) (by omega)
      have lh := S1.out.ld R hs.symm P ((i + j) / 2) (by omega)
      have la := S1.out.ld R hs.symm P m (by omega)
      rw [hxh] at lh
      rw [hxa] at la
      have hcg := S1.out.cmp HC.out hs.symm xa xh
      have GR : Aside (∀ n os, SWK enc k w0 blk off d (grow (wr.drewN n) os)) := fun n os => S1.out.grown n os
      have HXH := Lib.hid hxh
      have HXA := Lib.hid hxa
      have HCR := Lib.hid hcr
      clear hxh hxa hcr S1
      by_cases hlv : cf xa xh < 0
      · have HB' : Hid ((i + j) / 2 < m → lt d[m]! d[(i + j) / 2]! = true) := fun _ => by
          rw [HXH.out, HXA.out, ← HCR.out]; exact decide_eq_true hlv
        go_wp2_with fail
        go_quiet_grown (first | (go_at_fn g; refine Calls.grown_of (hcg _ _)))
        go_wp2_with fail
        go_roundg ((i + j) / 2 - i)
        case measure => omega
        case rel => exact ⟨i, (i + j) / 2, rfl, by first | rfl | (congr 1; omega), by omega, by omega, by omega, by omega, GR.out nq osq, HA, HB'⟩
      · have HA' : Hid (a < (i + j) / 2 + 1 → lt d[m]! d[(i + j) / 2 + 1 - 1]! = false) := fun _ => by
          rw [Nat.add_sub_cancel, HXH.out, HXA.out, ← HCR.out]; exact decide_eq_false hlv
        have hlv2 : decide (cf xa xh < 0) = false := decide_eq_false hlv
        have hlv3 : 0 ≤ cf xa xh := by omega
        go_wp2_with fail
        go_quiet_grown (first | (go_at_fn g; refine Calls.grown_of (hcg _ _)))
        go_wp2_with fail
        go_roundg (j - ((i + j) / 2 + 1))
        case measure => omega
        case rel => exact ⟨(i + j) / 2 + 1, j, by first | rfl | (congr 1; omega), rfl, by omega, by omega, by omega, by omega, GR.out nq osq, HA', HB⟩
    · obtain rfl : i = j := by omega
      have hltz : ¬ (i : Int) < (i : Int) := by omega
      have HI := Lib.hid (ins_right HSW.out H1.out hi1 hjb (by omega) HA.out HB.out)
      go_wp2_with fail
      go_loopg [17] (m - i) (fun kx s13 wr2 => ∃ c : Nat, s13 = .int .i64 ((m - c : Nat) : Int) ∧ c ≤ m - i ∧ m - i - c ≤ kx ∧ Aside (SWK enc k w0 blk off (bubDn d m c) wr2))
      case atStart => exact ⟨0, rfl, Nat.zero_le _, by omega, S1⟩
      case round =>
        clear S1
        obtain ⟨c, rfl, hc, hkx2, S1⟩ := hrel
        by_cases hlt2 : c < m - i
        · have hds : (bubDn d m c).size = d.size := size_bubDn _ _ _
          generalize hdk : bubDn d m c = dk at S1 hds
          have HDK := Lib.hid hdk
          clear hdk
          have HSTEP : Hid (swp dk (m - c) (m - c - 1) = bubDn d m (c + 1)) := by unfold Hid; rw [bubDn, HDK.out]
          obtain ⟨ac, hac⟩ : ∃ ac, m - c = ac + 1 := ⟨m - c - 1, by omega⟩
          rw [hac, Nat.add_sub_cancel] at HSTEP
          rw [hac]
          have hacl : ac + 1 < d.size := by omega
          have hiac : i ≤ ac := by omega
          have HAC := Lib.hid hac
          clear hac
          have hltz2 : (i : Int) < ((ac + 1 : Nat) : Int) := by omega
          have hltz3 : (i : Int) < (ac : Int) + 1 := by omega
          have ea44 : ((ac : Int) + 1).toNat = ac + 1 := by omega
          have pa44 : (0 : Int) ≤ (ac : Int) + 1 := by omega
          have ba44 : (ac : Int) + 1 < (d.size : Int) := by omega
          have pc44 : (0 : Int) ≤ (ac : Int) := by omega
          have bc44 : (ac : Int) < (d.size : Int) := by omega
          have em44 : (ac : Int) + 1 - 1 = (ac : Int) := by omega
          go_wp2_with fail
          have S2 : Aside (SWK enc k w0 blk off (swp dk (ac + 1) ac) ((wr.drew.setCells blk (off + (ac + 1) * k) (enc dk[ac]!)).setCells blk (off + ac * k) (enc dk[ac + 1]!))) := S1.out.swapped R (ac + 1) ac (by omega) (by omega)
          have l44a := S1.out.ld1 R (by omega) P (ac + 1) (by omega)
          have l44b := S1.out.ld1 R (by omega) P ac (by omega)
          have s44a := S1.out.st1 R (by omega) P (ac + 1) (by omega) dk[ac]!
          have s44b := S1.out.st2 R (by omega) P (ac + 1) ac (by omega) (by omega) dk[ac]! dk[ac + 1]!
          have n44a : (enc dk[ac + 1]!).length = k := R.hk _
          have n44b : (enc dk[ac]!).length = k := R.hk _
          generalize enc dk[ac + 1]! = cI44 at S2 l44a s44b n44a
          generalize enc dk[ac]! = cJ44 at S2 l44b s44a s44b n44b
          clear S1
          go_big_region_o
          clear l44a l44b s44a s44b
          generalize (wr.drew.setCells blk (off + (ac + 1) * k) cJ44).setCells blk (off + ac * k) cI44 = w2 at S2 ⊢
          go_wp2
          go_roundg (m - i - (c + 1))
          case measure => have := HAC.out; omega
          case rel => exact ⟨c + 1, by have := HAC.out; first | rfl | (congr 1; omega), by have := HAC.out; omega, by omega, by rw [HSTEP.out] at S2; exact S2⟩
        · obtain rfl : c = m - i := by omega
          have hmi : m - (m - i) = i := by omega
          rw [hmi]
          have hltz2 : ¬ (i : Int) < (i : Int) := by omega
          go_wp2_with fail
          go_end0
          exact ⟨rfl, _, S1.out, bubDn_perm d m _ a (m + 1) (by omega) (by omega) (by omega) hb, HI.out⟩
end SP
end Go.Proofs.Ythgkgjcnmahacaa
end

section
/- The symmetric merge. -/
set_option linter.unusedSimpArgs false
set_option linter.unusedVariables false
namespace Go.Proofs.Ythgkgjcnmahacaa
open Go.Shelf Go.RowKit Go.Lib Go.Sort
namespace SP
variable {P : Program} {α : Type} [Inhabited α]

/-- What the merge asks of the two halves. -/
def SymPre (cf : α → α → Int) (lt : α → α → Bool) (d : Array α) (a m b : Nat) : Prop :=
  SortedIn lt a m d ∧ SortedIn lt m b d ∧ ∀ i j, a ≤ i → i < m → m ≤ j → j < b → ltOf cf d[j]! d[i]! = lt d[j]! d[i]!

theorem rot_triv (d : Array α) (s m e t : Nat) (h : s = m ∨ m = e) (hs : s ≤ m) (he : m ≤ e) : d[t]! = rotG d s m e t := by
  unfold rotG
  rcases h with rfl | rfl
  · by_cases h1 : s ≤ t ∧ t < s + (e - s)
    · rw [if_pos h1, Nat.sub_self, Nat.add_zero]
    · rw [if_neg h1, if_neg (by omega)]
  · rw [if_neg (by omega), Nat.sub_self]
    by_cases h1 : s + 0 ≤ t ∧ t < m
    · rw [if_pos h1, Nat.sub_zero]
    · rw [if_neg h1]

set_option maxHeartbeats 8000000 in
set_option maxRecDepth 1000000 in
theorem sym_main (k : Nat) (L : Lays P k) (enc : α → List Value) (cf : α → α → Int) (lt : α → α → Bool) (Sw : SWO lt) (g : Nat) (cb : Array Value) (blk off cap a m b : Nat) (d0 d : Array α) (w0 w : World)
    (eg : ∀ args w, (callFunc g args).run P w = .ok (.enter g args) w) (hcmp : CmpLays P g cb enc k cf blk off d0.size w0)
    (R : RowK enc k w0 blk off d0) (hs : d0.size = d.size) (S : SWK enc k w0 blk off d w) (ham : a + 1 < m) (hmb : m + 1 < b) (hb : b ≤ d.size) (hsz : d.size < 4611686018427387904)
    (hpre : SymPre cf lt d a m b)
    (ih : ∀ (a' m' b' : Nat) (d' : Array α) (w' : World), b' - a' < b - a → d0.size = d'.size → SWK enc k w0 blk off d' w' → a' < m' → m' < b' → b' ≤ d'.size → SymPre cf lt d' a' m' b' →
      Calls P 136 #[.slice (some ⟨blk, off, none⟩) d'.size cap, .int .i64 a', .int .i64 m', .int .i64 b', .func (.func g) #[] cb] w' (SymPost enc k w0 blk off lt d' a' b')) :
    Calls P 136 #[.slice (some ⟨blk, off, none⟩) d.size cap, .int .i64 a, .int .i64 m, .int .i64 b, .func (.func g) #[] cb] w (SymPost enc k w0 blk off lt d a b) := by
  have mixed := L.mixed; have aE := L.aE; have zE := L.zE; have t0 := L.t0; have a0 := L.a0; have z0 := L.z0; have v0 := L.v0; have t3 := L.t3; have a3 := L.a3; have z3 := L.z3; have v3 := L.v3; have t4 := L.t4; have a4 := L.a4; have z4 := L.z4; have v4 := L.v4; have tu := L.tu; have au := L.au; have zu := L.zu; have vu := L.vu; have tS := L.tS; have aS := L.aS; have zS := L.zS; have vS := L.vS; have tC := L.tC; have aC := L.aC; have zC := L.zC; have vC := L.vC
  have FG := L.fSym
  have eRot : ∀ args w, (callFunc 148 args).run P w = .ok (.enter 148 args) w := enters_of L.fRot (by kernel_rfl) rfl
  have eSym : ∀ args w, (callFunc 136 args).run P w = .ok (.enter 136 args) w := enters_of L.fSym (by kernel_rfl) rfl
  have S0 : Aside (SWK enc k w0 blk off d w) := S
  have HC : Aside _ := hcmp
  have HIH : Aside _ := ih
  have HSW := Lib.hid Sw
  have HP := Lib.hid hpre
  clear S hcmp Sw hpre ih
  have hone : ((m : Int) - (a : Int) == 1) = false := by rw [beq_eq_false_iff_ne]; omega
  have hone2 : ((b : Int) - (m : Int) == 1) = false := by rw [beq_eq_false_iff_ne]; omega
  obtain ⟨mid, hmid⟩ : ∃ mid, (a + b) / 2 = mid := ⟨_, rfl⟩
  have hmid1 : a < mid ∧ mid < b := by omega
  have emid : ((a : Int) + (b : Int)) / 2 = (mid : Int) := by omega
  have emid2 : 2 * mid ≤ a + b ∧ a + b ≤ 2 * mid + 1 := by omega
  have HMID := Lib.hid hmid
  clear hmid
  go_enter FG, Try.ntmps136
  go_upto_if 140 with (fail)
  go_cut [20, 21] from 138 to 146 (fun s20 s21 wr => ∃ s0 r0 : Nat, s20 = .int .i64 s0 ∧ s21 = .int .i64 r0 ∧ a ≤ s0 ∧ s0 ≤ r0 ∧ r0 ≤ m ∧ r0 ≤ mid ∧ mid + m ≤ b + s0 ∧ (s0 = a ∨ s0 + b = mid + m) ∧ (r0 = m ∨ r0 = mid) ∧ Aside (SWK enc k w0 blk off d wr))
  case first =>
    by_cases hmm : mid < m
    · have hmz : (mid : Int) < (m : Int) := by omega
      have eS : ((mid + m - b : Nat) : Int) = (mid : Int) + (m : Int) - (b : Int) := by omega
      have ES := Lib.hid eS
      clear eS
      go_wp2_with fail
      go_meet
      exact ⟨mid + m - b, mid, by rw [ES.out], rfl, by omega, by omega, by omega, by omega, by omega, .inr (by omega), .inr rfl, S0⟩
    · have hmz : ¬ (mid : Int) < (m : Int) := by omega
      go_wp2_with fail
      go_meet
      exact ⟨a, m, rfl, rfl, Nat.le_refl _, by omega, by omega, by omega, by omega, .inl rfl, .inl rfl, S0⟩
  case rest =>
  obtain ⟨s0, r0, rfl, rfl, q1, q2, q3, q4, q5, q6, q7, S1⟩ := hcut
  clear S0
  go_wp2_with fail
  go_loopg [20, 21] (r0 - s0) (fun kx s20 s21 wr => ∃ (st r : Nat), s20 = .int .i64 st ∧ s21 = .int .i64 r ∧ s0 ≤ st ∧ st ≤ r ∧ r ≤ r0 ∧ r - st ≤ kx ∧ Aside (SWK enc k w0 blk off d wr) ∧ Hid (s0 < st → lt d[mid + m - st]! d[st - 1]! = false) ∧ Hid (r < r0 → lt d[mid + m - r - 1]! d[r]! = true))
  case atStart => exact ⟨s0, r0, rfl, rfl, Nat.le_refl _, q2, Nat.le_refl _, by omega, S1, fun h => by omega, fun h => by omega⟩
  case round =>
    clear S1
    obtain ⟨st, r, rfl, rfl, hi1, hij, hjb, hkx, S1, HA, HB⟩ := hrel
    by_cases hlt : st < r
    · have hltz : (st : Int) < (r : Int) := by omega
      obtain ⟨c, hc⟩ : ∃ c, (st + r) / 2 = c := ⟨_, rfl⟩
      have ecc : ((st : Int) + (r : Int)) / 2 = (c : Int) := by omega
      have hh : st ≤ c ∧ c < r := by omega
      clear hc
      have bc : (c : Int) < (d.size : Int) := by omega
      have pc : (0 : Int) ≤ (c : Int) := by omega
      obtain ⟨pp, hpp⟩ : ∃ pp, mid + m - 1 - c = pp := ⟨_, rfl⟩
      have ew : (mid : Int) + (m : Int) - 1 - (c : Int) = (pp : Int) := by omega
      have rp : IntKind.i64.wrap (pp : Int) = (pp : Int) := by rw [IntKind.wrap_i64]; omega
      have bp : (pp : Int) < (d.size : Int) := by omega
      have pz : (0 : Int) ≤ (pp : Int) := by omega
      have hpp2 : m ≤ pp ∧ pp < b := by omega
      have HPP := Lib.hid hpp
      clear hpp
      obtain ⟨xc, hxc⟩ : ∃ x, d[c]! = x := ⟨_, rfl⟩
      obtain ⟨xp, hxp⟩ : ∃ x, d[pp]! = x := ⟨_, rfl⟩
      have hcr : ltOf cf xp xc = lt xp xc := by rw [← hxc, ← hxp]; exact HP.out.2.2 c _ (by omega) (by omega) (by omega) (by omega)
      have lc := S1.out.ld R hs.symm P c (by omega)
      have lp := S1.out.ld R hs.symm P pp (by omega)
      rw [hxc] at lc
      rw [hxp] at lp
      have hcg := S1.out.cmp HC.out hs.symm xp xc
      have GR : Aside (∀ n os, SWK enc k w0 blk off d (grow (wr.drewN n) os)) := fun n os => S1.out.grown n os
      have HXC := Lib.hid hxc
      have HXP := Lib.hid hxp
      have HCR := Lib.hid hcr
      clear hxc hxp hcr S1
      by_cases hlv : cf xp xc < 0
      · have HB' : Hid (c < r0 → lt d[mid + m - c - 1]! d[c]! = true) := fun _ => by
          rw [show mid + m - c - 1 = pp by have := HPP.out; omega, HXC.out, HXP.out, ← HCR.out]; exact decide_eq_true hlv
        go_wp2_with fail
        go_quiet_grown (first | (go_at_fn g; refine Calls.grown_of (hcg _ _)))
        go_wp2_with fail
        go_roundg (c - st)
        case measure => omega
        case rel => exact ⟨st, c, rfl, rfl, by omega, by omega, by omega, by omega, GR.out nq osq, HA, HB'⟩
      · have HA' : Hid (s0 < c + 1 → lt d[mid + m - (c + 1)]! d[c + 1 - 1]! = false) := fun _ => by
          rw [show mid + m - (c + 1) = pp by have := HPP.out; omega, Nat.add_sub_cancel, HXC.out, HXP.out, ← HCR.out]; exact decide_eq_false hlv
        have hlv2 : decide (cf xp xc < 0) = false := decide_eq_false hlv
        have hlv3 : 0 ≤ cf xp xc := by omega
        go_wp2_with fail
        go_quiet_grown (first | (go_at_fn g; refine Calls.grown_of (hcg _ _)))
        go_wp2_with fail
        go_roundg (r - (c + 1))
        case measure => omega
        case rel => exact ⟨c + 1, r, by first | rfl | go_num, rfl, by omega, by omega, by omega, by omega, GR.out nq osq, HA', HB⟩
    · obtain rfl : st = r := by omega
      have hltz : ¬ (st : Int) < (st : Int) := by omega
      obtain ⟨e, he⟩ : ∃ e, mid + m - st = e := ⟨_, rfl⟩
      have eE : (mid : Int) + (m : Int) - (st : Int) = (e : Int) := by omega
      have he1 : st + e = mid + m := by omega
      have he2 : m ≤ e ∧ e ≤ b := by omega
      rw [he] at HA HB
      clear he
      go_upto_region 39 with (fail)
      go_cut [185] from 178 to 184 (fun s wr' => s = .bool (decide (st < m ∧ m < e)) ∧ Aside (SWK enc k w0 blk off d wr'))
      case first =>
        by_cases hr1 : st < m
        · have hz1 : (st : Int) < (m : Int) := by omega
          by_cases hr2 : m < e
          · have hz2 : (m : Int) < (e : Int) := by omega
            go_wp2_with fail
            go_meet
            exact ⟨by simp [hr1, hr2], S1⟩
          · have hz2 : ¬ (m : Int) < (e : Int) := by omega
            go_wp2_with fail
            go_meet
            exact ⟨by simp [hr2], S1⟩
        · have hz1 : ¬ (st : Int) < (m : Int) := by omega
          go_wp2_with fail
          go_meet
          exact ⟨by simp [hr1], S1⟩
      case rest =>
      clear S1
      obtain ⟨rfl, S1⟩ := hcut
      obtain ⟨bR, hbR⟩ : ∃ bR, decide (st < m ∧ m < e) = bR := ⟨_, rfl⟩
      rw [hbR]
      have HBR := Lib.hid hbR
      clear hbR
      go_upto_if 185 with (fail)
      go_cut [24] from 178 to 191 (fun s24 wr' => s24 = .int .i64 e ∧ Aside (∃ d1 : Array α, SWK enc k w0 blk off d1 wr' ∧ PermIn a b d d1 ∧ ∀ t, d1[t]! = rotG d st m e t))
      case first =>
        cases bR with
        | true =>
          have hr : st < m ∧ m < e := of_decide_eq_true HBR.out
          have hr1 := hr.1
          have hr2 := hr.2
          clear hr
          go_wp2_with fail
          refine (rotate_any k L enc g cb blk off cap st m e d0 d _ _ R hs S1.out hr1 hr2 (by omega) hsz).mono ?_
          rintro ee w1 ⟨rfl, d1, S2, hp, hr⟩
          have HH : Aside (∃ d1 : Array α, SWK enc k w0 blk off d1 w1 ∧ PermIn a b d d1 ∧ ∀ t, d1[t]! = rotG d st m e t) := ⟨d1, S2, permIn_mono _ _ _ _ _ _ (by omega) (by omega) hb hp, hr⟩
          clear S2 hp hr
          go_wp2_with fail
          go_meet
          exact ⟨rfl, HH⟩
        | false =>
          have hr : ¬ (st < m ∧ m < e) := of_decide_eq_false HBR.out
          have HH := fun w' (h : SWK enc k w0 blk off d w') => (show Aside (∃ d1 : Array α, SWK enc k w0 blk off d1 w' ∧ PermIn a b d d1 ∧ ∀ t, d1[t]! = rotG d st m e t) from ⟨d, h, permIn_refl _ _ _, fun t => rot_triv d st m e t (by omega) (by omega) (by omega)⟩)
          clear hr
          go_wp2_with fail
          go_meet
          exact ⟨rfl, HH _ S1.out⟩
      case rest =>
      obtain ⟨rfl, HD⟩ := hcut
      clear S1
      obtain ⟨d1, S1, hp1, hr1⟩ := HD.out
      have hd1 : d1.size = d.size := hp1.1
      have HPT := Lib.hid (sym_parts HP.out.1 HP.out.2.1 (by omega : a ≤ st) (by omega) he2.1 he2.2 he1 hr1)
      have HCX := Lib.hid (sym_cross HSW.out HP.out.1 HP.out.2.1 (by omega : a ≤ st) (by omega) he2.1 he2.2 he1 hr1 HA.out HB.out (by omega) (by omega) hi1 hjb)
      have HPR : Hid (SymPre cf lt d1 a st mid ∧ SymPre cf lt d1 mid e b) := by
        obtain ⟨z1, z2, z3, z4⟩ := HPT.out
        have hX := HP.out.2.2
        refine ⟨⟨z1, z2, fun i j y1 y2 y3 y4 => ?_⟩, ⟨z3, z4, fun i j y1 y2 y3 y4 => ?_⟩⟩
        · rw [hr1, hr1, rotG, rotG, if_pos (by omega), if_neg (by omega), if_neg (by omega)]
          exact hX _ _ (by omega) (by omega) (by omega) (by omega)
        · rw [hr1, hr1, rotG, rotG, if_neg (by omega), if_neg (by omega), if_neg (by omega), if_pos (by omega)]
          exact hX _ _ (by omega) (by omega) (by omega) (by omega)
      have HP1 := Lib.hid hp1
      have S1' : Aside (SWK enc k w0 blk off d1 wc) := S1
      clear hp1 hr1 S1 HD HBR HA HB
      go_upto_region 41 with (fail)
      go_cut [199] from 192 to 198 (fun s wr' => s = .bool (decide (a < st ∧ st < mid)) ∧ Aside (SWK enc k w0 blk off d1 wr'))
      case first =>
        by_cases hr1 : a < st
        · have hz1 : (a : Int) < (st : Int) := by omega
          by_cases hr2 : st < mid
          · have hz2 : (st : Int) < (mid : Int) := by omega
            go_wp2_with fail
            go_meet
            exact ⟨by simp [hr1, hr2], S1'⟩
          · have hz2 : ¬ (st : Int) < (mid : Int) := by omega
            go_wp2_with fail
            go_meet
            exact ⟨by simp [hr2], S1'⟩
        · have hz1 : ¬ (a : Int) < (st : Int) := by omega
          go_wp2_with fail
          go_meet
          exact ⟨by simp [hr1], S1'⟩
      case rest =>
      clear S1'
      obtain ⟨rfl, S1⟩ := hcut
      obtain ⟨bR, hbR⟩ : ∃ bR, decide (a < st ∧ st < mid) = bR := ⟨_, rfl⟩
      rw [hbR]
      have HBR := Lib.hid hbR
      clear hbR
      go_upto_if 199 with (fail)
      go_cut [24] from 192 to 205 (fun s24 wr' => s24 = .int .i64 e ∧ Aside (∃ d2 : Array α, SWK enc k w0 blk off d2 wr' ∧ PermIn a mid d1 d2 ∧ SortedIn lt a mid d2))
      case first =>
        cases bR with
        | true =>
          have hr : a < st ∧ st < mid := of_decide_eq_true HBR.out
          have hr1 := hr.1
          have hr2 := hr.2
          clear hr
          have hcall := HIH.out a st mid d1 _ (by omega) (by omega) S1.out hr1 hr2 (by omega) HPR.out.1
          rw [hd1] at hcall
          have HCALL := Lib.hid hcall
          clear hcall
          go_wp2_with fail
          refine HCALL.out.mono ?_
          rintro ee w1 ⟨rfl, d2, S2, hp, hr⟩
          have HH : Aside (∃ d2 : Array α, SWK enc k w0 blk off d2 w1 ∧ PermIn a mid d1 d2 ∧ SortedIn lt a mid d2) := ⟨d2, S2, hp, hr⟩
          clear S2 hp hr
          go_wp2_with fail
          go_meet
          exact ⟨rfl, HH⟩
        | false =>
          have hr : ¬ (a < st ∧ st < mid) := of_decide_eq_false HBR.out
          have hsrt : SortedIn lt a mid d1 := by
            rcases Nat.lt_or_ge a st with h | h
            · have : st = mid := by omega
              rw [← this]; exact HPT.out.1
            · have : a = st := by omega
              rw [this]; exact HPT.out.2.1
          have HH := fun w' (h : SWK enc k w0 blk off d1 w') => (show Aside (∃ d2 : Array α, SWK enc k w0 blk off d2 w' ∧ PermIn a mid d1 d2 ∧ SortedIn lt a mid d2) from ⟨d1, h, permIn_refl _ _ _, hsrt⟩)
          clear hr hsrt
          go_wp2_with fail
          go_meet
          exact ⟨rfl, HH _ S1.out⟩
      case rest =>
      obtain ⟨rfl, HD⟩ := hcut
      clear S1 HBR
      obtain ⟨d2, S2, hp2, hs2⟩ := HD.out
      have hd2 : d2.size = d.size := hp2.1.trans hd1
      have HPR2 : Hid (SymPre cf lt d2 mid e b) := by
        obtain ⟨z3, z4, hX⟩ := HPR.out.2
        refine ⟨fun i j y1 y2 y3 => ?_, fun i j y1 y2 y3 => ?_, fun i j y1 y2 y3 y4 => ?_⟩
        · rw [perm_out hp2 (.inr y1), perm_out hp2 (.inr (by omega))]; exact z3 i j y1 y2 y3
        · rw [perm_out hp2 (.inr (by omega)), perm_out hp2 (.inr (by omega))]; exact z4 i j y1 y2 y3
        · rw [perm_out hp2 (.inr (by omega)), perm_out hp2 (.inr (by omega))]; exact hX i j y1 y2 y3 y4
      have HP2 := Lib.hid hp2
      have HS2 := Lib.hid hs2
      have S2' : Aside (SWK enc k w0 blk off d2 wc) := S2
      clear hp2 hs2 S2 HD
      have hfin : ∀ d3 w', SWK enc k w0 blk off d3 w' → PermIn mid b d2 d3 → SortedIn lt mid b d3 → ∃ d' : Array α, SWK enc k w0 blk off d' w' ∧ PermIn a b d d' ∧ SortedIn lt a b d' := fun d3 w' hs3 hp3 ho3 => by
        obtain ⟨f1, f2⟩ := sym_whole (by omega) (by omega) (by omega) HCX.out HP2.out HS2.out hp3 ho3
        exact ⟨d3, hs3, permIn_trans _ _ _ _ _ HP1.out f2, f1⟩
      have HFIN := Lib.hid hfin
      clear hfin
      go_upto_region 43 with (fail)
      go_cut [213] from 206 to 212 (fun s wr' => s = .bool (decide (mid < e ∧ e < b)) ∧ Aside (SWK enc k w0 blk off d2 wr'))
      case first =>
        by_cases hr1 : mid < e
        · have hz1 : (mid : Int) < (e : Int) := by omega
          by_cases hr2 : e < b
          · have hz2 : (e : Int) < (b : Int) := by omega
            go_wp2_with fail
            go_meet
            exact ⟨by simp [hr1, hr2], S2'⟩
          · have hz2 : ¬ (e : Int) < (b : Int) := by omega
            go_wp2_with fail
            go_meet
            exact ⟨by simp [hr2], S2'⟩
        · have hz1 : ¬ (mid : Int) < (e : Int) := by omega
          go_wp2_with fail
          go_meet
          exact ⟨by simp [hr1], S2'⟩
      case rest =>
      clear S2'
      obtain ⟨rfl, S2⟩ := hcut
      by_cases hr : mid < e ∧ e < b
      · rw [decide_eq_true hr]
        have hcall := HIH.out mid e b d2 _ (by omega) (by omega) S2.out hr.1 hr.2 (by omega) HPR2.out
        rw [hd2] at hcall
        have HCALL := Lib.hid hcall
        clear hcall hr
        go_wp2_with fail
        refine HCALL.out.mono ?_
        rintro ee w1 ⟨rfl, d3, S3, hp, hs3⟩
        have HH := Lib.hid (HFIN.out d3 w1 S3 hp hs3)
        clear S3 hp hs3
        go_wp2_with fail
        go_end0
        exact ⟨rfl, HH.out⟩
      · rw [decide_eq_false hr]
        have hsrt : SortedIn lt mid b d2 := by
          rcases Nat.lt_or_ge mid e with h | h
          · have : e = b := by omega
            rw [← this]; exact HPR2.out.1
          · have : e = mid := by omega
            rw [← this]; exact HPR2.out.2.1
        have HSRT := Lib.hid hsrt
        clear hr hsrt
        go_wp2_with fail
        go_end0
        exact ⟨rfl, HFIN.out d2 _ S2.out (permIn_refl _ _ _) HSRT.out⟩

theorem sym_any (k : Nat) (L : Lays P k) (enc : α → List Value) (cf : α → α → Int) (lt : α → α → Bool) (Sw : SWO lt) (g : Nat) (cb : Array Value) (blk off cap : Nat) (d0 : Array α) (w0 : World)
    (eg : ∀ args w, (callFunc g args).run P w = .ok (.enter g args) w) (hcmp : CmpLays P g cb enc k cf blk off d0.size w0) (R : RowK enc k w0 blk off d0) (hsz : d0.size < 4611686018427387904) (n : Nat) :
    ∀ (a m b : Nat) (d : Array α) (w : World), b - a ≤ n → d0.size = d.size → SWK enc k w0 blk off d w → a < m → m < b → b ≤ d.size → SymPre cf lt d a m b →
      Calls P 136 #[.slice (some ⟨blk, off, none⟩) d.size cap, .int .i64 a, .int .i64 m, .int .i64 b, .func (.func g) #[] cb] w (SymPost enc k w0 blk off lt d a b) := by
  induction n with
  | zero => intro a m b d w h; omega
  | succ n ih =>
    intro a m b d w hn hs S ham hmb hb hpre
    by_cases h1 : m = a + 1
    · exact sym_left k L enc cf lt Sw g cb blk off cap a m b d0 d w0 w eg hcmp R hs S h1 hmb hb (by omega) hpre.2.1 hpre.2.2
    · by_cases h2 : b = m + 1
      · exact sym_right k L enc cf lt Sw g cb blk off cap a m b d0 d w0 w eg hcmp R hs S (by omega) h2 hb (by omega) hpre.1 hpre.2.2
      · exact sym_main k L enc cf lt Sw g cb blk off cap a m b d0 d w0 w eg hcmp R hs S (by omega) (by omega) hb (by omega) hpre
          (fun a' m' b' d' w' hlt hs' S' h3 h4 h5 hp' => ih a' m' b' d' w' (by omega) hs' S' h3 h4 h5 hp')
end SP
end Go.Proofs.Ythgkgjcnmahacaa
end

section
/- The stable sort. -/
set_option linter.unusedSimpArgs false
set_option linter.unusedVariables false
namespace Go.Proofs.Ythgkgjcnmahacaa
open Go.Shelf Go.RowKit Go.Lib Go.Sort
namespace SP
variable {P : Program} {α : Type} [Inhabited α]

/-- What a comparison asks of the world: nothing; it may lay blocks of its own. -/
def CmpAny (P : Program) (g : Nat) (cb : Array Value) (enc : α → List Value) (cf : α → α → Int) : Prop :=
  ∀ (W : World) (x y : α), Calls P g (#[.agg (enc x).toArray, .agg (enc y).toArray] ++ cb) W fun e w' => e = .returned (.int .i64 (cf x y)) ∧ ∃ q os', w' = grow (W.drewN q) os'

theorem ins_z (k : Nat) (L : Lays P k) (enc : α → List Value) (cf : α → α → Int) (g : Nat) (cb : Array Value) (blk off cap a b : Nat) (d0 d : Array α) (w0 w : World)
    (eg : ∀ args w, (callFunc g args).run P w = .ok (.enter g args) w) (hcmp : CmpAny P g cb enc cf)
    (R : RowK enc k w0 blk off d0) (hs : d0.size = d.size) (S : SWK enc k w0 blk off d w) (hab : a ≤ b) (hb : b ≤ d.size) (hsz : d.size < 4611686018427387904) (s : Nat) (az bz : Int) (h0 : s = d.size) (h1 : az = a) (h2 : bz = b) :
    Calls P 135 #[.slice (some ⟨blk, off, none⟩) s cap, .int .i64 az, .int .i64 bz, .func (.func g) #[] cb] w fun e w' => e = .returned (.tuple #[]) ∧ SWK enc k w0 blk off (insertionSort (ltOf cf) d a b) w' := by
  subst h0 h1 h2
  have h := AnyQ.insertionSortCmpFunc L.ins k L.aE L.zE enc R.hk R.h1 cf g cb blk off cap a b d w eg (fun _ _ _ _ x y => hcmp _ x y) (S.holds R.hblk R.hH hs.symm) (S.lt R.hblk) hab hb hsz
  refine h.mono ?_
  rintro e w' ⟨rfl, n, os, rfl⟩
  refine ⟨rfl, S.on R.hblk n _ os ?_⟩
  have : ∀ a b n i (dk : Array α), b - i ≤ n → (insOuter (ltOf cf) a b i dk).size = dk.size := by
    intro a b n
    induction n with
    | zero => intro i dk hn; rw [insOuter_stop _ _ _ _ _ (by omega)]
    | succ n ih =>
      intro i dk hn
      by_cases hi : i < b
      · rw [insOuter_go _ _ _ _ _ hi, ih _ _ (by omega)]
        have : ∀ (j : Nat) (dk : Array α), (insInner (ltOf cf) a j dk).size = dk.size := by
          intro j
          induction j with
          | zero => intro dk; rfl
          | succ j ihj => intro dk; unfold insInner; split <;> simp [ihj, size_swp]
        exact this _ _
      · rw [insOuter_stop _ _ _ _ _ hi]
  exact this a b _ _ d (Nat.le_refl _)

theorem sym_z (k : Nat) (L : Lays P k) (enc : α → List Value) (cf : α → α → Int) (lt : α → α → Bool) (Sw : SWO lt) (g : Nat) (cb : Array Value) (blk off cap a m b : Nat) (d0 d : Array α) (w0 w : World)
    (eg : ∀ args w, (callFunc g args).run P w = .ok (.enter g args) w) (hcmp : CmpAny P g cb enc cf)
    (R : RowK enc k w0 blk off d0) (hs : d0.size = d.size) (S : SWK enc k w0 blk off d w) (ham : a < m) (hmb : m < b) (hb : b ≤ d.size) (hsz : d.size < 4611686018427387904) (hpre : SymPre cf lt d a m b) (s : Nat) (az mz bz : Int) (h0 : s = d.size) (h1 : az = a) (h2 : mz = m) (h3 : bz = b) :
    Calls P 136 #[.slice (some ⟨blk, off, none⟩) s cap, .int .i64 az, .int .i64 mz, .int .i64 bz, .func (.func g) #[] cb] w (SymPost enc k w0 blk off lt d a b) := by
  subst h0 h1 h2 h3
  exact sym_any k L enc cf lt Sw g cb blk off cap d0 w0 eg (fun _ _ _ _ x y => hcmp _ x y) R (by omega) (b - a) a m b d w (Nat.le_refl _) hs S ham hmb hb hpre

def StabPost (enc : α → List Value) (k : Nat) (w0 : World) (blk off : Nat) (lt : α → α → Bool) (d : Array α) (e : Ending) (w' : World) : Prop :=
  e = .returned (.tuple #[]) ∧ ∃ d' : Array α, SWK enc k w0 blk off d' w' ∧ PermIn 0 d.size d d' ∧ SortedIn lt 0 d.size d'

set_option maxHeartbeats 8000000 in
set_option maxRecDepth 1000000 in
theorem stable_any (k : Nat) (L : Lays P k) (enc : α → List Value) (cf : α → α → Int) (lt : α → α → Bool) (Sw : SWO lt) (tg : α → Nat) (hct : ∀ x y, tg x < tg y → ltOf cf y x = lt y x) (g : Nat) (cb : Array Value) (blk off cap : Nat) (d0 : Array α) (w0 : World)
    (eg : ∀ args w, (callFunc g args).run P w = .ok (.enter g args) w) (hcmp : CmpAny P g cb enc cf)
    (R : RowK enc k w0 blk off d0) (htg : ∀ t, t < d0.size → tg d0[t]! = t) (hsz : d0.size < 1152921504606846976) :
    Calls P 118 #[.slice (some ⟨blk, off, none⟩) d0.size cap, .int .i64 d0.size, .func (.func g) #[] cb] w0 (StabPost enc k w0 blk off lt d0) := by
  have mixed := L.mixed; have aE := L.aE; have zE := L.zE; have t0 := L.t0; have a0 := L.a0; have z0 := L.z0; have v0 := L.v0; have t3 := L.t3; have a3 := L.a3; have z3 := L.z3; have v3 := L.v3; have t4 := L.t4; have a4 := L.a4; have z4 := L.z4; have v4 := L.v4; have tu := L.tu; have au := L.au; have zu := L.zu; have vu := L.vu; have tS := L.tS; have aS := L.aS; have zS := L.zS; have vS := L.vS; have tC := L.tC; have aC := L.aC; have zC := L.zC; have vC := L.vC
  have FG := L.fStab
  have eIns : ∀ args w, (callFunc 135 args).run P w = .ok (.enter 135 args) w := L.ins.f20.enters rfl
  have eSym : ∀ args w, (callFunc 136 args).run P w = .ok (.enter 136 args) w := enters_of L.fSym (by kernel_rfl) rfl
  have S0 : Aside (SWK enc k w0 blk off d0 w0) := SWK.start R.hH
  have HC : Aside _ := hcmp
  have HCT := Lib.hid hct
  have HTG := Lib.hid htg
  have HSW := Lib.hid Sw
  clear hcmp hct htg Sw
  go_enter FG, Try.ntmps118
  go_wp2_with fail
  go_loopg [7, 8] d0.size (fun kx s7 s8 wr => ∃ (q a : Nat) (d : Array α), s7 = .int .i64 a ∧ s8 = .int .i64 ((a : Int) + 20) ∧ a ≤ d0.size ∧ d0.size - a ≤ kx ∧ d.size = d0.size ∧ Aside (SWK enc k w0 blk off d wr) ∧ Hid (Stage1 lt tg d0 d d0.size q a))
  case atStart => exact ⟨0, 0, d0, rfl, by first | rfl | go_num, Nat.zero_le _, by omega, rfl, S0, stage1_start lt tg d0 d0.size⟩
  case round =>
    clear S0
    obtain ⟨q, a, d, rfl, rfl, ha, hkx, hds, S1, H1⟩ := hrel
    by_cases hlt : a + 20 ≤ d0.size
    · have hltz : (a : Int) + 20 ≤ (d0.size : Int) := by omega
      have HN := Lib.hid (stage1_ins HSW.out HCT.out HTG.out H1.out (a + 20) (by omega) hlt (by omega) (by omega))
      obtain ⟨hz, HST, _⟩ := HN.out
      have HST' := Lib.hid (HST rfl)
      clear HST HN
      go_wp2_with fail
      refine (ins_z k L enc cf g cb blk off cap a (a + 20) d0 d w0 _ eg HC.out R hds.symm S1.out (by omega) (by omega) (by omega) _ _ _ hds.symm rfl (by omega)).mono ?_
      rintro e w1 ⟨rfl, S2⟩
      have S2' : Aside (SWK enc k w0 blk off (insertionSort (ltOf cf) d a (a + 20)) w1) := S2
      clear S1 S2
      go_wp2_with fail
      go_roundg (d0.size - (a + 20))
      case measure => omega
      case rel => exact ⟨q + 1, a + 20, _, by first | rfl | go_num, by first | rfl | go_num, by omega, by omega, by rw [hz]; exact hds, S2', HST'⟩
    · have hltz : ¬ (a : Int) + 20 ≤ (d0.size : Int) := by omega
      have HN := Lib.hid (stage1_ins HSW.out HCT.out HTG.out H1.out d0.size ha (Nat.le_refl _) (by omega) (by omega))
      obtain ⟨hz, _, HST⟩ := HN.out
      have HST' := Lib.hid (HST rfl)
      clear HST HN
      go_wp2_with fail
      refine (ins_z k L enc cf g cb blk off cap a d0.size d0 d w0 _ eg HC.out R hds.symm S1.out (by omega) (by omega) (by omega) _ _ _ hds.symm rfl rfl).mono ?_
      rintro e w1 ⟨rfl, S2⟩
      have S2' : Aside (SWK enc k w0 blk off (insertionSort (ltOf cf) d a d0.size) w1) := S2
      have hz2 : (insertionSort (ltOf cf) d a d0.size).size = d0.size := hz.trans hds
      generalize insertionSort (ltOf cf) d a d0.size = e1 at HST' S2' hz2
      clear S1 S2 hz
      go_wp2_with fail
      go_loopg [6] d0.size (fun kx s6 wr => ∃ (bs : Nat) (d : Array α), s6 = .int .i64 bs ∧ 20 ≤ bs ∧ bs ≤ 2 * d0.size + 20 ∧ d0.size - bs ≤ kx ∧ d.size = d0.size ∧ Aside (SWK enc k w0 blk off d wr) ∧ Hid (BlkFrom lt tg bs d0.size 0 d ∧ PermIn 0 d0.size d0 d))
      case atStart => exact ⟨20, e1, rfl, Nat.le_refl _, by omega, by omega, hz2, S2', HST'⟩
      case round =>
        clear S2' HST' hz2
        obtain ⟨bs, d, rfl, hb1, hb2, hkx, hds, S1, H1⟩ := hrel
        by_cases hlt : bs < d0.size
        · have hltz : (bs : Int) < (d0.size : Int) := by omega
          go_wp2_with fail
          have HS2 := Lib.hid (stage2_start H1.out.1 H1.out.2)
          clear H1
          go_loopg [7, 8] d0.size (fun kx s7 s8 wr => ∃ (q a2 : Nat) (d : Array α), s7 = .int .i64 a2 ∧ s8 = .int .i64 ((a2 : Int) + 2 * (bs : Int)) ∧ a2 ≤ d0.size ∧ d0.size - a2 ≤ kx ∧ d.size = d0.size ∧ Aside (SWK enc k w0 blk off d wr) ∧ Hid (Stage2 lt tg d0 d d0.size bs q a2))
          case atStart => exact ⟨0, 0, d, rfl, by first | rfl | (congr 1; omega), Nat.zero_le _, by omega, hds, S1, HS2⟩
          case round =>
            clear S1 HS2 hds
            obtain ⟨q, a2, d, rfl, rfl, ha2, hkx2, hds, S1, H1⟩ := hrel
            by_cases hlt2 : a2 + 2 * bs ≤ d0.size
            · have hltz2 : (a2 : Int) + 2 * (bs : Int) ≤ (d0.size : Int) := by omega
              have HP := Lib.hid (stage2_pre HCT.out H1.out (a2 + 2 * bs) (by omega) (by omega))
              go_wp2_with fail
              refine (sym_z k L enc cf lt HSW.out g cb blk off cap a2 (a2 + bs) (a2 + 2 * bs) d0 d w0 _ eg HC.out R hds.symm S1.out (by omega) (by omega) (by omega) (by omega) ⟨HP.out.1, HP.out.2.1, HP.out.2.2.1⟩ _ _ _ _ hds.symm rfl (by omega) (by omega)).mono ?_
              rintro e w1 ⟨rfl, d', S2, hp, hs⟩
              have S2' : Aside (SWK enc k w0 blk off d' w1) := S2
              have hds' : d'.size = d0.size := hp.1.trans hds
              have HST := Lib.hid ((stage2_step (by omega) H1.out (a2 + 2 * bs) (by omega) (by omega) (by omega) HP.out.2.2.2.1 HP.out.2.2.2.2 hp hs).1 rfl)
              clear S1 S2 hp hs
              go_wp2_with fail
              go_roundg (d0.size - (a2 + 2 * bs))
              case measure => omega
              case rel => exact ⟨q + 1, a2 + 2 * bs, d', by first | rfl | (congr 1; omega), by first | rfl | (congr 1; omega), by omega, by omega, hds', S2', HST⟩
            · have hltz2 : ¬ (a2 : Int) + 2 * (bs : Int) ≤ (d0.size : Int) := by omega
              by_cases hm : a2 + bs < d0.size
              · have hmz : (a2 : Int) + (bs : Int) < (d0.size : Int) := by omega
                have HP := Lib.hid (stage2_pre HCT.out H1.out d0.size (by omega) hm)
                go_wp2_with fail
                refine (sym_z k L enc cf lt HSW.out g cb blk off cap a2 (a2 + bs) d0.size d0 d w0 _ eg HC.out R hds.symm S1.out (by omega) hm (by omega) (by omega) ⟨HP.out.1, HP.out.2.1, HP.out.2.2.1⟩ _ _ _ _ hds.symm rfl (by omega) rfl).mono ?_
                rintro e w1 ⟨rfl, d', S2, hp, hs⟩
                have S2' : Aside (SWK enc k w0 blk off d' w1) := S2
                have hds' : d'.size = d0.size := hp.1.trans hds
                have HST := stage2_step (by omega) H1.out d0.size (by omega) hm (by omega) HP.out.2.2.2.1 HP.out.2.2.2.2 hp hs
                have HEND : Hid (BlkFrom lt tg (2 * bs) d0.size 0 d' ∧ PermIn 0 d0.size d0 d') := ⟨stage2_end HST.2.1 (by have := H1.out.1; omega), HST.2.2⟩
                clear S1 S2 hp hs HST
                go_wp2_with fail
                go_roundg (d0.size - 2 * bs)
                case measure => omega
                case rel => exact ⟨2 * bs, d', by first | rfl | (congr 1; omega), by omega, by omega, by omega, hds', S2', HEND⟩
              · have hmz : ¬ (a2 : Int) + (bs : Int) < (d0.size : Int) := by omega
                have HEND : Hid (BlkFrom lt tg (2 * bs) d0.size 0 d ∧ PermIn 0 d0.size d0 d) := ⟨stage2_end (stage2_none H1.out (by omega)) (by have := H1.out.1; omega), H1.out.2.2.2⟩
                go_wp2_with fail
                go_roundg (d0.size - 2 * bs)
                case measure => omega
                case rel => exact ⟨2 * bs, d, by first | rfl | (congr 1; omega), by omega, by omega, by omega, hds, S1, HEND⟩
        · have hltz : ¬ (bs : Int) < (d0.size : Int) := by omega
          have HF := Lib.hid (blk_sorted H1.out.1 (by omega))
          go_wp2_with fail
          go_end0
          exact ⟨rfl, d, S1.out, H1.out.2, HF.out⟩
end SP
end Go.Proofs.Ythgkgjcnmahacaa
end

section
/- slices.SortStableFunc at a slice of the call's own. -/
set_option linter.unusedSimpArgs false
set_option linter.unusedVariables false
namespace Go.Proofs.Ythgkgjcnmahacaa
open Go.Shelf Go.RowKit Go.Lib Go.Sort
namespace SP
variable {β : Type} [Inhabited β]

def SortPost (w : World) (base : Nat) (enc : β → List Value) (cf : β → β → Int) (v : Value) (xs : List β) (e : Ending) (w' : World) : Prop :=
  e = .returned (.tuple #[]) ∧ ∃ ys, IsStable cf xs ys ∧ Own w' base 99 enc 4 v ys ∧ w.grownBy w' v.ownBlock

set_option maxHeartbeats 4000000 in
set_option maxRecDepth 1000000 in
theorem ins_none (w : World) (g : Nat) (cb : Array Value) :
    Calls Try.prog 135 #[.slice none 0 0, .int .i64 0, .int .i64 0, .func (.func g) #[] cb] w fun e w' => e = .returned (.tuple #[]) ∧ w = w' := by
  go_enter Try.func135, Try.ntmps135
  go_wp2_with fail
  go_loop [8] (fun i => i = .int .i64 1) (fun _ => 0)
  case atStart => rfl
  case round =>
    obtain rfl := hrel
    go_wp2_with fail
    go_end0
    exact ⟨rfl, rfl⟩

set_option maxHeartbeats 4000000 in
set_option maxRecDepth 1000000 in
theorem stable_none (w : World) (g : Nat) (cb : Array Value) :
    Calls Try.prog 118 #[.slice none 0 0, .int .i64 0, .func (.func g) #[] cb] w fun e w' => e = .returned (.tuple #[]) ∧ w = w' := by
  go_enter Try.func118, Try.ntmps118
  go_wp2_with fail
  go_loop [7, 8] (fun a b => a = .int .i64 0 ∧ b = .int .i64 20) (fun _ _ => 0)
  case atStart => exact ⟨rfl, rfl⟩
  case round =>
    obtain ⟨rfl, rfl⟩ := hrel
    go_wp2_with (go_at_call 135; refine (ins_none _ g cb).mono ?_; rintro e w' ⟨rfl, rfl⟩)
    go_loop [6] (fun b => b = .int .i64 20) (fun _ => 0)
    case atStart => rfl
    case round =>
      obtain rfl := hrel
      go_wp2_with fail
      go_end0
      exact ⟨rfl, rfl⟩

set_option maxHeartbeats 4000000 in
set_option maxRecDepth 1000000 in
theorem top_any (enc : β → List Value) (C : Codec enc 4) (cf : β → β → Int) (Cm : Cmp cf) (g : Nat) (cb : Array Value) (w : World) (base : Nat) (v : Value) (xs : List β)
    (eg : ∀ args w, (callFunc g args).run Try.prog w = .ok (.enter g args) w) (hcmp : CmpAny Try.prog g cb enc cf) (hv : Own w base 99 enc 4 v xs) (hsz : xs.length < 1152921504606846976) :
    Calls Try.prog 93 #[v, .func (.func g) #[] cb] w (SortPost w base enc cf v xs) := by
  have HV := Lib.hid hv
  rcases hv.2 with ⟨rfl, hn⟩ | ⟨b, cap, cur, rfl, hb, hh, h1, h2, h3, h4⟩
  · have hx : xs = [] := List.eq_nil_of_length_eq_zero hn
    subst hx
    clear hv
    go_enter Try.func93, Try.ntmps93
    go_wp2_with (go_at_call 118; refine (stable_none _ g cb).mono ?_; rintro e w' ⟨rfl, rfl⟩)
    go_end0
    exact ⟨rfl, [], IsStable.nil, HV.out, ⟨rfl, rfl, rfl, Nat.le_refl _, fun _ _ _ => rfl⟩⟩
  · have hcon := stable_any (k := 4) lays (encT enc) (fun x y => cf x.1 y.1) (tlt cf) Cm.swo (fun p => p.2) (fun x y hxy => by
        unfold ltOf tlt
        by_cases e1 : cf y.1 x.1 < 0
        · simp [e1]
        · have : ¬ y.2 < x.2 := by omega
          simp [e1, this]) g cb b 0 cap xs.zipIdx.toArray w eg (fun W x y => hcmp W x.1 y.1)
        ⟨fun x => C.len x.1, fun x => C.one x.1, holds_of_own C hh h4, (Array.getElem?_eq_some_iff.1 hh).1⟩ (fun t ht => by
          simp at ht
          rw [getElem!_pos _ t (by simpa using ht)]
          simp) (by simpa using hsz)
    rw [show xs.zipIdx.toArray.size = xs.length by simp] at hcon
    have HCON := Lib.hid hcon
    clear hcon hcmp hv
    have HH := Lib.hid hh
    have H3 := Lib.hid h3
    have H2 := Lib.hid h2
    clear hh h4 h3 h2
    go_enter Try.func93, Try.ntmps93
    go_wp2_with fail
    refine HCON.out.mono ?_
    rintro e w1 ⟨rfl, d', S, hp, hs⟩
    have hd : d'.size = xs.length := by rw [hp.1]; simp
    have HF := Lib.hid (own_of_swk C hd hb HH.out h1 H2.out H3.out S)
    have HI := Lib.hid (IsStable.of_sorted Cm hp hs)
    clear S hp hs
    go_wp2_with fail
    go_end0
    exact ⟨rfl, _, HI.out, HF.out.1, HF.out.2⟩
end SP
end Go.Proofs.Ythgkgjcnmahacaa
end

section
/- The comparison by the last number. -/
set_option linter.unusedSimpArgs false
set_option linter.unusedVariables false
namespace Go.Proofs.Ythgkgjcnmahacaa
open Go.Shelf Go.RowKit Go.Lib Go.Sort

def cfP (x y : Pa) : Int := if x.last < y.last then -1 else if y.last < x.last then 1 else 0
theorem cmpP : Cmp cfP := by
  constructor <;> intros <;> simp only [cfP] at * <;> (repeat' split at *) <;> first | omega | grind

set_option maxRecDepth 100000 in
theorem cmp_any : SP.CmpAny Try.prog 94 #[] encP cfP := by
  intro W x y
  obtain ⟨i, a, b, s⟩ := x
  obtain ⟨j, c, d, t⟩ := y
  simp only [encP, cfP]
  show Calls Try.prog 94 #[.agg #[.string i, .bool a, .bool b, .int .i64 s], .agg #[.string j, .bool c, .bool d, .int .i64 t]] W _
  by_cases h1 : s < t
  · have e1 : decide (s < t) = true := by simpa using h1
    clear h1
    rw [if_pos (by simpa using e1)]
    go_enter Try.func94, Try.ntmps94
    go_wp2_with fail
    go_ret
    exact ⟨rfl, 0, _, by rw [alloc_eq_grow, alloc_eq_grow, grow_grow]; rfl⟩
  · have e1 : decide (s < t) = false := by simpa using h1
    clear h1
    rw [if_neg (by simpa using e1)]
    by_cases h2 : t < s
    · have e2 : decide (s > t) = true := by simpa using h2
      clear h2
      rw [if_pos (by simpa using e2)]
      go_enter Try.func94, Try.ntmps94
      go_wp2_with fail
      go_ret
      exact ⟨rfl, 0, _, by rw [alloc_eq_grow, alloc_eq_grow, grow_grow]; rfl⟩
    · have e2 : decide (s > t) = false := by simpa using h2
      clear h2
      rw [if_neg (by simpa using e2)]
      go_enter Try.func94, Try.ntmps94
      go_wp2_with fail
      go_ret
      exact ⟨rfl, 0, _, by rw [alloc_eq_grow, alloc_eq_grow, grow_grow]; rfl⟩
end Go.Proofs.Ythgkgjcnmahacaa
end

section
set_option linter.unusedSimpArgs false
set_option linter.unusedVariables false
namespace Go.Proofs.Ythgkgjcnmahacaa
open Go.RowKit Go.Shelf
attribute [local go_sem] Oper.semAt_some

def stepAll (sq : Int) (es : List En) : List Pa := es.foldl (stepP sq) []
theorem stepAll_snoc (sq : Int) (es : List En) (e : En) : stepAll sq (es ++ [e]) = stepP sq (stepAll sq es) e := by simp [stepAll]

/-- Between two rounds of the first loop. -/
def SinI (w : World) (sq : Int) (v0 : Value) (pre : List (Nat × OkE)) (W : World) : Prop :=
  (∃ Q f v, SQ w.heap.size (w.heap.size + 1) pre.length Q f v (w.heap.size + 1 + 1 + 1) (Q.map (·.1)) W ∧ Q.map (·.2) = stepAll sq (pre.map (·.2.1))) ∧
  Boxed W w.heap.size 2 (.int .i64 sq) ∧ Boxed W (w.heap.size + 1 + 1) 134 (.map (some (w.heap.size + 1))) ∧ Boxed W (w.heap.size + 1 + 1 + 1 + 1) 33 v0 ∧ Below w.heap.size w W
theorem SinI.own (w : World) (sq : Int) (v0 : Value) (B : Nat) (hB : w.heap.size + 1 < B) : OwnFrom B (SinI w sq v0) := by
  rintro pre X Y row ⟨⟨Q, f, v, h1, h2⟩, b3, b5, bS, hb⟩ hg hr
  refine ⟨⟨Q, f, v, h1.kept hg (fun r e => ⟨by have := (hr r e).1; omega, (hr r e).2⟩), h2⟩, boxed_own _ _ (fun (_ : Unit) => _) () X Y row b3 hg (fun r e => (hr r e).2), boxed_own _ _ (fun (_ : Unit) => _) () X Y row b5 hg (fun r e => (hr r e).2), boxed_own _ _ (fun (_ : Unit) => _) () X Y row bS hg (fun r e => (hr r e).2), ?_⟩
  exact hb.grown hg hb.size (fun k e => by have := (hr k e).1; omega)
/-- The state behind a round. -/
theorem SinI.next {w : World} {sq : Int} {v0 : Value} {pre : List (Nat × OkE)} {x : Nat × OkE} {W W' : World} (h : SinI w sq v0 pre W) (ht : Trn w.heap.size (w.heap.size + 1) W W')
    (hs : ∃ Q f v, SQ w.heap.size (w.heap.size + 1) (pre.length + 1) Q f v (w.heap.size + 1 + 1 + 1) (Q.map (·.1)) W' ∧ Q.map (·.2) = stepP sq (stepAll sq (pre.map (·.2.1))) x.2.1) (B : Nat) (hB : w.heap.size + 1 < B) :
    KeepsFrom B W W' ∧ Kq w.heap.size (w.heap.size + 1 + 1 + 1 + 1) W W' ∧ SinI w sq v0 (pre ++ [x]) W' := by
  obtain ⟨_, b3, b5, bS, hb⟩ := h
  obtain ⟨Q, f, v, h1, h2⟩ := hs
  have hbS := ht.boxed bS (by decide)
  refine ⟨ht.from hB, ⟨ht.below, hbS.trans bS.symm⟩, ⟨Q, f, v, by simpa using h1, by rw [List.map_append, List.map_singleton, stepAll_snoc]; exact h2⟩, ht.boxed b3 (by decide), ht.boxed b5 (by decide), hbS, hb.trans ht.below⟩
theorem SQ.mono {base mb n : Nat} {Q : List (Nat × Pa)} {f : List UInt8 → Option Value} {v : Value} {t6 : Nat} {R : List Nat} {W : World} (h : SQ base mb n Q f v t6 R W) : SQ base mb (n + 1) Q f v t6 R W :=
  ⟨h.map.mono (by omega), h.fq, h.fn, h.inj, h.pas, h.box, h.own, by have := h.len; omega⟩

theorem stepP_known (sq : Int) (acc : List Pa) (e : En) (h1 : sq < e.seq) (h2 : ∃ p ∈ acc, p.id = e.id) : stepP sq acc e = acc.map (updP e) := by
  unfold stepP
  rw [if_neg (by omega), if_pos (by simpa using h2)]
theorem stepP_new (sq : Int) (acc : List Pa) (e : En) (h1 : sq < e.seq) (h2 : ∀ p ∈ acc, p.id ≠ e.id) : stepP sq acc e = acc ++ [newP e] := by
  unfold stepP
  rw [if_neg (by omega), if_neg (by simpa using h2)]
theorem updP_id (acc : List Pa) (e : En) (h2 : ∀ p ∈ acc, p.id ≠ e.id) : acc.map (updP e) = acc := by
  conv => rhs; rw [← List.map_id acc]
  refine List.map_congr_left fun p hp => ?_
  unfold updP
  rw [if_neg (h2 p hp)]
  rfl
theorem known_fst (Q : List (Nat × Pa)) (e : En) : (Q.map fun q => (q.1, updP e q.2)).map (·.1) = Q.map (·.1) := by simp [Function.comp_def]
theorem known_snd (Q : List (Nat × Pa)) (e : En) : (Q.map fun q => (q.1, updP e q.2)).map (·.2) = (Q.map (·.2)).map (updP e) := by simp [Function.comp_def]
theorem infoQ : (Try.prog.info? 139).map (fun i => (i.zero, i.size, i.bytes)) = some (some (.pointer none), 1, 8) := by kernel_rfl

theorem backTo_map {α β : Type} (xs : List α) (g : α → β) : (backTo xs xs.length).map (fun x => g x.2) = xs.reverse.map g := by
  rw [← backTo_all, List.map_map]
  rfl
/-- What is said in a block. -/
def paAt? (W : World) (b : Nat) : Option Pa := match W.heap[b]? with
  | some (.cells ⟨[.string i, .bool a, .bool c, .int .i64 l]⟩ _ _) => some ⟨i, a, c, l⟩
  | _ => none
theorem PaAt.opt {W : World} {b : Nat} {p : Pa} (h : PaAt W b p) : paAt? W b = some p := by
  unfold paAt?
  rw [show W.heap[b]? = _ from h]
/-- Between two rounds of the second loop. -/
def SinJ (W : World) (v : Value) {p : Nat → Prop} (pre : List (Nat × {b : Nat // p b})) (W' : World) : Prop :=
  (∃ o ps, Boxed W' W.heap.size 96 o ∧ Own W' W.heap.size 99 encP 4 o ps ∧ ps.map some = pre.map (fun x => paAt? W x.2.1)) ∧
  Boxed W' (W.heap.size + 1) 135 v ∧ Below W.heap.size W W'
theorem SinJ.own (W : World) (v : Value) {p : Nat → Prop} (B : Nat) (hB : W.heap.size ≤ B) : OwnFrom B (SinJ W v (p := p)) := by
  rintro pre X Y row ⟨⟨o, ps, h1, h2, h3⟩, bS, hb⟩ hg hr
  refine ⟨⟨o, ps, boxed_own _ _ (fun (_ : Unit) => _) () X Y row h1 hg (fun r e => (hr r e).2), h2.kept hg ?_, h3⟩, boxed_own _ _ (fun (_ : Unit) => _) () X Y row bS hg (fun r e => (hr r e).2), ?_⟩
  · cases ho : o.ownBlock with
    | none => exact .inl rfl
    | some r =>
      refine .inr fun e => ?_
      obtain ⟨_, cur, hc⟩ := h2.blk r ho
      obtain ⟨_, o, ho, hoc⟩ := hr _ e.symm
      rw [hc] at ho; cases ho; cases hoc
  · exact hb.grown hg hb.size (fun k e => by have := (hr k e).1; omega)
theorem Rd.of_map {p : Nat → Prop} {w : World} {B : Nat} {v : Value} {xs : List {b : Nat // p b}} (h : Rd w B encPt 1 v (xs.map (·.1))) : Rd w B encPs 1 v xs := by
  obtain ⟨p, cap, h1, h2, h3, h4, h5⟩ := h
  rw [List.length_map] at h1 h2
  refine ⟨p, cap, h1, h2, h3, h4, fun a ha h0 => ?_⟩
  obtain ⟨b, o, e1, e2, e3⟩ := h5 a ha (by rw [List.length_map]; exact h0)
  refine ⟨b, o, e1, e2, fun i x hx j u hu => ?_⟩
  exact e3 i x.1 (by rw [List.getElem?_map, hx]; rfl) j u hu
theorem infoTP : (Try.prog.info? 99).map (fun i => (i.zero, i.size, i.bytes)) = some (some (.agg #[.string ByteArray.empty, .bool false, .bool false, .int .i64 0]), 4, 32) := by kernel_rfl

theorem map_some_inj {α : Type} : ∀ {xs ys : List α}, xs.map some = ys.map some → xs = ys
  | [], [], _ => rfl
  | [], _ :: _, h => by simp at h
  | _ :: _, [], h => by simp at h
  | x :: xs, y :: ys, h => by
    simp only [List.map_cons, List.cons.injEq, Option.some.injEq] at h
    rw [h.1, map_some_inj h.2]
instance : Inhabited Pa := ⟨⟨ByteArray.empty, false, false, 0⟩⟩
def SincePost (w : World) (sq : Int) (xs : List OkE) (e : Ending) (w' : World) : Prop :=
  ∃ v ys, e = .returned v ∧ IsStable cfP (stepAll sq (xs.reverse.map (·.1))).reverse ys ∧ Own w' w.heap.size 99 encP 4 v ys ∧ Below w.heap.size w w'

/-- An append that is known, at a step of a region that draws its order. -/
theorem stepIn_append {F : Fence} {n : Nat} {P : Program} {ops : Array Oper} {o : Oper} {a : Act} {K : Act → World → Prop} {Q : Exit → Act → World → Prop} {E : Prop} {w w' : World} {v' : Value} (hgd : o.guard = none) (s x : Operand) (t : TypeId)
    (hop : o.op = .call { callee := .builtin .append, args := #[s, x], argTypes := #[t, t] }) (v u : Value) (hs : a.eval s = v) (hx : a.eval x = u) (hrun : (Builtin.append_ #[t, t] o.type #[v, u]).run P w = .ok v' w') (h : K (a.put o.dst v') w') :
    if Region.wanted o (yielded ops a.tmps) = true then Oper.wpIn F n P o a w K Q else E := by
  have hw : Region.wanted o (yielded ops a.tmps) = true := by simp [Region.wanted, hgd]
  rw [if_pos hw]
  unfold Oper.wpIn
  refine ⟨by simp [Oper.about, hop, resolve, Target.leads, Sem.run_pure], ?_⟩
  rw [Oper.semAt_plain F _ _ (by rw [hop]; intro c hc'; cases hc')]
  simp [execOp, hop, resolve, invoke, builtin, hs, hx, hrun, Result.andThen]
  exact h

set_option maxRecDepth 100000 in
set_option maxHeartbeats 4000000 in
theorem since_any0 (w : World) (v0 : Value) (xs : List OkE) (hv0 : Rd w w.heap.size encO 3 v0 xs) (hlen : xs.length ≤ 4398046511104) (sq : Int) :
    Calls Try.prog 58 #[v0, .int .i64 sq] w (SincePost w sq xs) := by
  refine (callsIn_wide (n := 6)).1 ?_
  obtain ⟨F, hFw, hF, hro⟩ : ∃ F : Fence, F = Fence.wide ∧ (∀ g, F.fn g) ∧ F.round = none := ⟨_, rfl, fun _ => trivial, rfl⟩
  obtain ⟨n, hn, hn6⟩ : ∃ n : Nat, 6 ≤ n ∧ 6 = n := ⟨6, by omega, rfl⟩
  rw [← hFw]
  rw [hn6]
  have HF := Lib.hid hFw
  clear hFw hn6
  have h1 : 1 ≤ n := by omega
  obtain ⟨i0, hi, hz0, hz1, hz2⟩ := info_parts infoQ
  have hmm := @run_makeMap Try.prog
  refine callsIn_of_wp_marks Try.func58 rfl (hF _) ?_ hro
  simp only [Try.ntmps58, List.size_toArray, List.length_cons, List.length_nil, Nat.reduceAdd, Nat.reduceSub, Array.replicate_succ, Array.replicate_zero, List.push_toArray, List.append_toArray, List.nil_append, List.cons_append]
  have hsl : ∃ a len cap, v0 = .slice a len cap := by obtain ⟨p, cap, rfl, _⟩ := hv0; exact ⟨_, _, _, rfl⟩
  have HV := Lib.hid hv0
  have HS := Lib.hid hsl
  clear hv0 hsl
  gi_wp2_with (gi_at_call 91; refine (backE_in F (n - 1) (hF _) hro _ _ HS.out).mono ?_; rintro e w' ⟨rfl, rfl⟩)
  obtain ⟨W0, hW0⟩ : ∃ W0, ((((w.alloc (.cells #[.int .i64 sq] 2)).alloc (.map #[] 0)).alloc (.cells #[.map (some (w.heap.size + 1))] 134)).alloc (.cells #[.slice none 0 0] 135)).alloc (.cells #[v0] 33) = W0 := ⟨_, rfl⟩
  have hI0 : SinI w sq v0 [] W0 ∧ W0.heap.size = w.heap.size + 5 := by
    rw [← hW0]
    have b3 := (((((Boxed.new w 2 (.int .i64 sq)).alloc (.map #[] 0)).alloc (.cells #[.map (some (w.heap.size + 1))] 134)).alloc (.cells #[.slice none 0 0] 135)).alloc (.cells #[v0] 33))
    have bm := (((MapF.made (w.alloc (.cells #[.int .i64 sq] 2)) Try.prog 9).alloc (.cells #[.map (some (w.heap.size + 1))] 134)).alloc (.cells #[.slice none 0 0] 135)).alloc (.cells #[v0] 33)
    have b5 := ((Boxed.new ((w.alloc (.cells #[.int .i64 sq] 2)).alloc (.map #[] 0)) 134 (.map (some (w.heap.size + 1)))).alloc (.cells #[.slice none 0 0] 135)).alloc (.cells #[v0] 33)
    have b6 := (Boxed.new (((w.alloc (.cells #[.int .i64 sq] 2)).alloc (.map #[] 0)).alloc (.cells #[.map (some (w.heap.size + 1))] 134)) 135 (.slice none 0 0)).alloc (.cells #[v0] 33)
    have bS := Boxed.new ((((w.alloc (.cells #[.int .i64 sq] 2)).alloc (.map #[] 0)).alloc (.cells #[.map (some (w.heap.size + 1))] 134)).alloc (.cells #[.slice none 0 0] 135)) 33 v0
    simp only [World.size_alloc] at b3 bm b5 b6 bS
    refine ⟨⟨⟨[], _, _, ⟨bm, by simp, by simp, by simp, by simp, b6, Own.nil _ _ _, by simp⟩, rfl⟩, b3, b5, bS, ?_⟩, by simp⟩
    exact (((((Below.refl _ w).alloc (Nat.le_refl _) _).alloc (by simp) _).alloc (by simp; omega) _).alloc (by simp; omega) _).alloc (by simp; omega) _
  rw [hW0]
  clear hW0
  obtain ⟨hI, hs0⟩ := hI0
  have bS0 := hI.2.2.2.1
  refine wpIn_rangeFunc_ownH hro h1 (gf := 116) (lb := #[.pointer (some ⟨w.heap.size + 1 + 1 + 1 + 1, 0, none⟩)]) rfl (hF _) (enters_of Try.func116 (by kernel_rfl) rfl)
    (backE_stops F (n - 1) (hF _) hro (by omega) (w.heap.size + 1 + 1 + 1 + 1) w.heap.size v0 xs hlen W0 (by omega) (by omega) bS0.cell (HV.out.below hI.2.2.2.2 (Nat.le_refl _))) Kq.trans (Kq.book (by omega) (by omega)) (Below.refl _ _) (fun _ => rfl)
    (SinI w sq v0)
    (fun _ _ _ => False)
    (SinI.own w sq v0 _ (by omega))
    (fun _ _ _ _ _ hs _ _ => hs)
    hI
    (fun x a' W => ∃ Bx, EnAt W Bx x.2.1 ∧ a' = { tmps := #[v0, .int .i64 sq, undef, .pointer (some ⟨w.heap.size, 0, none⟩), .slice none 0 0, .pointer (some ⟨w.heap.size + 1 + 1, 0, none⟩), .pointer (some ⟨w.heap.size + 1 + 1 + 1, 0, none⟩), undef, .pointer (some ⟨Bx, 0, none⟩), undef, undef, undef, undef, .map (some (w.heap.size + 1)), v0, .func (.func 116) #[] #[.pointer (some ⟨w.heap.size + 1 + 1 + 1 + 1, 0, none⟩)], .int .i64 (x.1 : Nat), .agg #[.int .i64 x.2.1.seq, .string x.2.1.id, .int .i64 x.2.1.what], undef, undef, undef, undef, undef, undef, undef, undef, undef, undef, undef, undef, undef, undef, undef, undef, undef, undef, undef, undef, undef, undef, undef, undef, undef, undef, undef, undef, undef, undef, undef, undef, undef, undef, undef, undef, undef, undef, undef, undef, undef, undef, undef, undef, undef, undef], defers := [] })
    (fun x a' _ X Y row hs hg hr => by
      obtain ⟨Bx, h1, h2⟩ := hs
      refine ⟨Bx, (hg.block Bx (Array.getElem?_eq_some_iff.1 h1).1 (fun e => ?_)).trans h1, h2⟩
      obtain ⟨_, o, ho, hc⟩ := hr Bx e.symm
      rw [show X.heap[Bx]? = _ from h1] at ho; cases ho; cases hc)
    ?assign ?body ?done ?stop
  case assign =>
    rintro l pre x W K hi hK
    obtain ⟨k, ⟨⟨s, i, t⟩, hx⟩⟩ := x
    gi_wp2
    have hsz := hi.2.2.2.2.size
    exact hK _ _ ((KeepsOthers.alloc _ _).from _) ⟨(Below.refl _ W).alloc hsz _, Below.heap_alloc _ _ _ hi.2.2.2.1.lt⟩ (OwnFrom.alloc (SinI.own w sq v0 _ (Nat.lt_succ_self _)) _ hi) ⟨W.heap.size, World.alloc_heap_new W _, rfl⟩
  case body =>
    rintro l pre x a' W hl - hi ⟨Bx, eX, rfl⟩ hlt
    obtain ⟨⟨Q, f, v, HQ, hacc⟩, b3, b5, bS, hB⟩ := id hi
    have HI := Lib.hid hi
    have HB := Lib.hid hB
    have hsz := hB.size
    obtain ⟨k, ⟨⟨s, i, t⟩, hx⟩⟩ := x
    have c0 := eX.cell 0 rfl
    have c1 := eX.cell 1 rfl
    have c2 := eX.cell 2 rfl
    have c3 := b3.cell
    have c5 := b5.cell
    dsimp only at c0 c1 c2
    clear hi hB bS bS0 hI
    by_cases hle : s ≤ sq
    · have e1 : decide (s ≤ sq) = true := by simpa using hle
      have HL := Lib.hid hle
      clear hle
      gi_wp2
      exact HI.out.next (Trn.refl _ _ _) ⟨Q, f, v, HQ.mono, by rw [hacc]; unfold stepP; rw [if_pos HL.out]⟩ _ (by omega)
    · have e1 : decide (s ≤ sq) = false := by simpa using hle
      have HL := Lib.hid hle
      clear hle
      cases hf : f i.data.toList with
      | none =>
        have hn0 : pre.length < maxLen := by unfold maxLen; omega
        have HY : Hid ((Q.length + 1) * 8 ≤ 140737488355328) := by have := HQ.len; unfold Hid; omega
        have HM : Hid (Q.length + 1 ≤ maxLen) := by have := HQ.len; unfold Hid maxLen; omega
        have hnone : ∀ p ∈ stepAll sq (pre.map (·.2.1)), p.id ≠ i := by
          rw [← hacc]
          intro p hp e
          obtain ⟨q, hq, rfl⟩ := List.mem_map.1 hp
          have := HQ.fq q hq
          rw [e, hf] at this
          cases this
        have HN := Lib.hid hnone
        have l5 := b5.lt
        have lX : Bx < W.heap.size := (Array.getElem?_eq_some_iff.1 eX).1
        clear hnone
        gi_wp2_with (first
          | (gi_at_lookup; refine wpListIn_look_F _ rfl _ _ _ rfl 9 139 Try.underlying9 Try.underlying134 (Try.zeroValue139 _) _ _ f rfl HQ.map i rfl hx.2.1 (v := .pointer none) (by rw [hf]; rfl) ?_)
          | (gi_at_mapUpdate; refine wpListIn_store_F _ rfl _ _ _ _ rfl 9 139 Try.underlying9 Try.underlying134 _ _ f rfl (HQ.map.alloc _) hn0 i rfl hx.2.1 (.pointer (some ⟨W.heap.size, 0, none⟩)) rfl ?_
             intro w2 hM2 hg2
             obtain ⟨HQ2, T2⟩ := HQ.fresh hsz (Nat.le_succ _) ⟨i, false, t != 3, s⟩ hf hg2 hM2
             have eX2 := T2.en eX
             have a1 := eX2.cell 1 rfl
             have a2 := eX2.cell 2 rfl
             dsimp only at a1 a2
             have b62 := HQ2.box.cell
             have hsz2 : w.heap.size ≤ w2.heap.size := Nat.le_trans hsz T2.below.size
             go_frame)
          | (gi_at_builtin; refine wpListIn_append_own _ rfl _ _ 135 rfl w.heap.size 139 i0 (.pointer none) 1 8 Try.underlying135 hi hz0 hz1 hz2 rfl (by decide) _ _ _ rfl (HQ2.own.alloc _) ⟨w2.heap.size, 0, none⟩ 1 1 [.pointer (some ⟨W.heap.size, 0, none⟩)] rfl rfl (cell_one_new _ _ _) (by simp [Value.oneCell']) (by simpa using HM.out) (by simpa using HY.out) (by simp; omega) ?_
             intro v' w3 hown' hg3 hnil3
             have hO' : Own w3 w.heap.size 139 encPt 1 v' (Q.map (·.1) ++ [W.heap.size]) := by
               unfold Own
               rw [cellsOf_append, cellsOf_single, List.length_append]
               exact hown'
             obtain ⟨g', cap', rfl⟩ : ∃ g' cap', v' = .slice (some ⟨g', 0, none⟩) (Q.length + 1) cap' := by
               have := ownsRow_succ hown'
               rwa [List.length_map] at this
             obtain ⟨H4, HQ5, T5⟩ := HQ2.append hsz2 (by omega) _ hg3 hO'
             have b64 := H4.cell
             have b64' := H4.frozen
             have eX5 := T5.en eX2
             have a5 := eX5.cell 2 rfl
             dsimp only at a5
             have p5 := (HQ5.pas (W.heap.size, ⟨i, false, t != 3, s⟩) (by simp)).2
             have p50 := p5.cell 1 rfl
             have p51 := p5.frozen 1
             have p52 := p5.frozen 0
             dsimp only at p50 p51 p52
             clear hown' hg3 hnil3
             go_frame))
        have hk := HQ5.known (Nat.le_trans hsz2 T5.below.size) (q := (W.heap.size, ⟨i, false, t != 3, s⟩)) (by simp) ⟨s, i, t⟩ rfl
        have hk1 := hk.1
        rw [show Q.map (·.1) ++ [W.heap.size] = ((Q ++ [(W.heap.size, (⟨i, false, t != 3, s⟩ : Pa))]).map fun q => (q.1, updP ⟨s, i, t⟩ q.2)).map (·.1) by rw [known_fst]; simp] at hk1
        refine HI.out.next ((T2.trans T5).trans hk.2) ⟨_, _, _, hk1, ?_⟩ _ (by omega)
        rw [known_snd, List.map_append, List.map_singleton, hacc, stepP_new sq _ ⟨s, i, t⟩ HL.out HN.out, List.map_append, updP_id _ ⟨s, i, t⟩ HN.out]
        simp [updP, newP]
      | some u =>
        obtain ⟨q, hq, hqi⟩ := HQ.fn _ _ hf
        have hu := HQ.fq q hq
        rw [hqi, hf] at hu
        obtain rfl : u = .pointer (some ⟨q.1, 0, none⟩) := by simpa using hu
        have hqe : q.2.id = i := (data_inj _ _).1 hqi
        have hp := (HQ.pas q hq).2
        have f1 := hp.frozen 1
        have f0 := hp.frozen 0
        have d0 := hp.cell 0 rfl
        have d1 := hp.cell 1 rfl
        have d2 := hp.cell 2 rfl
        have d3 := hp.cell 3 rfl
        have hs2 : Hid (q.2.id = i) := hqe
        clear hqi hu hqe
        gi_wp2_with (gi_at_lookup; refine wpListIn_look_F _ rfl _ _ _ rfl 9 139 Try.underlying9 Try.underlying134 (Try.zeroValue139 _) _ _ f rfl HQ.map i rfl hx.2.1 (v := .pointer (some ⟨q.1, 0, none⟩)) (by rw [hf]; rfl) ?_)
        have hk := HQ.known hsz hq ⟨s, i, t⟩ hs2.out
        exact HI.out.next hk.2 ⟨_, f, v, by rw [known_fst]; exact hk.1.mono, by rw [known_snd, hacc]; exact (stepP_known sq _ ⟨s, i, t⟩ HL.out (by rw [← hacc]; exact ⟨q.2, List.mem_map.2 ⟨q, hq, rfl⟩, hs2.out⟩)).symm⟩ _ (by omega)
  case done =>
    rintro D ys W hD rfl hi hK
    obtain ⟨⟨Q, f, v, HQ, hacc⟩, b3, b5, bS, hB⟩ := hi
    rw [backTo_map _ (fun x : OkE => x.1)] at hacc
    have c6 := HQ.box.cell
    have l6 := HQ.box.lt
    have hvs : ∃ a len cap, v = .slice a len cap := by obtain ⟨a, cap, h, _⟩ := HQ.own.len; exact ⟨_, _, _, h⟩
    have hQl := HQ.len
    rw [backTo_length _ _ (Nat.le_refl _)] at hQl
    have hp0 : ∀ q ∈ Q, PaAt W q.1 q.2 := fun q hq => (HQ.pas q hq).2
    have hR := HQ.own.rd codecPt
    have hBs := hB.size
    have HP := Lib.hid hp0
    have HR := Lib.hid hR
    have HK := Lib.hid hK
    have HA := Lib.hid hacc
    have HB := Lib.hid hB
    have HV5 := Lib.hid hvs
    clear hp0 hR HQ bS0 hI hK hacc hB b3 b5 bS hvs
    gi_wp2_with (gi_at_call 92; refine (backQ_in F (n - 1) (hF _) hro _ _ HV5.out).mono ?_; rintro e w' ⟨rfl, rfl⟩)
    obtain ⟨W2, hW2⟩ : ∃ W2, (W.alloc (.cells #[.slice none 0 0] 96)).alloc (.cells #[v] 135) = W2 := ⟨_, rfl⟩
    have hI2 : SinJ W v (p := fun b => ∃ p, PaAt W b p) [] W2 ∧ W2.heap.size = W.heap.size + 2 := by
      rw [← hW2]
      have b1 := (Boxed.new W 96 (.slice none 0 0)).alloc (.cells #[v] 135)
      have b2 := Boxed.new (W.alloc (.cells #[.slice none 0 0] 96)) 135 v
      simp only [World.size_alloc] at b1 b2
      exact ⟨⟨⟨_, [], b1, Own.nil _ _ _, rfl⟩, b2, ((Below.refl _ W).alloc (Nat.le_refl _) _).alloc (by simp) _⟩, by simp⟩
    rw [hW2]
    clear hW2
    obtain ⟨hJ, hs2⟩ := hI2
    obtain ⟨xs2, hxs2⟩ : ∃ xs2 : List {b : Nat // ∃ p, PaAt W b p}, xs2.map (·.1) = Q.map (·.1) := ⟨Q.attach.map (fun q => ⟨q.1.1, q.1.2, HP.out q.1 q.2⟩), by rw [List.map_map]; exact List.attach_map_val (l := Q) (f := fun q => q.1)⟩
    have hx2l : xs2.length = Q.length := by simpa using congrArg List.length hxs2
    have hR2 : Rd W2 W.heap.size encPs 1 v xs2 := by
      have := HR.out.below hJ.2.2 (Nat.le_refl _)
      rw [← hxs2] at this
      exact this.of_map
    refine wpIn_rangeFunc_ownH hro h1 (gf := 117) (lb := #[.pointer (some ⟨W.heap.size + 1, 0, none⟩)]) rfl (hF _) (enters_of Try.func117 (by kernel_rfl) rfl)
      (backQ_stops F (n - 1) (hF _) hro (by omega) (W.heap.size + 1) W.heap.size v xs2 (by omega) W2 (by omega) (by omega) hJ.2.1.cell hR2) Kq.trans (Kq.book (by omega) (by omega)) (Below.refl _ _) (fun _ => rfl)
      (SinJ W v)
      (fun _ _ _ => False)
      (SinJ.own W v _ (by omega))
      (fun _ _ _ _ _ hs _ _ => hs)
      hJ
      (fun x a' _ => a' = { tmps := #[v0, .int .i64 sq, undef, .pointer (some ⟨w.heap.size, 0, none⟩), .slice none 0 0, .pointer (some ⟨w.heap.size + 1 + 1, 0, none⟩), .pointer (some ⟨w.heap.size + 1 + 1 + 1, 0, none⟩), undef, undef, undef, .pointer (some ⟨W.heap.size, 0, none⟩), undef, .pointer (some ⟨x.2.1, 0, none⟩), .map (some (w.heap.size + 1)), v0, .func (.func 116) #[] #[.pointer (some ⟨w.heap.size + 1 + 1 + 1 + 1, 0, none⟩)], undef, undef, undef, undef, undef, undef, undef, undef, undef, undef, undef, undef, undef, undef, undef, undef, undef, undef, undef, undef, undef, undef, undef, undef, undef, undef, undef, undef, undef, undef, undef, undef, undef, undef, undef, v, .func (.func 117) #[] #[.pointer (some ⟨W.heap.size + 1, 0, none⟩)], .int .i64 (x.1 : Nat), .pointer (some ⟨x.2.1, 0, none⟩), undef, undef, undef, undef, undef, undef, undef, undef, undef], defers := [] })
      (fun _ _ _ _ _ _ hs _ _ => hs)
      ?assign2 ?body2 ?done2 ?stop2
    case assign2 =>
      rintro l pre x W' K hi hK
      gi_wp2
      exact hK _ _ (KeepsFrom.refl _ _) (Kq.refl _ _ _) hi rfl
    case body2 =>
      rintro l pre x a' W' hl - hi rfl hlt
      obtain ⟨⟨o, ps, bo, HO, hps⟩, b2, hb⟩ := id hi
      obtain ⟨k, ⟨b, hbp⟩⟩ := x
      obtain ⟨pa, hpa⟩ := id hbp
      have hp : PaAt W' b pa := (hb.block b hpa.lt).trans hpa
      have hopt := hpa.opt
      obtain ⟨i, y, z, t⟩ := pa
      have d0 := hp.cell 0 rfl
      have d1 := hp.cell 1 rfl
      have d2 := hp.cell 2 rfl
      have d3 := hp.cell 3 rfl
      dsimp only at d0 d1 d2 d3
      have co := bo.cell
      have lo := bo.lt
      have hplen : ps.length < 4398046511104 := by
        have := congrArg List.length hps
        simp only [List.length_map] at this
        omega
      have hsz := hb.size
      obtain ⟨j0, hj, hjz0, hjz1, hjz2⟩ := info_parts infoTP
      obtain ⟨v', w3, hrun, hown', hg3, hnil3⟩ := run_append_own (P := Try.prog) (W'.alloc (.cells #[.string i, .bool y, .bool z, .int .i64 t] 99)).drew W.heap.size 96 96 99 j0 _ 4 32 Try.underlying96 hj hjz0 hjz1 hjz2 rfl (by decide) o ps.length (cellsOf encP ps) (HO.alloc _)
        ⟨W'.heap.size, 0, none⟩ 1 1 (encP ⟨i, y, z, t⟩) rfl (World.news_of_block (cs := #[.string i, .bool y, .bool z, .int .i64 t]) (t := 99) (fr := (0, 0)) (World.alloc_heap_new W' _)) (codecP.one _) (by unfold maxLen; omega) (by omega) (by simp; omega)
      have hO' : Own w3 W.heap.size 99 encP 4 v' (ps ++ [⟨i, y, z, t⟩]) := by
        unfold Own
        rw [cellsOf_append, cellsOf_single, List.length_append]
        exact hown'
      obtain ⟨g', cap', rfl⟩ := ownsRow_succ hown'
      have bod : Boxed (W'.alloc (.cells #[.string i, .bool y, .bool z, .int .i64 t] 99)).drew W.heap.size 96 o := bo.alloc _
      have bsd : Boxed (W'.alloc (.cells #[.string i, .bool y, .bool z, .int .i64 t] 99)).drew (W.heap.size + 1) 135 v := b2.alloc _
      have bo3 : Boxed w3 W.heap.size 96 o := bod.kept hg3 (bo.not_row (by decide) HO)
      have bs3 : Boxed w3 (W.heap.size + 1) 135 v := bsd.kept hg3 (b2.not_row (by decide) HO)
      have co3 := bo3.cell
      have fo3 := bo3.frozen
      have hfin : ∀ a2 : Act, ownPostG W2.heap.size (Kq W.heap.size (W.heap.size + 1)) (SinJ W v (p := fun b => ∃ p, PaAt W b p)) (fun _ _ _ => False) (pre ++ [(k, ⟨b, hbp⟩)]) W' Exit.normal a2 (w3.setCell ⟨W.heap.size, 0, none⟩ (.slice (some ⟨g', 0, none⟩) (ps.length + 1) cap')) := by
        intro a2
        obtain ⟨q1, q2, q3, q4, q5⟩ := Boxed.appended (W := W'.drew) (tmp := .cells #[.string i, .bool y, .bool z, .int .i64 t] 99) bo (by decide) HO hsz (Nat.le_refl _) hown' hg3
        have q6 := bs3.other (B' := W.heap.size) (by omega) (.slice (some ⟨g', 0, none⟩) (ps.length + 1) cap')
        exact ⟨KeepsOthers.from (show KeepsOthers W' _ from ⟨q4.size, q4.same⟩) _, ⟨show Below W.heap.size W' _ from ⟨q5.os, q5.tape, q5.output, q5.size, q5.block⟩, q6.trans b2.symm⟩, ⟨_, ps ++ [⟨i, y, z, t⟩], q2, by unfold Own; rw [cellsOf_append, cellsOf_single, List.length_append]; exact q3, by simp [hps, hopt]⟩, q6, hb.trans (show Below W.heap.size W' _ from ⟨q5.os, q5.tape, q5.output, q5.size, q5.block⟩)⟩
      clear hb hO' bod bsd bs3 hg3 hnil3 hpa HO hps
      gi_wp2
      refine wpIn_region_any (by kernel_rfl) ?_
      change wpAnyIn _ _ _ _ _ _ _ _ _ (World.drew _)
      refine wpAnyIn_ready (rs := [0, 1]) (by kernel_rfl) (by simp) (AllReadyIn.cons rfl (fun K hK => ?_) (AllReadyIn.cons rfl (fun K hK => ?_) AllReadyIn.nil))
      · go_simp; refine hK _ _ ?_; clear hK K
        refine wpAnyIn_ready (rs := [1]) (by kernel_rfl) (by simp) (AllReadyIn.cons rfl (fun K hK => ?_) AllReadyIn.nil)
        go_simp; refine hK _ _ ?_; clear hK K
        refine wpAnyIn_ready (rs := [2]) (by kernel_rfl) (by simp) (AllReadyIn.cons rfl (fun K hK => ?_) AllReadyIn.nil)
        go_simp; refine hK _ _ ?_; clear hK K
        refine wpAnyIn_ready (rs := [3]) (by kernel_rfl) (by simp) (AllReadyIn.cons rfl (fun K hK => ?_) AllReadyIn.nil)
        go_simp; refine hK _ _ ?_; clear hK K
        refine wpAnyIn_ready (rs := [4]) (by kernel_rfl) (by simp) (AllReadyIn.cons rfl (fun K hK => ?_) AllReadyIn.nil)
        go_simp; refine hK _ _ ?_; clear hK K
        refine wpAnyIn_ready (rs := [5]) (by kernel_rfl) (by simp) (AllReadyIn.cons rfl (fun K hK => ?_) AllReadyIn.nil)
        refine stepIn_append rfl _ _ _ rfl _ _ rfl rfl hrun ?_; refine hK _ _ ?_; clear hK K
        refine wpAnyIn_ready (rs := [6]) (by kernel_rfl) (by simp) (AllReadyIn.cons rfl (fun K hK => ?_) AllReadyIn.nil)
        go_simp; refine hK _ _ ?_; clear hK K
        refine wpAnyIn_done (by kernel_rfl) ?_ _
        gi_wp2; exact hfin _
      · go_simp; refine hK _ _ ?_; clear hK K
        refine wpAnyIn_ready (rs := [0, 2]) (by kernel_rfl) (by simp) (AllReadyIn.cons rfl (fun K hK => ?_) (AllReadyIn.cons rfl (fun K hK => ?_) AllReadyIn.nil))
        · go_simp; refine hK _ _ ?_; clear hK K
          refine wpAnyIn_ready (rs := [2]) (by kernel_rfl) (by simp) (AllReadyIn.cons rfl (fun K hK => ?_) AllReadyIn.nil)
          go_simp; refine hK _ _ ?_; clear hK K
          refine wpAnyIn_ready (rs := [3]) (by kernel_rfl) (by simp) (AllReadyIn.cons rfl (fun K hK => ?_) AllReadyIn.nil)
          go_simp; refine hK _ _ ?_; clear hK K
          refine wpAnyIn_ready (rs := [4]) (by kernel_rfl) (by simp) (AllReadyIn.cons rfl (fun K hK => ?_) AllReadyIn.nil)
          go_simp; refine hK _ _ ?_; clear hK K
          refine wpAnyIn_ready (rs := [5]) (by kernel_rfl) (by simp) (AllReadyIn.cons rfl (fun K hK => ?_) AllReadyIn.nil)
          refine stepIn_append rfl _ _ _ rfl _ _ rfl rfl hrun ?_; refine hK _ _ ?_; clear hK K
          refine wpAnyIn_ready (rs := [6]) (by kernel_rfl) (by simp) (AllReadyIn.cons rfl (fun K hK => ?_) AllReadyIn.nil)
          go_simp; refine hK _ _ ?_; clear hK K
          refine wpAnyIn_done (by kernel_rfl) ?_ _
          gi_wp2; exact hfin _
        · go_simp; refine hK _ _ ?_; clear hK K
          refine wpAnyIn_ready (rs := [0, 3]) (by kernel_rfl) (by simp) (AllReadyIn.cons rfl (fun K hK => ?_) (AllReadyIn.cons rfl (fun K hK => ?_) AllReadyIn.nil))
          · go_simp; refine hK _ _ ?_; clear hK K
            refine wpAnyIn_ready (rs := [3]) (by kernel_rfl) (by simp) (AllReadyIn.cons rfl (fun K hK => ?_) AllReadyIn.nil)
            go_simp; refine hK _ _ ?_; clear hK K
            refine wpAnyIn_ready (rs := [4]) (by kernel_rfl) (by simp) (AllReadyIn.cons rfl (fun K hK => ?_) AllReadyIn.nil)
            go_simp; refine hK _ _ ?_; clear hK K
            refine wpAnyIn_ready (rs := [5]) (by kernel_rfl) (by simp) (AllReadyIn.cons rfl (fun K hK => ?_) AllReadyIn.nil)
            refine stepIn_append rfl _ _ _ rfl _ _ rfl rfl hrun ?_; refine hK _ _ ?_; clear hK K
            refine wpAnyIn_ready (rs := [6]) (by kernel_rfl) (by simp) (AllReadyIn.cons rfl (fun K hK => ?_) AllReadyIn.nil)
            go_simp; refine hK _ _ ?_; clear hK K
            refine wpAnyIn_done (by kernel_rfl) ?_ _
            gi_wp2; exact hfin _
          · go_simp; refine hK _ _ ?_; clear hK K
            refine wpAnyIn_ready (rs := [0, 4]) (by kernel_rfl) (by simp) (AllReadyIn.cons rfl (fun K hK => ?_) (AllReadyIn.cons rfl (fun K hK => ?_) AllReadyIn.nil))
            · go_simp; refine hK _ _ ?_; clear hK K
              refine wpAnyIn_ready (rs := [4]) (by kernel_rfl) (by simp) (AllReadyIn.cons rfl (fun K hK => ?_) AllReadyIn.nil)
              go_simp; refine hK _ _ ?_; clear hK K
              refine wpAnyIn_ready (rs := [5]) (by kernel_rfl) (by simp) (AllReadyIn.cons rfl (fun K hK => ?_) AllReadyIn.nil)
              refine stepIn_append rfl _ _ _ rfl _ _ rfl rfl hrun ?_; refine hK _ _ ?_; clear hK K
              refine wpAnyIn_ready (rs := [6]) (by kernel_rfl) (by simp) (AllReadyIn.cons rfl (fun K hK => ?_) AllReadyIn.nil)
              go_simp; refine hK _ _ ?_; clear hK K
              refine wpAnyIn_done (by kernel_rfl) ?_ _
              gi_wp2; exact hfin _
            · go_simp; refine hK _ _ ?_; clear hK K
              refine wpAnyIn_ready (rs := [0]) (by kernel_rfl) (by simp) (AllReadyIn.cons rfl (fun K hK => ?_) AllReadyIn.nil)
              go_simp; refine hK _ _ ?_; clear hK K
              refine wpAnyIn_ready (rs := [5]) (by kernel_rfl) (by simp) (AllReadyIn.cons rfl (fun K hK => ?_) AllReadyIn.nil)
              refine stepIn_append rfl _ _ _ rfl _ _ rfl rfl hrun ?_; refine hK _ _ ?_; clear hK K
              refine wpAnyIn_ready (rs := [6]) (by kernel_rfl) (by simp) (AllReadyIn.cons rfl (fun K hK => ?_) AllReadyIn.nil)
              go_simp; refine hK _ _ ?_; clear hK K
              refine wpAnyIn_done (by kernel_rfl) ?_ _
              gi_wp2; exact hfin _
    case done2 =>
      rintro D2 ys W3 hD2 rfl hj hK2
      obtain ⟨⟨o, ps, bo, HO, hps⟩, b2, hb⟩ := hj
      rw [backTo_map xs2 (fun x => paAt? W x.1)] at hps
      have hps' : ps = (stepAll sq (xs.reverse.map (·.1))).reverse := by
        rw [← HA.out]
        have e1 : xs2.reverse.map (fun x => paAt? W x.1) = (Q.map (·.1)).reverse.map (paAt? W) := by rw [← hxs2, ← List.map_reverse, List.map_map]; rfl
        have e2 : (Q.map (·.1)).reverse.map (paAt? W) = (Q.map (·.2)).reverse.map some := by
          rw [← List.map_reverse, ← List.map_reverse, List.map_map, List.map_map]
          refine List.map_congr_left fun q hq => ?_
          exact (HP.out q (by simpa using hq)).opt
        rw [e1, e2] at hps
        exact map_some_inj hps
      have co := bo.cell
      have hplen : ps.length < 1152921504606846976 := by
        have := congrArg List.length hps
        simp only [List.length_map, List.length_reverse] at this
        omega
      have hcon : CallsIn F (n - 1) Try.prog 93 #[o, .func (.func 94) #[] #[]] W3 (SP.SortPost W3 W.heap.size encP cfP o ps) := by
        rw [HF.out]
        exact callsIn_wide.2 (SP.top_any encP codecP cfP cmpP 94 #[] W3 W.heap.size o ps (enters_of Try.func94 (by kernel_rfl) rfl) cmp_any HO hplen)
      have HC := Lib.hid hcon
      clear hcon
      gi_wp2_with (gi_at_call 93; refine HC.out.mono ?_; rintro e w4 ⟨rfl, zs, hst, hown4, hg4⟩; have bo4 := (bo.kept hg4 (bo.not_row (by decide) HO)).cell; go_frame)
      have kD2 : w4.heap[D2]? = some (.deferred (some [])) := by
        refine (hg4.block D2 (Array.getElem?_eq_some_iff.1 hK2).1 (fun e => ?_)).trans hK2
        obtain ⟨_, cur, hc⟩ := HO.blk D2 e.symm
        rw [hK2] at hc
        cases hc
      have kD3 : W3.heap[D]? = some (.deferred (some [])) := (hb.block D (Array.getElem?_eq_some_iff.1 HK.out).1).trans HK.out
      have kD : w4.heap[D]? = some (.deferred (some [])) := by
        refine (hg4.block D (Array.getElem?_eq_some_iff.1 kD3).1 (fun e => ?_)).trans kD3
        obtain ⟨_, cur, hc⟩ := HO.blk D e.symm
        rw [kD3] at hc
        cases hc
      have hDD : D2 ≠ D := by have := (Array.getElem?_eq_some_iff.1 HK.out).1; omega
      have kDp : ∀ ob, (w4.putObj D2 ob).heap[D]? = some (.deferred (some [])) := fun ob => (World.putObj_heap_other hDD.symm).trans kD
      have hB4 : Below w.heap.size w w4 := (HB.out.trans (hb.mono hBs)).grown hg4 (Nat.le_trans hBs hb.size) (fun r e => Nat.le_trans hBs (HO.blk r e).1)
      have hown5 : Own w4 w.heap.size 99 encP 4 o zs := hown4.mono hBs
      refine ⟨by simp, .inl ⟨_, _, rfl, run_takeDeferred kD2, ?_⟩⟩
      refine ⟨by simp, .inl ⟨_, _, rfl, run_takeDeferred (kDp _), ?_⟩⟩
      refine ⟨_, results_tmp rfl _ _ _, o, zs, rfl, by rw [← hps']; exact hst, ?_, ?_⟩
      · exact ownsRow_putObj (ownsRow_putObj hown5 _ kD2 rfl) _ (kDp _) rfl
      · exact (hB4.trans (belowK_b (w := w) (Nat.le_refl _) w4 D2 _ _ (by omega) kD2 rfl rfl)).trans (belowK_b (w := w) (Nat.le_refl _) _ D _ _ (by omega) (kDp _) rfl rfl)
    case stop2 =>
      rintro D c pre W _ _ h _
      exact h.elim
  case stop =>
    rintro D c pre W _ _ h _
    exact h.elim
end Go.Proofs.Ythgkgjcnmahacaa
end

section
/- The document's answer of what became of ids, in plain lists; and stores into an own row of four cells. -/
set_option linter.unusedSimpArgs false
set_option linter.unusedVariables false
namespace Go.Proofs.Ythgkgjcnmahacaa
open Go.RowKit

def hitB (sq : Int) (x y : En) : Bool := decide (y.id = x.id) && decide (sq < y.seq)
def refAt (sq : Int) (l : List En) (i : Nat) : Option Pa := match l[i]? with
  | none => none
  | some x => if x.seq ≤ sq then none else if (l.drop (i + 1)).any (hitB sq x) then none else (l.find? (hitB sq x)).map fun f => ⟨x.id, f.what != 1, x.what != 3, x.seq⟩
def refUpTo (sq : Int) (l : List En) (k : Nat) : List Pa := (List.range k).filterMap (refAt sq l)
theorem refUpTo_succ (sq : Int) (l : List En) (k : Nat) : refUpTo sq l (k + 1) = refUpTo sq l k ++ (refAt sq l k).toList := by
  unfold refUpTo
  rw [List.range_succ, List.filterMap_append]
  cases h : refAt sq l k <;> simp [h]

def sinceL (sq : Int) : List En → List Pa
  | [] => []
  | e :: r => if e.seq ≤ sq then sinceL sq r else if (sinceL sq r).any (fun p => decide (p.id = e.id)) then (sinceL sq r).map (updP e) else newP e :: sinceL sq r

theorem sinceL_cons (sq : Int) (e : En) (r : List En) : sinceL sq (e :: r) = if e.seq ≤ sq then sinceL sq r else if (sinceL sq r).any (fun p => decide (p.id = e.id)) then (sinceL sq r).map (updP e) else newP e :: sinceL sq r := rfl
theorem stepAll_rev (sq : Int) : ∀ l : List En, (stepAll sq l.reverse).reverse = sinceL sq l
  | [] => rfl
  | e :: r => by
    have ih := stepAll_rev sq r
    rw [List.reverse_cons, stepAll_snoc]
    have hr : stepAll sq r.reverse = (sinceL sq r).reverse := by rw [← ih, List.reverse_reverse]
    rw [hr, sinceL_cons]
    unfold stepP
    by_cases h1 : e.seq ≤ sq
    · rw [if_pos h1, if_pos h1, List.reverse_reverse]
    · rw [if_neg h1, if_neg h1, List.any_reverse]
      split
      · rw [List.map_reverse, List.reverse_reverse]
      · rw [List.reverse_append, List.reverse_reverse]; rfl

theorem upd_id (e : En) (p : Pa) : (updP e p).id = p.id := by unfold updP; split <;> rfl
theorem sinceL_id (sq : Int) (i : ByteArray) : ∀ l : List En, (∃ p ∈ sinceL sq l, p.id = i) ↔ ∃ y ∈ l, y.id = i ∧ sq < y.seq
  | [] => by simp [sinceL]
  | e :: r => by
    have ih := sinceL_id sq i r
    rw [sinceL_cons]
    by_cases h1 : e.seq ≤ sq
    · rw [if_pos h1, ih]
      constructor
      · rintro ⟨y, hy, h⟩; exact ⟨y, List.mem_cons_of_mem _ hy, h⟩
      · rintro ⟨y, hy, h, h'⟩
        rcases List.mem_cons.1 hy with rfl | hy
        · omega
        · exact ⟨y, hy, h, h'⟩
    · rw [if_neg h1]
      split
      · rename_i hk
        have e1 : (∃ p ∈ (sinceL sq r).map (updP e), p.id = i) ↔ ∃ p ∈ sinceL sq r, p.id = i := by
          constructor
          · rintro ⟨p, hp, h⟩
            obtain ⟨q, hq, rfl⟩ := List.mem_map.1 hp
            exact ⟨q, hq, by rw [← h, upd_id]⟩
          · rintro ⟨p, hp, h⟩
            exact ⟨_, List.mem_map.2 ⟨p, hp, rfl⟩, by rw [upd_id]; exact h⟩
        rw [e1, ih]
        constructor
        · rintro ⟨y, hy, h⟩; exact ⟨y, List.mem_cons_of_mem _ hy, h⟩
        · rintro ⟨y, hy, h, h'⟩
          rcases List.mem_cons.1 hy with rfl | hy
          · rw [← ih]
            simp only [List.any_eq_true, decide_eq_true_eq] at hk
            obtain ⟨p, hp, e2⟩ := hk
            exact ⟨p, hp, by rw [e2]; exact h⟩
          · exact ⟨y, hy, h, h'⟩
      · constructor
        · rintro ⟨p, hp, h⟩
          rcases List.mem_cons.1 hp with rfl | hp
          · exact ⟨e, by simp, h, by omega⟩
          · obtain ⟨y, hy, h2⟩ := ih.1 ⟨p, hp, h⟩
            exact ⟨y, List.mem_cons_of_mem _ hy, h2⟩
        · rintro ⟨y, hy, h, h'⟩
          rcases List.mem_cons.1 hy with rfl | hy
          · exact ⟨newP y, by simp, h⟩
          · obtain ⟨p, hp, h2⟩ := ih.2 ⟨y, hy, h, h'⟩
            exact ⟨p, List.mem_cons_of_mem _ hp, h2⟩

/-- What an entry ahead of the list does to what is said of it. -/
def putP (sq : Int) (e : En) (p : Pa) : Pa := if sq < e.seq then updP e p else p
theorem refAt_cons (sq : Int) (e : En) (r : List En) (i : Nat) : refAt sq (e :: r) (i + 1) = (refAt sq r i).map (putP sq e) := by
  unfold refAt
  rw [List.getElem?_cons_succ]
  cases h0 : r[i]? with
  | none => rfl
  | some x =>
    dsimp only
    by_cases h1 : x.seq ≤ sq
    · rw [if_pos h1, if_pos h1]; rfl
    · rw [if_neg h1, if_neg h1, List.drop_succ_cons]
      split
      · rfl
      · rw [List.find?_cons, Option.map_map]
        cases h2 : hitB sq x e with
        | true =>
          unfold hitB at h2
          simp only [Bool.and_eq_true, decide_eq_true_eq] at h2
          cases h3 : r.find? (hitB sq x) with
          | none =>
            have := List.find?_eq_none.1 h3 x (List.mem_of_getElem? h0)
            unfold hitB at this
            simp at this
            omega
          | some f =>
            simp only [Option.map_some, Function.comp_apply, putP, if_pos h2.2, updP, if_pos h2.1.symm]
        | false =>
          unfold hitB at h2
          simp only [Bool.and_eq_false_iff, decide_eq_false_iff_not] at h2
          congr 1
          funext f
          simp only [Function.comp_apply, putP, updP]
          rcases h2 with h2 | h2
          · have h4 : ¬ x.id = e.id := fun e' => h2 e'.symm
            by_cases h5 : sq < e.seq
            · rw [if_pos h5, if_neg h4]
            · rw [if_neg h5]
          · rw [if_neg h2]

theorem refUpTo_all (sq : Int) : ∀ l : List En, refUpTo sq l l.length = sinceL sq l
  | [] => rfl
  | e :: r => by
    have ih := refUpTo_all sq r
    unfold refUpTo at ih ⊢
    rw [List.length_cons, List.range_succ_eq_map, List.filterMap_cons, List.filterMap_map]
    have e1 : (List.range r.length).filterMap (refAt sq (e :: r) ∘ Nat.succ) = (sinceL sq r).map (putP sq e) := by
      rw [← ih, List.map_filterMap]
      congr 1
      funext i
      exact refAt_cons sq e r i
    rw [e1]
    have e0 : refAt sq (e :: r) 0 = if e.seq ≤ sq then none else if r.any (hitB sq e) then none else some (newP e) := by
      unfold refAt
      rw [List.getElem?_cons_zero]
      dsimp only
      by_cases h1 : e.seq ≤ sq
      · rw [if_pos h1, if_pos h1]
      · rw [if_neg h1, if_neg h1]
        rw [List.drop_succ_cons, List.drop_zero]
        have h2 : hitB sq e e = true := by unfold hitB; simp; omega
        rw [List.find?_cons, h2]
        rfl
    rw [e0, sinceL_cons]
    by_cases h1 : e.seq ≤ sq
    · rw [if_pos h1, if_pos h1]
      dsimp only
      have : (putP sq e) = id := by funext p; unfold putP; rw [if_neg (by omega)]; rfl
      rw [this, List.map_id]
    · have hput : (putP sq e) = updP e := by funext p; unfold putP; rw [if_pos (by omega)]
      rw [if_neg h1, if_neg h1, hput]
      have hany : r.any (hitB sq e) = (sinceL sq r).any (fun p => decide (p.id = e.id)) := by
        rw [Bool.eq_iff_iff]
        have := sinceL_id sq e.id r
        simp only [List.any_eq_true, hitB, Bool.and_eq_true, decide_eq_true_eq]
        exact this.symm
      rw [hany]
      by_cases hk : (sinceL sq r).any (fun p => decide (p.id = e.id)) = true
      · rw [if_pos hk, if_pos hk]
      · rw [if_neg hk, if_neg hk]
        have : (sinceL sq r).map (updP e) = sinceL sq r := updP_id _ _ (fun p hp h => hk (by simp only [List.any_eq_true, decide_eq_true_eq]; exact ⟨p, hp, h⟩))
        rw [this]

/-! ### A store of four cells into an own row -/
theorem cells_set : ∀ (xs : List Pa) (p : Nat) (y : Pa), p < xs.length → ((((cellsOf encP xs).set (p * 4) (.string y.id)).set (p * 4 + 1) (.bool y.was)).set (p * 4 + 2) (.bool y.isb)).set (p * 4 + 3) (.int .i64 y.last) = cellsOf encP (xs.set p y)
  | [], _, _, h => by simp at h
  | x :: xs, 0, y, _ => by simp [cellsOf, encP]
  | x :: xs, p + 1, y, h => by
    have ih := cells_set xs p y (by simpa using h)
    simp only [cellsOf, List.flatMap_cons, List.set_cons_succ] at ih ⊢
    rw [← ih]
    rw [show (p + 1) * 4 = p * 4 + 1 + 1 + 1 + 1 by omega]
    simp [encP]

theorem Own.stored4 {w : World} {base : Nat} {e : TypeId} {g n cap : Nat} {xs : List Pa} (h : Own w base e encP 4 (.slice (some ⟨g, 0, none⟩) n cap) xs) (hn : n = xs.length) (p : Nat) (hp : p < xs.length) (y : Pa) :
    Own ((((w.setCell ⟨g, p * 4, none⟩ (.string y.id)).setCell ⟨g, p * 4 + 1, none⟩ (.bool y.was)).setCell ⟨g, p * 4 + 2, none⟩ (.bool y.isb)).setCell ⟨g, p * 4 + 3, none⟩ (.int .i64 y.last)) base e encP 4 (.slice (some ⟨g, 0, none⟩) n cap) (xs.set p y) ∧
    w.grownBy ((((w.setCell ⟨g, p * 4, none⟩ (.string y.id)).setCell ⟨g, p * 4 + 1, none⟩ (.bool y.was)).setCell ⟨g, p * 4 + 2, none⟩ (.bool y.isb)).setCell ⟨g, p * 4 + 3, none⟩ (.int .i64 y.last)) (some g) := by
  subst hn
  unfold Own at h ⊢
  have h1 := World.ownsRow.stored h (p * 4) (.string y.id)
  have h2 := World.ownsRow.stored h1.1 (p * 4 + 1) (.bool y.was)
  have h3 := World.ownsRow.stored h2.1 (p * 4 + 2) (.bool y.isb)
  have h4 := World.ownsRow.stored h3.1 (p * 4 + 3) (.int .i64 y.last)
  rw [cells_set xs p y hp] at h4
  rw [List.length_set]
  exact ⟨h4.1, ((h1.2.trans h2.2).trans h3.2).trans h4.2⟩
end Go.Proofs.Ythgkgjcnmahacaa
end

section
/- trail.Since, said of entries. -/
set_option linter.unusedSimpArgs false
set_option linter.unusedVariables false
namespace Go.Proofs.Ythgkgjcnmahacaa
open Go.RowKit Go.OpenShut

theorem Rd.of_image {α β : Type} {enc : β → List Value} {g : α → β} {sz : Nat} {w : World} {B : Nat} {v : Value} {xs : List α} (h : Rd w B enc sz v (xs.map g)) : Rd w B (fun x => enc (g x)) sz v xs := by
  obtain ⟨p, cap, h1, h2, h3, h4, h5⟩ := h
  rw [List.length_map] at h1 h2
  refine ⟨p, cap, h1, h2, h3, h4, fun a ha h0 => ?_⟩
  obtain ⟨b, o, e1, e2, e3⟩ := h5 a ha (by rw [List.length_map]; exact h0)
  exact ⟨b, o, e1, e2, fun i x hx j u hu => e3 i (g x) (by rw [List.getElem?_map, hx]; rfl) j u hu⟩

theorem since_any (w : World) (v : Value) (l : List En) (sq : Int) (hv : RdE w w.heap.size v l) (hlen : l.length ≤ 4398046511104) :
    Calls Try.prog 58 #[v, .int .i64 sq] w fun e w' => ∃ ys, IsStable cfP (sinceL sq l) ys ∧ OwnRet w 99 encP 4 ys e w' := by
  obtain ⟨hok, hr⟩ := rdE_iff.1 hv
  obtain ⟨xs, hxs⟩ : ∃ xs : List OkE, xs.map (·.1) = l := ⟨l.attach.map fun e => ⟨e.1, hok e.1 e.2⟩, by rw [List.map_map]; exact List.attach_map_subtype_val l⟩
  have hr' : Rd w w.heap.size encO 3 v xs := by rw [← hxs] at hr; exact Rd.of_image (enc := encE) hr
  have hl : xs.length = l.length := by rw [← hxs]; simp
  refine (since_any0 w v xs hr' (by omega) sq).mono ?_
  rintro e w' ⟨u, ys, rfl, h1, h2, h3⟩
  refine ⟨ys, ?_, u, rfl, h2, h3⟩
  rw [List.map_reverse, hxs, stepAll_rev] at h1
  exact h1

end Go.Proofs.Ythgkgjcnmahacaa
end

section
/- store.Right: whether a box is right, walked. -/
set_option linter.unusedSimpArgs false
set_option linter.unusedVariables false
namespace Go.Proofs.Ythgkgjcnmahacaa
open Go.RowKit Go.OpenShut

/-- Is a box right? -/
def RightBx (b : BoxD) : Prop := Rising b.objs ∧ 0 ≤ b.keep ∧ b.keep ≤ 1000 ∧ (b.trail.length : Int) ≤ b.keep ∧ rightB b.trail b.floor b.seq = true ∧ ∀ p ∈ sinceL b.floor b.trail, isAt b.objs p.id = p.isb
def Asked (os : List (ByteArray × JV)) (ys : List Pa) (j : Nat) : Prop := ∀ (i : Nat) p, i < j → ys[i]? = some p → isAt os p.id = p.isb

set_option maxRecDepth 100000 in
set_option maxHeartbeats 4000000 in
theorem rightS_any (b : BoxD) (r : RB) (w : World) (hb : BoxOf w w.heap.size b r) (ob : b.Ok) :
    Calls Try.prog 20 #[r.val] w (Said w (RightBx b)) := by
  have ho := hb.objs
  have htr := hb.trail
  have hkp := hb.keep
  have hsq := hb.seq
  have hfl := hb.floor
  have hb0 := hb
  obtain ⟨po, no, co, pt, nt, ct, sq, fl, kp⟩ := r
  dsimp only [RB.val] at *
  obtain ⟨rms, hrd, hms⟩ := ho
  have hn := rd_nlen hrd
  have hlm := hms.len
  have hnt := htr.nlen
  have hzo := ob.objs
  have hzt := ob.trail
  have hA0 : BoxAt (w.alloc (.cells #[.slice po no co, .slice pt nt ct, .int .i64 sq, .int .i64 fl, .int .i64 kp] 35)) w.heap.size ⟨po, no, co, pt, nt, ct, sq, fl, kp⟩ := heap_alloc_at rfl
  have hB0 : Below w.heap.size w (w.alloc (.cells #[.slice po no co, .slice pt nt ct, .int .i64 sq, .int .i64 fl, .int .i64 kp] 35)) := (Below.refl _ _).alloc (Nat.le_refl _) _
  have HRD := Lib.hid hrd
  have HMS := Lib.hid hms
  have HTR := Lib.hid htr
  have HBX := Lib.hid hb0
  have HOB := Lib.hid ob
  have HN : Hid (b.objs.length = no ∧ rms.length = no ∧ b.trail.length = nt) := ⟨by omega, by omega, hnt⟩
  have HEQ : Hid (b.keep = kp ∧ b.seq = sq ∧ b.floor = fl) := ⟨hkp, hsq, hfl⟩
  have hno : no ≤ 1466015503658 := by omega
  have hnt2 : nt ≤ 4398046510976 := by omega
  clear hb hrd hms htr hn hlm hnt hzo hzt hkp hsq hfl hb0 ob
  go_enter Try.func20, Try.ntmps20
  go_upto_region 1 with fail
  obtain ⟨W0, hW0⟩ : ∃ W0, (w.alloc (.cells #[.slice po no co, .slice pt nt ct, .int .i64 sq, .int .i64 fl, .int .i64 kp] 35)) = W0 := ⟨_, rfl⟩
  rw [hW0] at hA0 hB0 ⊢
  clear hW0
  have HA := Lib.hid hA0
  have HB := Lib.hid hB0
  have hz := hA0.lt
  have c0 := hA0.cell 0 rfl
  dsimp only at c0
  clear hA0 hB0
  go_wp2_with fail
  go_loopw [3] (fun i wr => ∃ j : Nat, i = .int .i64 ((j : Int) + 1) ∧ (j + 1 ≤ no ∨ j = 0) ∧ RisingTo b.objs (j + 1) ∧ Below W0.heap.size W0 wr) (fun i _ => no + 1 - (intOf i).toNat)
  case atStart => exact ⟨0, rfl, .inr rfl, fun i p q h => by omega, Below.refl _ _⟩
  case round =>
    obtain ⟨j, rfl, hj, hri, hbr⟩ := hrel
    have c0 := bcs hbr hz c0
    by_cases hlt : j + 1 < no
    · obtain ⟨x, hx⟩ : ∃ x, rms[j]? = some x := ⟨_, List.getElem?_eq_getElem (by have := HN.out; omega)⟩
      obtain ⟨y, hy⟩ : ∃ x, rms[j + 1]? = some x := ⟨_, List.getElem?_eq_getElem (by have := HN.out; omega)⟩
      obtain ⟨p, hp⟩ : ∃ x, b.objs[j]? = some x := ⟨_, List.getElem?_eq_getElem (by have := HN.out; omega)⟩
      obtain ⟨q, hq⟩ : ∃ x, b.objs[j + 1]? = some x := ⟨_, List.getElem?_eq_getElem (by have := HN.out; omega)⟩
      have hpn := HMS.out.name _ p x hp hx
      have hqn := HMS.out.name _ q y hq hy
      have hbw : Below w.heap.size w wr := HB.out.trans (hbr.mono HB.out.size)
      obtain ⟨b1, o1, hpo, hb1, hc1⟩ := rd_at' (HRD.out.below hbw (Nat.le_refl _)) hx
      obtain ⟨b2, o2, hpo2, hb2, hc2⟩ := rd_at' (HRD.out.below hbw (Nat.le_refl _)) hy
      rw [hpo] at hpo2
      simp only [Option.some.injEq, Addr.mk.injEq, and_true] at hpo2
      obtain ⟨rfl, rfl⟩ := hpo2
      subst hpo
      have f0 := hc1 0 _ rfl
      have g0 := hc2 0 _ rfl
      rw [Nat.add_zero] at f0 g0
      have hless := less_cmp x.name y.name
      rw [← hpn, ← hqn] at hless
      have hj0 : (0 : Int) ≤ (j : Int) := Int.natCast_nonneg _
      have hj1 : (j : Int) < (no : Int) := by omega
      have hj2 : (0 : Int) ≤ (j : Int) + 1 := by omega
      have hj3 : (j : Int) + 1 < (no : Int) := by omega
      have htn : ((j : Int) + 1).toNat = j + 1 := by omega
      have hw1 : IntKind.i64.wrap ((j : Int) + 1) = (j : Int) + 1 := by rw [IntKind.wrap_i64]; omega
      have hw2 : (j : Int) + 1 - 1 = (j : Int) := by omega
      have hw3 : IntKind.i64.wrap ((j : Int) + 1 - 1) = (j : Int) := by rw [IntKind.wrap_i64]; omega
      have hd : decide ((j : Int) + 1 < (no : Int)) = true := by simpa using hj3
      have HBR := Lib.hid hbr
      rw [hpn, hqn] at hless
      by_cases hc : cmpN p.1 q.1 < 0
      · have HRI : RisingTo b.objs (j + 1 + 1) := by
          intro i p' q' hi hp' hq'
          by_cases e : i = j
          · subst e
            rw [hp] at hp'
            rw [hq] at hq'
            cases hp'; cases hq'
            exact hc
          · exact hri i p' q' (by omega) hp' hq'
        have hl : Op.bytesLess x.name.toList y.name.toList = true := by rw [hless, ← hpn, ← hqn]; simpa using hc
        clear hx hy hp hq hpn hqn hc1 hc2 hless hc hri hbr hbw hb2
        go_wp2_with fail
        go_quiet (fail)
        go_wp2_with fail
        go_roundw
        case rel => exact ⟨j + 1, by go_num, .inl (by omega), HRI, bdn HBR.out _⟩
        case measure => simp [intOf]; omega
      · have hl : Op.bytesLess x.name.toList y.name.toList = false := by rw [hless, ← hpn, ← hqn]; simpa using hc
        have HNO : Hid (¬ RightBx b) := fun h => Rising.no hp hq hc h.1
        clear hx hy hp hq hpn hqn hc1 hc2 hless hc hri hbw hb2
        go_wp2_with fail
        go_quiet (fail)
        go_wp2_with fail
        go_ret
        exact ⟨false, rfl, ⟨fun h => (by cases h), fun h => absurd h HNO.out⟩, bdn (HB.out.trans (HBR.out.mono HB.out.size)) _⟩
    · have hrs : Rising b.objs := by
        apply RisingTo.all
        intro i p q hi h1 h2
        exact hri i p q (by have := HN.out; omega) h1 h2
      have hd : decide ((j : Int) + 1 < (no : Int)) = false := by simp; omega
      have hd2 : ¬ ((j : Int) + 1 < (no : Int)) := by omega
      have hj2 : (0 : Int) ≤ (j : Int) + 1 := by omega
      have hA1 := HA.out.under hbr hz
      have hbw : Below w.heap.size w wr := HB.out.trans (hbr.mono HB.out.size)
      have HRS := Lib.hid hrs
      have HA1 := Lib.hid hA1
      have HBW := Lib.hid hbw
      clear hri hbr hA1 hbw hrs c0
      have c0 := HA1.out.cell 0 rfl
      have c1 := HA1.out.cell 1 rfl
      have c2 := HA1.out.cell 2 rfl
      have c3 := HA1.out.cell 3 rfl
      have c4 := HA1.out.cell 4 rfl
      dsimp only at c0 c1 c2 c3 c4
      obtain ⟨e1, e2, e3⟩ := HEQ.out
      by_cases h1 : kp < 0
      · have d1 : decide (kp < 0) = true := by simpa using h1
        have HNO : Hid (¬ RightBx b) := fun h => by have := h.2.1; omega
        clear e1 e2 e3 h1
        go_wp2_with fail
        go_ret
        exact ⟨false, rfl, ⟨fun h => (by cases h), fun h => absurd h HNO.out⟩, HBW.out⟩
      have d1 : decide (kp < 0) = false := by simpa using h1
      by_cases h2 : 1000 < kp
      · have d2 : decide (1000 < kp) = true := by simpa using h2
        have HNO : Hid (¬ RightBx b) := fun h => by have := h.2.2.1; omega
        clear e1 e2 e3 h1 h2
        go_wp2_with fail
        go_ret
        exact ⟨false, rfl, ⟨fun h => (by cases h), fun h => absurd h HNO.out⟩, HBW.out⟩
      have d2 : decide (1000 < kp) = false := by simpa using h2
      by_cases h3 : kp < (nt : Int)
      · have d3 : decide (kp < (nt : Int)) = true := by simpa using h3
        have HNO : Hid (¬ RightBx b) := fun h => by have := h.2.2.2.1; have := HN.out; omega
        clear e1 e2 e3 h1 h2 h3
        go_wp2_with fail
        go_ret
        exact ⟨false, rfl, ⟨fun h => (by cases h), fun h => absurd h HNO.out⟩, HBW.out⟩
      have d3 : decide (kp < (nt : Int)) = false := by simpa using h3
      have HK : Hid (0 ≤ b.keep ∧ b.keep ≤ 1000 ∧ (b.trail.length : Int) ≤ b.keep) := by have := HN.out; unfold Hid; omega
      have hR := right_any wr (.slice pt nt ct) b.trail fl sq (HTR.out.under HBW.out HBW.out.size) (by rw [← e3]; exact HOB.out.floor) (by rw [← e2]; exact HOB.out.seq)
      rw [← e3, ← e2] at hR
      cases hrt : rightB b.trail b.floor b.seq with
      | false =>
        rw [hrt] at hR
        rw [e3, e2] at hR
        have HR := Lib.hid hR
        have HNO : Hid (¬ RightBx b) := fun h => by have := h.2.2.2.2.1; rw [hrt] at this; cases this
        clear e1 e2 e3 h1 h2 h3 hR hrt
        go_wp2_with (go_at_call 57; refine HR.out.mono ?_; rintro e w1 ⟨rfl, hb1⟩)
        go_ret
        exact ⟨false, rfl, ⟨fun h => (by cases h), fun h => absurd h HNO.out⟩, HBW.out.trans (hb1.mono HBW.out.size)⟩
      | true =>
        rw [hrt] at hR
        rw [e3, e2] at hR
        have HR := Lib.hid hR
        have HRT := Lib.hid hrt
        have HS : Hid (∀ W, Below wr.heap.size wr W → Calls Try.prog 58 #[.slice pt nt ct, .int .i64 fl] W fun e w' => ∃ ys, IsStable cfP (sinceL b.floor b.trail) ys ∧ OwnRet W 99 encP 4 ys e w') := fun W hb => by
          rw [e3]
          exact since_any W _ b.trail fl (HTR.out.under (HBW.out.trans (hb.mono HBW.out.size)) (HBW.out.trans (hb.mono HBW.out.size)).size) (by have := HOB.out.trail; omega)
        have hzw : w.heap.size < wr.heap.size := by have := HA1.out.lt; exact this
        clear e1 e2 e3 h1 h2 h3 hR hrt
        go_upto_region 8 with (go_at_call 57; refine HR.out.mono ?_; rintro e w1 ⟨rfl, hb1⟩)
        have HA2 := Lib.hid (HA1.out.under hb1 hzw)
        have HB2 := Lib.hid (HBW.out.trans (hb1.mono HBW.out.size))
        have HB1 := Lib.hid hb1
        have hz1 := HA2.out.lt
        clear c0 c1 c2 c3 c4 hb1
        have c0 := HA2.out.cell 0 rfl
        have c1 := HA2.out.cell 1 rfl
        have c2 := HA2.out.cell 2 rfl
        have c3 := HA2.out.cell 3 rfl
        have c4 := HA2.out.cell 4 rfl
        dsimp only at c0 c1 c2 c3 c4
        go_wp2_with (go_at_call 58; refine (HS.out _ HB1.out).mono ?_; rintro e w2 ⟨ys, hys, u, rfl, hu, hb2⟩; obtain ⟨p2, cc2, hv2, hcl, hcc⟩ := hu.len; subst hv2; (have hyl : ys.length ≤ 9223372036854775807 := Nat.le_trans hcl hcc); go_frame)
        go_loopw [61] (fun i wr => ∃ j : Nat, j ≤ ys.length ∧ i = .int .i64 j ∧ Asked b.objs ys j ∧ Below w2.heap.size w2 wr) (fun i _ => ys.length - (intOf i).toNat)
        case atStart => exact ⟨0, Nat.zero_le _, rfl, fun i p h => by omega, Below.refl _ _⟩
        case round =>
          obtain ⟨j, hj, rfl, has, hbr⟩ := hrel
          have hb2w := hb2.size
          have HA3 := Lib.hid ((HA2.out.under hb2 hz1).under hbr (by omega))
          have HB3 := Lib.hid ((HB2.out.trans (hb2.mono HB2.out.size)).trans (hbr.mono (by have := HB2.out.size; omega)))
          by_cases hlt : j < ys.length
          · obtain ⟨⟨yid, ywas, yis, ylast⟩, hy⟩ : ∃ x, ys[j]? = some x := ⟨_, List.getElem?_eq_getElem hlt⟩
            obtain ⟨g, hpg, hnn, hgb, hgl, hcell, hfr⟩ := Own.at codecP (hu.below hbr (Nat.le_refl _)) hy
            subst hpg
            have f0 := hcell 0 _ rfl
            have f1 := hcell 1 _ rfl
            have f2 := hcell 2 _ rfl
            have f3 := hcell 3 _ rfl
            rw [Nat.add_zero] at f0
            dsimp only at f0 f1 f2 f3
            clear c0 c1 c2 c3 c4 hcell hfr hnn
            have hz3 := HA3.out.lt
            have c0 := HA3.out.cell 0 rfl
            have c1 := HA3.out.cell 1 rfl
            have c2 := HA3.out.cell 2 rfl
            have c3 := HA3.out.cell 3 rfl
            have c4 := HA3.out.cell 4 rfl
            dsimp only at c0 c1 c2 c3 c4
            have hk0 : (0 : Int) ≤ (j : Int) := Int.natCast_nonneg _
            have hk1 : (j : Int) < (ys.length : Int) := by omega
            have hA4 : Below w.heap.size w (wr.alloc (.cells #[.string yid, .bool ywas, .bool yis, .int .i64 ylast] 99)) := HB3.out.alloc HB3.out.size _
            have hP := placeO_any b ⟨po, no, co, pt, nt, ct, sq, fl, kp⟩ yid _ (HBX.out.under hA4 hA4.size) HRS.out HOB.out
            have HP4 : Hid ((wr.alloc (.cells #[.string yid, .bool ywas, .bool yis, .int .i64 ylast] 99)).heap[wr.heap.size]? = some (.cells #[.string yid, .bool ywas, .bool yis, .int .i64 ylast] 99 (0, 0))) := heap_alloc_at rfl
            have HBR : Hid (Below w2.heap.size w2 (wr.alloc (.cells #[.string yid, .bool ywas, .bool yis, .int .i64 ylast] 99))) := hbr.alloc hbr.size _
            have HA4 := Lib.hid hA4
            by_cases hia : isAt b.objs yid = yis
            · have HAS : Asked b.objs ys (j + 1) := by
                intro i p hi hp
                by_cases e : i = j
                · subst e
                  rw [hy] at hp
                  cases hp
                  exact hia
                · exact has i p (by omega) hp
              rw [hia] at hP
              have HP := Lib.hid hP
              clear hP hy hA4 has hbr hia
              cases yis
              all_goals
                go_upto_region 12 with (go_at_call 59; refine HP.out.mono ?_; rintro e w4 ⟨rfl, hb4⟩)
                have k2 := World.cell?_of_block (w := wr.alloc _) (w' := w4) (a := ⟨wr.heap.size, 2, none⟩) (hb4.block wr.heap.size (by simp))
                rw [cell_of_row _ _ 2 _ _ _ HP4.out] at k2
                simp at k2
                go_wp2_with fail
                go_roundw
                case rel => exact ⟨j + 1, by omega, by go_num, HAS, HBR.out.trans (hb4.mono HBR.out.size)⟩
                case measure => simp [intOf]; omega
            · have HNO : Hid (¬ RightBx b) := fun h => hia (h.2.2.2.2.2 _ (hys.perm.mem_iff.1 (List.mem_of_getElem? hy)))
              obtain ⟨ia, hib⟩ : ∃ ia, isAt b.objs yid = ia := ⟨_, rfl⟩
              rw [hib] at hP hia
              have HP := Lib.hid hP
              clear hP hy hA4 has hbr hib
              cases ia <;> cases yis
              all_goals try exact absurd rfl hia
              all_goals
                clear hia
                go_upto_region 12 with (go_at_call 59; refine HP.out.mono ?_; rintro e w4 ⟨rfl, hb4⟩)
                have k2 := World.cell?_of_block (w := wr.alloc _) (w' := w4) (a := ⟨wr.heap.size, 2, none⟩) (hb4.block wr.heap.size (by simp))
                rw [cell_of_row _ _ 2 _ _ _ HP4.out] at k2
                simp at k2
                go_wp2_with fail
                go_ret
                exact ⟨false, rfl, ⟨fun h => (by cases h), fun h => absurd h HNO.out⟩, HA4.out.trans (hb4.mono HA4.out.size)⟩
          · obtain rfl : j = ys.length := by omega
            have HYES : Hid (RightBx b) := ⟨HRS.out, HK.out.1, HK.out.2.1, HK.out.2.2, HRT.out, fun p hp => by
              obtain ⟨i, hi⟩ := List.getElem?_of_mem (hys.perm.mem_iff.2 hp)
              exact has i p (List.getElem?_eq_some_iff.1 hi).1 hi⟩
            go_wp2_with fail
            go_ret
            exact ⟨true, rfl, ⟨fun _ => HYES.out, fun _ => rfl⟩, HB3.out⟩
end Go.Proofs.Ythgkgjcnmahacaa
end

section
/- The law's two members, in either order. -/
set_option linter.unusedSimpArgs false
set_option linter.unusedVariables false
namespace Go.Proofs.Ythgkgjcnmahacaa
open Go.RowKit Go.OpenShut

def numT (n : Int) : JV := .mk 3 n ⟨#[]⟩ [] []
def numR (n : Int) : RV := ⟨3, n, ⟨#[]⟩, none, 0, 0, none, 0, 0⟩
theorem numT_of (w : World) (B : Nat) (n : Int) : TreeOf w B (numT n) (numR n) :=
  TreeOf.mk (r := numR n) (rs := []) (rms := []) (Rd.nil _ _) rfl (fun i t q h => by simp at h) (Rd.nil _ _) rfl (fun i p q h => by simp at h) (fun i p q h => by simp at h)

/-- What the map of the two names holds. -/
def twoF (s : List UInt8) : Option Value := if s = [98] then some (.int .i64 1) else if s = [97] then some (.int .i64 2) else none

set_option maxRecDepth 100000 in
set_option maxHeartbeats 2000000 in
theorem two_any (a b : ByteArray) (na nb : Int) (w : World) (ha : twoF a.data.toList = some (.int .i64 na)) (hb : twoF b.data.toList = some (.int .i64 nb)) (hsa : a.size ≤ maxLen) (hsb : b.size ≤ maxLen) :
    Calls Try.prog 50 #[.string a, .string b] w (MapRet w 0 [(a, numT na), (b, numT nb)]) := by
  have hM0 : MapF ((w.alloc (.cells #[.int .i64 0, .int .i64 0, .string ⟨#[]⟩, .slice none 0 0, .slice none 0 0] 25)).alloc (.map #[] 0)) Try.prog 9 (w.heap.size + 1) 0 (fun _ => none) := by
    have := MapF.made (w.alloc (.cells #[.int .i64 0, .int .i64 0, .string ⟨#[]⟩, .slice none 0 0, .slice none 0 0] 25)) Try.prog 9
    rwa [show (w.alloc (.cells #[.int .i64 0, .int .i64 0, .string ⟨#[]⟩, .slice none 0 0, .slice none 0 0] 25)).heap.size = w.heap.size + 1 by simp] at this
  obtain ⟨w1, hrun1, hM1, hG1⟩ := MapF.store hM0 Try.underlying9 Try.underlying130 (by decide) (s := ⟨#[97]⟩) (by decide) (.int .i64 2)
  obtain ⟨w2, hrun2, hM2, hG2⟩ := MapF.store hM1 Try.underlying9 Try.underlying130 (by decide) (s := ⟨#[98]⟩) (by decide) (.int .i64 1)
  have HM2 : Hid (MapF w2 Try.prog 9 (w.heap.size + 1) 2 twoF) := hM2
  have HG1 := Lib.hid hG1
  have HG2 := Lib.hid hG2
  have HA := Lib.hid ha
  have HB := Lib.hid hb
  have HSA := Lib.hid hsa
  have HSB := Lib.hid hsb
  clear hM0 hM1 hM2 hG1 hG2 ha hb hsa hsb
  go_enter Try.func50, Try.ntmps50
  have hmm := @run_makeMap Try.prog
  go_upto_region 2 with fail
  clear hmm hrun1 hrun2
  have hZ0 : VAt w2 w.heap.size RV.zero := by
    have h0 : VAt ((w.alloc (.cells #[.int .i64 0, .int .i64 0, .string ⟨#[]⟩, .slice none 0 0, .slice none 0 0] 25)).alloc (.map #[] 0)) w.heap.size RV.zero := heap_alloc_lt (by simp) (heap_alloc_at rfl)
    have s1 := HG1.out.size
    simp at s1
    exact (HG2.out.block _ (by omega) (fun e => by simp at e)).trans ((HG1.out.block _ (by simp; omega) (fun e => by simp at e)).trans h0)
  have hB2 : Below w.heap.size w w2 := (((((Below.refl _ _).alloc (Nat.le_refl _) (.cells #[.int .i64 0, .int .i64 0, .string ⟨#[]⟩, .slice none 0 0, .slice none 0 0] 25)).alloc (by simp) (.map #[] 0)).grown HG1.out (by simp; omega) (fun k e => by simp at e; omega)).grown HG2.out (by have := HG1.out.size; simp at this; omega) (fun k e => by simp at e; omega))
  have hsz : w.heap.size < w2.heap.size := hZ0.lt
  have z0 := hZ0.cell 0 rfl
  have z1 := hZ0.cell 1 rfl
  have z2 := hZ0.cell 2 rfl
  have z3 := hZ0.cell 3 rfl
  have z4 := hZ0.cell 4 rfl
  dsimp only [RV.zero] at z0 z1 z2 z3 z4
  have y0 := hZ0.frozen 0
  have y1 := hZ0.frozen 1
  have y2 := hZ0.frozen 2
  have y3 := hZ0.frozen 3
  have y4 := hZ0.frozen 4
  have HB2 := Lib.hid hB2
  have HZ0 := Lib.hid hZ0
  clear hZ0 hB2
  go_wp2_with (first
    | (at_lookup; refine wpList_look_F _ rfl _ _ _ rfl 9 2 Try.underlying9 Try.underlying130 (Try.zeroValue2 _) _ _ twoF rfl HM2.out a rfl HSA.out (v := .int .i64 na) (by rw [HA.out]; rfl) ?_; go_frame)
    | (at_lookup; refine wpList_look_F _ rfl _ _ _ rfl 9 2 Try.underlying9 Try.underlying130 (Try.zeroValue2 _) _ _ twoF rfl HM2.out b rfl HSB.out (v := .int .i64 nb) (by rw [HB.out]; rfl) ?_; go_frame))
  obtain ⟨q, hq⟩ : ∃ q : RV, q = ⟨6, 0, ⟨#[]⟩, none, 0, 0, some ⟨w2.heap.size, 0, none⟩, 2, 2⟩ := ⟨_, rfl⟩
  have hst := HZ0.out.stored ⟨6, 0, ⟨#[]⟩, none, 0, 0, some ⟨w2.heap.size, 0, none⟩, 2, 2⟩
  have hbs := Below.stored HB2.out (Nat.le_refl _) ⟨6, 0, ⟨#[]⟩, none, 0, 0, some ⟨w2.heap.size, 0, none⟩, 2, 2⟩
  have hz5 : (((((w2.setCell ⟨w.heap.size, 0, none⟩ (.int .i64 6)).setCell ⟨w.heap.size, 1, none⟩ (.int .i64 0)).setCell ⟨w.heap.size, 2, none⟩ (.string ⟨#[]⟩)).setCell ⟨w.heap.size, 3, none⟩ (.slice none 0 0)).setCell ⟨w.heap.size, 4, none⟩ (.slice (some ⟨w2.heap.size, 0, none⟩) 2 2)).heap.size = w2.heap.size := by simp
  obtain ⟨W5, hW5⟩ : ∃ W5, ((((w2.setCell ⟨w.heap.size, 0, none⟩ (.int .i64 6)).setCell ⟨w.heap.size, 1, none⟩ (.int .i64 0)).setCell ⟨w.heap.size, 2, none⟩ (.string ⟨#[]⟩)).setCell ⟨w.heap.size, 3, none⟩ (.slice none 0 0)).setCell ⟨w.heap.size, 4, none⟩ (.slice (some ⟨w2.heap.size, 0, none⟩) 2 2) = W5 := ⟨_, rfl⟩
  dsimp only at hst hbs
  rw [hW5] at hst hbs hz5 ⊢
  clear hW5
  have hal := heap_alloc_lt (o := .cells #[.string a, .int .i64 3, .int .i64 na, .string ⟨#[]⟩, .slice none 0 0, .slice none 0 0, .string b, .int .i64 3, .int .i64 nb, .string ⟨#[]⟩, .slice none 0 0, .slice none 0 0] 90) hst.lt hst
  have hal2 : VAt (W5.alloc (.cells #[.string a, .int .i64 3, .int .i64 na, .string ⟨#[]⟩, .slice none 0 0, .slice none 0 0, .string b, .int .i64 3, .int .i64 nb, .string ⟨#[]⟩, .slice none 0 0, .slice none 0 0] 90)) w.heap.size ⟨6, 0, ⟨#[]⟩, none, 0, 0, some ⟨w2.heap.size, 0, none⟩, 2, 2⟩ := hal
  have c0 := hal2.cell 0 rfl
  have c1 := hal2.cell 1 rfl
  have c2 := hal2.cell 2 rfl
  have c3 := hal2.cell 3 rfl
  have c4 := hal2.cell 4 rfl
  dsimp only at c0 c1 c2 c3 c4
  refine bodyPost_ret (v := RV.val ⟨6, 0, ⟨#[]⟩, none, 0, 0, some ⟨w2.heap.size, 0, none⟩, 2, 2⟩) (by simp [results, Try.results50, go_sem, c0, c1, c2, c3, c4]) rfl ⟨some ⟨w2.heap.size, 0, none⟩, 2, 2, [⟨a, numR na⟩, ⟨b, numR nb⟩], rfl, ?_, ⟨rfl, ?_, ?_⟩, hbs.alloc (by omega) _⟩
  · exact Own.block codecM (heap_alloc_at hz5.symm) rfl rfl (by omega) (by simp [maxLen])
  · intro i p q h1 h2
    match i with
    | 0 => cases h1; cases h2; rfl
    | 1 => cases h1; cases h2; rfl
    | i + 2 => simp at h1
  · intro i p q h1 h2
    match i with
    | 0 => cases h1; cases h2; exact numT_of _ _ _
    | 1 => cases h1; cases h2; exact numT_of _ _ _
    | i + 2 => simp at h1
end Go.Proofs.Ythgkgjcnmahacaa
end
