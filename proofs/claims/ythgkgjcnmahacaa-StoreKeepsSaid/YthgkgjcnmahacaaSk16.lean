import Derived.Test.YthgkgjcnmahacaaSk04
import Derived.RangeFuncNested
import Derived.RangeFuncBound
import Derived.RangeFuncCalls
import Derived.RangeFuncLeaves
import Derived.Shelf.Abstract
import Derived.OwnWalkIn
import Derived.TacticsInMore
import Derived.LoopNIn
import Derived.LoopIn
import Derived.Test.YthgkgjcnmahacaaSk03
import Derived.Deep.DeepMust
import Derived.Test.YthgkgjcnmahacaaSk02
import Derived.Test.YthgkgjcnmahacaaSk15
section
/- slices.Backward at a slice of entries and at a slice of pointers: what it hands to a loop's body, from the last element to the first. -/
set_option linter.unusedSimpArgs false
set_option linter.unusedVariables false
namespace Go.Proofs.Ythgkgjcnmahacaa
open Go.RowKit Go.Shelf

attribute [local go_sem] Oper.semAt_some

/-- What a round keeps: all below n₀, and the block in which the slice is held. -/
def Kq (n₀ Bs : Nat) (W W' : World) : Prop := Below n₀ W W' ∧ W'.heap[Bs]? = W.heap[Bs]?
theorem Kq.refl (n₀ Bs : Nat) (W : World) : Kq n₀ Bs W W := ⟨Below.refl _ _, rfl⟩
theorem Kq.trans {n₀ Bs : Nat} {A B C : World} (h : Kq n₀ Bs A B) (k : Kq n₀ Bs B C) : Kq n₀ Bs A C := ⟨h.1.trans k.1, k.2.trans h.2⟩
theorem Kq.book {n₀ Bs : Nat} {w : World} (hn : n₀ ≤ w.heap.size) (hB : Bs < w.heap.size) (W : World) (l : Nat) (o o' : Obj) (hl : w.heap.size ≤ l) (h : W.heap[l]? = some o) (h1 : o.isCells = false) (h2 : o.isWalk = false) : Kq n₀ Bs W (W.putObj l o') :=
  ⟨belowK_b hn W l o o' hl h h1 h2, World.putObj_heap_other (by omega)⟩
theorem Kq.cell {n₀ Bs : Nat} {W W' : World} (h : Kq n₀ Bs W W') {v : Value} (hc : W.cell? ⟨Bs, 0, none⟩ = some v) : W'.cell? ⟨Bs, 0, none⟩ = some v := (World.cell?_of_block (w := W) h.2).trans hc

/-- What has come when k rounds are over. -/
def backTo {α : Type} (xs : List α) (k : Nat) : List (Nat × α) := (xs.zipIdx.reverse.take k).map fun p => (p.2, p.1)
theorem backTo_succ {α : Type} (xs : List α) (k j : Nat) (x : α) (hk : k < xs.length) (hj : xs.length - 1 - k = j) (hx : xs[j]? = some x) : backTo xs (k + 1) = backTo xs k ++ [(j, x)] := by
  subst hj
  unfold backTo
  rw [List.take_add_one, List.getElem?_reverse (by simpa using hk), List.length_zipIdx, List.getElem?_zipIdx, hx]
  simp
theorem backTo_length {α : Type} (xs : List α) (k : Nat) (hk : k ≤ xs.length) : (backTo xs k).length = k := by simp [backTo]; omega
theorem backTo_all {α : Type} (xs : List α) : (backTo xs xs.length).map (·.2) = xs.reverse := by
  unfold backTo
  rw [List.take_of_length_le (by simp), List.map_map, List.map_reverse]
  congr 1
  apply List.ext_getElem
  · simp
  · intro i h1 h2
    simp

/-- An entry that may be. -/
abbrev OkE := { e : En // e.ok }
def encO (x : OkE) : List Value := encE x.1

set_option maxRecDepth 100000 in
set_option maxHeartbeats 2000000 in
theorem backE1_in (F : Fence) (n : Nat) (h7 : F.fn 116) (hro : F.round = none) (hn : 1 ≤ n) (l Bs n₀ b off cap : Nat) (xs : List OkE) (hlen : xs.length ≤ 4398046511104) (hb : b < n₀) (J Jx : List (Nat × OkE) → World → Prop)
    (hY : ∀ pre x W, J pre W → pre.length < xs.length → YieldAt F (n - 1) Try.prog l #[.int .i64 (x.1 : Nat), .agg #[.int .i64 x.2.1.seq, .string x.2.1.id, .int .i64 x.2.1.what]] W fun e W' =>
      (e = .returned (.bool true) ∧ J (pre ++ [x]) W' ∧ Kq n₀ Bs W W') ∨ (e = .returned (.bool false) ∧ Jx (pre ++ [x]) W'))
    (W : World) (hBs : W.cell? ⟨Bs, 0, none⟩ = some (.slice (some ⟨b, off, none⟩) xs.length cap)) (hc : RowAt W b off encO 3 xs) (h0 : J [] W) :
    CallsIn F n Try.prog 116 #[.func (.yield l) #[] #[], .pointer (some ⟨Bs, 0, none⟩)] W fun e W' => (∃ v, e = .returned v) ∧
      ((∃ ys, ys = backTo xs xs.length ∧ J ys W') ∨ (∃ pre, True ∧ Jx pre W')) := by
  refine callsIn_of_wp Try.func116 rfl h7 ?_ hro
  simp only [Try.ntmps116, List.size_toArray, List.length_cons, List.length_nil, Nat.reduceAdd, Nat.reduceSub, Array.replicate_succ, Array.replicate_zero, List.push_toArray, List.append_toArray, List.nil_append, List.cons_append]
  gi_wp2
  gi_loopw [3] (fun i wr => ∃ k : Nat, k ≤ xs.length ∧ i = .int .i64 ((xs.length : Int) - 1 - (k : Int)) ∧ J (backTo xs k) wr ∧ Kq n₀ Bs W wr)
    (fun i _ => (intOf i + 1).toNat)
  case atStart => exact ⟨0, Nat.zero_le _, by congr 1; omega, h0, Kq.refl _ _ _⟩
  case round =>
    obtain ⟨k, hk, rfl, hJs, hnx⟩ := hrel
    have hcs := hnx.cell hBs
    by_cases hlt : k < xs.length
    · obtain ⟨j, hj⟩ : ∃ j, xs.length - 1 - k = j := ⟨_, rfl⟩
      have ej : (xs.length : Int) - 1 - (k : Int) = (j : Int) := by omega
      have hjl : j < xs.length := by omega
      obtain ⟨x, hx⟩ : ∃ x, xs[j]? = some x := ⟨_, List.getElem?_eq_getElem hjl⟩
      obtain ⟨fn, tmps, assign, body, hy, hR⟩ := hY _ (j, x) wr hJs (by rw [backTo_length _ _ hk]; exact hlt)
      dsimp only at hy
      have c0 := bcs hnx.1 hb (hc j x hx 0 _ rfl)
      have c1 := bcs hnx.1 hb (hc j x hx 1 _ rfl)
      have c2 := bcs hnx.1 hb (hc j x hx 2 _ rfl)
      rw [Nat.add_zero] at c0
      have hT : Hid (backTo xs (k + 1) = backTo xs k ++ [(j, x)]) := backTo_succ xs k j x hlt hj hx
      have HJ := Lib.hid hj
      clear hj hx hY
      have hR' := Lib.hid hR
      clear hR
      gi_wp2
      refine hR'.out.mono ?_
      rintro e W3 (⟨rfl, hJ3, hk3⟩ | ⟨rfl, hJx3⟩)
      · gi_wp2
        go_roundw
        case rel => exact ⟨k + 1, by omega, by congr 1; omega, by rw [hT.out]; exact hJ3, hnx.trans hk3⟩
        case measure => simp [intOf]; omega
      · gi_wp2
        refine bodyPost_ret (results_none rfl _ _ _) rfl ?_
        exact ⟨⟨_, rfl⟩, .inr ⟨_, trivial, hJx3⟩⟩
    · obtain rfl : k = xs.length := by omega
      gi_wp2
      go_end0
      exact ⟨⟨_, rfl⟩, .inl ⟨_, rfl, hJs⟩⟩

set_option maxRecDepth 100000 in
set_option maxHeartbeats 1000000 in
theorem backE1_nil (pa : Option Addr) (ca : Nat) (F : Fence) (n : Nat) (h7 : F.fn 116) (hro : F.round = none) (l Bs : Nat) (J : List (Nat × OkE) → World → Prop) (W : World) (hBs : W.cell? ⟨Bs, 0, none⟩ = some (.slice pa 0 ca)) (h0 : J [] W) :
    CallsIn F n Try.prog 116 #[.func (.yield l) #[] #[], .pointer (some ⟨Bs, 0, none⟩)] W fun e W' => (∃ v, e = .returned v) ∧ J [] W' := by
  refine callsIn_of_wp Try.func116 rfl h7 ?_ hro
  simp only [Try.ntmps116, List.size_toArray, List.length_cons, List.length_nil, Nat.reduceAdd, Nat.reduceSub, Array.replicate_succ, Array.replicate_zero, List.push_toArray, List.append_toArray, List.nil_append, List.cons_append]
  gi_wp2
  gi_loopw [3] (fun i wr => i = .int .i64 (-1) ∧ J [] wr) (fun _ _ => 0)
  case atStart => exact ⟨rfl, h0⟩
  case round =>
    obtain ⟨rfl, hJs⟩ := hrel
    gi_wp2
    go_end0
    exact ⟨⟨_, rfl⟩, hJs⟩

set_option maxHeartbeats 1000000 in
theorem backE_in (F : Fence) (n : Nat) (h5 : F.fn 91) (hro : F.round = none) (v : Value) (w : World) (hv : ∃ a len cap, v = .slice a len cap) :
    CallsIn F n Try.prog 91 #[v] w fun e w' => e = .returned (.func (.func 116) #[] #[.pointer (some ⟨w.heap.size, 0, none⟩)]) ∧ w' = w.alloc (.cells #[v] 33) := by
  obtain ⟨a, len, cap, rfl⟩ := hv
  refine callsIn_of_wp Try.func91 rfl h5 ?_ hro
  simp only [Try.ntmps91, List.size_toArray, List.length_cons, List.length_nil, Nat.reduceAdd, Nat.reduceSub, Array.replicate_succ, Array.replicate_zero, List.push_toArray, List.append_toArray, List.nil_append, List.cons_append]
  gi_wp2
  go_ret
  exact ⟨rfl, rfl⟩

theorem backE_stops (F : Fence) (n : Nat) (h7 : F.fn 116) (hro : F.round = none) (hn : 1 ≤ n) (Bs n₀ : Nat) (v : Value) (xs : List OkE) (hlen : xs.length ≤ 4398046511104) (w : World) (hBs : Bs < w.heap.size) (hn₀ : n₀ ≤ w.heap.size)
    (hc : w.cell? ⟨Bs, 0, none⟩ = some v) (hv : Rd w n₀ encO 3 v xs) :
    SeqStopsK F n Try.prog 116 #[.pointer (some ⟨Bs, 0, none⟩)] (fun x : Nat × OkE => #[.int .i64 (x.1 : Nat), .agg #[.int .i64 x.2.1.seq, .string x.2.1.id, .int .i64 x.2.1.what]]) (Kq n₀ Bs) (fun ys => ys = backTo xs xs.length) (fun _ => True) xs.length w := fun l J Jx W hW _ _ hY h0 => by
  have hc' := (hW.cell (p := ⟨Bs, 0, none⟩) hBs).trans hc
  obtain ⟨p, cap, rfl, h1, h2, h3, h4⟩ := hv
  cases p with
  | none =>
    have hc0 : cap = 0 := h3 rfl
    have hx : xs = [] := List.eq_nil_of_length_eq_zero (by omega)
    subst hx hc0
    exact (backE1_nil _ _ F n h7 hro l Bs J W hc' h0).mono fun e W' ⟨he, hj⟩ => ⟨he, .inl ⟨_, rfl, hj⟩⟩
  | some a =>
    by_cases hx0 : xs.length = 0
    · have hx : xs = [] := List.eq_nil_of_length_eq_zero hx0
      subst hx
      exact (backE1_nil _ _ F n h7 hro l Bs J W hc' h0).mono fun e W' ⟨he, hj⟩ => ⟨he, .inl ⟨_, rfl, hj⟩⟩
    obtain ⟨b, o, rfl, hb, hr⟩ := h4 a rfl (by omega)
    exact backE1_in F n h7 hro hn l Bs n₀ b o cap xs hlen hb J Jx hY W hc' (hr.below hW (by omega)) h0

/-- A pointer to the head of a block. -/
def encPt (b : Nat) : List Value := [.pointer (some ⟨b, 0, none⟩)]
theorem codecPt : Codec encPt 1 := ⟨fun _ => rfl, fun x u hu => by
  simp only [encPt, List.mem_cons, List.not_mem_nil, or_false] at hu
  rcases hu with rfl; rfl, by decide⟩

variable {p : Nat → Prop}
def encPs (x : {b : Nat // p b}) : List Value := encPt x.1

set_option maxRecDepth 100000 in
set_option maxHeartbeats 2000000 in
theorem backQ1_in (F : Fence) (n : Nat) (h7 : F.fn 117) (hro : F.round = none) (hn : 1 ≤ n) (l Bs n₀ b off cap : Nat) (xs : List {b : Nat // p b}) (hlen : xs.length ≤ 17592186044416) (hb : b < n₀) (J Jx : List (Nat × {b : Nat // p b}) → World → Prop)
    (hY : ∀ pre x W, J pre W → pre.length < xs.length → YieldAt F (n - 1) Try.prog l #[.int .i64 (x.1 : Nat), .pointer (some ⟨x.2.1, 0, none⟩)] W fun e W' =>
      (e = .returned (.bool true) ∧ J (pre ++ [x]) W' ∧ Kq n₀ Bs W W') ∨ (e = .returned (.bool false) ∧ Jx (pre ++ [x]) W'))
    (W : World) (hBs : W.cell? ⟨Bs, 0, none⟩ = some (.slice (some ⟨b, off, none⟩) xs.length cap)) (hc : RowAt W b off encPs 1 xs) (h0 : J [] W) :
    CallsIn F n Try.prog 117 #[.func (.yield l) #[] #[], .pointer (some ⟨Bs, 0, none⟩)] W fun e W' => (∃ v, e = .returned v) ∧
      ((∃ ys, ys = backTo xs xs.length ∧ J ys W') ∨ (∃ pre, True ∧ Jx pre W')) := by
  refine callsIn_of_wp Try.func117 rfl h7 ?_ hro
  simp only [Try.ntmps117, List.size_toArray, List.length_cons, List.length_nil, Nat.reduceAdd, Nat.reduceSub, Array.replicate_succ, Array.replicate_zero, List.push_toArray, List.append_toArray, List.nil_append, List.cons_append]
  gi_wp2
  gi_loopw [3] (fun i wr => ∃ k : Nat, k ≤ xs.length ∧ i = .int .i64 ((xs.length : Int) - 1 - (k : Int)) ∧ J (backTo xs k) wr ∧ Kq n₀ Bs W wr)
    (fun i _ => (intOf i + 1).toNat)
  case atStart => exact ⟨0, Nat.zero_le _, by congr 1; omega, h0, Kq.refl _ _ _⟩
  case round =>
    obtain ⟨k, hk, rfl, hJs, hnx⟩ := hrel
    have hcs := hnx.cell hBs
    by_cases hlt : k < xs.length
    · obtain ⟨j, hj⟩ : ∃ j, xs.length - 1 - k = j := ⟨_, rfl⟩
      have ej : (xs.length : Int) - 1 - (k : Int) = (j : Int) := by omega
      have hjl : j < xs.length := by omega
      obtain ⟨x, hx⟩ : ∃ x, xs[j]? = some x := ⟨_, List.getElem?_eq_getElem hjl⟩
      obtain ⟨fn, tmps, assign, body, hy, hR⟩ := hY _ (j, x) wr hJs (by rw [backTo_length _ _ hk]; exact hlt)
      dsimp only at hy
      have c0 := bcs hnx.1 hb (hc j x hx 0 _ rfl)
      rw [Nat.add_zero, Nat.mul_one] at c0
      have hT : Hid (backTo xs (k + 1) = backTo xs k ++ [(j, x)]) := backTo_succ xs k j x hlt hj hx
      have HJ := Lib.hid hj
      clear hj hx hY
      have hR' := Lib.hid hR
      clear hR
      gi_wp2
      refine hR'.out.mono ?_
      rintro e W3 (⟨rfl, hJ3, hk3⟩ | ⟨rfl, hJx3⟩)
      · gi_wp2
        go_roundw
        case rel => exact ⟨k + 1, by omega, by congr 1; omega, by rw [hT.out]; exact hJ3, hnx.trans hk3⟩
        case measure => simp [intOf]; omega
      · gi_wp2
        refine bodyPost_ret (results_none rfl _ _ _) rfl ?_
        exact ⟨⟨_, rfl⟩, .inr ⟨_, trivial, hJx3⟩⟩
    · obtain rfl : k = xs.length := by omega
      gi_wp2
      go_end0
      exact ⟨⟨_, rfl⟩, .inl ⟨_, rfl, hJs⟩⟩

set_option maxRecDepth 100000 in
set_option maxHeartbeats 1000000 in
theorem backQ1_nil (pa : Option Addr) (ca : Nat) (F : Fence) (n : Nat) (h7 : F.fn 117) (hro : F.round = none) (l Bs : Nat) (J : List (Nat × {b : Nat // p b}) → World → Prop) (W : World) (hBs : W.cell? ⟨Bs, 0, none⟩ = some (.slice pa 0 ca)) (h0 : J [] W) :
    CallsIn F n Try.prog 117 #[.func (.yield l) #[] #[], .pointer (some ⟨Bs, 0, none⟩)] W fun e W' => (∃ v, e = .returned v) ∧ J [] W' := by
  refine callsIn_of_wp Try.func117 rfl h7 ?_ hro
  simp only [Try.ntmps117, List.size_toArray, List.length_cons, List.length_nil, Nat.reduceAdd, Nat.reduceSub, Array.replicate_succ, Array.replicate_zero, List.push_toArray, List.append_toArray, List.nil_append, List.cons_append]
  gi_wp2
  gi_loopw [3] (fun i wr => i = .int .i64 (-1) ∧ J [] wr) (fun _ _ => 0)
  case atStart => exact ⟨rfl, h0⟩
  case round =>
    obtain ⟨rfl, hJs⟩ := hrel
    gi_wp2
    go_end0
    exact ⟨⟨_, rfl⟩, hJs⟩

set_option maxHeartbeats 1000000 in
theorem backQ_in (F : Fence) (n : Nat) (h5 : F.fn 92) (hro : F.round = none) (v : Value) (w : World) (hv : ∃ a len cap, v = .slice a len cap) :
    CallsIn F n Try.prog 92 #[v] w fun e w' => e = .returned (.func (.func 117) #[] #[.pointer (some ⟨w.heap.size, 0, none⟩)]) ∧ w' = w.alloc (.cells #[v] 135) := by
  obtain ⟨a, len, cap, rfl⟩ := hv
  refine callsIn_of_wp Try.func92 rfl h5 ?_ hro
  simp only [Try.ntmps92, List.size_toArray, List.length_cons, List.length_nil, Nat.reduceAdd, Nat.reduceSub, Array.replicate_succ, Array.replicate_zero, List.push_toArray, List.append_toArray, List.nil_append, List.cons_append]
  gi_wp2
  go_ret
  exact ⟨rfl, rfl⟩

theorem backQ_stops (F : Fence) (n : Nat) (h7 : F.fn 117) (hro : F.round = none) (hn : 1 ≤ n) (Bs n₀ : Nat) (v : Value) (xs : List {b : Nat // p b}) (hlen : xs.length ≤ 17592186044416) (w : World) (hBs : Bs < w.heap.size) (hn₀ : n₀ ≤ w.heap.size)
    (hc : w.cell? ⟨Bs, 0, none⟩ = some v) (hv : Rd w n₀ encPs 1 v xs) :
    SeqStopsK F n Try.prog 117 #[.pointer (some ⟨Bs, 0, none⟩)] (fun x : Nat × {b : Nat // p b} => #[.int .i64 (x.1 : Nat), .pointer (some ⟨x.2.1, 0, none⟩)]) (Kq n₀ Bs) (fun ys => ys = backTo xs xs.length) (fun _ => True) xs.length w := fun l J Jx W hW _ _ hY h0 => by
  have hc' := (hW.cell (p := ⟨Bs, 0, none⟩) hBs).trans hc
  obtain ⟨p, cap, rfl, h1, h2, h3, h4⟩ := hv
  cases p with
  | none =>
    have hc0 : cap = 0 := h3 rfl
    have hx : xs = [] := List.eq_nil_of_length_eq_zero (by omega)
    subst hx hc0
    exact (backQ1_nil _ _ F n h7 hro l Bs J W hc' h0).mono fun e W' ⟨he, hj⟩ => ⟨he, .inl ⟨_, rfl, hj⟩⟩
  | some a =>
    by_cases hx0 : xs.length = 0
    · have hx : xs = [] := List.eq_nil_of_length_eq_zero hx0
      subst hx
      exact (backQ1_nil _ _ F n h7 hro l Bs J W hc' h0).mono fun e W' ⟨he, hj⟩ => ⟨he, .inl ⟨_, rfl, hj⟩⟩
    obtain ⟨b, o, rfl, hb, hr⟩ := h4 a rfl (by omega)
    exact backQ1_in F n h7 hro hn l Bs n₀ b o cap xs hlen hb J Jx hY W hc' (hr.below hW (by omega)) h0
end Go.Proofs.Ythgkgjcnmahacaa
end

section
set_option linter.unusedSimpArgs false
set_option linter.unusedVariables false
namespace Go.Proofs.Ythgkgjcnmahacaa
open Go.RowKit Go.OpenShut

def lastF (l : List En) (s : List UInt8) : Option Value := l.foldl (fun a e => if s = e.id.data.toList then some (.int .i64 e.what) else a) none
theorem lastF_take {l : List En} {j : Nat} {y : En} (hy : l[j]? = some y) : lastF (l.take (j + 1)) = fun s => if s = y.id.data.toList then some (.int .i64 y.what) else lastF (l.take j) s := by
  funext s
  rw [List.take_add_one, hy]
  simp [lastF]
theorem data_inj (a b : ByteArray) : a.data.toList = b.data.toList ↔ a = b := by
  obtain ⟨⟨x⟩⟩ := a
  obtain ⟨⟨y⟩⟩ := b
  simp
theorem lastF_W (l : List En) (id : ByteArray) : (lastF l id.data.toList).getD (.int .i64 0) = .int .i64 (lastW l id) := by
  suffices ∀ (l : List En) (o : Option Value) (a : Int), o.getD (.int .i64 0) = .int .i64 a →
    (l.foldl (fun a e => if id.data.toList = e.id.data.toList then some (.int .i64 e.what) else a) o).getD (.int .i64 0) = .int .i64 (l.foldl (fun a e => if e.id = id then e.what else a) a) from this l none 0 rfl
  intro l
  induction l with
  | nil => intro o a h; exact h
  | cons e l ih =>
    intro o a h
    simp only [List.foldl_cons]
    refine ih _ _ ?_
    by_cases h1 : e.id = id
    · rw [if_pos h1, if_pos (by rw [h1])]; rfl
    · rw [if_neg h1, if_neg (fun e1 => h1 ((data_inj _ _).1 e1).symm)]; exact h
theorem zeroInt (w : World) : (zeroValue 3).run Try.prog w = .ok (.int .i64 0) w := by kernel_rfl

set_option maxRecDepth 100000 in
set_option maxHeartbeats 1000000 in
theorem right_head (w : World) (B : Nat) (v : Value) (l : List En) (floor seq : Int) (hv : RdE w B v l) (hf : (Lit.int .i64 floor).wf = true) (hs : (Lit.int .i64 seq).wf = true) (hh : headB l.length floor seq = false) :
    Calls Try.prog 57 #[v, .int .i64 floor, .int .i64 seq] w fun e w' => e = .returned (.bool (rightB l floor seq)) ∧ Below w.heap.size w w' := by
  rw [rightB_no hh]
  obtain ⟨_, p, c, rfl, hlc, hcm, hp0, hp⟩ := hv
  unfold maxLen at hcm
  have b1 := bounds_i64 hf
  have b2 := bounds_i64 hs
  have hd : 0 ≤ floor → floor ≤ seq → seq ≤ 9007199254740991 → ((seq - floor != (l.length : Int)) = true) := by
    intro h1 h2 h3
    unfold headB at hh
    simp only [decide_eq_false_iff_not] at hh
    rw [bne_iff_ne]
    intro h4
    exact hh ⟨h1, h2, h3, h4⟩
  clear hh hp hp0
  go_enter Try.func57, Try.ntmps57
  go_wp2_with fail
  all_goals (go_ret; exact ⟨rfl, Below.refl _ _⟩)

set_option maxRecDepth 100000 in
set_option maxHeartbeats 1000000 in
theorem right_yes (w : World) (v : Value) (l : List En) (floor seq : Int) (hv : RdE w w.heap.size v l) (hf : (Lit.int .i64 floor).wf = true) (hs : (Lit.int .i64 seq).wf = true) (hh : headB l.length floor seq = true) :
    Calls Try.prog 57 #[v, .int .i64 floor, .int .i64 seq] w fun e w' => e = .returned (.bool (rightB l floor seq)) ∧ Below w.heap.size w w' := by
  obtain ⟨hok, p, c, rfl, hlc, hcm, hp0, hp⟩ := hv
  unfold maxLen at hcm
  have HH := Lib.hid hh
  unfold headB at hh
  simp only [decide_eq_true_eq] at hh
  obtain ⟨h1, h2, h3, h4⟩ := hh
  have hne : (seq - floor != (l.length : Int)) = false := by rw [bne_eq_false_iff_eq]; exact h4
  have hlen : (l.length : Int) ≤ 9007199254740991 := by omega
  have h5 : 0 ≤ seq := by omega
  have hok' := Lib.hid hok
  clear h4 hf hs hok
  have hmm := @run_makeMap Try.prog
  have HM0 := MapF.made w Try.prog 9
  have HB0 : Below w.heap.size w (w.alloc (.map #[] 0)) := (Below.refl _ w).alloc (Nat.le_refl _) _
  go_enter Try.func57, Try.ntmps57
  go_wp2_with fail
  clear hmm
  go_loopw [32] (fun i wr => ∃ k : Nat, k ≤ l.length ∧ i = .int .i64 k ∧ Hid (∀ j, j < k → okAt l floor j = true) ∧ MapF wr Try.prog 9 w.heap.size k (lastF (l.take k)) ∧ Below w.heap.size w wr) (fun i _ => l.length - (intOf i).toNat)
  case atStart => exact ⟨0, Nat.zero_le _, rfl, fun j hj => by omega, HM0, HB0⟩
  case round =>
    obtain ⟨k, hk, rfl, HO, HM, HB⟩ := hrel
    by_cases hlt : k < l.length
    · obtain ⟨b1, o1, rfl, hb1, hc1⟩ := slice_at (k := k) hp0 hp (by omega)
      obtain ⟨x, hx, g10, g11, g12⟩ := hc1 k hlt
      have okx := get_ok hok'.out hx
      have HX := Lib.hid hx
      have bx := bounds_i64 okx.1
      have bw := bounds_i64 okx.2.2
      have hxs := okx.2.1
      clear hx okx hp hp0 hc1
      rw [← HB.cell (p := ⟨_, _, none⟩) hb1] at g10 g11 g12
      have hlook : ∀ o, (Instr.lookup 132 (.map (some w.heap.size)) (.string x.id) false).run Try.prog (wr.alloc o) = .ok (.int .i64 (lastW (l.take k) x.id)) (wr.alloc o) := by
        intro o
        rw [(HM.alloc o).look Try.underlying9 Try.underlying132 (zeroInt _) hxs, lastF_W]
      have HT := Lib.hid (lastF_take HX.out)
      have HOK := Lib.hid (okAt_of (floor := floor) HX.out)
      cases hsq : (x.seq != floor + 1 + k) with
      | true =>
        have HBAD : Hid (okAt l floor k = false) := by
          rw [bne_iff_ne] at hsq
          exact okAt_bad HX.out (.inl hsq)
        go_wp2_with fail
        go_ret
        exact ⟨ret_bool (rightB_bad hlt HBAD.out).symm, HB.alloc HB.size _⟩
      | false =>
        cases hmay : mayB (lastW (l.take k) x.id) x.what with
        | false =>
          have HBAD : Hid (okAt l floor k = false) := by
            have := HOK.out
            rw [hmay, Bool.and_false] at this
            exact this
          go_wp2_with (go_at_call 90; refine (may_any _ _ _).mono ?_; rintro e w' ⟨rfl, rfl⟩)
          go_ret
          exact ⟨ret_bool (rightB_bad hlt HBAD.out).symm, HB.alloc HB.size _⟩
        | true =>
          have hnx : Hid (∀ j, j < k + 1 → okAt l floor j = true) := by
            intro j hj
            by_cases e : j = k
            · rw [e]
              have := HOK.out
              rw [hmay] at this
              rw [bne_eq_false_iff_eq] at hsq
              rw [this, hsq]; simp
            · exact HO.out j (by omega)
          have hkm : k < maxLen := by unfold maxLen; omega
          have HM1 := HM.alloc (.cells #[.int .i64 x.seq, .string x.id, .int .i64 x.what] 48)
          go_wp2_with (first | (go_at_call 90; refine (may_any _ _ _).mono ?_; rintro e w' ⟨rfl, rfl⟩) | (at_mapUpdate; go_must (refine wpList_store_F _ rfl _ _ _ _ rfl 9 3 Try.underlying9 Try.underlying132 _ _ _ rfl HM1 hkm _ rfl hxs _ rfl ?_); intro w1 hM2 hg2))
          go_roundw
          case rel => exact ⟨k + 1, by omega, by go_num, hnx, by rw [HT.out]; exact hM2, (HB.alloc HB.size _).grown hg2 (by simp; have := HB.size; omega) (fun j e => by cases e; exact Nat.le_refl _)⟩
          case measure => simp [intOf]; omega
    · obtain rfl : k = l.length := by omega
      have HR := Lib.hid (rightB_yes HH.out HO.out)
      go_wp2_with fail
      go_ret
      exact ⟨ret_bool HR.out.symm, HB⟩

theorem right_any (w : World) (v : Value) (l : List En) (floor seq : Int) (hv : RdE w w.heap.size v l) (hf : (Lit.int .i64 floor).wf = true) (hs : (Lit.int .i64 seq).wf = true) :
    Calls Try.prog 57 #[v, .int .i64 floor, .int .i64 seq] w fun e w' => e = .returned (.bool (rightB l floor seq)) ∧ Below w.heap.size w w' := by
  cases hh : headB l.length floor seq with
  | true => exact right_yes w v l floor seq hv hf hs hh
  | false => exact right_head w _ v l floor seq hv hf hs hh
end Go.Proofs.Ythgkgjcnmahacaa
end

section
/- What became of ids: the state of the loop, and what its steps do to it. -/
set_option linter.unusedSimpArgs false
set_option linter.unusedVariables false
namespace Go.Proofs.Ythgkgjcnmahacaa
open Go.RowKit Go.Shelf

/-! ### The plain answer -/
def updP (e : En) (p : Pa) : Pa := if p.id = e.id then { p with was := e.what != 1 } else p
def newP (e : En) : Pa := ⟨e.id, e.what != 1, e.what != 3, e.seq⟩
def stepP (sq : Int) (acc : List Pa) (e : En) : List Pa :=
  if e.seq ≤ sq then acc
  else if acc.any (fun p => decide (p.id = e.id)) then acc.map (updP e)
  else acc ++ [newP e]

/-! ### Blocks -/
def PaAt (W : World) (b : Nat) (p : Pa) : Prop := W.heap[b]? = some (.cells #[.string p.id, .bool p.was, .bool p.isb, .int .i64 p.last] 99 (0, 0))
def EnAt (W : World) (b : Nat) (e : En) : Prop := W.heap[b]? = some (.cells #[.int .i64 e.seq, .string e.id, .int .i64 e.what] 48 (0, 0))
theorem obj_ne {W : World} {i j : Nat} {o o' : Obj} (h : W.heap[i]? = some o) (h' : W.heap[j]? = some o') (hne : o ≠ o') : some i ≠ some j := by
  intro e
  simp only [Option.some.injEq] at e
  subst e
  rw [h] at h'
  exact hne (by simpa using h')
theorem PaAt.lt {W : World} {b : Nat} {p : Pa} (h : PaAt W b p) : b < W.heap.size := (Array.getElem?_eq_some_iff.1 h).1
theorem PaAt.cell {W : World} {b : Nat} {p : Pa} (h : PaAt W b p) (j : Nat) {u : Value} (hu : (encP p)[j]? = some u) : W.cell? ⟨b, j, none⟩ = some u := by
  unfold PaAt at h
  rw [← hu]
  simp [World.cell?, h, encP]
theorem EnAt.cell {W : World} {b : Nat} {e : En} (h : EnAt W b e) (j : Nat) {u : Value} (hu : (encE e)[j]? = some u) : W.cell? ⟨b, j, none⟩ = some u := by
  unfold EnAt at h
  rw [← hu]
  simp [World.cell?, h, encE]
theorem PaAt.frozen {W : World} {b : Nat} {p : Pa} (h : PaAt W b p) (j : Nat) : W.frozen? ⟨b, j, none⟩ = false := by
  unfold PaAt at h
  simp [World.frozen?, h]
theorem PaAt.kept {W W' : World} {row : Option Nat} {b : Nat} {p : Pa} (h : PaAt W b p) (hg : W.grownBy W' row) (hne : some b ≠ row) : PaAt W' b p := (hg.block b h.lt hne).trans h
theorem PaAt.set {W : World} {b : Nat} {p : Pa} (h : PaAt W b p) (x : Bool) : PaAt (W.setCell ⟨b, 1, none⟩ (.bool x)) b { p with was := x } := by
  obtain ⟨hlt, hk⟩ := Array.getElem?_eq_some_iff.1 h
  show (W.heap.modify b _)[b]? = _
  rw [Array.getElem?_eq_getElem (by rw [Array.size_modify]; exact hlt), Array.getElem_modify_self, hk]
  rfl
theorem grownBy_setCell1 (W : World) (b o : Nat) (v : Value) : W.grownBy (W.setCell ⟨b, o, none⟩ v) (some b) :=
  ⟨rfl, rfl, rfl, (KeepsWalks.setCell W _ v).size, fun k _ hk => Below.heap_setCell _ _ _ k (fun e => hk (by rw [e]))⟩

/-! ### What a step leaves as it was -/
def keepO (mb k : Nat) : Obj → Prop
  | .cells _ t _ => t ≠ 99 ∧ t ≠ 135 ∧ t ≠ 139
  | _ => k ≠ mb
structure Trn (base mb : Nat) (W W' : World) : Prop where
  below : Below base W W'
  keep : ∀ k o, W.heap[k]? = some o → keepO mb k o → W'.heap[k]? = some o
theorem Trn.refl (base mb : Nat) (W : World) : Trn base mb W W := ⟨Below.refl _ _, fun _ _ h _ => h⟩
theorem Trn.trans {base mb : Nat} {A B C : World} (h : Trn base mb A B) (k : Trn base mb B C) : Trn base mb A C := ⟨h.below.trans k.below, fun i o h1 h2 => k.keep i o (h.keep i o h1 h2) h2⟩
theorem Trn.alloc {base mb : Nat} {W : World} (hb : base ≤ W.heap.size) (o : Obj) : Trn base mb W (W.alloc o) :=
  ⟨(Below.refl _ W).alloc hb o, fun k o' h1 _ => (Below.heap_alloc W o k (Array.getElem?_eq_some_iff.1 h1).1).trans h1⟩
/-- A turn of one block, which is none of those to be kept. -/
theorem Trn.grown {base mb : Nat} {W W' : World} {row : Option Nat} (hb : base ≤ W.heap.size) (hg : W.grownBy W' row) (hr : ∀ r, row = some r → base ≤ r ∧ ∀ o, W.heap[r]? = some o → ¬ keepO mb r o) : Trn base mb W W' :=
  ⟨(Below.refl _ W).grown hg hb (fun k e => (hr k e).1), fun k o h1 h2 => (hg.block k (Array.getElem?_eq_some_iff.1 h1).1 (fun e => (hr k e.symm).2 o h1 h2)).trans h1⟩
theorem Trn.from {base mb B : Nat} {W W' : World} (h : Trn base mb W W') (hm : mb < B) : KeepsFrom B W W' :=
  ⟨h.below.size, fun k o hB h1 h2 => h.keep k o h1 (by cases o <;> simp_all [Obj.isCells, keepO] <;> omega)⟩
theorem Trn.boxed {base mb : Nat} {W W' : World} (h : Trn base mb W W') {B : Nat} {t : TypeId} {v : Value} (hb : Boxed W B t v) (ht : t ≠ 99 ∧ t ≠ 135 ∧ t ≠ 139) : Boxed W' B t v := h.keep _ _ hb ht
theorem Trn.en {base mb : Nat} {W W' : World} (h : Trn base mb W W') {B : Nat} {e : En} (hb : EnAt W B e) : EnAt W' B e := h.keep _ _ hb ⟨by decide, by decide, by decide⟩

/-! ### The state -/
structure SQ (base mb n : Nat) (Q : List (Nat × Pa)) (f : List UInt8 → Option Value) (v : Value) (t6 : Nat) (R : List Nat) (W : World) : Prop where
  map : MapF W Try.prog 9 mb n f
  fq : ∀ q ∈ Q, f q.2.id.data.toList = some (.pointer (some ⟨q.1, 0, none⟩))
  fn : ∀ s u, f s = some u → ∃ q ∈ Q, q.2.id.data.toList = s
  inj : ∀ q ∈ Q, ∀ q' ∈ Q, (q.1 = q'.1 ↔ q.2.id = q'.2.id)
  pas : ∀ q ∈ Q, base ≤ q.1 ∧ PaAt W q.1 q.2
  box : Boxed W t6 135 v
  own : Own W base 139 encPt 1 v R
  len : Q.length ≤ n

theorem MapF.obj {w : World} {P : Program} {k : TypeId} {b n : Nat} {f : List UInt8 → Option Value} (h : MapF w P k b n f) : ∃ es c, w.heap[b]? = some (.map es c) := by
  obtain ⟨E, ⟨es, clock, h1, h2⟩, he⟩ := h
  exact ⟨_, _, h1⟩
theorem Own.blk {α : Type} {enc : α → List Value} {sz : Nat} {w : World} {base : Nat} {e : TypeId} {v : Value} {xs : List α} (h : Own w base e enc sz v xs) : ∀ r, v.ownBlock = some r → base ≤ r ∧ ∃ cur, w.heap[r]? = some (.cells cur e (0, 0)) := by
  intro r hr
  rcases h.2 with ⟨rfl, _⟩ | ⟨g, cap, cur, rfl, hb, hgb, _⟩
  · simp [Value.ownBlock] at hr
  · obtain rfl : g = r := by simpa [Value.ownBlock] using hr
    exact ⟨hb, cur, hgb⟩

section
variable {base mb n t6 : Nat} {Q : List (Nat × Pa)} {f : List UInt8 → Option Value} {v : Value} {R : List Nat} {W : World}
theorem SQ.kept {W' : World} {row : Option Nat} (h : SQ base mb n Q f v t6 R W) (hg : W.grownBy W' row) (hr : ∀ r, row = some r → r ≠ mb ∧ ∃ o : Obj, W.heap[r]? = some o ∧ o.isCells = false) : SQ base mb n Q f v t6 R W' := by
  refine ⟨h.map.kept hg (fun e => (hr _ e.symm).1 rfl), h.fq, h.fn, h.inj, fun q hq => ⟨(h.pas q hq).1, (h.pas q hq).2.kept hg (fun e => ?_)⟩, h.box.kept hg (fun e => ?_), h.own.kept hg ?_, h.len⟩
  · obtain ⟨_, o, ho, hc⟩ := hr _ e.symm
    rw [show W.heap[q.1]? = _ from (h.pas q hq).2] at ho; cases ho; cases hc
  · obtain ⟨_, o, ho, hc⟩ := hr _ e.symm
    rw [show W.heap[t6]? = _ from h.box] at ho; cases ho; cases hc
  · cases hv : v.ownBlock with
    | none => exact .inl rfl
    | some r =>
      refine .inr fun e => ?_
      obtain ⟨_, cur, hc⟩ := h.own.blk r hv
      obtain ⟨_, o, ho, hoc⟩ := hr _ e.symm
      rw [hc] at ho; cases ho; cases hoc

/-- An id that is known: its mark is set. -/
theorem SQ.known (h : SQ base mb n Q f v t6 R W) (hb : base ≤ W.heap.size) {q : Nat × Pa} (hq : q ∈ Q) (e : En) (he : q.2.id = e.id) :
    SQ base mb n (Q.map fun q => (q.1, updP e q.2)) f v t6 R (W.setCell ⟨q.1, 1, none⟩ (.bool (e.what != 1))) ∧ Trn base mb W (W.setCell ⟨q.1, 1, none⟩ (.bool (e.what != 1))) := by
  have hg := grownBy_setCell1 W q.1 1 (.bool (e.what != 1))
  have hid : ∀ p : Pa, (updP e p).id = p.id := fun p => by unfold updP; split <;> rfl
  have hQ := (h.pas q hq).2
  refine ⟨⟨h.map.kept hg (fun e' => ?_), ?_, ?_, ?_, ?_, h.box.kept hg (fun e' => ?_), h.own.kept hg ?_, by simpa using h.len⟩, Trn.grown hb hg (fun r er => ?_)⟩
  · obtain ⟨es, c, hm⟩ := h.map.obj
    exact obj_ne hm hQ (by simp) e'
  · intro q' hq'
    obtain ⟨q1, h1, rfl⟩ := List.mem_map.1 hq'
    show f (updP e q1.2).id.data.toList = _
    rw [hid]
    exact h.fq q1 h1
  · intro s u hs
    obtain ⟨q1, h1, h2⟩ := h.fn s u hs
    exact ⟨_, List.mem_map.2 ⟨q1, h1, rfl⟩, by show (updP e q1.2).id.data.toList = _; rw [hid]; exact h2⟩
  · intro q1 h1 q2 h2
    obtain ⟨q1, h1', rfl⟩ := List.mem_map.1 h1
    obtain ⟨q2, h2', rfl⟩ := List.mem_map.1 h2
    show q1.1 = q2.1 ↔ (updP e q1.2).id = (updP e q2.2).id
    rw [hid, hid]
    exact h.inj q1 h1' q2 h2'
  · intro q1 h1
    obtain ⟨q1, h1', rfl⟩ := List.mem_map.1 h1
    clear h1
    have h1 := h1'
    refine ⟨(h.pas q1 h1).1, ?_⟩
    show PaAt _ q1.1 (updP e q1.2)
    by_cases hi : q1.2.id = e.id
    · have e1 : q1.1 = q.1 := (h.inj q1 h1 q hq).2 (hi.trans he.symm)
      unfold updP
      rw [if_pos hi, ← e1]
      exact (h.pas q1 h1).2.set _
    · have e1 : q1.1 ≠ q.1 := fun e2 => hi (((h.inj q1 h1 q hq).1 e2).trans he)
      unfold updP
      rw [if_neg hi]
      exact (h.pas q1 h1).2.kept hg (fun e2 => e1 (by simpa using e2))
  · exact obj_ne h.box hQ (by simp) e'
  · cases hv : v.ownBlock with
    | none => exact .inl rfl
    | some r =>
      refine .inr fun e' => ?_
      obtain ⟨_, cur, hc⟩ := h.own.blk r hv
      exact obj_ne hc hQ (by simp) e'
  · cases er
    refine ⟨(h.pas q hq).1, fun o ho hk => ?_⟩
    rw [show W.heap[q.1]? = _ from hQ] at ho; cases ho
    exact hk.1 rfl

/-- An id that is new: its block is laid, and the map is told. -/
theorem SQ.fresh (h : SQ base mb n Q f v t6 R W) (hb : base ≤ W.heap.size) (hm : base ≤ mb) (p : Pa) (hf : f p.id.data.toList = none) {W2 : World}
    (hg : (W.alloc (.cells #[.string p.id, .bool p.was, .bool p.isb, .int .i64 p.last] 99)).grownBy W2 (some mb)) (hM : MapF W2 Try.prog 9 mb (n + 1) (fun u => if u = p.id.data.toList then some (.pointer (some ⟨W.heap.size, 0, none⟩)) else f u)) :
    SQ base mb (n + 1) (Q ++ [(W.heap.size, p)]) (fun u => if u = p.id.data.toList then some (.pointer (some ⟨W.heap.size, 0, none⟩)) else f u) v t6 R W2 ∧ Trn base mb W W2 := by
  have hnew : PaAt (W.alloc (.cells #[.string p.id, .bool p.was, .bool p.isb, .int .i64 p.last] 99)) W.heap.size p := World.alloc_heap_new W _
  obtain ⟨W1, hW1⟩ : ∃ W1, W.alloc (.cells #[.string p.id, .bool p.was, .bool p.isb, .int .i64 p.last] 99) = W1 := ⟨_, rfl⟩
  have hga : W.grownBy W1 none := by rw [← hW1]; exact World.grownBy_alloc W _ none
  have hta : Trn base mb W W1 := by rw [← hW1]; exact Trn.alloc hb _
  rw [hW1] at hg hnew
  obtain ⟨es, c, hmo⟩ := (h.map.kept hga (by simp)).obj
  have hno : ∀ q ∈ Q, q.2.id ≠ p.id := fun q hq e => by
    have := h.fq q hq
    rw [e, hf] at this; cases this
  have hlt : ∀ q ∈ Q, q.1 < W.heap.size := fun q hq => (h.pas q hq).2.lt
  have hnm : ∀ b p', PaAt W1 b p' → some b ≠ some mb := fun b p' hp => obj_ne hp hmo (by simp)
  refine ⟨⟨hM, ?_, ?_, ?_, ?_, (h.box.kept hga (by simp)).kept hg (fun e => ?_), (h.own.kept hga ?_).kept hg ?_, by simp; exact h.len⟩, hta.trans (Trn.grown (Nat.le_trans hb hta.below.size) hg (fun r er => ?_))⟩
  · intro q hq
    rcases List.mem_append.1 hq with h1 | h1
    · show (if _ then _ else _) = _
      rw [if_neg (fun e => hno q h1 ((data_inj _ _).1 e))]
      exact h.fq q h1
    · obtain rfl : q = (W.heap.size, p) := by simpa using h1
      simp
  · intro s u hs
    split at hs
    · rename_i e
      exact ⟨_, List.mem_append_right _ (List.mem_singleton.2 rfl), e.symm⟩
    · obtain ⟨q, h1, h2⟩ := h.fn s u hs
      exact ⟨q, List.mem_append_left _ h1, h2⟩
  · intro q1 h1 q2 h2
    rcases List.mem_append.1 h1 with h1 | h1 <;> rcases List.mem_append.1 h2 with h2 | h2
    · exact h.inj q1 h1 q2 h2
    · obtain rfl : q2 = (W.heap.size, p) := by simpa using h2
      have := hlt q1 h1
      exact ⟨fun e => by dsimp only at e; omega, fun e => absurd e (hno q1 h1)⟩
    · obtain rfl : q1 = (W.heap.size, p) := by simpa using h1
      have := hlt q2 h2
      exact ⟨fun e => by dsimp only at e; omega, fun e => absurd e.symm (hno q2 h2)⟩
    · obtain rfl : q1 = (W.heap.size, p) := by simpa using h1
      obtain rfl : q2 = (W.heap.size, p) := by simpa using h2
      simp
  · intro q hq
    rcases List.mem_append.1 hq with h1 | h1
    · have hk := (h.pas q h1).2.kept hga (by simp)
      exact ⟨(h.pas q h1).1, hk.kept hg (hnm _ _ hk)⟩
    · obtain rfl : q = (W.heap.size, p) := by simpa using h1
      exact ⟨hb, hnew.kept hg (hnm _ _ hnew)⟩
  · exact obj_ne (h.box.kept hga (by simp)) hmo (by simp) e
  · cases v.ownBlock <;> simp
  · cases hv : v.ownBlock with
    | none => exact .inl rfl
    | some r =>
      refine .inr fun e' => ?_
      obtain ⟨_, cur, hc⟩ := (h.own.kept hga (by cases v.ownBlock <;> simp)).blk r hv
      exact obj_ne hc hmo (by simp) e'
  · cases er
    refine ⟨hm, fun o ho hk => ?_⟩
    rw [hmo] at ho; cases ho
    exact hk rfl

/-- A pointer is appended, and the slice is stored. -/
theorem SQ.append (h : SQ base mb n Q f v t6 R W) (hb : base ≤ W.heap.size) (ht : base ≤ t6) (tmp : Obj) {W4 : World} {v' : Value} {R' : List Nat} (hg : (W.alloc tmp).grownBy W4 v.ownBlock) (ho : Own W4 base 139 encPt 1 v' R') :
    Boxed W4 t6 135 v ∧ SQ base mb n Q f v' t6 R' (W4.setCell ⟨t6, 0, none⟩ v') ∧ Trn base mb W (W4.setCell ⟨t6, 0, none⟩ v') := by
  obtain ⟨W1, hW1⟩ : ∃ W1, W.alloc tmp = W1 := ⟨_, rfl⟩
  have hga : W.grownBy W1 none := by rw [← hW1]; exact World.grownBy_alloc W _ none
  have hta : Trn base mb W W1 := by rw [← hW1]; exact Trn.alloc hb _
  rw [hW1] at hg
  have hO := h.own.kept hga (by cases v.ownBlock <;> simp)
  have hrow : ∀ b o, W1.heap[b]? = some o → (∀ cur, o ≠ .cells cur 139 (0, 0)) → some b ≠ v.ownBlock := fun b o hbo hne e => by
    obtain ⟨_, cur, hc⟩ := hO.blk b e.symm
    rw [hbo] at hc; cases hc
    exact hne cur rfl
  have hbox1 : Boxed W1 t6 135 v := h.box.kept hga (by simp)
  have hbox4 : Boxed W4 t6 135 v := hbox1.kept hg (hrow _ _ hbox1 (by simp))
  have hg5 := grownBy_setCell1 W4 t6 0 v'
  have hmp : MapF W4 Try.prog 9 mb n f := (h.map.kept hga (by simp)).kept hg (by
    obtain ⟨es, c, hmo⟩ := (h.map.kept hga (by simp)).obj
    exact hrow _ _ hmo (by simp))
  have hp4 : ∀ q ∈ Q, PaAt W4 q.1 q.2 := fun q hq => by
    have hk := (h.pas q hq).2.kept hga (by simp)
    exact hk.kept hg (hrow _ _ hk (by simp))
  have hs1 : Trn base mb W1 W4 := Trn.grown (Nat.le_trans hb hta.below.size) hg (fun r er => by
    obtain ⟨h1, cur, hc⟩ := hO.blk r er
    refine ⟨h1, fun o ho hk => ?_⟩
    rw [hc] at ho; cases ho
    exact hk.2.2 rfl)
  refine ⟨hbox4, ⟨hmp.kept hg5 (fun e => ?_), h.fq, h.fn, h.inj, fun q hq => ⟨(h.pas q hq).1, (hp4 q hq).kept hg5 (fun e => ?_)⟩, hbox4.set v', ho.kept hg5 ?_, h.len⟩, (hta.trans hs1).trans (Trn.grown (Nat.le_trans hb (hta.trans hs1).below.size) hg5 (fun r er => ?_))⟩
  · obtain ⟨es, c, hm⟩ := hmp.obj
    exact obj_ne hm hbox4 (by simp) e
  · exact obj_ne (hp4 q hq) hbox4 (by simp) e
  · cases hv : v'.ownBlock with
    | none => exact .inl rfl
    | some r =>
      refine .inr fun e' => ?_
      obtain ⟨_, cur, hc⟩ := ho.blk r hv
      exact obj_ne hc hbox4 (by simp) e'
  · cases er
    refine ⟨ht, fun o ho hk => ?_⟩
    rw [show W4.heap[t6]? = _ from hbox4] at ho; cases ho
    exact hk.2.1 rfl
end

section
variable {F : Fence} {nF : Nat} {P : Program} (w : World) {ops : Array Oper} {rest : List Oper} {o : Oper} {a : Act} {Q : Exit → Act → World → Prop}
theorem wpListIn_look_F (hg : o.guard = none) (m x : Operand) (t : TypeId) (hop : o.op = Op.lookup t m x false) (k e : TypeId) (hk : P.underlying k = some .string) (ht : P.underlying t = some (.map k e)) {z : Value} (hz : (zeroValue e).run P w = .ok z w)
    (b n : Nat) (f : List UInt8 → Option Value) (hm : a.eval m = .map (some b)) (hown : MapF w P k b n f) (s : ByteArray) (hx : a.eval x = .string s) (hs : s.size ≤ maxLen) {v : Value} (hv : (f s.data.toList).getD z = v)
    (hK : wpListIn F nF P ops Q rest (a.put o.dst v) w) : wpListIn F nF P ops Q (o :: rest) a w := by
  refine wpListIn_plain hg fun K' hK' => ?_
  have hrun := hown.look hk ht hz hs
  rw [hv] at hrun
  unfold Oper.wpIn
  refine ⟨by simp [Oper.about, hop], ?_⟩
  rw [Oper.semAt_plain F _ _ (by rw [hop]; intro c hc'; cases hc')]
  simp [execOp, hop, hm, hx, hrun, Result.andThen]
  exact hK' _ _ hK
theorem wpListIn_store_F (hg : o.guard = none) (m x v : Operand) (t : TypeId) (hop : o.op = Op.mapUpdate t m x v) (k e : TypeId) (hk : P.underlying k = some .string) (ht : P.underlying t = some (.map k e)) 
    (b n : Nat) (f : List UInt8 → Option Value) (hm : a.eval m = .map (some b)) (hown : MapF w P k b n f) (hn : n < maxLen) (s : ByteArray) (hx : a.eval x = .string s) (hs : s.size ≤ maxLen) (val : Value) (hv : a.eval v = val)
    (hK : ∀ w', MapF w' P k b (n + 1) (fun u => if u = s.data.toList then some val else f u) → w.grownBy w' (some b) → wpListIn F nF P ops Q rest (a.put o.dst undef) w') : wpListIn F nF P ops Q (o :: rest) a w := by
  refine wpListIn_plain hg fun K' hK' => ?_
  obtain ⟨w', hrun, h1, h2⟩ := hown.store hk ht hn hs val
  unfold Oper.wpIn
  refine ⟨by simp [Oper.about, hop], ?_⟩
  rw [Oper.semAt_plain F _ _ (by rw [hop]; intro c hc'; cases hc')]
  simp [execOp, hop, hm, hx, hv, hrun, Result.andThen]
  exact hK' _ _ (hK w' h1 h2)
end
end Go.Proofs.Ythgkgjcnmahacaa
end
