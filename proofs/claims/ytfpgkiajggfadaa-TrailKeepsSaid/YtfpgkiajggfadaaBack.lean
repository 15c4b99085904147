/- slices.Backward at a slice of entries and at a slice of pointers: what it hands to a loop's body, from the last element to the first. -/
import Derived.Test.YtfpgkiajggfadaaTrC
import Derived.RangeFuncNested
import Derived.RangeFuncBound
import Derived.RangeFuncCalls
import Derived.RangeFuncLeaves
import Derived.Shelf.Abstract
import Derived.OwnWalkIn
import Derived.TacticsInMore
import Derived.LoopNIn
import Derived.LoopIn
set_option linter.unusedSimpArgs false
set_option linter.unusedVariables false
namespace Go.Proofs.Ytfpgkiajggfadaa
open Go.RowKit Go.Shelf

attribute [local go_sem] Oper.semAt_some

/-- What a round keeps: all below n₀, and the block in which the slice is held. -/
def Kq (n₀ Bs : Nat) (W W' : World) : Prop := Below n₀ W W' ∧ W'.heap[Bs]? = W.heap[Bs]?
theorem Kq.refl (n₀ Bs : Nat) (W : World) : Kq n₀ Bs W W := ⟨Below.refl _ _, rfl⟩
theorem Kq.trans {n₀ Bs : Nat} {A B C : World} (h : Kq n₀ Bs A B) (k : Kq n₀ Bs B C) : Kq n₀ Bs A C := ⟨h.1.trans k.1, k.2.trans h.2⟩
theorem Kq.book {n₀ Bs : Nat} {w : World} (hn : n₀ ≤ w.heap.size) (hB : Bs < w.heap.size) (W : World) (l : Nat) (o o' : Obj) (hl : w.heap.size ≤ l) (h : W.heap[l]? = some o) (h1 : o.isCells = false) (h2 : o.isWalk = false) : Kq n₀ Bs W (W.putObj l o') :=
  ⟨belowK_b hn W l o o' hl h h1 h2, World.putObj_heap_other (by omega)⟩
theorem Kq.cell {n₀ Bs : Nat} {W W' : World} (h : Kq n₀ Bs W W') {v : Value} (hc : W.cell? ⟨Bs, 0, none⟩ = some v) : W'.cell? ⟨Bs, 0, none⟩ = some v := (World.cell?_of_block (w := W) h.2).trans hc

/-- What has come when k rounds are over. -/
def backTo {α : Type} (xs : List α) (k : Nat) : List (Nat × α) := (xs.zipIdx.reverse.take k).map fun p => (p.2, p.1)
theorem backTo_succ {α : Type} (xs : List α) (k j : Nat) (x : α) (hk : k < xs.length) (hj : xs.length - 1 - k = j) (hx : xs[j]? = some x) : backTo xs (k + 1) = backTo xs k ++ [(j, x)] := by
  subst hj
  unfold backTo
  rw [List.take_add_one, List.getElem?_reverse (by simpa using hk), List.length_zipIdx, List.getElem?_zipIdx, hx]
  simp
theorem backTo_length {α : Type} (xs : List α) (k : Nat) (hk : k ≤ xs.length) : (backTo xs k).length = k := by simp [backTo]; omega
theorem backTo_all {α : Type} (xs : List α) : (backTo xs xs.length).map (·.2) = xs.reverse := by
  unfold backTo
  rw [List.take_of_length_le (by simp), List.map_map, List.map_reverse]
  congr 1
  apply List.ext_getElem
  · simp
  · intro i h1 h2
    simp

/-- An entry that may be. -/
abbrev OkE := { e : En // e.ok }
def encO (x : OkE) : List Value := encE x.1

set_option maxRecDepth 100000 in
set_option maxHeartbeats 2000000 in
theorem backE1_in (F : Fence) (n : Nat) (h7 : F.fn 56) (hro : F.round = none) (hn : 1 ≤ n) (l Bs n₀ b off cap : Nat) (xs : List OkE) (hlen : xs.length ≤ 4398046511104) (hb : b < n₀) (J Jx : List (Nat × OkE) → World → Prop)
    (hY : ∀ pre x W, J pre W → pre.length < xs.length → YieldAt F (n - 1) Try.prog l #[.int .i64 (x.1 : Nat), .agg #[.int .i64 x.2.1.seq, .string x.2.1.id, .int .i64 x.2.1.what]] W fun e W' =>
      (e = .returned (.bool true) ∧ J (pre ++ [x]) W' ∧ Kq n₀ Bs W W') ∨ (e = .returned (.bool false) ∧ Jx (pre ++ [x]) W'))
    (W : World) (hBs : W.cell? ⟨Bs, 0, none⟩ = some (.slice (some ⟨b, off, none⟩) xs.length cap)) (hc : RowAt W b off encO 3 xs) (h0 : J [] W) :
    CallsIn F n Try.prog 56 #[.func (.yield l) #[] #[], .pointer (some ⟨Bs, 0, none⟩)] W fun e W' => (∃ v, e = .returned v) ∧
      ((∃ ys, ys = backTo xs xs.length ∧ J ys W') ∨ (∃ pre, True ∧ Jx pre W')) := by
  refine callsIn_of_wp Try.func56 rfl h7 ?_ hro
  simp only [Try.ntmps56, List.size_toArray, List.length_cons, List.length_nil, Nat.reduceAdd, Nat.reduceSub, Array.replicate_succ, Array.replicate_zero, List.push_toArray, List.append_toArray, List.nil_append, List.cons_append]
  gi_wp2
  gi_loopw [3] (fun i wr => ∃ k : Nat, k ≤ xs.length ∧ i = .int .i64 ((xs.length : Int) - 1 - (k : Int)) ∧ J (backTo xs k) wr ∧ Kq n₀ Bs W wr)
    (fun i _ => (intOf i + 1).toNat)
  case atStart => exact ⟨0, Nat.zero_le _, by congr 1; omega, h0, Kq.refl _ _ _⟩
  case round =>
    obtain ⟨k, hk, rfl, hJs, hnx⟩ := hrel
    have hcs := hnx.cell hBs
    by_cases hlt : k < xs.length
    · obtain ⟨j, hj⟩ : ∃ j, xs.length - 1 - k = j := ⟨_, rfl⟩
      have ej : (xs.length : Int) - 1 - (k : Int) = (j : Int) := by omega
      have hjl : j < xs.length := by omega
      obtain ⟨x, hx⟩ : ∃ x, xs[j]? = some x := ⟨_, List.getElem?_eq_getElem hjl⟩
      obtain ⟨fn, tmps, assign, body, hy, hR⟩ := hY _ (j, x) wr hJs (by rw [backTo_length _ _ hk]; exact hlt)
      dsimp only at hy
      have c0 := bcs hnx.1 hb (hc j x hx 0 _ rfl)
      have c1 := bcs hnx.1 hb (hc j x hx 1 _ rfl)
      have c2 := bcs hnx.1 hb (hc j x hx 2 _ rfl)
      rw [Nat.add_zero] at c0
      have hT : Hid (backTo xs (k + 1) = backTo xs k ++ [(j, x)]) := backTo_succ xs k j x hlt hj hx
      have HJ := Lib.hid hj
      clear hj hx hY
      have hR' := Lib.hid hR
      clear hR
      gi_wp2
      refine hR'.out.mono ?_
      rintro e W3 (⟨rfl, hJ3, hk3⟩ | ⟨rfl, hJx3⟩)
      · gi_wp2
        go_roundw
        case rel => exact ⟨k + 1, by omega, by congr 1; omega, by rw [hT.out]; exact hJ3, hnx.trans hk3⟩
        case measure => simp [intOf]; omega
      · gi_wp2
        refine bodyPost_ret (results_none rfl _ _ _) rfl ?_
        exact ⟨⟨_, rfl⟩, .inr ⟨_, trivial, hJx3⟩⟩
    · obtain rfl : k = xs.length := by omega
      gi_wp2
      go_end0
      exact ⟨⟨_, rfl⟩, .inl ⟨_, rfl, hJs⟩⟩

set_option maxRecDepth 100000 in
set_option maxHeartbeats 1000000 in
theorem backE1_nil (F : Fence) (n : Nat) (h7 : F.fn 56) (hro : F.round = none) (l Bs : Nat) (J : List (Nat × OkE) → World → Prop) (W : World) (hBs : W.cell? ⟨Bs, 0, none⟩ = some (.slice none 0 0)) (h0 : J [] W) :
    CallsIn F n Try.prog 56 #[.func (.yield l) #[] #[], .pointer (some ⟨Bs, 0, none⟩)] W fun e W' => (∃ v, e = .returned v) ∧ J [] W' := by
  refine callsIn_of_wp Try.func56 rfl h7 ?_ hro
  simp only [Try.ntmps56, List.size_toArray, List.length_cons, List.length_nil, Nat.reduceAdd, Nat.reduceSub, Array.replicate_succ, Array.replicate_zero, List.push_toArray, List.append_toArray, List.nil_append, List.cons_append]
  gi_wp2
  gi_loopw [3] (fun i wr => i = .int .i64 (-1) ∧ J [] wr) (fun _ _ => 0)
  case atStart => exact ⟨rfl, h0⟩
  case round =>
    obtain ⟨rfl, hJs⟩ := hrel
    gi_wp2
    go_end0
    exact ⟨⟨_, rfl⟩, hJs⟩

set_option maxHeartbeats 1000000 in
theorem backE_in (F : Fence) (n : Nat) (h5 : F.fn 38) (hro : F.round = none) (v : Value) (w : World) (hv : ∃ a len cap, v = .slice a len cap) :
    CallsIn F n Try.prog 38 #[v] w fun e w' => e = .returned (.func (.func 56) #[] #[.pointer (some ⟨w.heap.size, 0, none⟩)]) ∧ w' = w.alloc (.cells #[v] 22) := by
  obtain ⟨a, len, cap, rfl⟩ := hv
  refine callsIn_of_wp Try.func38 rfl h5 ?_ hro
  simp only [Try.ntmps38, List.size_toArray, List.length_cons, List.length_nil, Nat.reduceAdd, Nat.reduceSub, Array.replicate_succ, Array.replicate_zero, List.push_toArray, List.append_toArray, List.nil_append, List.cons_append]
  gi_wp2
  go_ret
  exact ⟨rfl, rfl⟩

theorem backE_stops (F : Fence) (n : Nat) (h7 : F.fn 56) (hro : F.round = none) (hn : 1 ≤ n) (Bs n₀ : Nat) (v : Value) (xs : List OkE) (hlen : xs.length ≤ 4398046511104) (w : World) (hBs : Bs < w.heap.size) (hn₀ : n₀ ≤ w.heap.size)
    (hc : w.cell? ⟨Bs, 0, none⟩ = some v) (hv : Rd w n₀ encO 3 v xs) :
    SeqStopsK F n Try.prog 56 #[.pointer (some ⟨Bs, 0, none⟩)] (fun x : Nat × OkE => #[.int .i64 (x.1 : Nat), .agg #[.int .i64 x.2.1.seq, .string x.2.1.id, .int .i64 x.2.1.what]]) (Kq n₀ Bs) (fun ys => ys = backTo xs xs.length) (fun _ => True) xs.length w := fun l J Jx W hW _ _ hY h0 => by
  have hc' := (hW.cell (p := ⟨Bs, 0, none⟩) hBs).trans hc
  obtain ⟨p, cap, rfl, h1, h2, h3, h4⟩ := hv
  cases p with
  | none =>
    have hc0 : cap = 0 := h3 rfl
    have hx : xs = [] := List.eq_nil_of_length_eq_zero (by omega)
    subst hx hc0
    exact (backE1_nil F n h7 hro l Bs J W hc' h0).mono fun e W' ⟨he, hj⟩ => ⟨he, .inl ⟨_, rfl, hj⟩⟩
  | some a =>
    obtain ⟨b, o, rfl, hb, hr⟩ := h4 a rfl
    exact backE1_in F n h7 hro hn l Bs n₀ b o cap xs hlen hb J Jx hY W hc' (hr.below hW (by omega)) h0

/-- A pointer to the head of a block. -/
def encPt (b : Nat) : List Value := [.pointer (some ⟨b, 0, none⟩)]
theorem codecPt : Codec encPt 1 := ⟨fun _ => rfl, fun x u hu => by
  simp only [encPt, List.mem_cons, List.not_mem_nil, or_false] at hu
  rcases hu with rfl; rfl, by decide⟩

variable {p : Nat → Prop}
def encPs (x : {b : Nat // p b}) : List Value := encPt x.1

set_option maxRecDepth 100000 in
set_option maxHeartbeats 2000000 in
theorem backQ1_in (F : Fence) (n : Nat) (h7 : F.fn 57) (hro : F.round = none) (hn : 1 ≤ n) (l Bs n₀ b off cap : Nat) (xs : List {b : Nat // p b}) (hlen : xs.length ≤ 17592186044416) (hb : b < n₀) (J Jx : List (Nat × {b : Nat // p b}) → World → Prop)
    (hY : ∀ pre x W, J pre W → pre.length < xs.length → YieldAt F (n - 1) Try.prog l #[.int .i64 (x.1 : Nat), .pointer (some ⟨x.2.1, 0, none⟩)] W fun e W' =>
      (e = .returned (.bool true) ∧ J (pre ++ [x]) W' ∧ Kq n₀ Bs W W') ∨ (e = .returned (.bool false) ∧ Jx (pre ++ [x]) W'))
    (W : World) (hBs : W.cell? ⟨Bs, 0, none⟩ = some (.slice (some ⟨b, off, none⟩) xs.length cap)) (hc : RowAt W b off encPs 1 xs) (h0 : J [] W) :
    CallsIn F n Try.prog 57 #[.func (.yield l) #[] #[], .pointer (some ⟨Bs, 0, none⟩)] W fun e W' => (∃ v, e = .returned v) ∧
      ((∃ ys, ys = backTo xs xs.length ∧ J ys W') ∨ (∃ pre, True ∧ Jx pre W')) := by
  refine callsIn_of_wp Try.func57 rfl h7 ?_ hro
  simp only [Try.ntmps57, List.size_toArray, List.length_cons, List.length_nil, Nat.reduceAdd, Nat.reduceSub, Array.replicate_succ, Array.replicate_zero, List.push_toArray, List.append_toArray, List.nil_append, List.cons_append]
  gi_wp2
  gi_loopw [3] (fun i wr => ∃ k : Nat, k ≤ xs.length ∧ i = .int .i64 ((xs.length : Int) - 1 - (k : Int)) ∧ J (backTo xs k) wr ∧ Kq n₀ Bs W wr)
    (fun i _ => (intOf i + 1).toNat)
  case atStart => exact ⟨0, Nat.zero_le _, by congr 1; omega, h0, Kq.refl _ _ _⟩
  case round =>
    obtain ⟨k, hk, rfl, hJs, hnx⟩ := hrel
    have hcs := hnx.cell hBs
    by_cases hlt : k < xs.length
    · obtain ⟨j, hj⟩ : ∃ j, xs.length - 1 - k = j := ⟨_, rfl⟩
      have ej : (xs.length : Int) - 1 - (k : Int) = (j : Int) := by omega
      have hjl : j < xs.length := by omega
      obtain ⟨x, hx⟩ : ∃ x, xs[j]? = some x := ⟨_, List.getElem?_eq_getElem hjl⟩
      obtain ⟨fn, tmps, assign, body, hy, hR⟩ := hY _ (j, x) wr hJs (by rw [backTo_length _ _ hk]; exact hlt)
      dsimp only at hy
      have c0 := bcs hnx.1 hb (hc j x hx 0 _ rfl)
      rw [Nat.add_zero, Nat.mul_one] at c0
      have hT : Hid (backTo xs (k + 1) = backTo xs k ++ [(j, x)]) := backTo_succ xs k j x hlt hj hx
      have HJ := Lib.hid hj
      clear hj hx hY
      have hR' := Lib.hid hR
      clear hR
      gi_wp2
      refine hR'.out.mono ?_
      rintro e W3 (⟨rfl, hJ3, hk3⟩ | ⟨rfl, hJx3⟩)
      · gi_wp2
        go_roundw
        case rel => exact ⟨k + 1, by omega, by congr 1; omega, by rw [hT.out]; exact hJ3, hnx.trans hk3⟩
        case measure => simp [intOf]; omega
      · gi_wp2
        refine bodyPost_ret (results_none rfl _ _ _) rfl ?_
        exact ⟨⟨_, rfl⟩, .inr ⟨_, trivial, hJx3⟩⟩
    · obtain rfl : k = xs.length := by omega
      gi_wp2
      go_end0
      exact ⟨⟨_, rfl⟩, .inl ⟨_, rfl, hJs⟩⟩

set_option maxRecDepth 100000 in
set_option maxHeartbeats 1000000 in
theorem backQ1_nil (F : Fence) (n : Nat) (h7 : F.fn 57) (hro : F.round = none) (l Bs : Nat) (J : List (Nat × {b : Nat // p b}) → World → Prop) (W : World) (hBs : W.cell? ⟨Bs, 0, none⟩ = some (.slice none 0 0)) (h0 : J [] W) :
    CallsIn F n Try.prog 57 #[.func (.yield l) #[] #[], .pointer (some ⟨Bs, 0, none⟩)] W fun e W' => (∃ v, e = .returned v) ∧ J [] W' := by
  refine callsIn_of_wp Try.func57 rfl h7 ?_ hro
  simp only [Try.ntmps57, List.size_toArray, List.length_cons, List.length_nil, Nat.reduceAdd, Nat.reduceSub, Array.replicate_succ, Array.replicate_zero, List.push_toArray, List.append_toArray, List.nil_append, List.cons_append]
  gi_wp2
  gi_loopw [3] (fun i wr => i = .int .i64 (-1) ∧ J [] wr) (fun _ _ => 0)
  case atStart => exact ⟨rfl, h0⟩
  case round =>
    obtain ⟨rfl, hJs⟩ := hrel
    gi_wp2
    go_end0
    exact ⟨⟨_, rfl⟩, hJs⟩

set_option maxHeartbeats 1000000 in
theorem backQ_in (F : Fence) (n : Nat) (h5 : F.fn 39) (hro : F.round = none) (v : Value) (w : World) (hv : ∃ a len cap, v = .slice a len cap) :
    CallsIn F n Try.prog 39 #[v] w fun e w' => e = .returned (.func (.func 57) #[] #[.pointer (some ⟨w.heap.size, 0, none⟩)]) ∧ w' = w.alloc (.cells #[v] 65) := by
  obtain ⟨a, len, cap, rfl⟩ := hv
  refine callsIn_of_wp Try.func39 rfl h5 ?_ hro
  simp only [Try.ntmps39, List.size_toArray, List.length_cons, List.length_nil, Nat.reduceAdd, Nat.reduceSub, Array.replicate_succ, Array.replicate_zero, List.push_toArray, List.append_toArray, List.nil_append, List.cons_append]
  gi_wp2
  go_ret
  exact ⟨rfl, rfl⟩

theorem backQ_stops (F : Fence) (n : Nat) (h7 : F.fn 57) (hro : F.round = none) (hn : 1 ≤ n) (Bs n₀ : Nat) (v : Value) (xs : List {b : Nat // p b}) (hlen : xs.length ≤ 17592186044416) (w : World) (hBs : Bs < w.heap.size) (hn₀ : n₀ ≤ w.heap.size)
    (hc : w.cell? ⟨Bs, 0, none⟩ = some v) (hv : Rd w n₀ encPs 1 v xs) :
    SeqStopsK F n Try.prog 57 #[.pointer (some ⟨Bs, 0, none⟩)] (fun x : Nat × {b : Nat // p b} => #[.int .i64 (x.1 : Nat), .pointer (some ⟨x.2.1, 0, none⟩)]) (Kq n₀ Bs) (fun ys => ys = backTo xs xs.length) (fun _ => True) xs.length w := fun l J Jx W hW _ _ hY h0 => by
  have hc' := (hW.cell (p := ⟨Bs, 0, none⟩) hBs).trans hc
  obtain ⟨p, cap, rfl, h1, h2, h3, h4⟩ := hv
  cases p with
  | none =>
    have hc0 : cap = 0 := h3 rfl
    have hx : xs = [] := List.eq_nil_of_length_eq_zero (by omega)
    subst hx hc0
    exact (backQ1_nil F n h7 hro l Bs J W hc' h0).mono fun e W' ⟨he, hj⟩ => ⟨he, .inl ⟨_, rfl, hj⟩⟩
  | some a =>
    obtain ⟨b, o, rfl, hb, hr⟩ := h4 a rfl
    exact backQ1_in F n h7 hro hn l Bs n₀ b o cap xs hlen hb J Jx hY W hc' (hr.below hW (by omega)) h0
end Go.Proofs.Ytfpgkiajggfadaa
