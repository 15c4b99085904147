import Derived.Test.YthgkgjcnmahacaaSn04
import Derived.Test.YthgkgjcnmahacaaSn14
import Derived.Test.YthgkgjcnmahacaaSn09
import Derived.WalkLawsBesides
import Derived.BigQuiet
import Derived.Test.YthgkgjcnmahacaaSn08
import Derived.RangeFuncNested
import Derived.RangeFuncBound
import Derived.RangeFuncCalls
import Derived.RangeFuncLeaves
import Derived.Shelf.Abstract
import Derived.OwnWalkIn
import Derived.TacticsInMore
import Derived.LoopNIn
import Derived.LoopIn
import Derived.Test.YthgkgjcnmahacaaSn03
import Derived.Deep.DeepMust
section
/- What a trail says of an id; slices read by their places. -/
set_option linter.unusedSimpArgs false
set_option linter.unusedVariables false
namespace Go.Proofs.Ythgkgjcnmahacaa
open Go.RowKit Go.OpenShut

/-- What is said of an id. -/
structure Pa where
  id : ByteArray
  was : Bool
  isb : Bool
  last : Int
deriving DecidableEq
def encP (p : Pa) : List Value := [.string p.id, .bool p.was, .bool p.isb, .int .i64 p.last]
theorem codecP : Codec encP 4 := ⟨fun _ => rfl, fun x u hu => by
  simp only [encP, List.mem_cons, List.not_mem_nil, or_false] at hu
  rcases hu with rfl | rfl | rfl | rfl <;> rfl, by decide⟩

def Pa.eqv (a b : Pa) : Bool := a.id.toList == b.id.toList && a.was == b.was && a.isb == b.isb && a.last == b.last
theorem Pa.eqv_eq (a b : Pa) : a.eqv b = decide (a = b) := by
  obtain ⟨i, x, y, s⟩ := a
  obtain ⟨j, x', y', t⟩ := b
  unfold Pa.eqv
  rw [toList_beq]
  by_cases h1 : i = j <;> by_cases h2 : x = x' <;> by_cases h3 : y = y' <;> by_cases h4 : s = t <;> simp [h1, h2, h3, h4]

theorem rd_at {α : Type} {enc : α → List Value} {sz n cap k B : Nat} {w : World} {p : Option Addr} {xs : List α} (h : Rd w B enc sz (.slice p n cap) xs) {x : α} (hx : xs[k]? = some x) :
    ∃ b o, p = some ⟨b, o, none⟩ ∧ b < B ∧ ∀ j u, (enc x)[j]? = some u → w.cell? ⟨b, o + k * sz + j, none⟩ = some u := by
  obtain ⟨p', cap', he, h1, h2, h3, h4⟩ := h
  simp only [Value.slice.injEq] at he
  obtain ⟨rfl, rfl, rfl⟩ := he
  have hk := (List.getElem?_eq_some_iff.1 hx).1
  cases p with
  | none => have := h3 rfl; omega
  | some a =>
    obtain ⟨b, o, rfl, hb, hr⟩ := h4 a rfl (by omega)
    exact ⟨b, o, rfl, hb, hr k x hx⟩
theorem rd_len {α : Type} {enc : α → List Value} {sz B : Nat} {w : World} {v : Value} {xs : List α} (h : Rd w B enc sz v xs) : ∃ p cap, v = .slice p xs.length cap ∧ xs.length ≤ cap ∧ cap ≤ 9223372036854775807 := by
  obtain ⟨p, cap, he, h1, h2, _⟩ := h
  exact ⟨p, cap, he, h1, h2⟩

theorem eqTake_snoc {α : Type} [DecidableEq α] {l m : List α} {k : Nat} {x : α} (hx : l[k]? = some x) (hy : m[k]? = some x) (h : l.take k = m.take k) : l.take (k + 1) = m.take (k + 1) := by
  rw [List.take_add_one, List.take_add_one, hx, hy, h]
theorem eqTake_ne {α : Type} [DecidableEq α] {l m : List α} {k : Nat} {x y : α} (hx : l[k]? = some x) (hy : m[k]? = some y) (h : x ≠ y) : decide (l = m) = false := by
  rw [decide_eq_false_iff_not]
  rintro rfl
  rw [hx] at hy
  exact h (by simpa using hy)

theorem infoP : (Try.prog.info? 128).map (fun i => (i.zero, i.size, i.bytes)) = some (some (.agg #[.string ByteArray.empty, .bool false, .bool false, .int .i64 0]), 4, 32) := by kernel_rfl
end Go.Proofs.Ythgkgjcnmahacaa
end

section
/- New boxes; a number as a value; lists of texts compared: walked. -/
set_option linter.unusedSimpArgs false
set_option linter.unusedVariables false
namespace Go.Proofs.Ythgkgjcnmahacaa
open Go.RowKit Go.OpenShut

/-- A number between two others. -/
def clampI (n hi : Int) : Int := if n < 0 then 0 else if hi < n then hi else n
theorem clamp_eq {n hi : Int} (h : 0 ≤ hi := by decide) : min (max n 0) hi = clampI n hi := by unfold clampI; split <;> (try split) <;> omega
def newB (start keep : Int) : BoxD := ⟨[], [], clampI start 9007199254740991, clampI start 9007199254740991, clampI keep 1000⟩
def newR (start keep : Int) : RB := ⟨none, 0, 0, none, 0, 0, clampI start 9007199254740991, clampI start 9007199254740991, clampI keep 1000⟩
theorem newB_of (w : World) (B : Nat) (start keep : Int) : BoxOf w B (newB start keep) (newR start keep) := ⟨ObjsOf.nil _ _, RdE.nil _ _, rfl, rfl, rfl⟩
def NewRetB (w : World) (start keep : Int) (e : Ending) (w' : World) : Prop := e = .returned (RB.val (newR start keep)) ∧ Below w.heap.size w w'
theorem ret_new {a b c d : Int} (h1 : a = b) (h2 : c = d) : Ending.returned (RB.val ⟨none, 0, 0, none, 0, 0, a, a, c⟩) = .returned (RB.val ⟨none, 0, 0, none, 0, 0, b, b, d⟩) := by rw [h1, h2]

set_option maxRecDepth 100000 in
set_option maxHeartbeats 2000000 in
theorem new_any (start keep : Int) (w : World) : Calls Try.prog 29 #[.int .i64 start, .int .i64 keep] w (NewRetB w start keep) := by
  have hZ0 : BoxAt (w.alloc (.cells #[.slice none 0 0, .slice none 0 0, .int .i64 0, .int .i64 0, .int .i64 0] 35)) w.heap.size RB.zero := heap_alloc_at rfl
  have hB0 : Below w.heap.size w (w.alloc (.cells #[.slice none 0 0, .slice none 0 0, .int .i64 0, .int .i64 0, .int .i64 0] 35)) := (Below.refl _ _).alloc (Nat.le_refl _) _
  go_enter Try.func29, Try.ntmps29
  go_upto_region 1 with fail
  obtain ⟨W0, hW0⟩ : ∃ W0, (w.alloc (.cells #[.slice none 0 0, .slice none 0 0, .int .i64 0, .int .i64 0, .int .i64 0] 35)) = W0 := ⟨_, rfl⟩
  rw [hW0] at hZ0 hB0 ⊢
  clear hW0
  have z0 := hZ0.cell 0 rfl
  have z1 := hZ0.cell 1 rfl
  have z2 := hZ0.cell 2 rfl
  have z3 := hZ0.cell 3 rfl
  have z4 := hZ0.cell 4 rfl
  dsimp only [RB.zero] at z0 z1 z2 z3 z4
  have y0 := hZ0.frozen 0
  have y1 := hZ0.frozen 1
  have y2 := hZ0.frozen 2
  have y3 := hZ0.frozen 3
  have y4 := hZ0.frozen 4
  have HZ := Lib.hid hZ0
  have HB := Lib.hid hB0
  clear hZ0 hB0
  go_wp2_with fail
  have hS := HZ.out.stored (newR start keep)
  have hg := grownBy_setB W0 w.heap.size (newR start keep)
  refine bodyPost_ret (v := RB.val (newR start keep)) (by simp [results, Try.results29, go_sem, newR, clamp_eq, z0, z1, z2, z3, z4]) rfl ⟨rfl, ?_⟩
  exact Below.setCell (Below.setCell (Below.setCell (Below.setCell (Below.setCell HB.out (Nat.le_refl _) _) (Nat.le_refl _) _) (Nat.le_refl _) _) (Nat.le_refl _) _) (Nat.le_refl _) _

set_option maxRecDepth 100000 in
set_option maxHeartbeats 2000000 in
theorem num_any (n : Int) (w : World) : Calls Try.prog 56 #[.int .i64 n] w fun e w' => e = .returned (RV.val ⟨3, n, ⟨#[]⟩, none, 0, 0, none, 0, 0⟩) ∧ Below w.heap.size w w' := by
  have hZ0 : VAt (w.alloc (.cells #[.int .i64 0, .int .i64 0, .string ⟨#[]⟩, .slice none 0 0, .slice none 0 0] 25)) w.heap.size RV.zero := heap_alloc_at rfl
  have hB0 : Below w.heap.size w (w.alloc (.cells #[.int .i64 0, .int .i64 0, .string ⟨#[]⟩, .slice none 0 0, .slice none 0 0] 25)) := (Below.refl _ _).alloc (Nat.le_refl _) _
  go_enter Try.func56, Try.ntmps56
  go_upto_region 1 with fail
  obtain ⟨W0, hW0⟩ : ∃ W0, (w.alloc (.cells #[.int .i64 0, .int .i64 0, .string ⟨#[]⟩, .slice none 0 0, .slice none 0 0] 25)) = W0 := ⟨_, rfl⟩
  rw [hW0] at hZ0 hB0 ⊢
  clear hW0
  have z0 := hZ0.cell 0 rfl
  have z1 := hZ0.cell 1 rfl
  have z2 := hZ0.cell 2 rfl
  have z3 := hZ0.cell 3 rfl
  have z4 := hZ0.cell 4 rfl
  dsimp only [RV.zero] at z0 z1 z2 z3 z4
  have y0 := hZ0.frozen 0
  have y1 := hZ0.frozen 1
  have y2 := hZ0.frozen 2
  have y3 := hZ0.frozen 3
  have y4 := hZ0.frozen 4
  have HB := Lib.hid hB0
  clear hZ0 hB0
  go_wp2_with fail
  refine bodyPost_ret (v := RV.val ⟨3, n, ⟨#[]⟩, none, 0, 0, none, 0, 0⟩) (by simp [results, Try.results56, go_sem, z0, z1, z2, z3, z4]) rfl ⟨rfl, ?_⟩
  exact Below.stored HB.out (Nat.le_refl _) ⟨3, n, ⟨#[]⟩, none, 0, 0, none, 0, 0⟩

set_option maxRecDepth 100000 in
set_option maxHeartbeats 2000000 in
theorem sameParts_any (w : World) (B : Nat) (u v : Value) (l m : List ByteArray) (hu : Rd w B encS 1 u l) (hv : Rd w B encS 1 v m) :
    Calls Try.prog 49 #[u, v] w fun e w' => e = .returned (.bool (decide (l = m))) ∧ ∃ n, w' = w.drewN n := by
  obtain ⟨p, c, rfl, hlc, hcm⟩ := rd_len hu
  obtain ⟨q, d, rfl, hmd, hdm⟩ := rd_len hv
  have HU := Lib.hid hu
  have HV := Lib.hid hv
  clear hu hv
  by_cases hlen : l.length = m.length
  · have hb : ((l.length : Int) != (m.length : Int)) = false := by simp [hlen]
    have HL := Lib.hid hlen
    have hle : l.length ≤ m.length := by omega
    have hle2 : m.length ≤ l.length := by omega
    clear hlen
    go_enter Try.func49, Try.ntmps49
    go_wp2_with fail
    go_loopw [5] (fun i wr => ∃ k : Nat, k ≤ l.length ∧ i = .int .i64 k ∧ Hid (l.take k = m.take k) ∧ ∃ n, wr = w.drewN n) (fun i _ => l.length - (intOf i).toNat)
    case atStart => exact ⟨0, Nat.zero_le _, rfl, rfl, 0, rfl⟩
    case round =>
      obtain ⟨k, hk, rfl, htk, nr, rfl⟩ := hrel
      by_cases hlt : k < l.length
      · obtain ⟨x, hx⟩ : ∃ x, l[k]? = some x := ⟨_, List.getElem?_eq_getElem hlt⟩
        obtain ⟨y, hy⟩ : ∃ x, m[k]? = some x := ⟨_, List.getElem?_eq_getElem (by omega)⟩
        obtain ⟨b1, o1, rfl, hb1, hc1⟩ := rd_at HU.out hx
        obtain ⟨b2, o2, rfl, hb2, hc2⟩ := rd_at HV.out hy
        have f0 := hc1 0 _ rfl
        have g0 := hc2 0 _ rfl
        rw [Nat.add_zero, Nat.mul_one] at f0 g0
        have hk0 : (0 : Int) ≤ (k : Int) := Int.natCast_nonneg _
        have hk1 : (k : Int) < (l.length : Int) := by omega
        have hk2 : (k : Int) < (m.length : Int) := by omega
        have hq := str_beq x y
        by_cases hxy : x = y
        · have e2 : (x.toList == y.toList) = true := by rw [hq]; simpa using hxy
          have e1 : (x.toList != y.toList) = false := by rw [bne, e2]; rfl
          have HTK : Hid (l.take (k + 1) = m.take (k + 1)) := by
            unfold Hid
            rw [List.take_add_one, List.take_add_one, hx, hy, htk.out, hxy]
          clear hx hy hc1 hc2 hq hxy htk
          go_wp2_with fail
          go_quiet (fail)
          go_wp2_with fail
          go_roundw
          case rel => exact ⟨k + 1, by omega, by go_num, HTK, _, rfl⟩
          case measure => simp [intOf]; omega
        · have e2 : (x.toList == y.toList) = false := by rw [hq]; simpa using hxy
          have e1 : (x.toList != y.toList) = true := by rw [bne, e2]; rfl
          have HNO : Hid (decide (l = m) = false) := eqTake_ne hx hy hxy
          clear hx hy hc1 hc2 hq hxy htk
          go_wp2_with fail
          go_quiet (fail)
          go_wp2_with fail
          go_ret
          exact ⟨ret_bool HNO.out.symm, _, World.drewN_drewN _ _ _⟩
      · obtain rfl : k = l.length := by omega
        have HYES : Hid (decide (l = m) = true) := by
          have h := htk.out
          rw [List.take_of_length_le (Nat.le_refl _), List.take_of_length_le hle2] at h
          unfold Hid
          simpa using h
        go_wp2_with fail
        go_ret
        exact ⟨ret_bool HYES.out.symm, _, rfl⟩
  · have hb : ((l.length : Int) != (m.length : Int)) = true := by simp; omega
    have HNO : Hid (decide (l = m) = false) := by unfold Hid; rw [decide_eq_false_iff_not]; exact fun h => hlen (by rw [h])
    clear hlen
    go_enter Try.func49, Try.ntmps49
    go_wp2_with fail
    go_ret
    exact ⟨ret_bool HNO.out.symm, 0, rfl⟩
end Go.Proofs.Ythgkgjcnmahacaa
end

section
/- Texts in their order. -/
set_option linter.unusedSimpArgs false
set_option linter.unusedVariables false
namespace Go.Proofs.Ythgkgjcnmahacaa
open Go.RowKit Go.OpenShut

theorem less_cmpB : ∀ a b : List UInt8, Op.bytesLess a b = decide (Lib.compareBytes a b < 0)
  | [], [] => by simp [Op.bytesLess, Lib.compareBytes]
  | [], _ :: _ => by simp [Op.bytesLess, Lib.compareBytes]
  | _ :: _, [] => by simp [Op.bytesLess, Lib.compareBytes]
  | x :: a, y :: b => by
    have ih := less_cmpB a b
    unfold Op.bytesLess Lib.compareBytes
    by_cases h1 : x < y
    · simp [h1]
    · by_cases h2 : y < x
      · have : x ≠ y := fun e => by subst e; exact h1 h2
        simp [h1, h2, this]
      · have : x = y := by
          rw [UInt8.lt_iff_toNat_lt] at h1 h2
          exact UInt8.toNat_inj.1 (by omega)
        subst this
        simp [h1, ih]
theorem less_cmp (a b : ByteArray) : Op.bytesLess a.toList b.toList = decide (cmpN a b < 0) := by
  rw [ByteArray.toList_eq, ByteArray.toList_eq]
  exact less_cmpB _ _
/-- The first k objects rise. -/
def RisingTo (os : List (ByteArray × JV)) (k : Nat) : Prop := ∀ (i : Nat) p q, i + 1 < k → os[i]? = some p → os[i + 1]? = some q → cmpN p.1 q.1 < 0
theorem RisingTo.all {os : List (ByteArray × JV)} (h : RisingTo os os.length) : Rising os := by
  intro i j p q hij hi hj
  induction j generalizing q with
  | zero => omega
  | succ j ih =>
    have hl := (List.getElem?_eq_some_iff.1 hj).1
    by_cases e : i = j
    · subst e
      exact h i p q hl hi hj
    · obtain ⟨m, hm⟩ : ∃ m, os[j]? = some m := ⟨_, List.getElem?_eq_getElem (by omega)⟩
      exact cmpN_lt_trans (ih m (by omega) hm) (by have := h j m q hl hm hj; have := cmpN_neg m.1 q.1; omega)
theorem Rising.no {os : List (ByteArray × JV)} {i : Nat} {p q : ByteArray × JV} (hp : os[i]? = some p) (hq : os[i + 1]? = some q) (h : ¬ cmpN p.1 q.1 < 0) : ¬ Rising os := fun hr => h (hr i (i + 1) p q (by omega) hp hq)
end Go.Proofs.Ythgkgjcnmahacaa
end

section
/- slices.Backward at a slice of entries and at a slice of pointers: what it hands to a loop's body, from the last element to the first. -/
set_option linter.unusedSimpArgs false
set_option linter.unusedVariables false
namespace Go.Proofs.Ythgkgjcnmahacaa
open Go.RowKit Go.Shelf

attribute [local go_sem] Oper.semAt_some

/-- What a round keeps: all below n₀, and the block in which the slice is held. -/
def Kq (n₀ Bs : Nat) (W W' : World) : Prop := Below n₀ W W' ∧ W'.heap[Bs]? = W.heap[Bs]?
theorem Kq.refl (n₀ Bs : Nat) (W : World) : Kq n₀ Bs W W := ⟨Below.refl _ _, rfl⟩
theorem Kq.trans {n₀ Bs : Nat} {A B C : World} (h : Kq n₀ Bs A B) (k : Kq n₀ Bs B C) : Kq n₀ Bs A C := ⟨h.1.trans k.1, k.2.trans h.2⟩
theorem Kq.book {n₀ Bs : Nat} {w : World} (hn : n₀ ≤ w.heap.size) (hB : Bs < w.heap.size) (W : World) (l : Nat) (o o' : Obj) (hl : w.heap.size ≤ l) (h : W.heap[l]? = some o) (h1 : o.isCells = false) (h2 : o.isWalk = false) : Kq n₀ Bs W (W.putObj l o') :=
  ⟨belowK_b hn W l o o' hl h h1 h2, World.putObj_heap_other (by omega)⟩
theorem Kq.cell {n₀ Bs : Nat} {W W' : World} (h : Kq n₀ Bs W W') {v : Value} (hc : W.cell? ⟨Bs, 0, none⟩ = some v) : W'.cell? ⟨Bs, 0, none⟩ = some v := (World.cell?_of_block (w := W) h.2).trans hc

/-- What has come when k rounds are over. -/
def backTo {α : Type} (xs : List α) (k : Nat) : List (Nat × α) := (xs.zipIdx.reverse.take k).map fun p => (p.2, p.1)
theorem backTo_succ {α : Type} (xs : List α) (k j : Nat) (x : α) (hk : k < xs.length) (hj : xs.length - 1 - k = j) (hx : xs[j]? = some x) : backTo xs (k + 1) = backTo xs k ++ [(j, x)] := by
  subst hj
  unfold backTo
  rw [List.take_add_one, List.getElem?_reverse (by simpa using hk), List.length_zipIdx, List.getElem?_zipIdx, hx]
  simp
theorem backTo_length {α : Type} (xs : List α) (k : Nat) (hk : k ≤ xs.length) : (backTo xs k).length = k := by simp [backTo]; omega
theorem backTo_all {α : Type} (xs : List α) : (backTo xs xs.length).map (·.2) = xs.reverse := by
  unfold backTo
  rw [List.take_of_length_le (by simp), List.map_map, List.map_reverse]
  congr 1
  apply List.ext_getElem
  · simp
  · intro i h1 h2
    simp

/-- An entry that may be. -/
abbrev OkE := { e : En // e.ok }
def encO (x : OkE) : List Value := encE x.1

set_option maxRecDepth 100000 in
set_option maxHeartbeats 2000000 in
theorem backE1_in (F : Fence) (n : Nat) (h7 : F.fn 116) (hro : F.round = none) (hn : 1 ≤ n) (l Bs n₀ b off cap : Nat) (xs : List OkE) (hlen : xs.length ≤ 4398046511104) (hb : b < n₀) (J Jx : List (Nat × OkE) → World → Prop)
    (hY : ∀ pre x W, J pre W → pre.length < xs.length → YieldAt F (n - 1) Try.prog l #[.int .i64 (x.1 : Nat), .agg #[.int .i64 x.2.1.seq, .string x.2.1.id, .int .i64 x.2.1.what]] W fun e W' =>
      (e = .returned (.bool true) ∧ J (pre ++ [x]) W' ∧ Kq n₀ Bs W W') ∨ (e = .returned (.bool false) ∧ Jx (pre ++ [x]) W'))
    (W : World) (hBs : W.cell? ⟨Bs, 0, none⟩ = some (.slice (some ⟨b, off, none⟩) xs.length cap)) (hc : RowAt W b off encO 3 xs) (h0 : J [] W) :
    CallsIn F n Try.prog 116 #[.func (.yield l) #[] #[], .pointer (some ⟨Bs, 0, none⟩)] W fun e W' => (∃ v, e = .returned v) ∧
      ((∃ ys, ys = backTo xs xs.length ∧ J ys W') ∨ (∃ pre, True ∧ Jx pre W')) := by
  refine callsIn_of_wp Try.func116 rfl h7 ?_ hro
  simp only [Try.ntmps116, List.size_toArray, List.length_cons, List.length_nil, Nat.reduceAdd, Nat.reduceSub, Array.replicate_succ, Array.replicate_zero, List.push_toArray, List.append_toArray, List.nil_append, List.cons_append]
  gi_wp2
  gi_loopw [3] (fun i wr => ∃ k : Nat, k ≤ xs.length ∧ i = .int .i64 ((xs.length : Int) - 1 - (k : Int)) ∧ J (backTo xs k) wr ∧ Kq n₀ Bs W wr)
    (fun i _ => (intOf i + 1).toNat)
  case atStart => exact ⟨0, Nat.zero_le _, by congr 1; omega, h0, Kq.refl _ _ _⟩
  case round =>
    obtain ⟨k, hk, rfl, hJs, hnx⟩ := hrel
    have hcs := hnx.cell hBs
    by_cases hlt : k < xs.length
    · obtain ⟨j, hj⟩ : ∃ j, xs.length - 1 - k = j := ⟨_, rfl⟩
      have ej : (xs.length : Int) - 1 - (k : Int) = (j : Int) := by omega
      have hjl : j < xs.length := by omega
      obtain ⟨x, hx⟩ : ∃ x, xs[j]? = some x := ⟨_, List.getElem?_eq_getElem hjl⟩
      obtain ⟨fn, tmps, assign, body, hy, hR⟩ := hY _ (j, x) wr hJs (by rw [backTo_length _ _ hk]; exact hlt)
      dsimp only at hy
      have c0 := bcs hnx.1 hb (hc j x hx 0 _ rfl)
      have c1 := bcs hnx.1 hb (hc j x hx 1 _ rfl)
      have c2 := bcs hnx.1 hb (hc j x hx 2 _ rfl)
      rw [Nat.add_zero] at c0
      have hT : Hid (backTo xs (k + 1) = backTo xs k ++ [(j, x)]) := backTo_succ xs k j x hlt hj hx
      have HJ := Lib.hid hj
      clear hj hx hY
      have hR' := Lib.hid hR
      clear hR
      gi_wp2
      refine hR'.out.mono ?_
      rintro e W3 (⟨rfl, hJ3, hk3⟩ | ⟨rfl, hJx3⟩)
      · gi_wp2
        go_roundw
        case rel => exact ⟨k + 1, by omega, by congr 1; omega, by rw [hT.out]; exact hJ3, hnx.trans hk3⟩
        case measure => simp [intOf]; omega
      · gi_wp2
        refine bodyPost_ret (results_none rfl _ _ _) rfl ?_
        exact ⟨⟨_, rfl⟩, .inr ⟨_, trivial, hJx3⟩⟩
    · obtain rfl : k = xs.length := by omega
      gi_wp2
      go_end0
      exact ⟨⟨_, rfl⟩, .inl ⟨_, rfl, hJs⟩⟩

set_option maxRecDepth 100000 in
set_option maxHeartbeats 1000000 in
theorem backE1_nil (pa : Option Addr) (ca : Nat) (F : Fence) (n : Nat) (h7 : F.fn 116) (hro : F.round = none) (l Bs : Nat) (J : List (Nat × OkE) → World → Prop) (W : World) (hBs : W.cell? ⟨Bs, 0, none⟩ = some (.slice pa 0 ca)) (h0 : J [] W) :
    CallsIn F n Try.prog 116 #[.func (.yield l) #[] #[], .pointer (some ⟨Bs, 0, none⟩)] W fun e W' => (∃ v, e = .returned v) ∧ J [] W' := by
  refine callsIn_of_wp Try.func116 rfl h7 ?_ hro
  simp only [Try.ntmps116, List.size_toArray, List.length_cons, List.length_nil, Nat.reduceAdd, Nat.reduceSub, Array.replicate_succ, Array.replicate_zero, List.push_toArray, List.append_toArray, List.nil_append, List.cons_append]
  gi_wp2
  gi_loopw [3] (fun i wr => i = .int .i64 (-1) ∧ J [] wr) (fun _ _ => 0)
  case atStart => exact ⟨rfl, h0⟩
  case round =>
    obtain ⟨rfl, hJs⟩ := hrel
    gi_wp2
    go_end0
    exact ⟨⟨_, rfl⟩, hJs⟩

set_option maxHeartbeats 1000000 in
theorem backE_in (F : Fence) (n : Nat) (h5 : F.fn 91) (hro : F.round = none) (v : Value) (w : World) (hv : ∃ a len cap, v = .slice a len cap) :
    CallsIn F n Try.prog 91 #[v] w fun e w' => e = .returned (.func (.func 116) #[] #[.pointer (some ⟨w.heap.size, 0, none⟩)]) ∧ w' = w.alloc (.cells #[v] 33) := by
  obtain ⟨a, len, cap, rfl⟩ := hv
  refine callsIn_of_wp Try.func91 rfl h5 ?_ hro
  simp only [Try.ntmps91, List.size_toArray, List.length_cons, List.length_nil, Nat.reduceAdd, Nat.reduceSub, Array.replicate_succ, Array.replicate_zero, List.push_toArray, List.append_toArray, List.nil_append, List.cons_append]
  gi_wp2
  go_ret
  exact ⟨rfl, rfl⟩

theorem backE_stops (F : Fence) (n : Nat) (h7 : F.fn 116) (hro : F.round = none) (hn : 1 ≤ n) (Bs n₀ : Nat) (v : Value) (xs : List OkE) (hlen : xs.length ≤ 4398046511104) (w : World) (hBs : Bs < w.heap.size) (hn₀ : n₀ ≤ w.heap.size)
    (hc : w.cell? ⟨Bs, 0, none⟩ = some v) (hv : Rd w n₀ encO 3 v xs) :
    SeqStopsK F n Try.prog 116 #[.pointer (some ⟨Bs, 0, none⟩)] (fun x : Nat × OkE => #[.int .i64 (x.1 : Nat), .agg #[.int .i64 x.2.1.seq, .string x.2.1.id, .int .i64 x.2.1.what]]) (Kq n₀ Bs) (fun ys => ys = backTo xs xs.length) (fun _ => True) xs.length w := fun l J Jx W hW _ _ hY h0 => by
  have hc' := (hW.cell (p := ⟨Bs, 0, none⟩) hBs).trans hc
  obtain ⟨p, cap, rfl, h1, h2, h3, h4⟩ := hv
  cases p with
  | none =>
    have hc0 : cap = 0 := h3 rfl
    have hx : xs = [] := List.eq_nil_of_length_eq_zero (by omega)
    subst hx hc0
    exact (backE1_nil _ _ F n h7 hro l Bs J W hc' h0).mono fun e W' ⟨he, hj⟩ => ⟨he, .inl ⟨_, rfl, hj⟩⟩
  | some a =>
    by_cases hx0 : xs.length = 0
    · have hx : xs = [] := List.eq_nil_of_length_eq_zero hx0
      subst hx
      exact (backE1_nil _ _ F n h7 hro l Bs J W hc' h0).mono fun e W' ⟨he, hj⟩ => ⟨he, .inl ⟨_, rfl, hj⟩⟩
    obtain ⟨b, o, rfl, hb, hr⟩ := h4 a rfl (by omega)
    exact backE1_in F n h7 hro hn l Bs n₀ b o cap xs hlen hb J Jx hY W hc' (hr.below hW (by omega)) h0

/-- A pointer to the head of a block. -/
def encPt (b : Nat) : List Value := [.pointer (some ⟨b, 0, none⟩)]
theorem codecPt : Codec encPt 1 := ⟨fun _ => rfl, fun x u hu => by
  simp only [encPt, List.mem_cons, List.not_mem_nil, or_false] at hu
  rcases hu with rfl; rfl, by decide⟩

variable {p : Nat → Prop}
def encPs (x : {b : Nat // p b}) : List Value := encPt x.1

set_option maxRecDepth 100000 in
set_option maxHeartbeats 2000000 in
theorem backQ1_in (F : Fence) (n : Nat) (h7 : F.fn 117) (hro : F.round = none) (hn : 1 ≤ n) (l Bs n₀ b off cap : Nat) (xs : List {b : Nat // p b}) (hlen : xs.length ≤ 17592186044416) (hb : b < n₀) (J Jx : List (Nat × {b : Nat // p b}) → World → Prop)
    (hY : ∀ pre x W, J pre W → pre.length < xs.length → YieldAt F (n - 1) Try.prog l #[.int .i64 (x.1 : Nat), .pointer (some ⟨x.2.1, 0, none⟩)] W fun e W' =>
      (e = .returned (.bool true) ∧ J (pre ++ [x]) W' ∧ Kq n₀ Bs W W') ∨ (e = .returned (.bool false) ∧ Jx (pre ++ [x]) W'))
    (W : World) (hBs : W.cell? ⟨Bs, 0, none⟩ = some (.slice (some ⟨b, off, none⟩) xs.length cap)) (hc : RowAt W b off encPs 1 xs) (h0 : J [] W) :
    CallsIn F n Try.prog 117 #[.func (.yield l) #[] #[], .pointer (some ⟨Bs, 0, none⟩)] W fun e W' => (∃ v, e = .returned v) ∧
      ((∃ ys, ys = backTo xs xs.length ∧ J ys W') ∨ (∃ pre, True ∧ Jx pre W')) := by
  refine callsIn_of_wp Try.func117 rfl h7 ?_ hro
  simp only [Try.ntmps117, List.size_toArray, List.length_cons, List.length_nil, Nat.reduceAdd, Nat.reduceSub, Array.replicate_succ, Array.replicate_zero, List.push_toArray, List.append_toArray, List.nil_append, List.cons_append]
  gi_wp2
  gi_loopw [3] (fun i wr => ∃ k : Nat, k ≤ xs.length ∧ i = .int .i64 ((xs.length : Int) - 1 - (k : Int)) ∧ J (backTo xs k) wr ∧ Kq n₀ Bs W wr)
    (fun i _ => (intOf i + 1).toNat)
  case atStart => exact ⟨0, Nat.zero_le _, by congr 1; omega, h0, Kq.refl _ _ _⟩
  case round =>
    obtain ⟨k, hk, rfl, hJs, hnx⟩ := hrel
    have hcs := hnx.cell hBs
    by_cases hlt : k < xs.length
    · obtain ⟨j, hj⟩ : ∃ j, xs.length - 1 - k = j := ⟨_, rfl⟩
      have ej : (xs.length : Int) - 1 - (k : Int) = (j : Int) := by omega
      have hjl : j < xs.length := by omega
      obtain ⟨x, hx⟩ : ∃ x, xs[j]? = some x := ⟨_, List.getElem?_eq_getElem hjl⟩
      obtain ⟨fn, tmps, assign, body, hy, hR⟩ := hY _ (j, x) wr hJs (by rw [backTo_length _ _ hk]; exact hlt)
      dsimp only at hy
      have c0 := bcs hnx.1 hb (hc j x hx 0 _ rfl)
      rw [Nat.add_zero, Nat.mul_one] at c0
      have hT : Hid (backTo xs (k + 1) = backTo xs k ++ [(j, x)]) := backTo_succ xs k j x hlt hj hx
      have HJ := Lib.hid hj
      clear hj hx hY
      have hR' := Lib.hid hR
      clear hR
      gi_wp2
      refine hR'.out.mono ?_
      rintro e W3 (⟨rfl, hJ3, hk3⟩ | ⟨rfl, hJx3⟩)
      · gi_wp2
        go_roundw
        case rel => exact ⟨k + 1, by omega, by congr 1; omega, by rw [hT.out]; exact hJ3, hnx.trans hk3⟩
        case measure => simp [intOf]; omega
      · gi_wp2
        refine bodyPost_ret (results_none rfl _ _ _) rfl ?_
        exact ⟨⟨_, rfl⟩, .inr ⟨_, trivial, hJx3⟩⟩
    · obtain rfl : k = xs.length := by omega
      gi_wp2
      go_end0
      exact ⟨⟨_, rfl⟩, .inl ⟨_, rfl, hJs⟩⟩

set_option maxRecDepth 100000 in
set_option maxHeartbeats 1000000 in
theorem backQ1_nil (pa : Option Addr) (ca : Nat) (F : Fence) (n : Nat) (h7 : F.fn 117) (hro : F.round = none) (l Bs : Nat) (J : List (Nat × {b : Nat // p b}) → World → Prop) (W : World) (hBs : W.cell? ⟨Bs, 0, none⟩ = some (.slice pa 0 ca)) (h0 : J [] W) :
    CallsIn F n Try.prog 117 #[.func (.yield l) #[] #[], .pointer (some ⟨Bs, 0, none⟩)] W fun e W' => (∃ v, e = .returned v) ∧ J [] W' := by
  refine callsIn_of_wp Try.func117 rfl h7 ?_ hro
  simp only [Try.ntmps117, List.size_toArray, List.length_cons, List.length_nil, Nat.reduceAdd, Nat.reduceSub, Array.replicate_succ, Array.replicate_zero, List.push_toArray, List.append_toArray, List.nil_append, List.cons_append]
  gi_wp2
  gi_loopw [3] (fun i wr => i = .int .i64 (-1) ∧ J [] wr) (fun _ _ => 0)
  case atStart => exact ⟨rfl, h0⟩
  case round =>
    obtain ⟨rfl, hJs⟩ := hrel
    gi_wp2
    go_end0
    exact ⟨⟨_, rfl⟩, hJs⟩

set_option maxHeartbeats 1000000 in
theorem backQ_in (F : Fence) (n : Nat) (h5 : F.fn 92) (hro : F.round = none) (v : Value) (w : World) (hv : ∃ a len cap, v = .slice a len cap) :
    CallsIn F n Try.prog 92 #[v] w fun e w' => e = .returned (.func (.func 117) #[] #[.pointer (some ⟨w.heap.size, 0, none⟩)]) ∧ w' = w.alloc (.cells #[v] 135) := by
  obtain ⟨a, len, cap, rfl⟩ := hv
  refine callsIn_of_wp Try.func92 rfl h5 ?_ hro
  simp only [Try.ntmps92, List.size_toArray, List.length_cons, List.length_nil, Nat.reduceAdd, Nat.reduceSub, Array.replicate_succ, Array.replicate_zero, List.push_toArray, List.append_toArray, List.nil_append, List.cons_append]
  gi_wp2
  go_ret
  exact ⟨rfl, rfl⟩

theorem backQ_stops (F : Fence) (n : Nat) (h7 : F.fn 117) (hro : F.round = none) (hn : 1 ≤ n) (Bs n₀ : Nat) (v : Value) (xs : List {b : Nat // p b}) (hlen : xs.length ≤ 17592186044416) (w : World) (hBs : Bs < w.heap.size) (hn₀ : n₀ ≤ w.heap.size)
    (hc : w.cell? ⟨Bs, 0, none⟩ = some v) (hv : Rd w n₀ encPs 1 v xs) :
    SeqStopsK F n Try.prog 117 #[.pointer (some ⟨Bs, 0, none⟩)] (fun x : Nat × {b : Nat // p b} => #[.int .i64 (x.1 : Nat), .pointer (some ⟨x.2.1, 0, none⟩)]) (Kq n₀ Bs) (fun ys => ys = backTo xs xs.length) (fun _ => True) xs.length w := fun l J Jx W hW _ _ hY h0 => by
  have hc' := (hW.cell (p := ⟨Bs, 0, none⟩) hBs).trans hc
  obtain ⟨p, cap, rfl, h1, h2, h3, h4⟩ := hv
  cases p with
  | none =>
    have hc0 : cap = 0 := h3 rfl
    have hx : xs = [] := List.eq_nil_of_length_eq_zero (by omega)
    subst hx hc0
    exact (backQ1_nil _ _ F n h7 hro l Bs J W hc' h0).mono fun e W' ⟨he, hj⟩ => ⟨he, .inl ⟨_, rfl, hj⟩⟩
  | some a =>
    by_cases hx0 : xs.length = 0
    · have hx : xs = [] := List.eq_nil_of_length_eq_zero hx0
      subst hx
      exact (backQ1_nil _ _ F n h7 hro l Bs J W hc' h0).mono fun e W' ⟨he, hj⟩ => ⟨he, .inl ⟨_, rfl, hj⟩⟩
    obtain ⟨b, o, rfl, hb, hr⟩ := h4 a rfl (by omega)
    exact backQ1_in F n h7 hro hn l Bs n₀ b o cap xs hlen hb J Jx hY W hc' (hr.below hW (by omega)) h0
end Go.Proofs.Ythgkgjcnmahacaa
end

section
set_option linter.unusedSimpArgs false
set_option linter.unusedVariables false
namespace Go.Proofs.Ythgkgjcnmahacaa
open Go.RowKit Go.OpenShut

def lastF (l : List En) (s : List UInt8) : Option Value := l.foldl (fun a e => if s = e.id.data.toList then some (.int .i64 e.what) else a) none
theorem lastF_take {l : List En} {j : Nat} {y : En} (hy : l[j]? = some y) : lastF (l.take (j + 1)) = fun s => if s = y.id.data.toList then some (.int .i64 y.what) else lastF (l.take j) s := by
  funext s
  rw [List.take_add_one, hy]
  simp [lastF]
theorem data_inj (a b : ByteArray) : a.data.toList = b.data.toList ↔ a = b := by
  obtain ⟨⟨x⟩⟩ := a
  obtain ⟨⟨y⟩⟩ := b
  simp
theorem lastF_W (l : List En) (id : ByteArray) : (lastF l id.data.toList).getD (.int .i64 0) = .int .i64 (lastW l id) := by
  suffices ∀ (l : List En) (o : Option Value) (a : Int), o.getD (.int .i64 0) = .int .i64 a →
    (l.foldl (fun a e => if id.data.toList = e.id.data.toList then some (.int .i64 e.what) else a) o).getD (.int .i64 0) = .int .i64 (l.foldl (fun a e => if e.id = id then e.what else a) a) from this l none 0 rfl
  intro l
  induction l with
  | nil => intro o a h; exact h
  | cons e l ih =>
    intro o a h
    simp only [List.foldl_cons]
    refine ih _ _ ?_
    by_cases h1 : e.id = id
    · rw [if_pos h1, if_pos (by rw [h1])]; rfl
    · rw [if_neg h1, if_neg (fun e1 => h1 ((data_inj _ _).1 e1).symm)]; exact h
theorem zeroInt (w : World) : (zeroValue 3).run Try.prog w = .ok (.int .i64 0) w := by kernel_rfl

set_option maxRecDepth 100000 in
set_option maxHeartbeats 1000000 in
theorem right_head (w : World) (B : Nat) (v : Value) (l : List En) (floor seq : Int) (hv : RdE w B v l) (hf : (Lit.int .i64 floor).wf = true) (hs : (Lit.int .i64 seq).wf = true) (hh : headB l.length floor seq = false) :
    Calls Try.prog 57 #[v, .int .i64 floor, .int .i64 seq] w fun e w' => e = .returned (.bool (rightB l floor seq)) ∧ Below w.heap.size w w' := by
  rw [rightB_no hh]
  obtain ⟨_, p, c, rfl, hlc, hcm, hp0, hp⟩ := hv
  unfold maxLen at hcm
  have b1 := bounds_i64 hf
  have b2 := bounds_i64 hs
  have hd : 0 ≤ floor → floor ≤ seq → seq ≤ 9007199254740991 → ((seq - floor != (l.length : Int)) = true) := by
    intro h1 h2 h3
    unfold headB at hh
    simp only [decide_eq_false_iff_not] at hh
    rw [bne_iff_ne]
    intro h4
    exact hh ⟨h1, h2, h3, h4⟩
  clear hh hp hp0
  go_enter Try.func57, Try.ntmps57
  go_wp2_with fail
  all_goals (go_ret; exact ⟨rfl, Below.refl _ _⟩)

set_option maxRecDepth 100000 in
set_option maxHeartbeats 1000000 in
theorem right_yes (w : World) (v : Value) (l : List En) (floor seq : Int) (hv : RdE w w.heap.size v l) (hf : (Lit.int .i64 floor).wf = true) (hs : (Lit.int .i64 seq).wf = true) (hh : headB l.length floor seq = true) :
    Calls Try.prog 57 #[v, .int .i64 floor, .int .i64 seq] w fun e w' => e = .returned (.bool (rightB l floor seq)) ∧ Below w.heap.size w w' := by
  obtain ⟨hok, p, c, rfl, hlc, hcm, hp0, hp⟩ := hv
  unfold maxLen at hcm
  have HH := Lib.hid hh
  unfold headB at hh
  simp only [decide_eq_true_eq] at hh
  obtain ⟨h1, h2, h3, h4⟩ := hh
  have hne : (seq - floor != (l.length : Int)) = false := by rw [bne_eq_false_iff_eq]; exact h4
  have hlen : (l.length : Int) ≤ 9007199254740991 := by omega
  have h5 : 0 ≤ seq := by omega
  have hok' := Lib.hid hok
  clear h4 hf hs hok
  have hmm := @run_makeMap Try.prog
  have HM0 := MapF.made w Try.prog 9
  have HB0 : Below w.heap.size w (w.alloc (.map #[] 0)) := (Below.refl _ w).alloc (Nat.le_refl _) _
  go_enter Try.func57, Try.ntmps57
  go_wp2_with fail
  clear hmm
  go_loopw [32] (fun i wr => ∃ k : Nat, k ≤ l.length ∧ i = .int .i64 k ∧ Hid (∀ j, j < k → okAt l floor j = true) ∧ MapF wr Try.prog 9 w.heap.size k (lastF (l.take k)) ∧ Below w.heap.size w wr) (fun i _ => l.length - (intOf i).toNat)
  case atStart => exact ⟨0, Nat.zero_le _, rfl, fun j hj => by omega, HM0, HB0⟩
  case round =>
    obtain ⟨k, hk, rfl, HO, HM, HB⟩ := hrel
    by_cases hlt : k < l.length
    · obtain ⟨b1, o1, rfl, hb1, hc1⟩ := slice_at (k := k) hp0 hp (by omega)
      obtain ⟨x, hx, g10, g11, g12⟩ := hc1 k hlt
      have okx := get_ok hok'.out hx
      have HX := Lib.hid hx
      have bx := bounds_i64 okx.1
      have bw := bounds_i64 okx.2.2
      have hxs := okx.2.1
      clear hx okx hp hp0 hc1
      rw [← HB.cell (p := ⟨_, _, none⟩) hb1] at g10 g11 g12
      have hlook : ∀ o, (Instr.lookup 132 (.map (some w.heap.size)) (.string x.id) false).run Try.prog (wr.alloc o) = .ok (.int .i64 (lastW (l.take k) x.id)) (wr.alloc o) := by
        intro o
        rw [(HM.alloc o).look Try.underlying9 Try.underlying132 (zeroInt _) hxs, lastF_W]
      have HT := Lib.hid (lastF_take HX.out)
      have HOK := Lib.hid (okAt_of (floor := floor) HX.out)
      cases hsq : (x.seq != floor + 1 + k) with
      | true =>
        have HBAD : Hid (okAt l floor k = false) := by
          rw [bne_iff_ne] at hsq
          exact okAt_bad HX.out (.inl hsq)
        go_wp2_with fail
        go_ret
        exact ⟨ret_bool (rightB_bad hlt HBAD.out).symm, HB.alloc HB.size _⟩
      | false =>
        cases hmay : mayB (lastW (l.take k) x.id) x.what with
        | false =>
          have HBAD : Hid (okAt l floor k = false) := by
            have := HOK.out
            rw [hmay, Bool.and_false] at this
            exact this
          go_wp2_with (go_at_call 90; refine (may_any _ _ _).mono ?_; rintro e w' ⟨rfl, rfl⟩)
          go_ret
          exact ⟨ret_bool (rightB_bad hlt HBAD.out).symm, HB.alloc HB.size _⟩
        | true =>
          have hnx : Hid (∀ j, j < k + 1 → okAt l floor j = true) := by
            intro j hj
            by_cases e : j = k
            · rw [e]
              have := HOK.out
              rw [hmay] at this
              rw [bne_eq_false_iff_eq] at hsq
              rw [this, hsq]; simp
            · exact HO.out j (by omega)
          have hkm : k < maxLen := by unfold maxLen; omega
          have HM1 := HM.alloc (.cells #[.int .i64 x.seq, .string x.id, .int .i64 x.what] 48)
          go_wp2_with (first | (go_at_call 90; refine (may_any _ _ _).mono ?_; rintro e w' ⟨rfl, rfl⟩) | (at_mapUpdate; go_must (refine wpList_store_F _ rfl _ _ _ _ rfl 9 3 Try.underlying9 Try.underlying132 _ _ _ rfl HM1 hkm _ rfl hxs _ rfl ?_); intro w1 hM2 hg2))
          go_roundw
          case rel => exact ⟨k + 1, by omega, by go_num, hnx, by rw [HT.out]; exact hM2, (HB.alloc HB.size _).grown hg2 (by simp; have := HB.size; omega) (fun j e => by cases e; exact Nat.le_refl _)⟩
          case measure => simp [intOf]; omega
    · obtain rfl : k = l.length := by omega
      have HR := Lib.hid (rightB_yes HH.out HO.out)
      go_wp2_with fail
      go_ret
      exact ⟨ret_bool HR.out.symm, HB⟩

theorem right_any (w : World) (v : Value) (l : List En) (floor seq : Int) (hv : RdE w w.heap.size v l) (hf : (Lit.int .i64 floor).wf = true) (hs : (Lit.int .i64 seq).wf = true) :
    Calls Try.prog 57 #[v, .int .i64 floor, .int .i64 seq] w fun e w' => e = .returned (.bool (rightB l floor seq)) ∧ Below w.heap.size w w' := by
  cases hh : headB l.length floor seq with
  | true => exact right_yes w v l floor seq hv hf hs hh
  | false => exact right_head w _ v l floor seq hv hf hs hh
end Go.Proofs.Ythgkgjcnmahacaa
end
