import Derived.Test.YthgkgjcnmahacaaSk01
import Derived.Test.YthgkgjcnmahacaaSk00
import Derived.Laws.CopyRow
import Derived.Laws.CopyOwn
import Derived.Shelf.Spec.SlicesInsertGrow
import Derived.Deep.RegionLaw
import Derived.Outline
import Derived.BigQuiet
import Derived.Deep.RegionHeld3
import Derived.ArgAppend
import Derived.WalkLawsBesides
section
/- store.changed: a box with an entry more, walked. -/
set_option linter.unusedSimpArgs false
set_option linter.unusedVariables false
namespace Go.Proofs.Ythgkgjcnmahacaa
open Go.RowKit Go.OpenShut

/-- A box with other objects, and an entry more. -/
def chgB (b : BoxD) (os : List (ByteArray × JV)) (id : ByteArray) (what : Int) : BoxD :=
  ⟨os, addL b.trail b.keep ⟨b.seq + 1, id, what⟩, b.seq + 1, addF b.trail b.floor b.keep ⟨b.seq + 1, id, what⟩, b.keep⟩
theorem addL_oks {l : List En} {keep : Int} {e : En} (hl : ∀ x ∈ l, x.ok) (he : e.ok) : ∀ x ∈ addL l keep e, x.ok := fun x hx => by
  rcases List.mem_append.1 (List.mem_of_mem_drop hx) with h | h
  · exact hl x h
  · obtain rfl : x = e := by simpa using h
    exact he
theorem BoxAt.set2 {W : World} {g : Nat} {r : RB} (h : BoxAt W g r) (q : Int) : BoxAt (W.setCell ⟨g, 2, none⟩ (.int .i64 q)) g { r with sq := q } := by
  unfold BoxAt at h ⊢
  simp [World.setCell, Array.getElem?_modify, h]
theorem BoxAt.set13 {W : World} {g : Nat} {r : RB} (h : BoxAt W g r) (p : Option Addr) (n c : Nat) (f : Int) : BoxAt ((W.setCell ⟨g, 1, none⟩ (.slice p n c)).setCell ⟨g, 3, none⟩ (.int .i64 f)) g { r with pt := p, nt := n, ct := c, fl := f } := by
  unfold BoxAt at h ⊢
  simp [World.setCell, Array.getElem?_modify, h]
theorem wf_bounds {n : Int} (h : (Lit.int .i64 n).wf = true) : -9223372036854775808 ≤ n ∧ n ≤ 9223372036854775807 := by
  simp [Lit.wf, IntKind.min, IntKind.max, IntKind.signed, IntKind.bits] at h
  omega
theorem wf_of {n : Int} (h0 : -9223372036854775808 ≤ n) (h1 : n ≤ 9223372036854775807) : (Lit.int .i64 n).wf = true := by
  simp [Lit.wf, IntKind.min, IntKind.max, IntKind.signed, IntKind.bits]
  omega

/-- What the trail says is in the call's own list. -/
structure ChgMid (w W : World) (base B : Nat) (b : BoxD) (q : RB) : Prop where
  box : BoxAt W w.heap.size q
  zero : BoxAt W (w.heap.size + 1) RB.zero
  new : NewBox W base B b q
  below : Below w.heap.size w W
  b1 : (Value.slice q.po q.no q.co).ownBlock ≠ some (w.heap.size + 1)
  b2 : (Value.slice q.pt q.nt q.ct).ownBlock ≠ some (w.heap.size + 1)

set_option maxRecDepth 100000 in
set_option maxHeartbeats 4000000 in
theorem changed_any (b : BoxD) (r : RB) (w : World) (base B : Nat) (id : ByteArray) (what : Int) (hBw : B ≤ w.heap.size) (hbase : base ≤ w.heap.size) (hb : NewBox w base B b r) (hs0 : (Lit.int .i64 b.seq).wf = true) (hs1 : b.seq < 9007199254740991) (hf : (Lit.int .i64 b.floor).wf = true) (hk : (Lit.int .i64 b.keep).wf = true)
    (hid : id.size ≤ maxLen) (hwh : (Lit.int .i64 what).wf = true) (hlen : (b.trail.length + 1) * 32 ≤ 140737488355328) :
    Calls Try.prog 66 #[r.val, .string id, .int .i64 what] w fun e w' => ∃ q, e = .returned (RB.val q) ∧ NewBox w' base B (chgB b b.objs id what) q ∧ Below w.heap.size w w' := by
  obtain ⟨po, no, co, pt, nt, ct, sq, fl, kp⟩ := r
  obtain ⟨⟨ros, hro, hms⟩, htr, hok, hsq, hfl, hkp⟩ := hb
  dsimp only [RB.val] at *
  have hws := wf_bounds hs0
  rw [hsq] at hws hs1
  have hA0 : BoxAt ((w.alloc (.cells #[.slice po no co, .slice pt nt ct, .int .i64 sq, .int .i64 fl, .int .i64 kp] 35)).alloc (.cells #[.slice none 0 0, .slice none 0 0, .int .i64 0, .int .i64 0, .int .i64 0] 35)) w.heap.size ⟨po, no, co, pt, nt, ct, sq, fl, kp⟩ := heap_alloc_lt (by simp) (heap_alloc_at rfl)
  have hZ0 : BoxAt ((w.alloc (.cells #[.slice po no co, .slice pt nt ct, .int .i64 sq, .int .i64 fl, .int .i64 kp] 35)).alloc (.cells #[.slice none 0 0, .slice none 0 0, .int .i64 0, .int .i64 0, .int .i64 0] 35)) (w.heap.size + 1) RB.zero := heap_alloc_at (by simp)
  have hB0 := below2 w (.cells #[.slice po no co, .slice pt nt ct, .int .i64 sq, .int .i64 fl, .int .i64 kp] 35) (.cells #[.slice none 0 0, .slice none 0 0, .int .i64 0, .int .i64 0, .int .i64 0] 35)
  have hwq : (Lit.int .i64 (b.seq + 1)).wf = true := wf_of (by rw [hsq]; omega) (by rw [hsq]; omega)
  have HQ : Hid (En.ok ⟨b.seq + 1, id, what⟩) := ⟨hwq, hid, hwh⟩
  have HRO := Lib.hid hro
  have HRT := Lib.hid htr
  have HOK := Lib.hid hok
  have HMS := Lib.hid hms
  have HEQ : Hid (b.seq = sq ∧ b.floor = fl ∧ b.keep = kp) := ⟨hsq, hfl, hkp⟩
  have HF : Hid ((Lit.int .i64 b.floor).wf = true ∧ (Lit.int .i64 b.keep).wf = true ∧ (b.trail.length + 1) * 32 ≤ 140737488355328) := ⟨hf, hk, hlen⟩
  clear hok hro hms hsq hfl hkp hs0 hf hk hwq hid hwh hlen
  go_enter Try.func66, Try.ntmps66
  go_upto_region 1 with fail
  obtain ⟨W0, hW0⟩ : ∃ W0, ((w.alloc (.cells #[.slice po no co, .slice pt nt ct, .int .i64 sq, .int .i64 fl, .int .i64 kp] 35)).alloc (.cells #[.slice none 0 0, .slice none 0 0, .int .i64 0, .int .i64 0, .int .i64 0] 35)) = W0 := ⟨_, rfl⟩
  have hws0 : W0.heap.size = w.heap.size + 1 + 1 := by rw [← hW0]; simp
  rw [hW0] at hA0 hZ0 hB0 ⊢
  clear hW0
  have c2 := hA0.cell 2 rfl
  have x2 := hA0.frozen 2
  dsimp only at c2
  have hws1 := hws.1
  clear hws
  go_upto_region 2 with fail
  have hA1 := hA0.set2 (sq + 1)
  have hZ1 := hZ0.kept (grownBy_set W0 w.heap.size 2 (.int .i64 (sq + 1))) (by omega)
  have hB1 : Below w.heap.size w (W0.setCell ⟨w.heap.size, 2, none⟩ (.int .i64 (sq + 1))) := hB0.setCell (Nat.le_refl _) _
  obtain ⟨W1, hW1⟩ : ∃ W1, W0.setCell ⟨w.heap.size, 2, none⟩ (.int .i64 (sq + 1)) = W1 := ⟨_, rfl⟩
  have hz1 : W1.heap.size = w.heap.size + 1 + 1 := by rw [← hW1]; simp [hws0]
  rw [hW1] at hA1 hZ1 hB1 ⊢
  clear hW1 hA0 hZ0 hB0 hws0 c2 x2 hws1
  have a0 := hA1.cell 0 rfl
  have a1 := hA1.cell 1 rfl
  have a2 := hA1.cell 2 rfl
  have a3 := hA1.cell 3 rfl
  have a4 := hA1.cell 4 rfl
  dsimp only at a0 a1 a2 a3 a4
  have hadd := add_any W1 (.slice pt nt ct) b.trail fl kp ⟨sq + 1, id, what⟩ ((HRT.out.rd codecE).below hB1 hB1.size) (by rw [← HEQ.out.2.1]; exact HF.out.1) (by rw [← HEQ.out.2.2]; exact HF.out.2.1) HF.out.2.2
  have HADD := Lib.hid hadd
  have HA := Lib.hid hA1
  have HZ := Lib.hid hZ1
  have HB := Lib.hid hB1
  have HZ1 := Lib.hid hz1
  have hz := hA1.lt
  clear hadd hA1 hZ1 hB1 hz1
  go_upto_region 3 with (go_at_call 101; refine HADD.out.mono ?_; rintro e w2 ⟨u, rfl, ho2, hb2⟩; obtain ⟨p2, c2, hu2, _, _⟩ := ho2.len; subst hu2; (have hA2 := HA.out.under hb2 hz); (have d1 := hA2.cell 1 rfl); (have d3 := hA2.cell 3 rfl); (have x1 := hA2.frozen 1); (have x3 := hA2.frozen 3))
  have hA3 := hA2.set13 p2 (addL b.trail kp ⟨sq + 1, id, what⟩).length c2 (addF b.trail fl kp ⟨sq + 1, id, what⟩)
  obtain ⟨W3, hW3⟩ : ∃ W3, (w2.setCell ⟨w.heap.size, 1, none⟩ (.slice p2 (addL b.trail kp ⟨sq + 1, id, what⟩).length c2)).setCell ⟨w.heap.size, 3, none⟩ (.int .i64 (addF b.trail fl kp ⟨sq + 1, id, what⟩)) = W3 := ⟨_, rfl⟩
  have hg3 : w2.grownBy W3 (some w.heap.size) := by rw [← hW3]; exact (grownBy_set w2 _ 1 _).trans (grownBy_set _ _ 3 _)
  rw [hW3] at hA3 ⊢
  clear hW3
  have hz2 := hb2.size
  have hZ3 : BoxAt W3 (w.heap.size + 1) RB.zero := (HZ.out.under hb2 (by have := HZ1.out; omega)).kept hg3 (by omega)
  have hbb2 : Below w.heap.size w w2 := HB.out.trans (hb2.mono (by have := HZ1.out; omega))
  have hlt1 := fun k (e : (Value.slice po no co).ownBlock = some k) => (HRO.out.lt k e).2
  have n1 : (Value.slice po no co).ownBlock ≠ some w.heap.size := fun e => by have := hlt1 _ e; omega
  have n2 : (Value.slice p2 (addL b.trail kp ⟨sq + 1, id, what⟩).length c2).ownBlock ≠ some w.heap.size := fun e => by have := (ho2.lt _ e).1; have := HZ1.out; omega
  have hM : ChgMid w W3 base B (chgB b b.objs id what) ⟨po, no, co, p2, (addL b.trail kp ⟨sq + 1, id, what⟩).length, c2, sq + 1, addF b.trail fl kp ⟨sq + 1, id, what⟩, kp⟩ := by
    obtain ⟨e1, e2, e3⟩ := HEQ.out
    refine ⟨hA3, hZ3, ?_, hbb2.grown hg3 (by have := HZ1.out; omega) (fun a e => by cases e; exact Nat.le_refl _), fun e => by have := hlt1 _ e; omega, fun e => by have := (ho2.lt _ e).1; have := HZ1.out; omega⟩
    refine NewBox.kept (W := w2) (g := w.heap.size) ⟨⟨ros, HRO.out.below hbb2 (Nat.le_refl _), HMS.out.under (hbb2.mono hBw) (Nat.le_refl _)⟩, ?_, ?_, ?_, ?_, ?_⟩ hg3 n1 n2 (by have := hbb2.size; omega) hBw
    · show Own w2 base 48 encE 3 _ (addL b.trail b.keep ⟨b.seq + 1, id, what⟩)
      rw [e1, e3]
      exact ho2.mono (by have := HZ1.out; omega)
    · exact addL_oks HOK.out HQ.out
    · show b.seq + 1 = sq + 1
      rw [e1]
    · show addF b.trail b.floor b.keep ⟨b.seq + 1, id, what⟩ = _
      rw [e1, e2, e3]
    · exact e3
  have HM := Lib.hid hM
  have g0 := hM.box.cell 0 rfl
  have g1 := hM.box.cell 1 rfl
  have g2 := hM.box.cell 2 rfl
  have g3 := hM.box.cell 3 rfl
  have g4 := hM.box.cell 4 rfl
  have z0 := hM.zero.cell 0 rfl
  have z1 := hM.zero.cell 1 rfl
  have z2 := hM.zero.cell 2 rfl
  have z3 := hM.zero.cell 3 rfl
  have z4 := hM.zero.cell 4 rfl
  dsimp only [RB.zero] at g0 g1 g2 g3 g4 z0 z1 z2 z3 z4
  have y0 := hM.zero.frozen 0
  have y1 := hM.zero.frozen 1
  have y2 := hM.zero.frozen 2
  have y3 := hM.zero.frozen 3
  have y4 := hM.zero.frozen 4
  clear hM a0 a1 a2 a3 a4 d1 d3 x1 x3 hA2 hA3 hZ3 hbb2 hlt1 n1 n2 ho2 hb2 hg3 hz hz2
  go_wp2_with fail
  have hg := grownBy_setB W3 (w.heap.size + 1) ⟨po, no, co, p2, (addL b.trail kp ⟨sq + 1, id, what⟩).length, c2, sq + 1, addF b.trail fl kp ⟨sq + 1, id, what⟩, kp⟩
  refine bodyPost_ret (v := RB.val ⟨po, no, co, p2, (addL b.trail kp ⟨sq + 1, id, what⟩).length, c2, sq + 1, addF b.trail fl kp ⟨sq + 1, id, what⟩, kp⟩) (by simp [results, Try.results66, go_sem, z0, z1, z2, z3, z4]) rfl ⟨_, rfl, HM.out.new.kept hg HM.out.b1 HM.out.b2 (by have := HM.out.below.size; omega) (by omega), HM.out.below.grown hg (by have := HM.out.below.size; omega) (fun a e => by cases e; omega)⟩
end Go.Proofs.Ythgkgjcnmahacaa
end

section
/- copy at elements of several cells, and what becomes of a row. Plain laws over any program. -/
set_option linter.unusedSimpArgs false
set_option linter.unusedVariables false
namespace Go.Proofs.Ythgkgjcnmahacaa
open Go Go.RowKit

theorem setRow_at (w : World) (g : Nat) (cur c : Array Value) (t : TypeId) (fr : Nat × Nat) (h : w.heap[g]? = some (.cells cur t fr)) : (w.setRow g c).heap[g]? = some (.cells c t fr) := by
  simp [World.setRow, Array.getElem?_modify, h]
theorem setRow_grown (w : World) (g : Nat) (c : Array Value) : w.grownBy (w.setRow g c) (some g) :=
  ⟨rfl, rfl, rfl, by simp, fun k _ hk => by
    simp only [World.setRow, Array.getElem?_modify]
    rw [if_neg (fun e => hk (by rw [e]))]⟩
section
variable {P : Program} {α : Type} {enc : α → List Value} {sz bytes : Nat} {t e : TypeId}
theorem run_copy_rowN (w : World) (dT sT ty elem : TypeId) (g o dLen dCap : Nat) (a : Addr) (sLen sCap n : Nat) (cur : Array Value) (t : TypeId) (cs : List Value)
    (hu : P.underlying dT = some (.slice elem)) (hs : (P.info? elem).map (·.size) = some sz)
    (hg : w.heap[g]? = some (.cells cur t (0, 0))) (hm : Nat.min sLen dLen = n) (hn : cs.length = n * sz)
    (hsrc : ∀ j v, cs[j]? = some v → w.cell? (a.add j) = some v) (hfit : o + cs.length ≤ cur.size) (h1 : ∀ v ∈ cs, v.oneCell' = true) :
    (Builtin.copy_ #[dT, sT] ty #[.slice (some ⟨g, o, none⟩) dLen dCap, .slice (some a) sLen sCap]).run P w =
      .ok (goInt n) (w.setRow g (cur.toList.take o ++ cs ++ cur.toList.drop (o + cs.length)).toArray) := by
  have hl := run_loadCells_list (P := P) w a cs hsrc
  have hst := run_storeCells_at P g o t cs 0 cur w hg (by simpa using hfit) h1
  cases hq : P.info? elem with
  | none => simp [hq] at hs
  | some i =>
    have hi : i.size = sz := by simpa [hq] using hs
    simp [Builtin.copy_, run_underlying hu, Builtin.lenOf, Builtin.firstCells, sizeOf, typeInfo, hq, hi, hm, ← hn, hl, hst]

/-- A row known whole is owned. -/
theorem Own.ofRow {w : World} {base g n cap : Nat} {xs : List α} {cs : Array Value} (C : Codec enc sz) (h : w.heap[g]? = some (.cells cs e (0, 0))) (hc : cs.toList.take (n * sz) = cellsOf enc xs) (hn : n = xs.length) (hg : base ≤ g) (hnc : n ≤ cap) (hm : cap ≤ maxLen) (hs : cs.size = cap * sz) :
    Own w base e enc sz (.slice (some ⟨g, 0, none⟩) n cap) xs := by
  subst hn
  exact ⟨cellsOf_len C xs, .inr ⟨g, cap, cs, rfl, hg, h, hnc, hm, hs, hc⟩⟩
theorem Own.row {w : World} {base n cap : Nat} {p : Option Addr} {xs : List α} (h : Own w base e enc sz (.slice p n cap) xs) (hp : 0 < cap ∨ p ≠ none) :
    ∃ g cur, p = some ⟨g, 0, none⟩ ∧ base ≤ g ∧ w.heap[g]? = some (.cells cur e (0, 0)) ∧ n = xs.length ∧ n ≤ cap ∧ cap ≤ maxLen ∧ cur.size = cap * sz ∧ cur.toList.take (n * sz) = cellsOf enc xs := by
  obtain ⟨_, h⟩ := h
  rcases h with ⟨hv, _⟩ | ⟨g, cap', cur, hv, hg, hh, hnc, hcm, hcs, ht⟩
  · simp only [Value.slice.injEq] at hv
    obtain ⟨rfl, _, rfl⟩ := hv
    rcases hp with h | h
    · omega
    · exact absurd rfl h
  · simp only [Value.slice.injEq] at hv
    obtain ⟨rfl, rfl, rfl⟩ := hv
    exact ⟨g, cur, rfl, hg, hh, rfl, hnc, hcm, hcs, ht⟩
theorem cells_take (C : Codec enc sz) (xs : List α) (k : Nat) : (cellsOf enc xs).take (k * sz) = cellsOf enc (xs.take k) := by
  have h1 : cellsOf enc xs = cellsOf enc (xs.take k) ++ cellsOf enc (xs.drop k) := by rw [← cellsOf_append, List.take_append_drop]
  by_cases h : k ≤ xs.length
  · have h3 : (cellsOf enc (xs.take k)).length = k * sz := by rw [cellsOf_len C, List.length_take, Nat.min_eq_left h]
    rw [h1, ← h3, List.take_left]
  · rw [List.take_of_length_le (l := xs) (by omega), List.take_of_length_le]
    rw [cellsOf_len C]
    exact Nat.mul_le_mul_right _ (by omega)
/-- A row whose head is opened at element i for one more: the copies of Insert. -/
theorem row_insert (C : Codec enc sz) {cur : List Value} {xs : List α} {n cap i : Nat} {x : α} (hn : n = xs.length) (ht : cur.take (i * sz) = cellsOf enc (xs.take i)) (hi : i ≤ n) (hl : (n + 1) * sz ≤ cur.length) :
    let row1 := cur.take ((i + 1) * sz) ++ cellsOf enc (xs.drop i) ++ cur.drop ((i + 1) * sz + (cellsOf enc (xs.drop i)).length)
    (row1.take (i * sz) ++ enc x ++ row1.drop (i * sz + (enc x).length)).take ((n + 1) * sz) = cellsOf enc (xs.take i ++ x :: xs.drop i) := by
  intro row1
  have hx := C.len x
  have hd : (cellsOf enc (xs.drop i)).length = (n - i) * sz := by rw [cellsOf_len C, List.length_drop, hn]
  have hi1 : (i + 1) * sz = i * sz + sz := by rw [Nat.add_mul, Nat.one_mul]
  have hn1 : (n + 1) * sz = i * sz + sz + (n - i) * sz := by
    have : n + 1 = i + 1 + (n - i) := by omega
    rw [this, Nat.add_mul, Nat.add_mul, Nat.one_mul]
  have h1 : row1.take (i * sz) = cellsOf enc (xs.take i) := by
    rw [← ht]
    show (cur.take ((i + 1) * sz) ++ cellsOf enc (xs.drop i) ++ _).take (i * sz) = _
    rw [List.append_assoc, List.take_append_of_le_length (by rw [List.length_take]; omega), List.take_take, Nat.min_eq_left (by omega)]
  have hlt : (cur.take ((i + 1) * sz)).length = i * sz + sz := by rw [List.length_take]; omega
  have h2 : row1.drop (i * sz + (enc x).length) = cellsOf enc (xs.drop i) ++ cur.drop ((i + 1) * sz + (cellsOf enc (xs.drop i)).length) := by
    rw [hx, ← hlt]
    show (cur.take ((i + 1) * sz) ++ cellsOf enc (xs.drop i) ++ _).drop _ = _
    rw [List.append_assoc, List.drop_left]
  rw [h1, h2, cellsOf_append]
  have e1 : cellsOf enc (x :: xs.drop i) = enc x ++ cellsOf enc (xs.drop i) := by simp [cellsOf]
  have hl1 : (cellsOf enc (xs.take i)).length = i * sz := by rw [← ht, List.length_take]; omega
  rw [e1, ← List.append_assoc (cellsOf enc (xs.take i)), ← List.append_assoc (cellsOf enc (xs.take i) ++ enc x), List.take_append_of_le_length (by simp only [List.length_append]; omega), List.take_of_length_le (by simp only [List.length_append]; omega)]
/-- The same where the element is laid first. -/
theorem row_insert2 (C : Codec enc sz) {cur : List Value} {xs : List α} {n cap i : Nat} {x : α} (hn : n = xs.length) (ht : cur.take (i * sz) = cellsOf enc (xs.take i)) (hi : i ≤ n) (hl : (n + 1) * sz ≤ cur.length) :
    let row1 := cur.take (i * sz) ++ enc x ++ cur.drop (i * sz + (enc x).length)
    (row1.take ((i + 1) * sz) ++ cellsOf enc (xs.drop i) ++ row1.drop ((i + 1) * sz + (cellsOf enc (xs.drop i)).length)).take ((n + 1) * sz) = cellsOf enc (xs.take i ++ x :: xs.drop i) := by
  intro row1
  have hx := C.len x
  have hd : (cellsOf enc (xs.drop i)).length = (n - i) * sz := by rw [cellsOf_len C, List.length_drop, hn]
  have hi1 : (i + 1) * sz = i * sz + sz := by rw [Nat.add_mul, Nat.one_mul]
  have hn1 : (n + 1) * sz = i * sz + sz + (n - i) * sz := by
    have : n + 1 = i + 1 + (n - i) := by omega
    rw [this, Nat.add_mul, Nat.add_mul, Nat.one_mul]
  have hl1 : (cur.take (i * sz)).length = i * sz := by rw [List.length_take]; omega
  have h1 : row1.take ((i + 1) * sz) = cellsOf enc (xs.take i) ++ enc x := by
    rw [← ht, hi1]
    show (cur.take (i * sz) ++ enc x ++ _).take (i * sz + sz) = _
    rw [List.take_append_of_le_length (by simp only [List.length_append]; omega), List.take_of_length_le (by simp only [List.length_append]; omega)]
  rw [h1, cellsOf_append]
  have e1 : cellsOf enc (x :: xs.drop i) = enc x ++ cellsOf enc (xs.drop i) := by simp [cellsOf]
  have hl2 : (cellsOf enc (xs.take i)).length = i * sz := by rw [← ht, hl1]
  rw [e1, List.take_append_of_le_length (by simp only [List.length_append]; omega), List.take_of_length_le (by simp only [List.length_append]; omega), List.append_assoc]
end
end Go.Proofs.Ythgkgjcnmahacaa
end

section
/- slices.Insert of one object into a slice of the call's own, walked. -/
set_option linter.unusedSimpArgs false
set_option linter.unusedVariables false
namespace Go.Proofs.Ythgkgjcnmahacaa
open Go.RowKit Go.OpenShut

theorem gb_drew {w w' : World} {row : Option Nat} (h : w.drew.grownBy w' row) : w.grownBy w' row := ⟨h.os, h.tape, h.output, h.size, h.block⟩
def InsRet (w : World) (base : Nat) (row : Option Nat) (n : Nat) (ys : List RM) (e : Ending) (w' : World) : Prop :=
  ∃ p' c', e = .returned (.slice p' n c') ∧ Own w' base 46 encM 6 (.slice p' n c') ys ∧ w.grownBy w' row
/-- An object in a block of its own. -/
def ObAt (W : World) (g : Nat) (x : RM) : Prop := W.heap[g]? = some (.cells #[.string x.name, .int .i64 x.v.k, .int .i64 x.v.n, .string x.v.s, .slice x.v.pl x.v.nl x.v.cl, .slice x.v.pm x.v.nm x.v.cm] 46 (0, 0))

set_option maxRecDepth 100000 in
set_option maxHeartbeats 1000000 in
theorem insert_end (w : World) (base : Nat) (p : Option Addr) (n c vb : Nat) (xs : List RM) (x : RM) (ho : Own w base 46 encM 6 (.slice p n c) xs) (hb : base ≤ w.heap.size) (hx : ObAt w vb x) (hsz : (n + 1) * 96 ≤ 140737488355328) :
    Calls Try.prog 67 #[.slice p n c, .int .i64 n, .slice (some ⟨vb, 0, none⟩) 1 1] w (InsRet w base (Value.slice p n c).ownBlock (n + 1) (xs ++ [x])) := by
  have hn := rd_nlen (ho.rd codecM)
  have hvb : vb < w.heap.size := (Array.getElem?_eq_some_iff.1 hx).1
  have hR : Rd w w.heap.size encM 6 (.slice (some ⟨vb, 0, none⟩) 1 1) [x] := Rd.one codecM hx rfl hvb
  have HO := Lib.hid ho
  have HR := Lib.hid hR
  have HN := Lib.hid hn
  have HX := Lib.hid hsz
  have hn63 : (n : Int) ≤ 9223372036854775806 := by omega
  have hsl := fun W => run_slice_low (P := Try.prog) slO p n c n (Nat.le_refl _) W
  obtain ⟨row, hrow⟩ : ∃ row, (Value.slice p n c).ownBlock = row := ⟨_, rfl⟩
  rw [hrow]
  have HROW := Lib.hid hrow
  clear ho hR hn hx hsz hrow
  go_enter Try.func67, Try.ntmps67
  go_wp2_with (at_builtin; refine wpList_append_rd slO codecM w rfl (.tmp 23) (.tmp 24) rfl (v := .slice p n c) rfl rfl HO.out HR.out (by have := HN.out; have := HX.out; simp; unfold maxLen; omega) (by have := HN.out; have := HX.out; simp; omega) hb ?_; intro v1 w1 ho1 hg1 hat1)
  all_goals obtain ⟨p1, c1, hv1, _, _⟩ := ho1.len
  all_goals have hl : (xs ++ [x]).length = n + 1 := by have := HN.out; simp; omega
  all_goals rw [hl] at hv1
  all_goals subst hv1
  all_goals go_ret
  all_goals exact ⟨p1, c1, rfl, ho1, by rw [← HROW.out]; exact hg1⟩

set_option maxRecDepth 100000 in
set_option maxHeartbeats 2000000 in
theorem insert_shift (w : World) (base : Nat) (g n c vb i : Nat) (cur : Array Value) (xs : List RM) (x : RM) (hh : w.heap[g]? = some (.cells cur 46 (0, 0))) (hg : base ≤ g) (hn : n = xs.length) (hcm : c ≤ maxLen) (hcs : cur.size = c * 6) (ht : cur.toList.take (n * 6) = cellsOf encM xs)
    (hi : i < n) (hroom : n + 1 ≤ c) (hx : ObAt w vb x) (hne : vb ≠ g) :
    Calls Try.prog 67 #[.slice (some ⟨g, 0, none⟩) n c, .int .i64 i, .slice (some ⟨vb, 0, none⟩) 1 1] w (InsRet w base (some g) (n + 1) (xs.take i ++ x :: xs.drop i)) := by
  have hcn : cur.toList.length = c * 6 := by simpa using hcs
  have htk : cur.toList.take (i * 6) = cellsOf encM (xs.take i) := by
    rw [← cells_take codecM, ← ht, List.take_take, Nat.min_eq_left (by omega)]
  have hszO : (Try.prog.info? 46).map (·.size) = some 6 := by kernel_rfl
  have hshA : w.shape? vb = some (46, 6) := by
    unfold ObAt at hx
    simp [World.shape?, hx]
  have hshB : w.shape? g = some (46, c * 6) := by simp [World.shape?, hh, hcs]
  have hsizeO : ∀ w, (Go.sizeOf 46).run Try.prog w = .ok 6 w := fun w => by kernel_rfl
  have hov : ∀ lb cb, (callFunc 102 #[.slice (some ⟨vb, 0, none⟩) 1 1, .slice (some ⟨g, (i + 1) * 6, none⟩) lb cb]).run Try.prog w = .ok (.value (.bool false)) w := fun lb cb => by
    rw [run_callFunc_extern Try.func102 (by kernel_rfl) (by kernel_rfl) (by kernel_rfl) (e := Extern.SlicesOverlaps.overlaps #[32, 32] #[4]) (by kernel_rfl),
      Lib.run_overlaps_apart w 32 4 46 Try.underlying32 6 hsizeO ⟨vb, 0, none⟩ ⟨g, (i + 1) * 6, none⟩ 1 1 lb cb hne 46 46 6 (c * 6) hshA hshB (by omega) (by unfold ObAt at hx; simp [World.frozen?, hx]) (by unfold ObAt at hx; simp [World.frozen?, hx])]
    rfl
  have hd : (cellsOf encM (xs.drop i)).length = (n - i) * 6 := by rw [cellsOf_len codecM, List.length_drop, hn]
  have hcell : ∀ j, w.cell? ⟨g, j, none⟩ = cur.toList[j]? := fun j => by rw [cell_of_row w g j _ _ _ hh, Array.getElem?_toList]
  have hcells : ∀ j v, (cellsOf encM (xs.drop i))[j]? = some v → w.cell? ((⟨g, i * 6, none⟩ : Addr).add j) = some v := fun j v hv => by
    rw [add_eq, hcell]
    have h1 : (cellsOf encM xs)[i * 6 + j]? = some v := by
      have e : cellsOf encM xs = cellsOf encM (xs.take i) ++ cellsOf encM (xs.drop i) := by rw [← cellsOf_append, List.take_append_drop]
      have hl : (cellsOf encM (xs.take i)).length = i * 6 := by rw [cellsOf_len codecM, List.length_take]; omega
      rw [e, List.getElem?_append_right (by omega), hl]
      simpa using hv
    rw [← ht, List.getElem?_take] at h1
    split at h1
    · exact h1
    · cases h1
  obtain ⟨row1, hrow1⟩ : ∃ r : Array Value, r = (cur.toList.take ((i + 1) * 6) ++ cellsOf encM (xs.drop i) ++ cur.toList.drop ((i + 1) * 6 + (cellsOf encM (xs.drop i)).length)).toArray := ⟨_, rfl⟩
  have hr1s : row1.size = c * 6 := by
    rw [hrow1]
    simp only [List.size_toArray, List.length_append, List.length_take, List.length_drop, hd, hcn]
    omega
  have hcp1 : ∀ ty dc sc, (Builtin.copy_ #[32, 32] ty #[.slice (some ⟨g, (i + 1) * 6, none⟩) (n - i) dc, .slice (some ⟨g, i * 6, none⟩) (n + 1 - i) sc]).run Try.prog w.drew = .ok (goInt ((n - i : Nat) : Int)) (w.drew.setRow g row1) := fun ty dc sc => by
    rw [hrow1]
    exact run_copy_rowN w.drew _ _ ty 46 g ((i + 1) * 6) (n - i) dc ⟨g, i * 6, none⟩ (n + 1 - i) sc (n - i) cur 46 _ Try.underlying32 hszO hh (by simp only [Nat.min_def]; split <;> omega) hd hcells (by rw [hd]; omega) (cellsOf_one codecM _)
  obtain ⟨row2, hrow2⟩ : ∃ r : Array Value, r = (row1.toList.take (i * 6) ++ encM x ++ row1.toList.drop (i * 6 + (encM x).length)).toArray := ⟨_, rfl⟩
  have hxc : ∀ j v, (encM x)[j]? = some v → w.cell? ((⟨vb, 0, none⟩ : Addr).add j) = some v := fun j v hv => by
    unfold ObAt at hx
    rw [add_eq, Nat.zero_add, cell_of_row w vb j _ _ _ hx, ← Array.getElem?_toList]
    exact hv
  have hcp2 : ∀ (W : World), W.heap[g]? = some (.cells row1 46 (0, 0)) → W.heap[vb]? = w.heap[vb]? → ∀ ty dc, (Builtin.copy_ #[32, 32] ty #[.slice (some ⟨g, i * 6, none⟩) (n + 1 - i) dc, .slice (some ⟨vb, 0, none⟩) 1 1]).run Try.prog W = .ok (goInt 1) (W.setRow g row2) := fun W hW hV ty dc => by
    rw [hrow2]
    exact run_copy_rowN W _ _ ty 46 g (i * 6) (n + 1 - i) dc ⟨vb, 0, none⟩ 1 1 1 row1 46 (encM x) Try.underlying32 hszO hW (by simp only [Nat.min_def]; split <;> omega) rfl (fun j v hv => (World.cell?_of_block (w := w) (a := (⟨vb, 0, none⟩ : Addr).add j) (by rw [add_eq]; exact hV)).trans (hxc j v hv)) (by rw [hr1s]; show i * 6 + 6 ≤ _; omega) (codecM.one x)
  have hfin : row2.toList.take ((n + 1) * 6) = cellsOf encM (xs.take i ++ x :: xs.drop i) := by
    rw [hrow2, hrow1]
    exact row_insert (cap := c) codecM hn htk (by omega) (by omega)
  have hr2s : row2.size = c * 6 := by
    rw [hrow2]
    have : (encM x).length = 6 := rfl
    simp only [List.size_toArray, List.length_append, List.length_take, List.length_drop, this, Array.length_toList, hr1s]
    omega
  have HFIN : Hid (∀ W : World, W.heap[g]? = some (.cells row2 46 (0, 0)) → Own W base 46 encM 6 (.slice (some ⟨g, 0, none⟩) (n + 1) c) (xs.take i ++ x :: xs.drop i)) := fun W hW =>
    Own.ofRow codecM hW hfin (by simp; omega) hg hroom hcm hr2s
  have HH := Lib.hid hh
  have HHX := Lib.hid hx
  have HNE := Lib.hid hne
  have hw1 : IntKind.i64.wrap ((i : Int) + 1) = (i : Int) + 1 := by rw [IntKind.wrap_i64]; unfold maxLen at hcm; omega
  have hb1 : (0 : Int) ≤ (i : Int) + 1 := by omega
  have hin : i ≤ n := by omega
  have htn : ((i : Int) + 1).toNat = i + 1 := by omega
  have htn2 : ((n : Int) + 1).toNat = n + 1 := by omega
  have hz2 : ¬ ((i : Int) = (n : Int)) := by omega
  have hb2 : ¬ (c = i + 1) := by omega
  have hb3 : (i : Int) ≤ (n : Int) + 1 := by omega
  have hb4 : ¬ (c = i) := by omega
  have hcm2 : c ≤ 9223372036854775807 := by unfold maxLen at hcm; omega
  clear hh hx hne hcm hcn htk hszO hshA hshB hsizeO hd hcell hcells hrow1 hrow2 hxc hfin hr1s hr2s hcs ht hn
  go_enter Try.func67, Try.ntmps67
  go_wp2_with (simp only [hov])
  go_region_law (refine step_copy_runI rfl _ _ 32 32 rfl _ _ (by simp [Act.eval, Act.put]) (by simp [Act.eval, Act.put]) (hcp1 _ _ _) ?_)
  have hW1 := setRow_at w.drew g cur row1 46 (0, 0) HH.out
  have hV1 : (w.drew.setRow g row1).heap[vb]? = w.heap[vb]? := (setRow_grown w.drew g row1).block vb (by have := (Array.getElem?_eq_some_iff.1 HHX.out).1; exact this) (by simpa using HNE.out)
  have hc2 := hcp2 _ hW1 hV1
  have hW2 := setRow_at _ g row1 row2 46 (0, 0) hW1
  have HW2 := Lib.hid hW2
  have hg0 : w.grownBy (w.drew.setRow g row1) (some g) := gb_drew (setRow_grown w.drew g row1)
  have hG2 : w.grownBy ((w.drew.setRow g row1).setRow g row2) (some g) := hg0.trans (setRow_grown _ g row2)
  clear hg0
  have HG2 := Lib.hid hG2
  clear hW1 hV1 hW2 hG2
  go_wp2_with (at_builtin; refine wpList_copy_runI _ rfl _ _ 32 32 rfl _ _ rfl rfl (hc2 _ _) ?_)
  go_ret
  exact ⟨_, _, rfl, HFIN.out _ HW2.out, HG2.out⟩
end Go.Proofs.Ythgkgjcnmahacaa
end

section
/- slices.Insert of one object where there is no room; the roads joined. -/
set_option linter.unusedSimpArgs false
set_option linter.unusedVariables false
namespace Go.Proofs.Ythgkgjcnmahacaa
open Go.RowKit Go.OpenShut

set_option maxRecDepth 100000 in
set_option maxHeartbeats 2000000 in
theorem insert_grow (w : World) (base : Nat) (g n c vb i : Nat) (cur : Array Value) (xs : List RM) (x : RM) (hh : w.heap[g]? = some (.cells cur 46 (0, 0))) (hb : base ≤ w.heap.size) (hn : n = xs.length) (hnc : n ≤ c) (hcm : c ≤ maxLen) (hcs : cur.size = c * 6) (ht : cur.toList.take (n * 6) = cellsOf encM xs)
    (hi : i < n) (hroom : c < n + 1) (hx : ObAt w vb x) (hsz : (n + 1) * 96 ≤ 140737488355328) :
    Calls Try.prog 67 #[.slice (some ⟨g, 0, none⟩) n c, .int .i64 i, .slice (some ⟨vb, 0, none⟩) 1 1] w (InsRet w base (some g) (n + 1) (xs.take i ++ x :: xs.drop i)) := by
  obtain rfl : c = n := by omega
  have hcn : cur.toList.length = c * 6 := by simpa using hcs
  have htk : cur.toList.take (i * 6) = cellsOf encM (xs.take i) := by
    rw [← cells_take codecM, ← ht, List.take_take, Nat.min_eq_left (by omega)]
  have hgl : g < w.heap.size := (Array.getElem?_eq_some_iff.1 hh).1
  have hvl : vb < w.heap.size := (Array.getElem?_eq_some_iff.1 hx).1
  have hi0 : (Try.prog.info? 46).map (fun i => (i.zero, i.size, i.bytes)) = some (some (.agg #[.string ByteArray.empty, .int .i64 0, .int .i64 0, .string ByteArray.empty, .slice none 0 0, .slice none 0 0]), 6, 96) := by kernel_rfl
  obtain ⟨i0, hi0, hz0, hzs, hzb⟩ := info_parts hi0
  have hszO : (Try.prog.info? 46).map (·.size) = some 6 := by rw [hi0]; simp [hzs]
  have hcell : ∀ j, w.cell? ⟨g, j, none⟩ = cur.toList[j]? := fun j => by rw [cell_of_row w g j _ _ _ hh, Array.getElem?_toList]
  have hold : (Builtin.firstCells i0.size i (.slice (some ⟨g, 0, none⟩) i c)).run Try.prog w.drew = .ok (cellsOf encM (xs.take i)).toArray w.drew := by
    rw [hzs]
    refine run_firstCells_some w.drew 6 i ⟨g, 0, none⟩ i c (cellsOf encM (xs.take i)) (by rw [cellsOf_len codecM, List.length_take]; omega) (fun j v hj => ?_)
    rw [add_eq, Nat.zero_add]
    show w.cell? _ = _
    rw [hcell]
    rw [← htk, List.getElem?_take] at hj
    split at hj
    · exact hj
    · cases hj
  have hkk : (c : Int) + 1 - (i : Int) = ((c + 1 - i : Nat) : Int) := by omega
  have hik : i + (c + 1 - i) = c + 1 := by omega
  obtain ⟨Z, hZ⟩ : ∃ Z : Value, Z = .agg #[.string ByteArray.empty, .int .i64 0, .int .i64 0, .string ByteArray.empty, .slice none 0 0, .slice none 0 0] := ⟨_, rfl⟩
  have hZs : Z.cells.size = 6 := by rw [hZ]; rfl
  rw [← hZ] at hz0
  obtain ⟨G, hG⟩ : ∃ G, G = grownCap w (c + 1) c 46 := ⟨_, rfl⟩
  obtain ⟨ROW, hROW⟩ : ∃ ROW : Array Value, ROW = (cellsOf encM (xs.take i)).toArray ++ Builtin.zeroCells Z.cells (c + 1 - i) ++ Builtin.zeroCells Z.cells (G - (c + 1)) := ⟨_, rfl⟩
  have hrz : ∀ ty, (Builtin.append_ #[32, 3] ty #[.slice (some ⟨g, 0, none⟩) i c, .int .i64 ((c : Int) + 1 - (i : Int))]).run Try.prog w =
      .ok (.slice (some ⟨w.heap.size, 0, none⟩) (c + 1) G) (w.drew.alloc (.cells ROW 46)) := fun ty => by
    have h := Lib.run_append_grow_zeros w 32 3 ty 46 i0 Z .i64 .i64 Try.underlying32 Try.underlying3 hi0 hz0 (some ⟨g, 0, none⟩) i c _ hold (c + 1 - i) (by omega) (by omega) (by omega) (by omega) (by rw [hzb]; omega) (by rw [hzb, hik]; exact growslice_fits (by omega) hsz)
    rw [hik] at h
    rw [hkk, hROW, hG]
    exact h
  have hGn : c + 1 ≤ G := by rw [hG]; exact grownCap_ge w _ _ _
  have hG63 : G ≤ maxLen := by rw [hG]; exact grownCap_le_maxLen w (c + 1) c 46 (by unfold maxLen; omega)
  have hRs : ROW.size = G * 6 := by
    rw [hROW]
    simp only [Array.size_append, size_zeroCells, hZs, List.size_toArray, cellsOf_len codecM, List.length_take]
    omega
  have hRl : ROW.toList.length = G * 6 := by simpa using hRs
  have hRt : ROW.toList.take (i * 6) = cellsOf encM (xs.take i) := by
    have hl : (cellsOf encM (xs.take i)).length = i * 6 := by rw [cellsOf_len codecM, List.length_take]; omega
    rw [hROW]
    simp only [Array.toList_append]
    rw [List.append_assoc, ← hl, List.take_left]
  obtain ⟨W1, hW1⟩ : ∃ W1, W1 = w.drew.alloc (.cells ROW 46) := ⟨_, rfl⟩
  rw [← hW1] at hrz
  have hN1 : W1.heap[w.heap.size]? = some (.cells ROW 46 (0, 0)) := by rw [hW1]; exact heap_alloc_at (w := w.drew) rfl
  have hold1 : ∀ k, k < w.heap.size → W1.heap[k]? = w.heap[k]? := fun k hk => by rw [hW1]; exact Below.heap_alloc w.drew _ k hk
  have hd : (cellsOf encM (xs.drop i)).length = (c - i) * 6 := by rw [cellsOf_len codecM, List.length_drop, hn]
  have hxc : ∀ j v, (encM x)[j]? = some v → w.cell? ((⟨vb, 0, none⟩ : Addr).add j) = some v := fun j v hv => by
    unfold ObAt at hx
    rw [add_eq, Nat.zero_add, cell_of_row w vb j _ _ _ hx, ← Array.getElem?_toList]
    exact hv
  have hcells : ∀ j v, (cellsOf encM (xs.drop i))[j]? = some v → w.cell? ((⟨g, i * 6, none⟩ : Addr).add j) = some v := fun j v hv => by
    rw [add_eq, hcell]
    have h1 : (cellsOf encM xs)[i * 6 + j]? = some v := by
      have e : cellsOf encM xs = cellsOf encM (xs.take i) ++ cellsOf encM (xs.drop i) := by rw [← cellsOf_append, List.take_append_drop]
      have hl : (cellsOf encM (xs.take i)).length = i * 6 := by rw [cellsOf_len codecM, List.length_take]; omega
      rw [e, List.getElem?_append_right (by omega), hl]
      simpa using hv
    rw [← ht, List.getElem?_take] at h1
    split at h1
    · exact h1
    · cases h1
  obtain ⟨row1, hrow1⟩ : ∃ r : Array Value, r = (ROW.toList.take (i * 6) ++ encM x ++ ROW.toList.drop (i * 6 + (encM x).length)).toArray := ⟨_, rfl⟩
  have hr1s : row1.size = G * 6 := by
    rw [hrow1]
    have : (encM x).length = 6 := rfl
    simp only [List.size_toArray, List.length_append, List.length_take, List.length_drop, this, hRl]
    omega
  obtain ⟨row2, hrow2⟩ : ∃ r : Array Value, r = (row1.toList.take ((i + 1) * 6) ++ cellsOf encM (xs.drop i) ++ row1.toList.drop ((i + 1) * 6 + (cellsOf encM (xs.drop i)).length)).toArray := ⟨_, rfl⟩
  have hr2s : row2.size = G * 6 := by
    rw [hrow2]
    simp only [List.size_toArray, List.length_append, List.length_take, List.length_drop, hd, Array.length_toList, hr1s]
    omega
  have hcpA : ∀ (W : World), (∀ k : Nat, W.heap[k]? = W1.heap[k]?) → ∀ ty dc, (Builtin.copy_ #[32, 32] ty #[.slice (some ⟨w.heap.size, i * 6, none⟩) (c + 1 - i) dc, .slice (some ⟨vb, 0, none⟩) 1 1]).run Try.prog W = .ok (goInt 1) (W.setRow w.heap.size row1) := fun W hW ty dc => by
    rw [hrow1]
    exact run_copy_rowN W _ _ ty 46 w.heap.size (i * 6) (c + 1 - i) dc ⟨vb, 0, none⟩ 1 1 1 ROW 46 (encM x) Try.underlying32 hszO ((hW _).trans hN1) (by simp only [Nat.min_def]; split <;> omega) rfl (fun j v hv => (World.cell?_of_block (w := w) (a := (⟨vb, 0, none⟩ : Addr).add j) (by rw [add_eq]; exact (hW _).trans (hold1 _ hvl))).trans (hxc j v hv)) (by rw [hRs]; show i * 6 + 6 ≤ _; omega) (codecM.one x)
  have hcpB : ∀ (W : World), W.heap[w.heap.size]? = some (.cells row1 46 (0, 0)) → W.heap[g]? = w.heap[g]? → ∀ ty dc sc, (Builtin.copy_ #[32, 32] ty #[.slice (some ⟨w.heap.size, (i + 1) * 6, none⟩) (c - i) dc, .slice (some ⟨g, i * 6, none⟩) (c - i) sc]).run Try.prog W = .ok (goInt ((c - i : Nat) : Int)) (W.setRow w.heap.size row2) := fun W hW hV ty dc sc => by
    rw [hrow2]
    exact run_copy_rowN W _ _ ty 46 w.heap.size ((i + 1) * 6) (c - i) dc ⟨g, i * 6, none⟩ (c - i) sc (c - i) row1 46 _ Try.underlying32 hszO hW (by simp only [Nat.min_def]; split <;> omega) hd (fun j v hv => (World.cell?_of_block (w := w) (a := (⟨g, i * 6, none⟩ : Addr).add j) (by rw [add_eq]; exact hV)).trans (hcells j v hv)) (by rw [hr1s, hd]; omega) (cellsOf_one codecM _)
  have hfin : row2.toList.take ((c + 1) * 6) = cellsOf encM (xs.take i ++ x :: xs.drop i) := by
    rw [hrow2, hrow1]
    exact row_insert2 (cap := G) codecM hn hRt (by omega) (by omega)
  have HFIN : Hid (∀ W : World, W.heap[w.heap.size]? = some (.cells row2 46 (0, 0)) → Own W base 46 encM 6 (.slice (some ⟨w.heap.size, 0, none⟩) (c + 1) G) (xs.take i ++ x :: xs.drop i)) := fun W hW =>
    Own.ofRow codecM hW hfin (by simp; omega) hb hGn hG63 hr2s
  have HG1 : Hid (w.grownBy W1 none) := by rw [hW1]; exact ⟨rfl, rfl, rfl, by simp, fun k hk _ => Below.heap_alloc w.drew _ k hk⟩
  have HN1 := Lib.hid hN1
  have HO1 := Lib.hid hold1
  have HB := Lib.hid hb
  have HGL := Lib.hid hgl
  have hG63' : G ≤ 9223372036854775807 := by unfold maxLen at hG63; omega
  have hw1 : IntKind.i64.wrap ((i : Int) + 1) = (i : Int) + 1 := by rw [IntKind.wrap_i64]; omega
  have hb1 : (0 : Int) ≤ (i : Int) + 1 := by omega
  have hin : i ≤ c := by omega
  have htn : ((i : Int) + 1).toNat = i + 1 := by omega
  have htn2 : ((c : Int) + 1).toNat = c + 1 := by omega
  have hz3 : ¬ ((i : Int) = (c : Int)) := by omega
  have hb2 : ¬ (G = i + 1) := by omega
  have hb3 : (i : Int) ≤ (c : Int) + 1 := by omega
  have hb4 : ¬ (c = i) := by omega
  have hb5 : ¬ (G = i) := by omega
  have hc63 : (c : Int) ≤ 9223372036854775806 := by omega
  have hq : decide ((c : Int) < (c : Int) + 1) = true := by simp; omega
  have hz1 : W1.heap.size = w.heap.size + 1 := by rw [hW1]; simp
  have hBW : Below w.heap.size w W1 := by rw [hW1]; exact (Below.refl w.heap.size w).drew.alloc (Nat.le_refl _) _
  have hcA := hcpA W1 (fun _ => rfl)
  have hN2 : (W1.setRow w.heap.size row1).heap[w.heap.size]? = some (.cells row1 46 (0, 0)) := setRow_at _ _ ROW row1 _ (0, 0) hN1
  have hK2 : (W1.setRow w.heap.size row1).heap[g]? = w.heap[g]? := ((setRow_grown _ _ row1).block g (by omega) (by simp; omega)).trans (hold1 g hgl)
  obtain ⟨W2, hW2⟩ : ∃ W2, W1.setRow w.heap.size row1 = W2 := ⟨_, rfl⟩
  have hBW2 : Below w.heap.size w W2 := by rw [← hW2]; exact hBW.grown (setRow_grown _ _ row1) (by omega) (fun a e => by cases e; exact Nat.le_refl _)
  have hz2 : W2.heap.size = w.heap.size + 1 := by rw [← hW2]; simp [hz1]
  rw [hW2] at hN2 hK2
  have HF2 : Hid ((W2.drew.setRow w.heap.size row2).heap[w.heap.size]? = some (.cells row2 46 (0, 0))) := setRow_at W2.drew _ row1 row2 _ (0, 0) hN2
  have HB2 : Hid (Below w.heap.size w (W2.drew.setRow w.heap.size row2)) := hBW2.drew.grown (setRow_grown _ _ row2) (by show w.heap.size ≤ W2.heap.size; omega) (fun a e => by cases e; exact Nat.le_refl _)
  have hcB := hcpB W2.drew hN2 hK2
  clear hN2 hK2 hW1 hz1 hz2 hBW hBW2
  clear hh hx hcm hcn htk hi0 hz0 hzs hzb hszO hcell hold hkk hik hZs hZ hRs hRl hRt hd hxc hcells hr1s hr2s hfin hcs ht hn hG hROW hrow1 hrow2 hN1 hold1 hcpA hcpB hroom hnc hb hgl hvl hsz
  go_enter Try.func67, Try.ntmps67
  go_wp2_with (first
    | (at_builtin; refine Lib.wpList_append_run _ rfl _ _ _ _ rfl _ _ rfl rfl _ _ (hrz _) ?_)
    | (at_builtin; refine wpList_copy_runI _ rfl _ _ 32 32 rfl _ _ rfl rfl (hcA _ _) ?_; rw [hW2]))
  clear hW2
  go_region_law (refine step_copy_runI rfl _ _ 32 32 rfl _ _ (by simp [Act.eval, Act.put]) (by simp [Act.eval, Act.put]) (hcB _ _ _) ?_)
  go_wp2_with fail
  go_ret
  exact ⟨_, _, rfl, HFIN.out _ HF2.out, ⟨HB2.out.os, HB2.out.tape, HB2.out.output, HB2.out.size, fun k hk _ => HB2.out.block k hk⟩⟩

set_option maxRecDepth 100000 in
theorem insertO_any (w : World) (base : Nat) (p : Option Addr) (n c vb i : Nat) (xs : List RM) (x : RM) (ho : Own w base 46 encM 6 (.slice p n c) xs) (hb : base ≤ w.heap.size) (hi : i ≤ n) (hx : ObAt w vb x) (hne : p ≠ some ⟨vb, 0, none⟩) (hsz : (n + 1) * 96 ≤ 140737488355328) :
    Calls Try.prog 67 #[.slice p n c, .int .i64 i, .slice (some ⟨vb, 0, none⟩) 1 1] w (InsRet w base (Value.slice p n c).ownBlock (n + 1) (xs.take i ++ x :: xs.drop i)) := by
  have hn := rd_nlen (ho.rd codecM)
  by_cases h : i = n
  · subst h
    have e : xs.take i ++ x :: xs.drop i = xs ++ [x] := by rw [List.take_of_length_le (by omega), List.drop_of_length_le (by omega)]
    rw [e]
    exact insert_end w base p i c vb xs x ho hb hx hsz
  · obtain ⟨g, cur, rfl, hg, hh, hnx, hnc, hcm, hcs, ht⟩ := ho.row (.inl (by
      obtain ⟨_, _, e, h1, _⟩ := ho.rd codecM
      simp only [Value.slice.injEq] at e
      omega))
    by_cases hr : n + 1 ≤ c
    · exact insert_shift w base g n c vb i cur xs x hh hg hn hcm hcs ht (by omega) hr hx (fun e => hne (by rw [e]))
    · exact insert_grow w base g n c vb i cur xs x hh hb hn hnc hcm hcs ht (by omega) (by omega) hx hsz
end Go.Proofs.Ythgkgjcnmahacaa
end

section
/- Whether a trail has an entry of an id, walked: the library's ContainsFunc at entries. -/
set_option linter.unusedSimpArgs false
set_option linter.unusedVariables false
namespace Go.Proofs.Ythgkgjcnmahacaa
open Go.RowKit Go.OpenShut

/-- Has a trail an entry of an id? -/
def toldB (l : List En) (id : ByteArray) : Bool := l.any (fun e => decide (e.id = id))
def entB (id : ByteArray) (e : En) : Bool := decide (e.id = id)
abbrev isEntV (g : Nat) : Value := .func (.func 65) #[] #[.pointer (some ⟨g, 0, none⟩)]
set_option maxRecDepth 100000 in
theorem isEnt_any (x : En) (g : Nat) (name : ByteArray) (w : World) (hg : w.cell? ⟨g, 0, none⟩ = some (.string name)) :
    Calls Try.prog 65 #[.agg #[.int .i64 x.seq, .string x.id, .int .i64 x.what], .pointer (some ⟨g, 0, none⟩)] w fun e w' => e = .returned (.bool (decide (x.id = name))) ∧ Below w.heap.size w w' := by
  obtain ⟨sq, nm, wh⟩ := x
  dsimp only
  have hlt := (cell_some hg).2
  have hne := World.new_ne w ⟨g, 0, none⟩ hg
  have hB : Below w.heap.size w (w.alloc (.cells #[.int .i64 sq, .string nm, .int .i64 wh] 48)) := (Below.refl _ _).alloc (Nat.le_refl _) _
  have hc := bcs hB hlt hg
  have hq := str_beq nm name
  have HQ := Lib.hid hq
  clear hq
  go_enter Try.func65, Try.ntmps65
  go_wp2_with fail
  go_ret
  exact ⟨by rw [← HQ.out]; rfl, hB⟩

set_option maxRecDepth 100000 in
set_option maxHeartbeats 1000000 in
theorem indexE_any (w : World) (p : Option Addr) (n c : Nat) (l : List En) (hv : Rd w w.heap.size encE 3 (.slice p n c) l) (g : Nat) (name : ByteArray) (hg : w.cell? ⟨g, 0, none⟩ = some (.string name)) (hlen : l.length ≤ 4398046510976) :
    Calls Try.prog 100 #[.slice p n c, isEntV g] w fun e w' => e = .returned (.int .i64 (placeI (l.findIdx? (entB name)))) ∧ Below w.heap.size w w' := by
  have hn := rd_nlen hv
  subst hn
  have HV := Lib.hid hv
  have hgl := (cell_some hg).2
  clear hv
  go_enter Try.func100, Try.ntmps100
  go_wp2_with fail
  go_loopw [8] (fun i wr => ∃ k : Nat, k ≤ l.length ∧ i = .int .i64 k ∧ Hid (∀ (j : Nat) y, j < k → l[j]? = some y → entB name y = false) ∧ Below w.heap.size w wr) (fun i _ => l.length - (intOf i).toNat)
  case atStart => exact ⟨0, Nat.zero_le _, rfl, fun j y h => by omega, Below.refl _ _⟩
  case round =>
    obtain ⟨k, hk, rfl, hno, hbr⟩ := hrel
    by_cases hlt : k < l.length
    · obtain ⟨x, hx⟩ : ∃ x, l[k]? = some x := ⟨_, List.getElem?_eq_getElem hlt⟩
      obtain ⟨b1, o1, rfl, hb1, hc1⟩ := rd_at' (HV.out.below hbr (Nat.le_refl _)) hx
      have f0 := hc1 0 _ rfl
      have f1 := hc1 1 _ rfl
      have f2 := hc1 2 _ rfl
      rw [Nat.add_zero] at f0
      have HX := Lib.hid hx
      have hz := hbr.size
      have HBR := Lib.hid hbr
      have hgr := Lib.hid (bcs hbr hgl hg)
      cases hnb : entB name x with
      | true =>
        have HF := Lib.hid (find_at HX.out hnb hno.out)
        have HNB : Hid (decide (x.id = name) = true) := hnb
        clear hx hc1 hbr hnb hno hg
        go_wp2_with (go_at_call 65; refine (isEnt_any x g name _ hgr.out).mono ?_; rintro e w1 ⟨rfl, hb1'⟩; rw [HNB.out])
        go_ret
        exact ⟨ret_int (by rw [HF.out]; rfl), HBR.out.trans (hb1'.mono HBR.out.size)⟩
      | false =>
        have HNB : Hid (decide (x.id = name) = false) := hnb
        have HNX : Hid (∀ (j : Nat) y, j < k + 1 → l[j]? = some y → entB name y = false) := by
          intro j y hj hy
          by_cases e : j = k
          · subst e
            rw [hx] at hy
            cases hy
            exact hnb
          · exact hno.out j y (by omega) hy
        clear hx hc1 hbr hnb hno hg
        go_wp2_with (go_at_call 65; refine (isEnt_any x g name _ hgr.out).mono ?_; rintro e w1 ⟨rfl, hb1'⟩; rw [HNB.out])
        go_roundw
        case rel => exact ⟨k + 1, by omega, by go_num, HNX, HBR.out.trans (hb1'.mono HBR.out.size)⟩
        case measure => simp [intOf]; omega
    · obtain rfl : k = l.length := by omega
      have HF := Lib.hid (find_not (p := entB name) (l := l) (fun j y hy => hno.out j y (List.getElem?_eq_some_iff.1 hy).1 hy))
      go_wp2_with fail
      go_ret
      exact ⟨ret_int (by rw [HF.out]; rfl), hbr⟩

theorem told_idx (l : List En) (id : ByteArray) : toldB l id = (l.findIdx? (entB id)).isSome := by
  unfold toldB
  rw [List.findIdx?_isSome]
  rfl
set_option maxRecDepth 100000 in
set_option maxHeartbeats 1000000 in
theorem containsE_any (w : World) (p : Option Addr) (n c : Nat) (l : List En) (hv : Rd w w.heap.size encE 3 (.slice p n c) l) (g : Nat) (name : ByteArray) (hg : w.cell? ⟨g, 0, none⟩ = some (.string name)) (hlen : l.length ≤ 4398046510976) :
    Calls Try.prog 64 #[.slice p n c, isEntV g] w fun e w' => e = .returned (.bool (toldB l name)) ∧ Below w.heap.size w w' := by
  have HC := Lib.hid (indexE_any w p n c l hv g name hg hlen)
  have HT := Lib.hid (told_idx l name)
  clear hv hg hlen
  generalize l.findIdx? (entB name) = o at HC HT
  cases o with
  | none =>
    have hd : decide ((0 : Int) ≤ placeI none) = false := by decide
    go_enter Try.func64, Try.ntmps64
    go_wp2_with (go_at_call 100; refine HC.out.mono ?_; rintro e w1 ⟨rfl, hb1⟩)
    go_ret
    exact ⟨ret_bool (by rw [HT.out]; rfl), hb1⟩
  | some i =>
    have hd : decide ((0 : Int) ≤ placeI (some i)) = true := by simp [placeI]
    go_enter Try.func64, Try.ntmps64
    go_wp2_with (go_at_call 100; refine HC.out.mono ?_; rintro e w1 ⟨rfl, hb1⟩)
    go_ret
    exact ⟨ret_bool (by rw [HT.out]; simp), hb1⟩
end Go.Proofs.Ythgkgjcnmahacaa
end

section
/- tree.Same: whether two trees are the same but for the order of members. -/
set_option linter.unusedSimpArgs false
set_option linter.unusedVariables false
namespace Go.Proofs.Ythgkgjcnmahacaa
open Go.RowKit Go.OpenShut

/-- The same but for the order of members; of like names the first one counts. -/
inductive SameT : JV → JV → Prop
  | mk {k n : Int} {s : ByteArray} {l l' : List JV} {m m' : List (ByteArray × JV)} (el : l.length = l'.length) (em : m.length = m'.length) (cl : ∀ (i : Nat) (t u : JV), l[i]? = some t → l'[i]? = some u → SameT t u)
      (cf : ∀ (i : Nat) (p : ByteArray × JV), m[i]? = some p → m'.findIdx? (fun q => decide (q.1 = p.1)) ≠ none)
      (cm : ∀ (i j : Nat) (p q : ByteArray × JV), m[i]? = some p → m'.findIdx? (fun q => decide (q.1 = p.1)) = some j → m'[j]? = some q → SameT p.2 q.2) : SameT (.mk k n s l m) (.mk k n s l' m')

theorem run_makeMapN {P : Program} {t k e : TypeId} (hu : P.underlying t = some (.map k e)) (n : Int) (w : World) : (Instr.makeMap t (some (.int .i64 n))).run P w = .ok (.map (some w.heap.size)) (w.alloc (.map #[] 0)) := by
  simp [Instr.makeMap, run_underlying hu, asInt, asIntOf, Result.andThen]

section
variable {P : Program} (w : World) {ops : Array Oper} {rest : List Oper} {o : Oper} {a : Act} {Q : Exit → Act → World → Prop}
theorem wpList_look_ok_F (hg : o.guard = none) (m x : Operand) (t : TypeId) (hop : o.op = Op.lookup t m x true) (k e : TypeId) (hk : P.underlying k = some .string) (ht : P.underlying t = some (.map k e)) {z : Value} (hz : (zeroValue e).run P w = .ok z w)
    (b n : Nat) (f : List UInt8 → Option Value) (hm : a.eval m = .map (some b)) (hown : MapF w P k b n f) (s : ByteArray) (hx : a.eval x = .string s) (hs : s.size ≤ maxLen) {v : Value} {y : Bool} (hv : (f s.data.toList).getD z = v) (hy : (f s.data.toList).isSome = y)
    (hK : wpList P ops Q rest (a.put o.dst (.tuple #[v, .bool y])) w) : wpList P ops Q (o :: rest) a w := by
  refine wpList_plain hg fun K' hK' => ?_
  have hrun := hown.look_ok hk ht hz hs
  rw [hv, hy] at hrun
  unfold Oper.wp
  simp [execOp, hop, hm, hx, hrun, Result.andThen]
  exact hK' _ _ hK
end

/-- The first member of a name, as the map knows it. -/
def knownR (rms : List RM) (s : List UInt8) : Option Value := (rms.find? (fun q => decide (q.name.data.toList = s))).map (·.v.val)
theorem knownR_cons {rms : List RM} {i : Nat} {q : RM} (h : rms[i]? = some q) (s : List UInt8) : knownR (rms.drop i) s = if s = q.name.data.toList then some q.v.val else knownR (rms.drop (i + 1)) s := by
  obtain ⟨hi, e⟩ := List.getElem?_eq_some_iff.1 h
  rw [List.drop_eq_getElem_cons hi, e]
  unfold knownR
  rw [List.find?_cons]
  by_cases hs : q.name.data.toList = s
  · simp [hs]
  · have hs' : ¬ s = q.name.data.toList := fun h => hs h.symm
    simp [hs, hs']
theorem bytes_ext {a b : ByteArray} (h : a.data.toList = b.data.toList) : a = b := by
  obtain ⟨⟨x⟩⟩ := a
  obtain ⟨⟨y⟩⟩ := b
  simp only at h
  rw [h]
theorem knownR_some {m : List (ByteArray × JV)} {rms : List RM} {a : ByteArray} {j : Nat} (em : m.length = rms.length) (cn : ∀ (i : Nat) (p : ByteArray × JV) (q : RM), m[i]? = some p → rms[i]? = some q → p.1 = q.name) (h : m.findIdx? (fun q => decide (q.1 = a)) = some j) :
    ∃ q p, rms[j]? = some q ∧ m[j]? = some p ∧ knownR rms a.data.toList = some q.v.val := by
  rw [List.findIdx?_eq_some_iff_getElem] at h
  obtain ⟨h1, h2, h3⟩ := h
  have h4 : j < rms.length := by omega
  have hn : ∀ i (hi : i < m.length), rms[i]'(by omega) = rms[i]'(by omega) ∧ m[i].1 = (rms[i]'(by omega)).name := fun i hi => ⟨rfl, cn i _ _ (List.getElem?_eq_getElem hi) (List.getElem?_eq_getElem (by omega))⟩
  refine ⟨rms[j], m[j], List.getElem?_eq_getElem h4, List.getElem?_eq_getElem h1, ?_⟩
  have : rms.find? (fun q => decide (q.name.data.toList = a.data.toList)) = some rms[j] := by
    rw [List.find?_eq_some_iff_getElem]
    refine ⟨?_, j, h4, rfl, fun i hi => ?_⟩
    · have := (hn j h1).2
      simp only [decide_eq_true_eq] at h2 ⊢
      rw [← this, h2]
    · have h5 := (hn i (by omega)).2
      have h6 := h3 i hi
      simp only [decide_eq_true_eq, Bool.not_eq_true', decide_eq_false_iff_not] at h6 ⊢
      intro e
      exact h6 (h5.trans (bytes_ext e))
  unfold knownR
  rw [this]
  rfl
theorem knownR_none {m : List (ByteArray × JV)} {rms : List RM} {a : ByteArray} (em : m.length = rms.length) (cn : ∀ (i : Nat) (p : ByteArray × JV) (q : RM), m[i]? = some p → rms[i]? = some q → p.1 = q.name) (h : m.findIdx? (fun q => decide (q.1 = a)) = none) :
    knownR rms a.data.toList = none := by
  rw [List.findIdx?_eq_none_iff] at h
  have : rms.find? (fun q => decide (q.name.data.toList = a.data.toList)) = none := by
    rw [List.find?_eq_none]
    intro q hq
    obtain ⟨i, hi⟩ := List.getElem?_of_mem hq
    have hi' : i < m.length := by rw [em]; exact (List.getElem?_eq_some_iff.1 hi).1
    have h1 := h m[i] (List.getElem_mem hi')
    have h2 := cn i _ _ (List.getElem?_eq_getElem hi') hi
    simp only [decide_eq_true_eq, decide_eq_false_iff_not] at h1 ⊢
    exact fun e => h1 (h2.trans (bytes_ext e))
  unfold knownR
  rw [this]
  rfl

set_option maxRecDepth 100000 in
set_option maxHeartbeats 1000000 in
theorem sameT_no (r q : RV) (w : World) (p : Prop) (hp : p → r.k = q.k ∧ r.n = q.n ∧ r.s = q.s ∧ r.nl = q.nl ∧ r.nm = q.nm) (hno : ¬ (r.k = q.k ∧ r.n = q.n ∧ r.s = q.s ∧ r.nl = q.nl ∧ r.nm = q.nm)) :
    Calls Try.prog 35 #[r.val, q.val] w (Said w p) := by
  obtain ⟨k1, n1, s1, pl1, nl1, cl1, pm1, nm1, cm1⟩ := r
  obtain ⟨k2, n2, s2, pl2, nl2, cl2, pm2, nm2, cm2⟩ := q
  dsimp only [RV.val] at *
  have hfin : ∀ W', Below w.heap.size w W' → Said w p (.returned (.bool false)) W' := fun W' hb => ⟨false, rfl, by simp; exact fun h => hno (hp h), hb⟩
  have HF := Lib.hid hfin
  have hB := below2 w
  clear hfin hp
  by_cases a1 : k1 = k2
  · subst a1
    by_cases a2 : n1 = n2
    · subst a2
      by_cases a3 : s1 = s2
      · subst a3
        by_cases a4 : nl1 = nl2
        · subst a4
          have a5 : ((nm1 : Int) != (nm2 : Int)) = true := by
            rw [bne_iff_ne]
            intro h
            exact hno ⟨rfl, rfl, rfl, rfl, by omega⟩
          clear hno
          go_enter Try.func35, Try.ntmps35
          go_wp2_with fail
          go_ret
          exact HF.out _ (hB _ _)
        · have a5 : ((nl1 : Int) != (nl2 : Int)) = true := by rw [bne_iff_ne]; omega
          clear hno a4
          go_enter Try.func35, Try.ntmps35
          go_wp2_with fail
          go_ret
          exact HF.out _ (hB _ _)
      · have a5 : (s1.toList == s2.toList) = false := by rw [str_beq]; simpa using a3
        clear hno a3
        go_enter Try.func35, Try.ntmps35
        go_wp2_with fail
        go_ret
        exact HF.out _ (hB _ _)
    · have a5 : (n1 != n2) = true := by simpa using a2
      clear hno a2
      go_enter Try.func35, Try.ntmps35
      go_wp2_with fail
      go_ret
      exact HF.out _ (hB _ _)
  · have a5 : (k1 != k2) = true := by simpa using a1
    clear hno a1
    go_enter Try.func35, Try.ntmps35
    go_wp2_with fail
    go_ret
    exact HF.out _ (hB _ _)

set_option maxRecDepth 100000 in
set_option maxHeartbeats 4000000 in
theorem sameT_any (N : Nat) : ∀ (t u : JV) (r q : RV) (w : World), SizeOf.sizeOf t ≤ N → TreeOf w w.heap.size t r → TreeOf w w.heap.size u q → t.Ok → u.Ok →
    Calls Try.prog 35 #[r.val, q.val] w (Said w (SameT t u)) := by
  induction N with
  | zero => intro t u r q w hN; cases t; simp at hN
  | succ N ih =>
    intro t u r q w hN ht hu ot ou
    cases ht with
    | @mk _ l1 m1 rs1 rms1 hl1 el1 hcl1 hm1 em1 hcn1 hcm1 =>
    cases hu with
    | @mk _ l2 m2 rs2 rms2 hl2 el2 hcl2 hm2 em2 hcn2 hcm2 =>
    have eL1 := rd_nlen hl1
    have eL2 := rd_nlen hl2
    have eM1 := rd_nlen hm1
    have eM2 := rd_nlen hm2
    by_cases hall : r.k = q.k ∧ r.n = q.n ∧ r.s = q.s ∧ r.nl = q.nl ∧ r.nm = q.nm
    · obtain ⟨k1, n1, s1, pl1, nl1, cl1, pm1, nm1, cm1⟩ := r
      obtain ⟨k2, n2, s2, pl2, nl2, cl2, pm2, nm2, cm2⟩ := q
      dsimp only [RV.val] at *
      obtain ⟨rfl, rfl, rfl, rfl, rfl⟩ := hall
      cases ot with
      | mk _ _ _ bl1 bm1 okl1 oks1 okm1 =>
      cases ou with
      | mk _ _ _ bl2 bm2 okl2 oks2 okm2 =>
      have HT : Hid (∀ (k : Nat) tx ty x y, l1[k]? = some tx → l2[k]? = some ty → rs1[k]? = some x → rs2[k]? = some y → ∀ W, Below w.heap.size w W → Calls Try.prog 35 #[x.val, y.val] W (Said W (SameT tx ty))) :=
        fun k tx ty x y h1 h2 h3 h4 W hb => ih tx ty x y W (by have := JV.lt_l (k := k1) (n := n1) (s := s1) (m := m1) h1; omega) ((hcl1 k tx x h1 h3).under hb hb.size) ((hcl2 k ty y h2 h4).under hb hb.size) (okl1 k tx h1) (okl2 k ty h2)
      have HS : Hid (∀ (k j : Nat) tx ty x y, m1[k]? = some tx → m2[j]? = some ty → rms1[k]? = some x → rms2[j]? = some y → ∀ W, Below w.heap.size w W → Calls Try.prog 35 #[x.v.val, y.v.val] W (Said W (SameT tx.2 ty.2))) :=
        fun k j tx ty x y h1 h2 h3 h4 W hb => ih tx.2 ty.2 x.v y.v W (by have := JV.lt_m (k := k1) (n := n1) (s := s1) (l := l1) h1; omega) ((hcm1 k tx x h1 h3).under hb hb.size) ((hcm2 j ty y h2 h4).under hb hb.size) (okm1 k tx h1) (okm2 j ty h2)
      have HZ1 : Hid (∀ (i : Nat) (x : RM), rms1[i]? = some x → x.name.size ≤ maxLen) := fun i x hx => by
        have hi : i < m1.length := by have := (List.getElem?_eq_some_iff.1 hx).1; omega
        rw [← hcn1 i _ x (List.getElem?_eq_getElem hi) hx]
        have := oks1 i _ (List.getElem?_eq_getElem hi)
        unfold maxLen; omega
      have HZ2 : Hid (∀ (i : Nat) (x : RM), rms2[i]? = some x → x.name.size ≤ maxLen) := fun i x hx => by
        have hi : i < m2.length := by have := (List.getElem?_eq_some_iff.1 hx).1; omega
        rw [← hcn2 i _ x (List.getElem?_eq_getElem hi) hx]
        have := oks2 i _ (List.getElem?_eq_getElem hi)
        unfold maxLen; omega
      have HN1 := Lib.hid hcn1
      have HN2 := Lib.hid hcn2
      have HL1 := Lib.hid hl1
      have HL2 := Lib.hid hl2
      have HM1 := Lib.hid hm1
      have HM2 := Lib.hid hm2
      have hnl : nl1 ≤ 1759218604390 := by omega
      have hnm : nm1 ≤ 1466015503658 := by omega
      have E1 : Hid (l1.length = nl1 ∧ l2.length = nl1 ∧ rs1.length = nl1 ∧ rs2.length = nl1) := ⟨by omega, by omega, by omega, by omega⟩
      have E2 : Hid (m1.length = nm1 ∧ m2.length = nm1 ∧ rms1.length = nm1 ∧ rms2.length = nm1) := ⟨by omega, by omega, by omega, by omega⟩
      have hmk : ∀ (n : Int) (w : World), (Instr.makeMap 114 (some (.int .i64 n))).run Try.prog w = .ok (.map (some w.heap.size)) (w.alloc (.map #[] 0)) := fun n w => run_makeMapN Try.underlying114 n w
      have HMK := Lib.hid hmk
      clear ih hcl1 hcl2 hcm1 hcm2 hcn1 hcn2 hl1 hl2 hm1 hm2 okl1 okl2 okm1 okm2 oks1 oks2 el1 el2 em1 em2 eL1 eL2 eM1 eM2 bl1 bl2 bm1 bm2 hN hmk
      have hA0 : VAt ((w.alloc (.cells #[.int .i64 k1, .int .i64 n1, .string s1, .slice pl1 nl1 cl1, .slice pm1 nm1 cm1] 25)).alloc (.cells #[.int .i64 k1, .int .i64 n1, .string s1, .slice pl2 nl1 cl2, .slice pm2 nm1 cm2] 25)) w.heap.size ⟨k1, n1, s1, pl1, nl1, cl1, pm1, nm1, cm1⟩ := heap_alloc_lt (by simp) (heap_alloc_at rfl)
      have hA1 : VAt ((w.alloc (.cells #[.int .i64 k1, .int .i64 n1, .string s1, .slice pl1 nl1 cl1, .slice pm1 nm1 cm1] 25)).alloc (.cells #[.int .i64 k1, .int .i64 n1, .string s1, .slice pl2 nl1 cl2, .slice pm2 nm1 cm2] 25)) (w.heap.size + 1) ⟨k1, n1, s1, pl2, nl1, cl2, pm2, nm1, cm2⟩ := heap_alloc_at (by simp)
      have hB0 := below2 w (.cells #[.int .i64 k1, .int .i64 n1, .string s1, .slice pl1 nl1 cl1, .slice pm1 nm1 cm1] 25) (.cells #[.int .i64 k1, .int .i64 n1, .string s1, .slice pl2 nl1 cl2, .slice pm2 nm1 cm2] 25)
      go_enter Try.func35, Try.ntmps35
      go_upto_region 1 with fail
      obtain ⟨W0, hW0⟩ : ∃ W0, ((w.alloc (.cells #[.int .i64 k1, .int .i64 n1, .string s1, .slice pl1 nl1 cl1, .slice pm1 nm1 cm1] 25)).alloc (.cells #[.int .i64 k1, .int .i64 n1, .string s1, .slice pl2 nl1 cl2, .slice pm2 nm1 cm2] 25)) = W0 := ⟨_, rfl⟩
      rw [hW0] at hA0 hA1 hB0 ⊢
      clear hW0
      have p0 := hA0.cell 0 rfl
      have p1 := hA0.cell 1 rfl
      have p2 := hA0.cell 2 rfl
      have p3 := hA0.cell 3 rfl
      have p4 := hA0.cell 4 rfl
      have q0 := hA1.cell 0 rfl
      have q1 := hA1.cell 1 rfl
      have q2 := hA1.cell 2 rfl
      have q3 := hA1.cell 3 rfl
      have q4 := hA1.cell 4 rfl
      dsimp only at p0 p1 p2 p3 p4 q0 q1 q2 q3 q4
      have hz := hA1.lt
      clear hA0 hA1
      go_wp2_with fail
      go_loopw [52] (fun i wr => ∃ k : Nat, k ≤ nl1 ∧ i = .int .i64 k ∧ Hid (∀ (i : Nat) t u, i < k → l1[i]? = some t → l2[i]? = some u → SameT t u) ∧ Below W0.heap.size W0 wr) (fun i _ => nl1 - (intOf i).toNat)
      case atStart => exact ⟨0, Nat.zero_le _, rfl, fun i t u h => by omega, Below.refl _ _⟩
      case round =>
        obtain ⟨k, hk, rfl, hsm, hbr⟩ := hrel
        have hbw : Below w.heap.size w wr := hB0.trans (hbr.mono (by omega))
        have p3 := bcs hbr (by omega) p3
        have q3 := bcs hbr (by omega) q3
        by_cases hlt : k < nl1
        · obtain ⟨tx, htx⟩ : ∃ x, l1[k]? = some x := ⟨_, List.getElem?_eq_getElem (by have := E1.out; omega)⟩
          obtain ⟨ty, hty⟩ : ∃ x, l2[k]? = some x := ⟨_, List.getElem?_eq_getElem (by have := E1.out; omega)⟩
          obtain ⟨x, hx⟩ : ∃ x, rs1[k]? = some x := ⟨_, List.getElem?_eq_getElem (by have := E1.out; omega)⟩
          obtain ⟨y, hy⟩ : ∃ x, rs2[k]? = some x := ⟨_, List.getElem?_eq_getElem (by have := E1.out; omega)⟩
          obtain ⟨b1, o1, rfl, hb1, hc1⟩ := rd_at' (HL1.out.below hbw (Nat.le_refl _)) hx
          obtain ⟨b2, o2, rfl, hb2, hc2⟩ := rd_at' (HL2.out.below hbw (Nat.le_refl _)) hy
          have f0 := hc1 0 _ rfl
          have f1 := hc1 1 _ rfl
          have f2 := hc1 2 _ rfl
          have f3 := hc1 3 _ rfl
          have f4 := hc1 4 _ rfl
          have g0 := hc2 0 _ rfl
          have g1 := hc2 1 _ rfl
          have g2 := hc2 2 _ rfl
          have g3 := hc2 3 _ rfl
          have g4 := hc2 4 _ rfl
          rw [Nat.add_zero] at f0 g0
          have HC := Lib.hid (HT.out k tx ty x y htx hty hx hy)
          have hk0 : (0 : Int) ≤ (k : Int) := Int.natCast_nonneg _
          have hk1 : (k : Int) < (nl1 : Int) := by omega
          have HTX := Lib.hid htx
          have HTY := Lib.hid hty
          clear hc1 hc2 htx hty hx hy
          have hzr : W0.heap.size ≤ wr.heap.size := hbr.size
          have HBR := Lib.hid hbr
          clear hbr
          go_wp2_with fail
          go_region_held3 (fun w' => w'.cell? ⟨w.heap.size, 3, none⟩ = some (.slice (some ⟨b1, o1, none⟩) nl1 cl1) ∧ w'.cell? ⟨w.heap.size + 1, 3, none⟩ = some (.slice (some ⟨b2, o2, none⟩) nl1 cl2) ∧
              w'.cell? ⟨b1, o1 + k * 5, none⟩ = some (.int .i64 x.k) ∧ w'.cell? ⟨b1, o1 + k * 5 + 1, none⟩ = some (.int .i64 x.n) ∧ w'.cell? ⟨b1, o1 + k * 5 + 2, none⟩ = some (.string x.s) ∧ w'.cell? ⟨b1, o1 + k * 5 + 3, none⟩ = some (.slice x.pl x.nl x.cl) ∧ w'.cell? ⟨b1, o1 + k * 5 + 4, none⟩ = some (.slice x.pm x.nm x.cm) ∧
              w'.cell? ⟨b2, o2 + k * 5, none⟩ = some (.int .i64 y.k) ∧ w'.cell? ⟨b2, o2 + k * 5 + 1, none⟩ = some (.int .i64 y.n) ∧ w'.cell? ⟨b2, o2 + k * 5 + 2, none⟩ = some (.string y.s) ∧ w'.cell? ⟨b2, o2 + k * 5 + 3, none⟩ = some (.slice y.pl y.nl y.cl) ∧ w'.cell? ⟨b2, o2 + k * 5 + 4, none⟩ = some (.slice y.pm y.nm y.cm))
              (first | go_keep | (go_split_ands; refine ⟨?_, ?_, ?_, ?_, ?_, ?_, ?_, ?_, ?_, ?_, ?_, ?_⟩ <;> (rw [hb1'.cell (by simp; omega)]; assumption)))
              ((go_at_call 35; refine (HC.out _ ?_).mono ?_; (repeat (first | exact hbw | apply Below.drew)); rintro e w1 ⟨b, rfl, hbb, hb1'⟩; (have HBB := Lib.hid hbb); clear hbb))
          cases b with
          | true =>
            go_wp2_with fail
            go_roundw
            case rel =>
              refine ⟨k + 1, by omega, by go_num, fun i t u hi h1 h2 => ?_, HBR.out.drew.trans (hb1'.mono (by simp; omega))⟩
              by_cases hik : i = k
              · subst hik
                rw [HTX.out] at h1
                rw [HTY.out] at h2
                cases h1; cases h2
                exact HBB.out.1 rfl
              · exact hsm.out i t u (by omega) h1 h2
            case measure => simp [intOf]; omega
          | false =>
            go_wp2_with fail
            go_ret
            refine ⟨false, rfl, ?_, hbw.drew.trans (hb1'.mono hbw.size)⟩
            simp only [Bool.false_eq_true, false_iff]
            intro h
            cases h with
            | mk el em cl cf cm => exact absurd (HBB.out.2 (cl k tx ty HTX.out HTY.out)) (by simp)
        · obtain rfl : k = nl1 := by omega
          have hz1 : W0.heap.size ≤ wr.heap.size := hbr.size
          have hzz : w.heap.size + 1 < wr.heap.size := by omega
          have p4 := bcs hbr (by omega) p4
          have q4 := bcs hbr (by omega) q4
          have HSL : Hid (∀ (i : Nat) t u, l1[i]? = some t → l2[i]? = some u → SameT t u) := fun i t u h1 h2 => hsm.out i t u (by have := (List.getElem?_eq_some_iff.1 h1).1; have := E1.out; omega) h1 h2
          clear HT HL1 HL2 hsm hbr p3 q3
          obtain ⟨wo, rfl⟩ : ∃ wo : World, wo = wr := ⟨_, rfl⟩
          have hmk := HMK.out
          have hM0 : Hid (MapF (wo.alloc (.map #[] 0)) Try.prog 9 wo.heap.size 0 (fun _ => none)) := MapF.made wo Try.prog 9
          have hBo : Below wo.heap.size wo (wo.alloc (.map #[] 0)) := (Below.refl _ _).alloc (Nat.le_refl _) _
          go_upto_region 10 with fail
          have hq4 := bcs hBo hzz q4
          clear hmk HMK
          obtain ⟨W1, hW1⟩ : ∃ W1, wo.alloc (.map #[] 0) = W1 := ⟨_, rfl⟩
          rw [hW1] at hM0 hBo hq4 ⊢
          clear hW1
          go_wp2_with fail
          go_loopw [7] (fun i wq => ∃ j : Nat, j ≤ nm1 ∧ i = .int .i64 ((j : Int) - 1) ∧ Hid (MapF wq Try.prog 9 wo.heap.size (nm1 - j) (knownR (rms2.drop j))) ∧ Below wo.heap.size wo wq) (fun i _ => (intOf i + 1).toNat)
          case atStart =>
            refine ⟨nm1, Nat.le_refl _, by go_num, ?_, hBo⟩
            rw [show nm1 - nm1 = 0 by omega, List.drop_of_length_le (by have := E2.out; omega)]
            exact hM0
          case round =>
            obtain ⟨wq, rfl⟩ : ∃ wq : World, wq = wr := ⟨_, rfl⟩
            obtain ⟨j, hj, rfl, hMF, hbr⟩ := hrel
            have hbw2 : Below w.heap.size w wq := hbw.trans (hbr.mono (by omega))
            have p4 := bcs hbr (by omega) p4
            have q4 := bcs hbr hzz q4
            clear hq4
            by_cases hlt : 0 < j
            · obtain ⟨j, rfl⟩ : ∃ j', j = j' + 1 := ⟨j - 1, by omega⟩
              obtain ⟨y, hy⟩ : ∃ x, rms2[j]? = some x := ⟨_, List.getElem?_eq_getElem (by have := E2.out; omega)⟩
              obtain ⟨b2, o2, rfl, hb2, hc2⟩ := rd_at' (HM2.out.below hbw2 (Nat.le_refl _)) hy
              have g0 := hc2 0 _ rfl
              have g1 := hc2 1 _ rfl
              have g2 := hc2 2 _ rfl
              have g3 := hc2 3 _ rfl
              have g4 := hc2 4 _ rfl
              have g5 := hc2 5 _ rfl
              rw [Nat.add_zero] at g0
              have hz2 := HZ2.out j y hy
              obtain ⟨w5, hrun, hM5, hG5⟩ := MapF.store (MapF.of_block (w' := wq.drew) hMF.out rfl) Try.underlying9 Try.underlying114 (by unfold maxLen; omega) hz2 y.v.val
              have HY := Lib.hid hy
              have HM5 := Lib.hid hM5
              have HG5 := Lib.hid hG5
              have hj0 : (0 : Int) ≤ (j : Int) := Int.natCast_nonneg _
              have hj1 : (j : Int) < (nm1 : Int) := by omega
              have ej : ((j + 1 : Nat) : Int) - 1 = (j : Int) := by omega
              rw [ej]
              clear hy hc2 hM5 hG5 hz2 ej
              dsimp only [RV.val] at hrun
              go_wp2_with fail
              go_region
              clear hrun g0 g1 g2 g3 g4 g5
              go_wp2_with fail
              go_roundw
              case rel =>
                refine ⟨j, by omega, by go_num, ?_, (hbr.drew).trans ((Below.refl _ _).grown HG5.out (by have := hbr.size; simpa using this) (fun a e => by cases e; exact Nat.le_refl _))⟩
                have h1 := (HM5.out.mono (m := nm1 - j) (by omega))
                have h2 : (fun u => if u = y.name.data.toList then some y.v.val else knownR (rms2.drop (j + 1)) u) = knownR (rms2.drop j) := funext fun u => (knownR_cons HY.out u).symm
                rw [h2] at h1
                exact h1
              case measure => first | (simp [intOf]; done) | (simp [intOf]; omega)
            · obtain rfl : j = 0 := by omega
              have hMF : Hid (MapF wq Try.prog 9 wo.heap.size nm1 (knownR rms2)) := hMF.out
              have hbm : wo.heap.size < wq.heap.size := hMF.out.lt
              obtain ⟨W3, rfl⟩ : ∃ W3 : World, W3 = wq := ⟨_, rfl⟩
              clear q4 HM2 HZ2
              have ej : (((0 : Nat) : Int) - 1) = -1 := rfl
              rw [ej]
              clear ej
              go_wp2_with fail
              go_loopw [96] (fun i wq => ∃ k : Nat, k ≤ nm1 ∧ i = .int .i64 k ∧ Hid (∀ (i j : Nat) p q, i < k → m1[i]? = some p → m2[j]? = some q → m2.findIdx? (fun q => decide (q.1 = p.1)) = some j → SameT p.2 q.2) ∧ Hid (∀ (i : Nat) p, i < k → m1[i]? = some p → m2.findIdx? (fun q => decide (q.1 = p.1)) ≠ none) ∧ Below W3.heap.size W3 wq) (fun i _ => nm1 - (intOf i).toNat)
              case atStart => exact ⟨0, Nat.zero_le _, rfl, fun i j p q h => by omega, fun i p h => by omega, Below.refl _ _⟩
              case round =>
                obtain ⟨wq, rfl⟩ : ∃ wq : World, wq = wr := ⟨_, rfl⟩
                obtain ⟨k, hk, rfl, hsm, hfd, hbr3⟩ := hrel
                have hbw3 : Below w.heap.size w wq := hbw2.trans (hbr3.mono (by omega))
                have hsz3 := hbr3.size
                by_cases hlt : k < nm1
                · obtain ⟨tx, htx⟩ : ∃ x, m1[k]? = some x := ⟨_, List.getElem?_eq_getElem (by have := E2.out; omega)⟩
                  obtain ⟨x, hx⟩ : ∃ x, rms1[k]? = some x := ⟨_, List.getElem?_eq_getElem (by have := E2.out; omega)⟩
                  obtain ⟨b1, o1, rfl, hb1, hc1⟩ := rd_at' (HM1.out.below hbw3 (Nat.le_refl _)) hx
                  have f0 := hc1 0 _ rfl
                  have f1 := hc1 1 _ rfl
                  have f2 := hc1 2 _ rfl
                  have f3 := hc1 3 _ rfl
                  have f4 := hc1 4 _ rfl
                  have f5 := hc1 5 _ rfl
                  rw [Nat.add_zero] at f0
                  have en := HN1.out k tx x htx hx
                  have hzx := HZ1.out k x hx
                  have hk0 : (0 : Int) ≤ (k : Int) := Int.natCast_nonneg _
                  have hk1 : (k : Int) < (nm1 : Int) := by omega
                  have HMX : Hid (MapF (wq.alloc (.cells #[.string x.name, .int .i64 x.v.k, .int .i64 x.v.n, .string x.v.s, .slice x.v.pl x.v.nl x.v.cl, .slice x.v.pm x.v.nm x.v.cm] 90)) Try.prog 9 wo.heap.size nm1 (knownR rms2)) := (hMF.out.below hbr3 hbm).alloc _
                  have HZX := Lib.hid hzx
                  have HTX := Lib.hid htx
                  have HBR := Lib.hid hbr3
                  have HBW := Lib.hid hbw3
                  have hel : m2.length = rms2.length := by have := E2.out; omega
                  cases hfi : m2.findIdx? (fun q => decide (q.1 = tx.1)) with
                  | none =>
                    have hkn := knownR_none hel HN2.out hfi
                    rw [en] at hkn
                    have HKN := Lib.hid hkn
                    have HFI := Lib.hid hfi
                    clear hc1 htx hx en hzx hbr3 hbw3 hel hfi hkn
                    go_wp2_with (at_lookup; refine wpList_look_ok_F _ rfl _ _ _ rfl 9 25 Try.underlying9 Try.underlying114 (Try.zeroValue25 _) _ _ (knownR rms2) rfl HMX.out x.name rfl HZX.out (v := .agg #[.int .i64 0, .int .i64 0, .string ⟨#[]⟩, .slice none 0 0, .slice none 0 0]) (y := false) (by rw [HKN.out]; rfl) (by rw [HKN.out]; rfl) ?_; go_frame)
                    go_ret
                    refine ⟨false, rfl, ?_, (HBW.out.alloc HBW.out.size _).alloc (by have := HBW.out.size; simp; omega) _⟩
                    simp only [Bool.false_eq_true, false_iff]
                    intro h
                    cases h with
                    | mk el em cl cf cm => exact cf k tx HTX.out HFI.out
                  | some j =>
                    obtain ⟨y, py, hy, hpy, hkn⟩ := knownR_some hel HN2.out hfi
                    rw [en] at hkn
                    have HKN := Lib.hid hkn
                    have HFI := Lib.hid hfi
                    have HPY := Lib.hid hpy
                    have HC := Lib.hid (HS.out k j tx py x y htx hpy hx hy)
                    have hBq : Below w.heap.size w ((wq.alloc (.cells #[.string x.name, .int .i64 x.v.k, .int .i64 x.v.n, .string x.v.s, .slice x.v.pl x.v.nl x.v.cl, .slice x.v.pm x.v.nm x.v.cm] 90)).alloc (.cells #[.int .i64 y.v.k, .int .i64 y.v.n, .string y.v.s, .slice y.v.pl y.v.nl y.v.cl, .slice y.v.pm y.v.nm y.v.cm] 25)) := (hbw3.alloc hbw3.size _).alloc (by have := hbw3.size; simp; omega) _
                    have HBQ := Lib.hid hBq
                    clear hc1 htx hx en hzx hbr3 hbw3 hel hfi hkn hy hpy hBq
                    go_wp2_with (first
                      | (at_lookup; refine wpList_look_ok_F _ rfl _ _ _ rfl 9 25 Try.underlying9 Try.underlying114 (Try.zeroValue25 _) _ _ (knownR rms2) rfl HMX.out x.name rfl HZX.out (v := y.v.val) (y := true) (by rw [HKN.out]; rfl) (by rw [HKN.out]; rfl) ?_; go_frame)
                      | (go_at_call 35; refine (HC.out _ HBQ.out).mono ?_; rintro e w1 ⟨b, rfl, hbb, hb1'⟩; (have HBB := Lib.hid hbb); clear hbb; cases b))
                    · go_ret
                      refine ⟨false, rfl, ?_, HBQ.out.trans (hb1'.mono HBQ.out.size)⟩
                      simp only [Bool.false_eq_true, false_iff]
                      intro h
                      cases h with
                      | mk el em cl cf cm => exact absurd (HBB.out.2 (cm k j tx py HTX.out HFI.out HPY.out)) (by simp)
                    · go_roundw
                      case rel =>
                        refine ⟨k + 1, by omega, by go_num, fun i j' p q hi h1 h2 h3 => ?_, fun i p hi h1 => ?_, ((HBR.out.alloc HBR.out.size _).alloc (by have := HBR.out.size; simp; omega) _).trans (hb1'.mono (by simp; omega))⟩
                        · by_cases hik : i = k
                          · subst hik
                            rw [HTX.out] at h1
                            cases h1
                            rw [HFI.out] at h3
                            cases h3
                            rw [HPY.out] at h2
                            cases h2
                            exact HBB.out.1 (by simp)
                          · exact hsm.out i j' p q (by omega) h1 h2 h3
                        · by_cases hik : i = k
                          · subst hik
                            rw [HTX.out] at h1
                            cases h1
                            rw [HFI.out]
                            simp
                          · exact hfd.out i p (by omega) h1
                      case measure => simp [intOf]; omega
                · obtain rfl : k = nm1 := by omega
                  go_wp2_with fail
                  go_ret
                  refine ⟨true, rfl, ?_, hbw3⟩
                  simp only [true_iff]
                  exact .mk (by have := E1.out; omega) (by have := E2.out; omega) HSL.out (fun i p h => hfd.out i p (by have := (List.getElem?_eq_some_iff.1 h).1; have := E2.out; omega) h) (fun i j p q h1 h2 h3 => hsm.out i j p q (by have := (List.getElem?_eq_some_iff.1 h1).1; have := E2.out; omega) h1 h3 h2)
    · refine sameT_no r q w _ (fun h => ?_) hall
      generalize hA : JV.mk r.k r.n r.s l1 m1 = A at h
      generalize hB : JV.mk q.k q.n q.s l2 m2 = B at h
      cases h with
      | mk el em cl cf cm =>
        simp only [JV.mk.injEq] at hA hB
        obtain ⟨a1, a2, a3, a4, a5⟩ := hA
        obtain ⟨b1, b2, b3, b4, b5⟩ := hB
        subst a4 a5 b4 b5
        exact ⟨a1.trans b1.symm, a2.trans b2.symm, a3.trans b3.symm, by omega, by omega⟩
end Go.Proofs.Ythgkgjcnmahacaa
end

section
/- tree.With, walked. -/
set_option linter.unusedSimpArgs false
set_option linter.unusedVariables false
namespace Go.Proofs.Ythgkgjcnmahacaa
open Go.RowKit Go.OpenShut

theorem place_lt {t : JV} {name : ByteArray} {i : Nat} (h : t.place name = some i) : i < t.mem.length := by
  unfold JV.place at h
  rw [List.findIdx?_eq_some_iff_getElem] at h
  exact h.1

theorem VAt.set4 {W : World} {g : Nat} {r : RV} (h : VAt W g r) (p : Option Addr) (n c : Nat) : VAt (W.setCell ⟨g, 4, none⟩ (.slice p n c)) g { r with pm := p, nm := n, cm := c } := by
  unfold VAt at h ⊢
  simp [World.setCell, Array.getElem?_modify, h]

set_option maxRecDepth 100000 in
set_option maxHeartbeats 2000000 in
theorem with_any (t x : JV) (r q : RV) (name : ByteArray) (w : World) (B : Nat) (hBw : B ≤ w.heap.size) (ht : TreeOf w B t r) (ot : t.Ok) (hx : TreeOf w B x q) (hlen : t.mem.length ≤ 1466015503658) :
    Calls Try.prog 37 #[r.val, .string name, q.val] w (MapRet w B (putM (t.place name) t.mem name x)) := by
  obtain ⟨k, n, s, pl, nl, cl, pm, nm, cm⟩ := r
  obtain ⟨k2, n2, s2, pl2, nl2, cl2, pm2, nm2, cm2⟩ := q
  dsimp only [RV.val] at *
  have HT := Lib.hid ht
  have HO := Lib.hid ot
  have HX := Lib.hid hx
  have HL := Lib.hid hlen
  have hA0 : VAt (((w.alloc (.cells #[.int .i64 k, .int .i64 n, .string s, .slice pl nl cl, .slice pm nm cm] 25)).alloc (.cells #[.int .i64 k2, .int .i64 n2, .string s2, .slice pl2 nl2 cl2, .slice pm2 nm2 cm2] 25)).alloc (.cells #[.int .i64 0, .int .i64 0, .string ⟨#[]⟩, .slice none 0 0, .slice none 0 0] 25)) w.heap.size ⟨k, n, s, pl, nl, cl, pm, nm, cm⟩ := heap_alloc_lt (by simp; omega) (heap_alloc_lt (by simp) (heap_alloc_at rfl))
  have hA1 : VAt (((w.alloc (.cells #[.int .i64 k, .int .i64 n, .string s, .slice pl nl cl, .slice pm nm cm] 25)).alloc (.cells #[.int .i64 k2, .int .i64 n2, .string s2, .slice pl2 nl2 cl2, .slice pm2 nm2 cm2] 25)).alloc (.cells #[.int .i64 0, .int .i64 0, .string ⟨#[]⟩, .slice none 0 0, .slice none 0 0] 25)) (w.heap.size + 1) ⟨k2, n2, s2, pl2, nl2, cl2, pm2, nm2, cm2⟩ := heap_alloc_lt (by simp) (heap_alloc_at (by simp))
  have hA2 : VAt (((w.alloc (.cells #[.int .i64 k, .int .i64 n, .string s, .slice pl nl cl, .slice pm nm cm] 25)).alloc (.cells #[.int .i64 k2, .int .i64 n2, .string s2, .slice pl2 nl2 cl2, .slice pm2 nm2 cm2] 25)).alloc (.cells #[.int .i64 0, .int .i64 0, .string ⟨#[]⟩, .slice none 0 0, .slice none 0 0] 25)) (w.heap.size + 1 + 1) RV.zero := heap_alloc_at (by simp)
  have hB0 := (below2 w (.cells #[.int .i64 k, .int .i64 n, .string s, .slice pl nl cl, .slice pm nm cm] 25) (.cells #[.int .i64 k2, .int .i64 n2, .string s2, .slice pl2 nl2 cl2, .slice pm2 nm2 cm2] 25)).alloc (by simp; omega) (.cells #[.int .i64 0, .int .i64 0, .string ⟨#[]⟩, .slice none 0 0, .slice none 0 0] 25)
  clear ht ot hx hlen
  go_enter Try.func37, Try.ntmps37
  go_upto_region 1 with fail
  obtain ⟨W0, hW0⟩ : ∃ W0, (((w.alloc (.cells #[.int .i64 k, .int .i64 n, .string s, .slice pl nl cl, .slice pm nm cm] 25)).alloc (.cells #[.int .i64 k2, .int .i64 n2, .string s2, .slice pl2 nl2 cl2, .slice pm2 nm2 cm2] 25)).alloc (.cells #[.int .i64 0, .int .i64 0, .string ⟨#[]⟩, .slice none 0 0, .slice none 0 0] 25)) = W0 := ⟨_, rfl⟩
  rw [hW0] at hA0 hA1 hA2 hB0 ⊢
  clear hW0
  have p0 := hA0.cell 0 rfl
  have p1 := hA0.cell 1 rfl
  have p2 := hA0.cell 2 rfl
  have p3 := hA0.cell 3 rfl
  have p4 := hA0.cell 4 rfl
  have hzz : w.heap.size + 1 + 1 < W0.heap.size := hA2.lt
  go_upto_region 2 with (go_at_call 77; refine (members_any t ⟨k, n, s, pl, nl, cl, pm, nm, cm⟩ _ B (Nat.le_trans hBw hB0.size) (HT.out.under (hB0.mono hBw) (Nat.le_refl _)) HO.out).mono ?_; rintro e w1 ⟨pp, pn, pc, rms, rfl, ho1, hms1, hb1⟩)
  have hB1 : Below W0.heap.size W0 (w1.alloc (.cells #[.int .i64 6, .int .i64 0, .string ⟨#[]⟩, .slice none 0 0, .slice pp pn pc] 25)) := hb1.alloc hb1.size _
  have hA3 : VAt (w1.alloc (.cells #[.int .i64 6, .int .i64 0, .string ⟨#[]⟩, .slice none 0 0, .slice pp pn pc] 25)) w1.heap.size ⟨6, 0, ⟨#[]⟩, none, 0, 0, pp, pn, pc⟩ := heap_alloc_at rfl
  have ho2 := ho1.alloc (.cells #[.int .i64 6, .int .i64 0, .string ⟨#[]⟩, .slice none 0 0, .slice pp pn pc] 25)
  have hms2 : MemsOf (w1.alloc (.cells #[.int .i64 6, .int .i64 0, .string ⟨#[]⟩, .slice none 0 0, .slice pp pn pc] 25)) B t.mem rms := hms1.under ((Below.refl _ _).alloc (Nat.le_trans hBw (Nat.le_trans hB0.size hb1.size)) _) (Nat.le_refl _)
  have hp1 : ∀ g, (Value.slice pp pn pc).ownBlock = some g → W0.heap.size ≤ g ∧ g < w1.heap.size := ho1.lt
  obtain ⟨W1, hW1⟩ : ∃ W1, (w1.alloc (.cells #[.int .i64 6, .int .i64 0, .string ⟨#[]⟩, .slice none 0 0, .slice pp pn pc] 25)) = W1 := ⟨_, rfl⟩
  rw [hW1] at hB1 hA3 ho2 hms2 ⊢
  have hz1 : w1.heap.size < W1.heap.size := hA3.lt
  have hz0 : W0.heap.size ≤ w1.heap.size := hb1.size
  clear hW1 ho1 hms1 p0 p1 p2 p3 p4
  have p0 := (hA0.under hB1 (by omega)).cell 0 rfl
  have p1 := (hA0.under hB1 (by omega)).cell 1 rfl
  have p2 := (hA0.under hB1 (by omega)).cell 2 rfl
  have p3 := (hA0.under hB1 (by omega)).cell 3 rfl
  have p4 := (hA0.under hB1 (by omega)).cell 4 rfl
  go_upto_region 3 with (go_at_call 78; refine (place_any t ⟨k, n, s, pl, nl, cl, pm, nm, cm⟩ name _ (HT.out.under ((hB0.trans (hB1.mono hB0.size)).mono hBw) (Nat.le_trans hBw (hB0.trans (hB1.mono hB0.size)).size)) HO.out).mono ?_; rintro e w2 ⟨rfl, hb2⟩)
  clear p0 p1 p2 p3 p4
  have hB2 : Below W0.heap.size W0 w2 := hB1.trans (hb2.mono hB1.size)
  have HA1 := hA1.under hB2 (by omega)
  have HA2 := hA2.under hB2 (by omega)
  have HA3 := hA3.under hb2 hz1
  have ho3 := ho2.below hb2 (Nat.le_refl _)
  have HMS := Lib.hid (hms2.under (hb2.mono (by have := hB0.size; omega)) (Nat.le_refl _))
  have HX2 := Lib.hid (HX.out.under ((hB0.trans (hB2.mono hB0.size)).mono hBw) (Nat.le_refl _))
  clear hms2 ho2 hA0 hA1 hA2 hA3
  have p0 := HA1.cell 0 rfl
  have p1 := HA1.cell 1 rfl
  have p2 := HA1.cell 2 rfl
  have p3 := HA1.cell 3 rfl
  have p4 := HA1.cell 4 rfl
  have m0 := HA3.cell 0 rfl
  have m1 := HA3.cell 1 rfl
  have m2 := HA3.cell 2 rfl
  have m3 := HA3.cell 3 rfl
  have m4 := HA3.cell 4 rfl
  have z0 := HA2.cell 0 rfl
  have z1 := HA2.cell 1 rfl
  have z2 := HA2.cell 2 rfl
  have z3 := HA2.cell 3 rfl
  have z4 := HA2.cell 4 rfl
  dsimp only [RV.zero] at p0 p1 p2 p3 p4 m0 m1 m2 m3 m4 z0 z1 z2 z3 z4
  have y0 := HA2.frozen 0
  have y1 := HA2.frozen 1
  have y2 := HA2.frozen 2
  have y3 := HA2.frozen 3
  have y4 := HA2.frozen 4
  have x4 := HA3.frozen 4
  have HZ := Lib.hid HA2
  have HY := Lib.hid HA3
  clear HA1 HA2 HA3
  generalize hp : t.place name = o
  cases o with
  | some i =>
    have hi := place_lt hp
    have HP := Lib.hid hp
    have hir : i < rms.length := by rw [← HMS.out.len]; exact hi
    obtain ⟨rm, hrm⟩ : ∃ rm, rms[i]? = some rm := ⟨_, List.getElem?_eq_getElem hir⟩
    obtain ⟨g, rfl, hpn, hg1, hg2, hcell, hfr⟩ := Own.at codecM ho3 hrm
    have hn : placeI (some i) = (i : Int) := rfl
    rw [hn]
    have hi0 : (0 : Int) ≤ (i : Int) := Int.natCast_nonneg _
    have hi1 : (i : Int) < (pn : Int) := by omega
    have e1 := hcell 1 _ rfl
    have e2 := hcell 2 _ rfl
    have e3 := hcell 3 _ rfl
    have e4 := hcell 4 _ rfl
    have e5 := hcell 5 _ rfl
    have k1 := hfr (i * 6 + 1)
    have k2' := hfr (i * 6 + 2)
    have k3 := hfr (i * 6 + 3)
    have k4 := hfr (i * 6 + 4)
    have k5 := hfr (i * 6 + 5)
    have HS := Lib.hid (Own.storedV ho3 hrm ⟨k2, n2, s2, pl2, nl2, cl2, pm2, nm2, cm2⟩)
    have hne : rm.name = name := by
      obtain ⟨p, h1, h2⟩ := getM hp
      rw [← h2]
      exact (HMS.out.name i p rm h1 hrm).symm
    have HPUT := Lib.hid (HMS.out.set i (p := (name, x)) (q := ⟨rm.name, ⟨k2, n2, s2, pl2, nl2, cl2, pm2, nm2, cm2⟩⟩) hne.symm HX2.out)
    clear hn hp hcell hfr hpn hrm hne
    go_upto_region 5 with fail
    obtain ⟨w3, hw3⟩ : ∃ w3, ((((w2.setCell ⟨g, i * 6 + 1, none⟩ (.int .i64 k2)).setCell ⟨g, i * 6 + 1 + 1, none⟩ (.int .i64 n2)).setCell ⟨g, i * 6 + 1 + 2, none⟩ (.string s2)).setCell ⟨g, i * 6 + 1 + 3, none⟩ (.slice pl2 nl2 cl2)).setCell ⟨g, i * 6 + 1 + 4, none⟩ (.slice pm2 nm2 cm2) = w3 := ⟨_, rfl⟩
    have ho4 : Own w3 W0.heap.size 90 encM 6 (.slice (some ⟨g, 0, none⟩) pn pc) (rms.set i ⟨rm.name, ⟨k2, n2, s2, pl2, nl2, cl2, pm2, nm2, cm2⟩⟩) := by rw [← hw3]; exact HS.out.1
    have hg4 : w2.grownBy w3 (some g) := by rw [← hw3]; exact HS.out.2
    rw [hw3]
    clear hw3 HS e1 e2 e3 e4 e5 k1 k2' k3 k4 k5
    have hb4 : Below W0.heap.size w2 w3 := (Below.refl _ _).grown hg4 hB2.size (fun j e => by cases e; exact hg1)
    have hg7 : g ≠ w1.heap.size := by have := hp1 g rfl; omega
    have HZ4 : VAt w3 (w.heap.size + 1 + 1) RV.zero := HZ.out.under hb4 (by omega)
    have HY4 : VAt w3 w1.heap.size ⟨6, 0, ⟨#[]⟩, none, 0, 0, some ⟨g, 0, none⟩, pn, pc⟩ := (hg4.block _ (by have := hb2.size; omega) (fun h => hg7 (by cases h; rfl))).trans HY.out
    clear z0 z1 z2 z3 z4 m0 m1 m2 m3 m4 y0 y1 y2 y3 y4
    have m0 := HY4.cell 0 rfl
    have m1 := HY4.cell 1 rfl
    have m2 := HY4.cell 2 rfl
    have m3 := HY4.cell 3 rfl
    have m4 := HY4.cell 4 rfl
    have z0 := HZ4.cell 0 rfl
    have z1 := HZ4.cell 1 rfl
    have z2 := HZ4.cell 2 rfl
    have z3 := HZ4.cell 3 rfl
    have z4 := HZ4.cell 4 rfl
    dsimp only [RV.zero] at m0 m1 m2 m3 m4 z0 z1 z2 z3 z4
    have y0 := HZ4.frozen 0
    have y1 := HZ4.frozen 1
    have y2 := HZ4.frozen 2
    have y3 := HZ4.frozen 3
    have y4 := HZ4.frozen 4
    go_wp2_with fail
    have hB4 : Below w.heap.size w w3 := hB0.trans ((hB2.trans hb4).mono hB0.size)
    refine bodyPost_ret (v := RV.val ⟨6, 0, ⟨#[]⟩, none, 0, 0, some ⟨g, 0, none⟩, pn, pc⟩) (by simp [results, Try.results37, go_sem, z0, z1, z2, z3, z4]) rfl ⟨some ⟨g, 0, none⟩, pn, pc, rms.set i ⟨rm.name, ⟨k2, n2, s2, pl2, nl2, cl2, pm2, nm2, cm2⟩⟩, rfl, ?_, ?_, Below.stored hB4 (by omega) ⟨6, 0, ⟨#[]⟩, none, 0, 0, some ⟨g, 0, none⟩, pn, pc⟩⟩
    · exact (ho4.mono hB0.size).kept (grownBy_set5 w3 (w.heap.size + 1 + 1) ⟨6, 0, ⟨#[]⟩, none, 0, 0, some ⟨g, 0, none⟩, pn, pc⟩) (.inr (by simp [Value.ownBlock]; omega))
    · rw [HP.out]
      exact (HPUT.out.under (hb4.mono (Nat.le_trans hBw hB0.size)) (Nat.le_refl _)).under (Below.stored (Below.refl _ _) (by omega) ⟨6, 0, ⟨#[]⟩, none, 0, 0, some ⟨g, 0, none⟩, pn, pc⟩) (Nat.le_refl _)
  | none =>
    have HP := Lib.hid hp
    have hn : placeI (none : Option Nat) = -1 := rfl
    rw [hn]
    have hrl : rms.length = t.mem.length := HMS.out.len.symm
    have HRL := Lib.hid hrl
    have HW := Lib.hid hB2.size
    clear hn hp hrl
    have hL2 := HL.out
    have hne : ∀ g, (Value.slice pp pn pc).ownBlock = some g → W0.heap.size ≤ g ∧ g < w1.heap.size := hp1
    have HNE := Lib.hid hne
    have HYA : Hid (VAt (w2.alloc (.cells #[.string name, .int .i64 k2, .int .i64 n2, .string s2, .slice pl2 nl2 cl2, .slice pm2 nm2 cm2] 90)) w1.heap.size ⟨6, 0, ⟨#[]⟩, none, 0, 0, pp, pn, pc⟩) := heap_alloc_lt (by have := hb2.size; omega) HY.out
    have HZA : Hid (VAt (w2.alloc (.cells #[.string name, .int .i64 k2, .int .i64 n2, .string s2, .slice pl2 nl2 cl2, .slice pm2 nm2 cm2] 90)) (w.heap.size + 1 + 1) RV.zero) := heap_alloc_lt (by have := hb2.size; omega) HZ.out
    have hz2 := hb2.size
    clear hne hp1
    go_upto_region 7 with (at_builtin; refine wpList_append_rd slM codecM (w2.alloc (.cells #[.string name, .int .i64 k2, .int .i64 n2, .string s2, .slice pl2 nl2 cl2, .slice pm2 nm2 cm2] 90)) rfl (.tmp 25) (.tmp 29) rfl (v := .slice pp pn pc) rfl rfl (ho3.alloc _) (Rd.one (B := w2.heap.size + 1) (x := (⟨name, ⟨k2, n2, s2, pl2, nl2, cl2, pm2, nm2, cm2⟩⟩ : RM)) codecM (heap_alloc_new _ _) rfl (by omega)) (by have := HRL.out; simp; unfold maxLen; omega) (by have := HRL.out; simp; omega) (by have := HW.out; simp; omega) ?_; intro v3 w3 ho4 hg4 hat4; obtain ⟨p3, c3, hv3, hq1, hq2⟩ := ho4.len; rw [List.length_append, List.length_singleton] at hv3; subst hv3; clear hq1 hq2; (have HY3 : VAt w3 w1.heap.size ⟨6, 0, ⟨#[]⟩, none, 0, 0, pp, pn, pc⟩ := (hg4.block _ (by simp; omega) (fun h => by have := (HNE.out _ h.symm).2; omega)).trans HYA.out); (have m4' := HY3.cell 4 rfl); (have x4' := HY3.frozen 4); (have HY4 := Lib.hid (HY3.set4 p3 (rms.length + 1) c3)); clear HY3; go_frame)
    have hBo : Below W0.heap.size w2 w3 := Below.appended ((Below.refl _ _).alloc hB2.size _) hg4 (ho3.alloc _) (by have := HW.out; simp; omega)
    have HZ3 : VAt w3 (w.heap.size + 1 + 1) RV.zero := HZ.out.under hBo (by omega)
    have hlt3 := ho4.lt
    obtain ⟨w4, hw4⟩ : ∃ w4, w3.setCell ⟨w1.heap.size, 4, none⟩ (.slice p3 (rms.length + 1) c3) = w4 := ⟨_, rfl⟩
    have HY4' : VAt w4 w1.heap.size ⟨6, 0, ⟨#[]⟩, none, 0, 0, p3, rms.length + 1, c3⟩ := by rw [← hw4]; exact HY4.out
    have hg5 : w3.grownBy w4 (some w1.heap.size) := by rw [← hw4]; exact grownBy_set _ _ _ _
    rw [hw4]
    clear hw4 HY4 m4' x4'
    have hne5 : ∀ j, (Value.slice p3 (rms.length + 1) c3).ownBlock = some j → j ≠ w1.heap.size := by
      intro j hj e
      subst e
      rcases hat4 with h | h
      · rw [hj] at h
        have := (HNE.out _ h.symm).2
        omega
      · rw [hj] at h
        simp at h
        omega
    have ho5 := ho4.kept hg5 (by
      cases hob : (Value.slice p3 (rms.length + 1) c3).ownBlock with
      | none => exact .inl rfl
      | some j => exact .inr (fun h => hne5 j hob (by injection h)))
    have hB5 : Below W0.heap.size w2 w4 := hBo.grown hg5 (by have := hBo.size; have := HW.out; omega) (fun j e => by cases e; exact hz0)
    have HZ5 : VAt w4 (w.heap.size + 1 + 1) RV.zero := HZ.out.under hB5 (by omega)
    clear z0 z1 z2 z3 z4 m0 m1 m2 m3 m4 y0 y1 y2 y3 y4 p0 p1 p2 p4 x4
    have m0 := HY4'.cell 0 rfl
    have m1 := HY4'.cell 1 rfl
    have m2 := HY4'.cell 2 rfl
    have m3 := HY4'.cell 3 rfl
    have m4 := HY4'.cell 4 rfl
    have z0 := HZ5.cell 0 rfl
    have z1 := HZ5.cell 1 rfl
    have z2 := HZ5.cell 2 rfl
    have z3 := HZ5.cell 3 rfl
    have z4 := HZ5.cell 4 rfl
    dsimp only [RV.zero] at m0 m1 m2 m3 m4 z0 z1 z2 z3 z4
    have y0 := HZ5.frozen 0
    have y1 := HZ5.frozen 1
    have y2 := HZ5.frozen 2
    have y3 := HZ5.frozen 3
    have y4 := HZ5.frozen 4
    have HO5 := Lib.hid ho5
    have HB4 : Hid (Below w.heap.size w w4) := hB0.trans ((hB2.trans hB5).mono hB0.size)
    have HPUT := Lib.hid ((HMS.out.snoc (p := (name, x)) (q := ⟨name, ⟨k2, n2, s2, pl2, nl2, cl2, pm2, nm2, cm2⟩⟩) rfl HX2.out).under (hB5.mono (Nat.le_trans hBw hB0.size)) (Nat.le_refl _))
    clear ho5 ho4 hne5 hg4 hat4 hg5 ho3 hlt3
    go_wp2_with fail
    refine bodyPost_ret (v := RV.val ⟨6, 0, ⟨#[]⟩, none, 0, 0, p3, rms.length + 1, c3⟩) (by simp [results, Try.results37, go_sem, z0, z1, z2, z3, z4]) rfl ⟨p3, rms.length + 1, c3, rms ++ [⟨name, ⟨k2, n2, s2, pl2, nl2, cl2, pm2, nm2, cm2⟩⟩], rfl, ?_, ?_, Below.stored HB4.out (by omega) ⟨6, 0, ⟨#[]⟩, none, 0, 0, p3, rms.length + 1, c3⟩⟩
    · have hlt := HO5.out.lt
      refine (HO5.out.mono hB0.size).kept (grownBy_set5 w4 (w.heap.size + 1 + 1) ⟨6, 0, ⟨#[]⟩, none, 0, 0, p3, rms.length + 1, c3⟩) ?_
      cases hob : (Value.slice p3 (rms.length + 1) c3).ownBlock with
      | none => exact .inl rfl
      | some j =>
        refine .inr (fun h => ?_)
        have := (hlt j hob).1
        injection h with h
        omega
    · rw [HP.out]
      exact HPUT.out.under (Below.stored (Below.refl _ _) (by omega) ⟨6, 0, ⟨#[]⟩, none, 0, 0, p3, rms.length + 1, c3⟩) (Nat.le_refl _)
end Go.Proofs.Ythgkgjcnmahacaa
end

section
/- A call's own boxes and what is known of trees, carried from world to world. -/
set_option linter.unusedSimpArgs false
set_option linter.unusedVariables false
namespace Go.Proofs.Ythgkgjcnmahacaa
open Go.RowKit Go.OpenShut

/-- Below B the world is as W was. -/
def KB (B : Nat) (W w : World) : Prop := Below B W w ∧ ∀ b o, b < B → w.cell? ⟨b, o, none⟩ = W.cell? ⟨b, o, none⟩
theorem KB.mk {B : Nat} {W w : World} (h : Below B W w) : KB B W w := ⟨h, fun b o hb => h.cell (p := ⟨b, o, none⟩) hb⟩
theorem KB.fin {b B : Nat} {w W w' : World} (hk : KB B W w') (h : Below b w W) (hb : b ≤ B) : Below b w w' := h.trans (hk.1.mono hb)
theorem KB.refl (W : World) : KB W.heap.size W W := KB.mk (Below.refl _ _)
theorem KB.step {W w w' : World} (hk : KB W.heap.size W w) (h : Below w.heap.size w w') : KB W.heap.size W w' := KB.mk (hk.1.trans (h.mono hk.1.size))
theorem KB.drew (W : World) : KB W.heap.size W W.drew := KB.mk (Below.refl _ _).drew

/-- A value in a box of its own. -/
abbrev RV.obj (r : RV) : Obj := .cells #[.int .i64 r.k, .int .i64 r.n, .string r.s, .slice r.pl r.nl r.cl, .slice r.pm r.nm r.cm] 25

/-- What a walk knows at the world W: the boxes L, the trees T. -/
structure Ctx (b : Nat) (w0 W : World) (L : List (Nat × RV)) (T : List (JV × RV)) : Prop where
  below : Below b w0 W
  le : b ≤ W.heap.size
  loc : ∀ (i g : Nat) (r : RV), L[i]? = some (g, r) → g < W.heap.size ∧ VAt W g r
  tree : ∀ (i : Nat) (t : JV) (r : RV), T[i]? = some (t, r) → TreeOf W W.heap.size t r
theorem Ctx.nil (w : World) : Ctx w.heap.size w w [] [] := ⟨Below.refl _ _, Nat.le_refl _, fun i g r h => by simp at h, fun i t r h => by simp at h⟩
section
variable {b : Nat} {w0 W w : World} {L : List (Nat × RV)} {T : List (JV × RV)} (h : Ctx b w0 W L T)
include h
theorem Ctx.go (hb : Below W.heap.size W w) : Ctx b w0 w L T :=
  ⟨h.below.trans (hb.mono h.le), Nat.le_trans h.le hb.size, fun i g r hi => ⟨Nat.lt_of_lt_of_le (h.loc i g r hi).1 hb.size, (h.loc i g r hi).2.under hb (h.loc i g r hi).1⟩, fun i t r hi => (h.tree i t r hi).under hb hb.size⟩
theorem Ctx.alloc (x : RV) : Ctx b w0 (W.alloc x.obj) ((W.heap.size, x) :: L) T := by
  have g := h.go ((Below.refl _ _).alloc (Nat.le_refl _) x.obj)
  refine ⟨g.below, g.le, fun i k r hi => ?_, g.tree⟩
  cases i with
  | zero =>
    cases hi
    exact ⟨by simp, heap_alloc_at rfl⟩
  | succ i => exact g.loc i k r hi
theorem Ctx.know {t : JV} {x : RV} (hx : TreeOf W W.heap.size t x) : Ctx b w0 W L ((t, x) :: T) := by
  refine ⟨h.below, h.le, h.loc, fun i u r hi => ?_⟩
  cases i with
  | zero => cases hi; exact hx
  | succ i => exact h.tree i u r hi
theorem Ctx.box (hk : KB W.heap.size W w) {t : JV} {x : RV} (hx : TreeOf w w.heap.size t x) : Ctx b w0 (w.alloc x.obj) ((w.heap.size, x) :: L) ((t, x) :: T) :=
  ((h.go hk.1).know hx).alloc x
theorem Ctx.tk (hk : KB W.heap.size W w) (i : Nat) {t : JV} {r : RV} (hi : T[i]? = some (t, r)) : TreeOf w w.heap.size t r := (h.tree i t r hi).under hk.1 hk.1.size
theorem Ctx.lt (i : Nat) {g : Nat} {r : RV} (hi : L[i]? = some (g, r)) : g < W.heap.size := (h.loc i g r hi).1
theorem Ctx.at (i : Nat) {g : Nat} {r : RV} (hi : L[i]? = some (g, r)) : VAt W g r := (h.loc i g r hi).2
theorem Ctx.fin (hk : KB W.heap.size W w) : Below b w0 w := h.below.trans (hk.1.mono h.le)
end
end Go.Proofs.Ythgkgjcnmahacaa
end

section
/- store.Put: what it says, and the ways on which nothing is put in; walked. -/
set_option linter.unusedSimpArgs false
set_option linter.unusedVariables false
namespace Go.Proofs.Ythgkgjcnmahacaa
open Go.RowKit Go.OpenShut

/-- The value at the place of an id. -/
def oldV (os : List (ByteArray × JV)) (id : ByteArray) : JV := ((os[lowN os id]?).map (·.2)).getD JV.zero
open Classical in
/-- What Put answers: the box, and why not. -/
noncomputable def putB (b : BoxD) (id : ByteArray) (v : JV) : BoxD × Int :=
  if isAt b.objs id = true then
    if SameT (oldV b.objs id) v then (b, 0) else if 9007199254740991 ≤ b.seq then (BoxD.zero, 180) else (chgB b (b.objs.set (lowN b.objs id) (id, v)) id 2, 0)
  else if toldB b.trail id = true then (BoxD.zero, 181) else if 9007199254740991 ≤ b.seq then (BoxD.zero, 180) else (chgB b (b.objs.take (lowN b.objs id) ++ (id, v) :: b.objs.drop (lowN b.objs id)) id 1, 0)
/-- A box and a number are told. -/
def BoxErr (w : World) (p : BoxD × Int) (e : Ending) (w' : World) : Prop := ∃ q, e = .returned (.tuple #[RB.val q, .int .i64 p.2]) ∧ NewBox w' w.heap.size w.heap.size p.1 q ∧ Below w.heap.size w w'
theorem NewBox.zero (w : World) (base B : Nat) : NewBox w base B BoxD.zero RB.zero := ⟨⟨[], Own.nil _ _ _, MemsOf.nil _ _⟩, Own.nil _ _ _, fun e h => by simp [BoxD.zero] at h, rfl, rfl, rfl⟩

/-- Put's own variables: the box, the id, the value, what is answered. -/
structure PutS (w W : World) (r : RB) (id : ByteArray) (v : RV) : Prop where
  box : BoxAt W w.heap.size r
  str : W.heap[w.heap.size + 1]? = some (.cells #[.string id] 9 (0, 0))
  val : VAt W (w.heap.size + 1 + 1) v
  zero : BoxAt W (w.heap.size + 1 + 1 + 1) RB.zero
  below : Below w.heap.size w W
section
variable {w W W' : World} {r : RB} {id : ByteArray} {v : RV} (h : PutS w W r id v)
include h
theorem PutS.size : w.heap.size + 1 + 1 + 1 < W.heap.size := h.zero.lt
theorem PutS.sizes : w.heap.size < W.heap.size ∧ w.heap.size + 1 < W.heap.size ∧ w.heap.size + 1 + 1 < W.heap.size := by have := h.size; omega
theorem PutS.scell : W.cell? ⟨w.heap.size + 1, 0, none⟩ = some (.string id) := by rw [cell_of_row W _ 0 _ _ _ h.str]; rfl
theorem PutS.go (hb : Below W.heap.size W W') : PutS w W' r id v :=
  ⟨h.box.under hb h.sizes.1, (hb.block _ h.sizes.2.1).trans h.str, h.val.under hb h.sizes.2.2, h.zero.under hb h.size, h.below.trans (hb.mono h.below.size)⟩
theorem PutS.setBox (q : RB) (hq : BoxAt W' w.heap.size q) (hg : W.grownBy W' (some w.heap.size)) : PutS w W' q id v :=
  ⟨hq, (hg.block _ h.sizes.2.1 (by simp)).trans h.str, (hg.block _ h.sizes.2.2 (by simp; omega)).trans h.val, h.zero.kept hg (by omega), h.below.grown hg h.below.size (fun a e => by cases e; exact Nat.le_refl _)⟩
theorem PutS.row {row : Option Nat} (hg : W.grownBy W' row) (hr : ∀ k, row = some k → w.heap.size + 1 + 1 + 1 < k) : PutS w W' r id v := by
  have hz := h.size
  have hb : ∀ k, k ≤ w.heap.size + 1 + 1 + 1 → W'.heap[k]? = W.heap[k]? := fun k hk => hg.block k (by omega) (fun e => by have := hr k e.symm; omega)
  exact ⟨(hb _ (by omega)).trans h.box, (hb _ (by omega)).trans h.str, (hb _ (by omega)).trans h.val, (hb _ (by omega)).trans h.zero, h.below.grown hg h.below.size (fun a e => by have := hr a e; omega)⟩
theorem PutS.other {g : Nat} (hg : W.grownBy W' (some g)) (hgw : W.heap.size ≤ g ∨ w.heap.size + 1 + 1 + 1 < g) : PutS w W' r id v := by
  have hz := h.size
  exact ⟨h.box.kept hg (by omega), (hg.block _ h.sizes.2.1 (by simp; omega)).trans h.str, (hg.block _ h.sizes.2.2 (by simp; omega)).trans h.val, h.zero.kept hg (by omega), h.below.grown hg h.below.size (fun a e => by cases e; omega)⟩
end
theorem PutS.start (w : World) (r : RB) (id : ByteArray) (v : RV) : PutS w ((((w.alloc (.cells #[.slice r.po r.no r.co, .slice r.pt r.nt r.ct, .int .i64 r.sq, .int .i64 r.fl, .int .i64 r.kp] 35)).alloc (.cells #[.string id] 9)).alloc (.cells #[.int .i64 v.k, .int .i64 v.n, .string v.s, .slice v.pl v.nl v.cl, .slice v.pm v.nm v.cm] 25)).alloc (.cells #[.slice none 0 0, .slice none 0 0, .int .i64 0, .int .i64 0, .int .i64 0] 35)) r id v :=
  ⟨heap_alloc_lt (by simp <;> omega) (heap_alloc_lt (by simp <;> omega) (heap_alloc_lt (by simp) (heap_alloc_at rfl))), heap_alloc_lt (by simp <;> omega) (heap_alloc_lt (by simp) (heap_alloc_at (by simp))), heap_alloc_lt (by simp) (heap_alloc_at (by simp)), heap_alloc_at (by simp),
    (((Below.refl _ _).alloc (Nat.le_refl _) _).alloc (by simp) _ |>.alloc (by simp <;> omega) _).alloc (by simp <;> omega) _⟩

theorem Own.storedVO {w : World} {base : Nat} {g n cap : Nat} {xs : List RM} (h : Own w base 46 encM 6 (.slice (some ⟨g, 0, none⟩) n cap) xs) {k : Nat} {x : RM} (hx : xs[k]? = some x) (q : RV) :
    Own (((((w.setCell ⟨g, k * 6 + 1, none⟩ (.int .i64 q.k)).setCell ⟨g, k * 6 + 2, none⟩ (.int .i64 q.n)).setCell ⟨g, k * 6 + 3, none⟩ (.string q.s)).setCell ⟨g, k * 6 + 4, none⟩ (.slice q.pl q.nl q.cl)).setCell ⟨g, k * 6 + 5, none⟩ (.slice q.pm q.nm q.cm)) base 46 encM 6 (.slice (some ⟨g, 0, none⟩) n cap) (xs.set k ⟨x.name, q⟩) ∧
    w.grownBy (((((w.setCell ⟨g, k * 6 + 1, none⟩ (.int .i64 q.k)).setCell ⟨g, k * 6 + 2, none⟩ (.int .i64 q.n)).setCell ⟨g, k * 6 + 3, none⟩ (.string q.s)).setCell ⟨g, k * 6 + 4, none⟩ (.slice q.pl q.nl q.cl)).setCell ⟨g, k * 6 + 5, none⟩ (.slice q.pm q.nm q.cm)) (some g) := by
  have hk := (List.getElem?_eq_some_iff.1 hx).1
  have e : ∀ (y : RM) (z : RM), (xs.set k y)[k]? = some y := fun y z => by simp [List.getElem?_set, hk]
  have s1 := Own.storedAt codecM h (j := 1) (y := ⟨x.name, ⟨q.k, x.v.n, x.v.s, x.v.pl, x.v.nl, x.v.cl, x.v.pm, x.v.nm, x.v.cm⟩⟩) (u := .int .i64 q.k) hx (by decide) rfl
  have s2 := Own.storedAt codecM s1.1 (j := 2) (y := ⟨x.name, ⟨q.k, q.n, x.v.s, x.v.pl, x.v.nl, x.v.cl, x.v.pm, x.v.nm, x.v.cm⟩⟩) (u := .int .i64 q.n) (e _ x) (by decide) rfl
  simp only [List.set_set] at s2
  have s3 := Own.storedAt codecM s2.1 (j := 3) (y := ⟨x.name, ⟨q.k, q.n, q.s, x.v.pl, x.v.nl, x.v.cl, x.v.pm, x.v.nm, x.v.cm⟩⟩) (u := .string q.s) (e _ x) (by decide) rfl
  simp only [List.set_set] at s3
  have s4 := Own.storedAt codecM s3.1 (j := 4) (y := ⟨x.name, ⟨q.k, q.n, q.s, q.pl, q.nl, q.cl, x.v.pm, x.v.nm, x.v.cm⟩⟩) (u := .slice q.pl q.nl q.cl) (e _ x) (by decide) rfl
  simp only [List.set_set] at s4
  have s5 := Own.storedAt codecM s4.1 (j := 5) (y := ⟨x.name, q⟩) (u := .slice q.pm q.nm q.cm) (e _ x) (by decide) rfl
  simp only [List.set_set] at s5
  exact ⟨s5.1, (((s1.2.trans s2.2).trans s3.2).trans s4.2).trans s5.2⟩

theorem NewBox.ne {W : World} {base B g : Nat} {b : BoxD} {r : RB} (h : NewBox W base B b r) (hg : g < base) : (Value.slice r.po r.no r.co).ownBlock ≠ some g ∧ (Value.slice r.pt r.nt r.ct).ownBlock ≠ some g := by
  obtain ⟨ros, h1, _⟩ := h.objs
  exact ⟨fun e => by have := (h1.lt _ e).1; omega, fun e => by have := (h.trail.lt _ e).1; omega⟩
/-- Slices of unlike elements lie in unlike blocks. -/
theorem Own.unlike {α β : Type} {e1 : α → List Value} {e2 : β → List Value} {s1 s2 b1 b2 : Nat} {t1 t2 : TypeId} {w : World} {v1 v2 : Value} {xs : List α} {ys : List β} (h1 : Own w b1 t1 e1 s1 v1 xs) (h2 : Own w b2 t2 e2 s2 v2 ys) (hne : t1 ≠ t2) {k : Nat} (hk : v1.ownBlock = some k) : v2.ownBlock ≠ some k := by
  intro hk2
  obtain ⟨_, h1⟩ := h1
  obtain ⟨_, h2⟩ := h2
  rcases h1 with ⟨rfl, _⟩ | ⟨g, cap, cur, rfl, _, hh, _⟩
  · simp [Value.ownBlock] at hk
  · rcases h2 with ⟨rfl, _⟩ | ⟨g', cap', cur', rfl, _, hh', _⟩
    · simp [Value.ownBlock] at hk2
    · simp only [Value.ownBlock, Option.some.injEq] at hk hk2
      subst hk
      subst hk2
      rw [hh] at hh'
      simp only [Option.some.injEq, Obj.cells.injEq] at hh'
      exact hne hh'.2.1
theorem MemsOf.insert {w : World} {B : Nat} {ms : List (ByteArray × JV)} {rms : List RM} (h : MemsOf w B ms rms) (i : Nat) {p : ByteArray × JV} {q : RM} (hn : p.1 = q.name) (ht : TreeOf w B p.2 q.v) : MemsOf w B (ms.take i ++ p :: ms.drop i) (rms.take i ++ q :: rms.drop i) := by
  have hl := h.len
  have key : ∀ (j : Nat) a c, (ms.take i ++ p :: ms.drop i)[j]? = some a → (rms.take i ++ q :: rms.drop i)[j]? = some c → a.1 = c.name ∧ TreeOf w B a.2 c.v := by
    intro j a c h1 h2
    have hlt : (ms.take i).length = (rms.take i).length := by simp [hl]
    by_cases hj : j < (ms.take i).length
    · rw [List.getElem?_append_left hj, List.getElem?_take] at h1
      rw [List.getElem?_append_left (by omega), List.getElem?_take] at h2
      split at h1
      · rename_i h3
        rw [if_pos h3] at h2
        exact ⟨h.name _ _ _ h1 h2, h.val _ _ _ h1 h2⟩
      · cases h1
    · rw [List.getElem?_append_right (by omega)] at h1
      rw [List.getElem?_append_right (by omega), ← hlt] at h2
      cases hk : j - (ms.take i).length with
      | zero =>
        rw [hk] at h1 h2
        cases h1; cases h2
        exact ⟨hn, ht⟩
      | succ k =>
        rw [hk, List.getElem?_cons_succ, List.getElem?_drop] at h1 h2
        exact ⟨h.name _ _ _ h1 h2, h.val _ _ _ h1 h2⟩
  exact ⟨by simp [hl], fun j a c h1 h2 => (key j a c h1 h2).1, fun j a c h1 h2 => (key j a c h1 h2).2⟩
theorem MemsOf.delete {w : World} {B : Nat} {ms : List (ByteArray × JV)} {rms : List RM} (h : MemsOf w B ms rms) (i : Nat) : MemsOf w B (ms.take i ++ ms.drop (i + 1)) (rms.take i ++ rms.drop (i + 1)) := by
  have hl := h.len
  have key : ∀ (j : Nat) a c, (ms.take i ++ ms.drop (i + 1))[j]? = some a → (rms.take i ++ rms.drop (i + 1))[j]? = some c → a.1 = c.name ∧ TreeOf w B a.2 c.v := by
    intro j a c h1 h2
    have hlt : (ms.take i).length = (rms.take i).length := by simp [hl]
    by_cases hj : j < (ms.take i).length
    · rw [List.getElem?_append_left hj, List.getElem?_take] at h1
      rw [List.getElem?_append_left (by omega), List.getElem?_take] at h2
      split at h1
      · rename_i h3
        rw [if_pos h3] at h2
        exact ⟨h.name _ _ _ h1 h2, h.val _ _ _ h1 h2⟩
      · cases h1
    · rw [List.getElem?_append_right (by omega), List.getElem?_drop] at h1
      rw [List.getElem?_append_right (by omega), ← hlt, List.getElem?_drop] at h2
      exact ⟨h.name _ _ _ h1 h2, h.val _ _ _ h1 h2⟩
  exact ⟨by simp [hl], fun j a c h1 h2 => (key j a c h1 h2).1, fun j a c h1 h2 => (key j a c h1 h2).2⟩
theorem BoxAt.set0 {W : World} {g : Nat} {r : RB} (h : BoxAt W g r) (p : Option Addr) (n c : Nat) : BoxAt (W.setCell ⟨g, 0, none⟩ (.slice p n c)) g { r with po := p, no := n, co := c } := by
  unfold BoxAt at h ⊢
  simp [World.setCell, Array.getElem?_modify, h]
/-- Its list of objects replaced by another one of the call's own. -/
theorem NewBox.withObjs {W W' : World} {base B : Nat} {b : BoxD} {r : RB} (h : NewBox W base B b r) {row : Option Nat} (hg : W.grownBy W' row) (hrow : row = (Value.slice r.po r.no r.co).ownBlock) (hne : 46 ≠ 48) {p : Option Addr} {n c : Nat} {os : List (ByteArray × JV)} {ros : List RM} (ho : Own W' base 46 encM 6 (.slice p n c) ros) (hm : MemsOf W' B os ros) :
    NewBox W' base B { b with objs := os } { r with po := p, no := n, co := c } := by
  obtain ⟨ros0, h1, _⟩ := h.objs
  refine ⟨⟨ros, ho, hm⟩, h.trail.kept hg ?_, h.ok, h.seq, h.floor, h.keep⟩
  subst hrow
  cases e : (Value.slice r.pt r.nt r.ct).ownBlock with
  | none => exact .inl rfl
  | some k => exact .inr (fun e2 => Own.unlike h1 h.trail hne e2.symm e)
end Go.Proofs.Ythgkgjcnmahacaa
end

section
/- store.Put, walked. -/
set_option linter.unusedSimpArgs false
set_option linter.unusedVariables false
namespace Go.Proofs.Ythgkgjcnmahacaa
open Go.RowKit Go.OpenShut

theorem isAt_some {os : List (ByteArray × JV)} {id : ByteArray} (h : isAt os id = true) : ∃ p, os[lowN os id]? = some p ∧ p.1 = id ∧ oldV os id = p.2 := by
  unfold isAt at h
  unfold oldV
  cases e : os[lowN os id]? with
  | none => rw [e] at h; cases h
  | some p => rw [e] at h; exact ⟨p, rfl, by simpa using h, rfl⟩
theorem lowN_le (os : List (ByteArray × JV)) (id : ByteArray) : lowN os id ≤ os.length := (List.takeWhile_sublist _).length_le

set_option maxRecDepth 200000 in
set_option maxHeartbeats 8000000 in
theorem put_any (b : BoxD) (r : RB) (id : ByteArray) (v : JV) (vr : RV) (w : World) (hb : BoxOf w w.heap.size b r) (hr : Rising b.objs) (ob : b.Ok) (hv : TreeOf w w.heap.size v vr) (ov : v.Ok) (hid : id.size ≤ 140737488351232) :
    Calls Try.prog 22 #[r.val, .string id, vr.val] w (BoxErr w (putB b id v)) := by
  have hS := PutS.start w r id vr
  have HV := Lib.hid hv
  have HOV := Lib.hid ov
  have HBX := Lib.hid hb
  have HR := Lib.hid hr
  have HOB := Lib.hid ob
  have HID := Lib.hid hid
  have HSQ : Hid (b.seq = r.sq ∧ b.objs.length = r.no) := ⟨hb.seq, hb.objs.nlen⟩
  have hlo := lowN_le b.objs id
  clear hv ov hb hr ob hid
  go_enter Try.func22, Try.ntmps22
  go_upto_region 1 with fail
  obtain ⟨W0, hW0⟩ : ∃ W0, ((((w.alloc (.cells #[.slice r.po r.no r.co, .slice r.pt r.nt r.ct, .int .i64 r.sq, .int .i64 r.fl, .int .i64 r.kp] 35)).alloc (.cells #[.string id] 9)).alloc (.cells #[.int .i64 vr.k, .int .i64 vr.n, .string vr.s, .slice vr.pl vr.nl vr.cl, .slice vr.pm vr.nm vr.cm] 25)).alloc (.cells #[.slice none 0 0, .slice none 0 0, .int .i64 0, .int .i64 0, .int .i64 0] 35)) = W0 := ⟨_, rfl⟩
  rw [hW0] at hS ⊢
  clear hW0
  have HS := Lib.hid hS
  have hz0 := hS.sizes
  have c0 := hS.box.cell 0 rfl
  have c1 := hS.box.cell 1 rfl
  have c2 := hS.box.cell 2 rfl
  have c3 := hS.box.cell 3 rfl
  have c4 := hS.box.cell 4 rfl
  have s0 := hS.scell
  have HPL := Lib.hid (placeO_any b r id W0 (HBX.out.under hS.below hS.below.size) HR.out HOB.out)
  clear hS
  go_upto_region 2 with (go_at_call 59; refine HPL.out.mono ?_; rintro e w1 ⟨rfl, hb1⟩)
  have HS1 := Lib.hid (HS.out.go hb1)
  clear HPL HS hb1 c0 c1 c2 c3 c4 s0 hz0
  have hz1 := HS1.out.sizes
  have hzz := HS1.out.size
  have hBX1 := HBX.out.under HS1.out.below HS1.out.below.size
  have c0 := HS1.out.box.cell 0 rfl
  have c1 := HS1.out.box.cell 1 rfl
  have c2 := HS1.out.box.cell 2 rfl
  have c3 := HS1.out.box.cell 3 rfl
  have c4 := HS1.out.box.cell 4 rfl
  have s0 := HS1.out.scell
  have e0 := HS1.out.val.cell 0 rfl
  have e1 := HS1.out.val.cell 1 rfl
  have e2 := HS1.out.val.cell 2 rfl
  have e3 := HS1.out.val.cell 3 rfl
  have e4 := HS1.out.val.cell 4 rfl
  have z0 := HS1.out.zero.cell 0 rfl
  have z1 := HS1.out.zero.cell 1 rfl
  have z2 := HS1.out.zero.cell 2 rfl
  have z3 := HS1.out.zero.cell 3 rfl
  have z4 := HS1.out.zero.cell 4 rfl
  have y0 := HS1.out.zero.frozen 0
  have y1 := HS1.out.zero.frozen 1
  have y2 := HS1.out.zero.frozen 2
  have y3 := HS1.out.zero.frozen 3
  have y4 := HS1.out.zero.frozen 4
  dsimp only [RB.zero] at z0 z1 z2 z3 z4
  cases hat : isAt b.objs id with
  | false =>
    go_quiet (fail)
    have HS2 := Lib.hid (HS1.out.go (W' := w1.drewN nq) (bdn (Below.refl _ _) nq))
    have hbx := HBX.out.under HS2.out.below (Nat.le_refl _)
    obtain ⟨W2, hW2⟩ : ∃ W2, w1.drewN nq = W2 := ⟨_, rfl⟩
    rw [hW2] at HS2 hbx ⊢
    have hz2 := HS2.out.sizes
    have hzz2 := HS2.out.size
    clear hW2 c0 c1 c2 c3 c4 s0 e0 e1 e2 e3 e4 hz1 hzz hBX1 HS1 z0 y0 z1 y1 z2 y2 z3 y3 z4 y4
    have c0 := HS2.out.box.cell 0 rfl
    have c1 := HS2.out.box.cell 1 rfl
    have c2 := HS2.out.box.cell 2 rfl
    have c3 := HS2.out.box.cell 3 rfl
    have c4 := HS2.out.box.cell 4 rfl
    have s0 := HS2.out.scell
    have e0 := HS2.out.val.cell 0 rfl
    have e1 := HS2.out.val.cell 1 rfl
    have e2 := HS2.out.val.cell 2 rfl
    have e3 := HS2.out.val.cell 3 rfl
    have e4 := HS2.out.val.cell 4 rfl
    have z0 := HS2.out.zero.cell 0 rfl
    have z1 := HS2.out.zero.cell 1 rfl
    have z2 := HS2.out.zero.cell 2 rfl
    have z3 := HS2.out.zero.cell 3 rfl
    have z4 := HS2.out.zero.cell 4 rfl
    have y0 := HS2.out.zero.frozen 0
    have y1 := HS2.out.zero.frozen 1
    have y2 := HS2.out.zero.frozen 2
    have y3 := HS2.out.zero.frozen 3
    have y4 := HS2.out.zero.frozen 4
    dsimp only [RB.zero] at z0 z1 z2 z3 z4
    have hC := containsE_any W2 r.pt r.nt r.ct b.trail ((rdE_iff.1 (hbx.under (Below.refl _ _) HS2.out.below.size).trail).2) (w.heap.size + 1) id s0 HOB.out.trail
    have HAT := Lib.hid hat
    have HBX2 := Lib.hid hbx
    clear hat hbx
    cases htd : toldB b.trail id with
    | true =>
      rw [htd] at hC
      have HX : Hid (putB b id v = (BoxD.zero, 181)) := by unfold Hid putB; rw [if_neg (by rw [HAT.out]; decide), if_pos htd]
      have HC := Lib.hid hC
      clear hC htd
      go_wp2_with (go_at_call 64; refine HC.out.mono ?_; rintro e w3 ⟨rfl, hb3⟩; (have HS3 := Lib.hid (HS2.out.go hb3)); clear z0 z1 z2 z3 z4 y0 y1 y2 y3 y4; (have z0 := HS3.out.zero.cell 0 rfl); (have z1 := HS3.out.zero.cell 1 rfl); (have z2 := HS3.out.zero.cell 2 rfl); (have z3 := HS3.out.zero.cell 3 rfl); (have z4 := HS3.out.zero.cell 4 rfl); (have y0 := HS3.out.zero.frozen 0); (have y1 := HS3.out.zero.frozen 1); (have y2 := HS3.out.zero.frozen 2); (have y3 := HS3.out.zero.frozen 3); (have y4 := HS3.out.zero.frozen 4); dsimp only [RB.zero] at z0 z1 z2 z3 z4)
      have hz3 := HS3.out.sizes
      refine bodyPost_ret (v := .tuple #[RB.val RB.zero, .int .i64 181]) (by simp [results, Try.results22, go_sem, RB.zero, z0, z1, z2, z3, z4]) rfl ?_
      exact ⟨RB.zero, by rw [HX.out], by rw [HX.out]; exact NewBox.zero _ _ _, HS3.out.below.grown (grownBy_setB _ _ RB.zero) HS3.out.below.size (fun a e => by cases e; omega)⟩
    | false =>
      rw [htd] at hC
      have HC := Lib.hid hC
      have HTD := Lib.hid htd
      clear hC htd
      by_cases hfull : 9007199254740991 ≤ b.seq
      · have HX : Hid (putB b id v = (BoxD.zero, 180)) := by unfold Hid putB; rw [if_neg (by rw [HAT.out]; decide), if_neg (by rw [HTD.out]; decide), if_pos hfull]
        have hq : decide ((9007199254740991 : Int) ≤ r.sq) = true := by have := HSQ.out.1; simp; omega
        clear hfull
        go_wp2_with (go_at_call 64; refine HC.out.mono ?_; rintro e w3 ⟨rfl, hb3⟩; (have HS3 := Lib.hid (HS2.out.go hb3)); (have c2' := HS3.out.box.cell 2 rfl); clear z0 z1 z2 z3 z4 y0 y1 y2 y3 y4; (have z0 := HS3.out.zero.cell 0 rfl); (have z1 := HS3.out.zero.cell 1 rfl); (have z2 := HS3.out.zero.cell 2 rfl); (have z3 := HS3.out.zero.cell 3 rfl); (have z4 := HS3.out.zero.cell 4 rfl); (have y0 := HS3.out.zero.frozen 0); (have y1 := HS3.out.zero.frozen 1); (have y2 := HS3.out.zero.frozen 2); (have y3 := HS3.out.zero.frozen 3); (have y4 := HS3.out.zero.frozen 4); dsimp only [RB.zero] at z0 z1 z2 z3 z4)
        have hz3 := HS3.out.sizes
        refine bodyPost_ret (v := .tuple #[RB.val RB.zero, .int .i64 180]) (by simp [results, Try.results22, go_sem, RB.zero, z0, z1, z2, z3, z4]) rfl ?_
        exact ⟨RB.zero, by rw [HX.out], by rw [HX.out]; exact NewBox.zero _ _ _, HS3.out.below.grown (grownBy_setB _ _ RB.zero) HS3.out.below.size (fun a e => by cases e; omega)⟩
      · have HX : Hid (putB b id v = (chgB b (b.objs.take (lowN b.objs id) ++ (id, v) :: b.objs.drop (lowN b.objs id)) id 1, 0)) := by unfold Hid putB; rw [if_neg (by rw [HAT.out]; decide), if_neg (by rw [HTD.out]; decide), if_neg hfull]
        have hq : decide ((9007199254740991 : Int) ≤ r.sq) = false := by have := HSQ.out.1; simp; omega
        have HFU := Lib.hid hfull
        clear hfull
        go_upto_region 8 with (go_at_call 64; refine HC.out.mono ?_; rintro e w3 ⟨rfl, hb3⟩; (have HS3 := Lib.hid (HS2.out.go hb3)); (have c2' := HS3.out.box.cell 2 rfl))
        clear c0 c1 c2 c3 c4 c2' s0 e0 e1 e2 e3 e4 z0 y0 z1 y1 z2 y2 z3 y3 z4 y4
        have c0 := HS3.out.box.cell 0 rfl
        have c1 := HS3.out.box.cell 1 rfl
        have c2 := HS3.out.box.cell 2 rfl
        have c3 := HS3.out.box.cell 3 rfl
        have c4 := HS3.out.box.cell 4 rfl
        go_upto_region 9 with (go_at_call 63; refine (own_any b r _ w.heap.size HS3.out.below.size (HBX.out.under HS3.out.below (Nat.le_refl _)) HOB.out).mono ?_; rintro e w4 ⟨q1, rfl, hN1, hb4⟩; (have HS4 := Lib.hid (HS3.out.go hb4)); clear c0 c1 c2 c3 c4; (have c0 := HS4.out.box.cell 0 rfl); (have c1 := HS4.out.box.cell 1 rfl); (have c2 := HS4.out.box.cell 2 rfl); (have c3 := HS4.out.box.cell 3 rfl); (have c4 := HS4.out.box.cell 4 rfl); (have x0 := HS4.out.box.frozen 0); (have x1 := HS4.out.box.frozen 1); (have x2 := HS4.out.box.frozen 2); (have x3 := HS4.out.box.frozen 3); (have x4 := HS4.out.box.frozen 4))
        have hz3 := HS3.out.size
        have hg5 := grownBy_setB w4 w.heap.size q1
        have HS5 := Lib.hid (HS4.out.setBox q1 (HS4.out.box.stored q1) hg5)
        have hne5 := hN1.ne (g := w.heap.size) (by omega)
        have hN5 := hN1.kept hg5 hne5.1 hne5.2 HS4.out.below.size (Nat.le_refl _)
        obtain ⟨W5, hW5⟩ : ∃ W5, (((((w4.setCell ⟨w.heap.size, 0, none⟩ (.slice q1.po q1.no q1.co)).setCell ⟨w.heap.size, 1, none⟩ (.slice q1.pt q1.nt q1.ct)).setCell ⟨w.heap.size, 2, none⟩ (.int .i64 q1.sq)).setCell ⟨w.heap.size, 3, none⟩ (.int .i64 q1.fl)).setCell ⟨w.heap.size, 4, none⟩ (.int .i64 q1.kp)) = W5 := ⟨_, rfl⟩
        have hz5 : w4.heap.size = W5.heap.size := by rw [← hW5]; simp
        rw [hW5] at HS5 hN5 ⊢
        have hzb := hb4.size
        clear hW5 hg5 hne5 hN1 hb4 HS4 c0 c1 c2 c3 c4 x0 x1 x2 x3 x4
        obtain ⟨bs, hbs⟩ : ∃ n, w3.heap.size = n := ⟨_, rfl⟩
        rw [hbs] at hN5 hz3 hzb
        obtain ⟨ros, hro, hms⟩ := hN5.objs
        have hn1 := hms.len
        have hn2 := rd_nlen (hro.rd codecM)
        have c0 := HS5.out.box.cell 0 rfl
        have c1 := HS5.out.box.cell 1 rfl
        have c2 := HS5.out.box.cell 2 rfl
        have c3 := HS5.out.box.cell 3 rfl
        have c4 := HS5.out.box.cell 4 rfl
        have s0 := HS5.out.scell
        have e0 := HS5.out.val.cell 0 rfl
        have e1 := HS5.out.val.cell 1 rfl
        have e2 := HS5.out.val.cell 2 rfl
        have e3 := HS5.out.val.cell 3 rfl
        have e4 := HS5.out.val.cell 4 rfl
        have hS6 := HS5.out.go (W' := W5.alloc (.cells #[.string id, .int .i64 vr.k, .int .i64 vr.n, .string vr.s, .slice vr.pl vr.nl vr.cl, .slice vr.pm vr.nm vr.cm] 46)) ((Below.refl _ _).alloc (Nat.le_refl _) _)
        have hlenz := HOB.out.objs
        have hIns := insertO_any (W5.alloc (.cells #[.string id, .int .i64 vr.k, .int .i64 vr.n, .string vr.s, .slice vr.pl vr.nl vr.cl, .slice vr.pm vr.nm vr.cm] 46)) bs q1.po q1.no q1.co W5.heap.size (lowN b.objs id) ros ⟨id, vr⟩ (hro.alloc _) (by simp; omega) (by omega) (heap_alloc_at rfl) (fun e => by have := (hro.lt W5.heap.size (by rw [e]; rfl)).2; omega) (by omega)
        have HIns := Lib.hid hIns
        have HS6 := Lib.hid hS6
        have HN5 := Lib.hid hN5
        have HMS := Lib.hid hms
        have HRO := Lib.hid hro
        have HZB : Hid (bs ≤ W5.heap.size) := by unfold Hid; omega
        clear hIns hS6 hN5 hms hro hn1 hn2 hlenz hzb hz5 hbs
        go_upto_region 13 with (go_at_call 67; refine HIns.out.mono ?_; rintro e w6 ⟨p6, c6, rfl, ho6, hg6⟩; (have HS6' := Lib.hid (HS6.out.row hg6 (fun k e => by have := (HRO.out.lt k e).1; omega))); clear c0 c1 c2 c3 c4; (have c0 := HS6'.out.box.cell 0 rfl); (have c1 := HS6'.out.box.cell 1 rfl); (have c2 := HS6'.out.box.cell 2 rfl); (have c3 := HS6'.out.box.cell 3 rfl); (have c4 := HS6'.out.box.cell 4 rfl); (have x0 := HS6'.out.box.frozen 0); (have x1 := HS6'.out.box.frozen 1); (have x2 := HS6'.out.box.frozen 2); (have x3 := HS6'.out.box.frozen 3); (have x4 := HS6'.out.box.frozen 4))
        have hg7 := grownBy_set w6 w.heap.size 0 (.slice p6 (q1.no + 1) c6)
        have hB7 := HS6'.out.box.set0 p6 (q1.no + 1) c6
        have HS7 := Lib.hid (HS6'.out.setBox _ hB7 hg7)
        have hO7 := ho6.kept hg7 (.inr (fun e => by have := (ho6.lt _ e).1; omega))
        obtain ⟨W7, hW7⟩ : ∃ W7, w6.setCell ⟨w.heap.size, 0, none⟩ (.slice p6 (q1.no + 1) c6) = W7 := ⟨_, rfl⟩
        rw [hW7] at HS7 hO7 hg7 ⊢
        have hzb7 : bs ≤ W7.heap.size := by have h1 := hg6.size; have h2 := hg7.size; have := HZB.out; simp at h1; omega
        have hga : W5.grownBy w6 (Value.slice q1.po q1.no q1.co).ownBlock := (World.grownBy_alloc _ _ _).trans hg6
        have hb6 : Below w.heap.size W5 w6 := (Below.refl _ _).grown hga HS5.out.below.size (fun k e => by have := (HRO.out.lt k e).1; omega)
        have hMS7 : MemsOf W7 w.heap.size (b.objs.take (lowN b.objs id) ++ (id, v) :: b.objs.drop (lowN b.objs id)) (ros.take (lowN b.objs id) ++ (⟨id, vr⟩ : RM) :: ros.drop (lowN b.objs id)) :=
          ((HMS.out.insert (lowN b.objs id) (p := (id, v)) (q := ⟨id, vr⟩) rfl (HV.out.under HS5.out.below (Nat.le_refl _))).under hb6 (Nat.le_refl _)).under ((Below.refl _ _).grown hg7 (by have := HS6'.out.below.size; omega) (fun a e => by cases e; exact Nat.le_refl _)) (Nat.le_refl _)
        have hN6 := HN5.out.withObjs hga rfl (by decide) ho6 ((HMS.out.insert (lowN b.objs id) (p := (id, v)) (q := ⟨id, vr⟩) rfl (HV.out.under HS5.out.below (Nat.le_refl _))).under hb6 (Nat.le_refl _))
        have hne6 := hN6.ne (g := w.heap.size) (by omega)
        have HN7 := Lib.hid (hN6.kept hg7 hne6.1 hne6.2 (by have := HS6'.out.below.size; omega) (Nat.le_refl _))
        clear hW7 hg7 hB7 hO7 hga hb6 hMS7 hN6 hne6 ho6 hg6 c0 c1 c2 c3 c4 x0 x1 x2 x3 x4 s0 e0 e1 e2 e3 e4 HS6'
        have hz7 := HS7.out.size
        have hCh := changed_any { b with objs := b.objs.take (lowN b.objs id) ++ (id, v) :: b.objs.drop (lowN b.objs id) } ⟨p6, q1.no + 1, c6, q1.pt, q1.nt, q1.ct, q1.sq, q1.fl, q1.kp⟩ W7 bs w.heap.size id 1 HS7.out.below.size hzb7 HN7.out HOB.out.seq (by have := HFU.out; show b.seq < _; omega) HOB.out.floor HOB.out.keep (by have := HID.out; unfold maxLen; omega) (by decide) (by have := HOB.out.trail; show (b.trail.length + 1) * 32 ≤ _; omega)
        have HCh := Lib.hid hCh
        clear hCh
        have c0 := HS7.out.box.cell 0 rfl
        have c1 := HS7.out.box.cell 1 rfl
        have c2 := HS7.out.box.cell 2 rfl
        have c3 := HS7.out.box.cell 3 rfl
        have c4 := HS7.out.box.cell 4 rfl
        dsimp only at c0 c1 c2 c3 c4
        have s0 := HS7.out.scell
        go_wp2_with (go_at_call 66; refine HCh.out.mono ?_; rintro e w8 ⟨q8, rfl, hN8, hb8⟩; (have HS8 := Lib.hid (HS7.out.go hb8)); (have z0 := HS8.out.zero.cell 0 rfl); (have z1 := HS8.out.zero.cell 1 rfl); (have z2 := HS8.out.zero.cell 2 rfl); (have z3 := HS8.out.zero.cell 3 rfl); (have z4 := HS8.out.zero.cell 4 rfl); (have y0 := HS8.out.zero.frozen 0); (have y1 := HS8.out.zero.frozen 1); (have y2 := HS8.out.zero.frozen 2); (have y3 := HS8.out.zero.frozen 3); (have y4 := HS8.out.zero.frozen 4); dsimp only [RB.zero] at z0 z1 z2 z3 z4)
        have hz8 := HS8.out.size
        have hg9 := grownBy_setB w8 (w.heap.size + 1 + 1 + 1) q8
        have hne9 := hN8.ne (g := w.heap.size + 1 + 1 + 1) (by omega)
        refine bodyPost_ret (v := .tuple #[RB.val q8, .int .i64 0]) (by simp [results, Try.results22, go_sem, z0, z1, z2, z3, z4]) rfl ?_
        exact ⟨q8, by rw [HX.out], by rw [HX.out]; exact ((hN8.kept hg9 hne9.1 hne9.2 HS8.out.below.size (by omega)).mono (by omega) (Nat.le_refl _)), HS8.out.below.grown hg9 HS8.out.below.size (fun a e => by cases e; omega)⟩
  | true =>
    obtain ⟨p, hp, hpi, hpo⟩ := isAt_some hat
    have hi := (List.getElem?_eq_some_iff.1 hp).1
    obtain ⟨ros0, hro0, hms0⟩ := HBX.out.objs
    have hn0 := hms0.len
    have hn1 := rd_nlen hro0
    obtain ⟨q, hq⟩ : ∃ q, ros0[lowN b.objs id]? = some q := ⟨_, List.getElem?_eq_getElem (by omega)⟩
    have HTQ := Lib.hid (hms0.val _ p q hp hq)
    obtain ⟨b1, o1, hpo1, hb1', hc1⟩ := rd_at' (hro0.below HS1.out.below (Nat.le_refl _)) hq
    have f0 := hc1 0 _ rfl
    have f1 := hc1 1 _ rfl
    have f2 := hc1 2 _ rfl
    have f3 := hc1 3 _ rfl
    have f4 := hc1 4 _ rfl
    have f5 := hc1 5 _ rfl
    have HOP : Hid p.2.Ok := (HOB.out.each p (List.mem_of_getElem? hp)).2
    have HAT := Lib.hid hat
    have HP := Lib.hid hp
    have HPI := Lib.hid hpi
    have HPO := Lib.hid hpo
    have hi0 : (0 : Int) ≤ (lowN b.objs id : Int) := Int.natCast_nonneg _
    have hi1 : (lowN b.objs id : Int) < (r.no : Int) := by omega
    have HILT : Hid (lowN b.objs id < b.objs.length) := hi
    have hb1w : b1 < w1.heap.size := by have := HS1.out.below.size; omega
    have HPO1 := Lib.hid hpo1
    rw [hpo1] at c0
    clear hat hp hpi hpo hi hro0 hms0 hn0 hn1 hq hc1 hBX1 hpo1 hb1'
    have hSame := fun (W : World) (hk : KB w1.heap.size w1 W) => sameT_any _ p.2 v q.v vr W (Nat.le_refl _) (HTQ.out.under (HS1.out.below.trans (hk.1.mono HS1.out.below.size)) (HS1.out.below.trans (hk.1.mono HS1.out.below.size)).size) (HV.out.under (HS1.out.below.trans (hk.1.mono HS1.out.below.size)) (HS1.out.below.trans (hk.1.mono HS1.out.below.size)).size) HOP.out HOV.out
    by_cases hsame : SameT p.2 v
    · have HSM : Hid (∀ W, KB w1.heap.size w1 W → Calls Try.prog 35 #[q.v.val, vr.val] W fun e w' => e = .returned (.bool true) ∧ Below W.heap.size W w') := fun W hk => (hSame W hk).mono fun e w' h => h.yes hsame
      have HX : Hid (putB b id v = (b, 0)) := by unfold Hid putB; rw [if_pos HAT.out, if_pos (by rw [HPO.out]; exact hsame)]
      clear hSame hsame
      go_region_held3 (fun w' => Below w1.heap.size w1 w' ∧ ∀ b o, b < w1.heap.size → w'.cell? ⟨b, o, none⟩ = w1.cell? ⟨b, o, none⟩)
        (first | exact KB.drew w1 | exact hbk)
        ((go_at_call 35; refine (HSM.out _ (by assumption)).mono ?_; rintro e w2 ⟨rfl, hbs⟩; have hbk := KB.step (W := w1) (by assumption) hbs))
      rename (Below w1.heap.size w1 _ ∧ _) => hkb
      have HS2 := Lib.hid (HS1.out.go hkb.1)
      clear c0 c1 c2 c3 c4 s0 e0 e1 e2 e3 e4 z0 z1 z2 z3 z4 y0 y1 y2 y3 y4 f0 f1 f2 f3 f4 f5 hz1 hzz hb1w
      have c0 := HS2.out.box.cell 0 rfl
      have c1 := HS2.out.box.cell 1 rfl
      have c2 := HS2.out.box.cell 2 rfl
      have c3 := HS2.out.box.cell 3 rfl
      have c4 := HS2.out.box.cell 4 rfl
      have hz2 := HS2.out.size
      go_wp2_with (go_at_call 63; refine (own_any b r _ w.heap.size HS2.out.below.size (HBX.out.under HS2.out.below (Nat.le_refl _)) HOB.out).mono ?_; rintro e w4 ⟨q1, rfl, hN1, hb4⟩; (have HS4 := Lib.hid (HS2.out.go hb4)); (have z0 := HS4.out.zero.cell 0 rfl); (have z1 := HS4.out.zero.cell 1 rfl); (have z2 := HS4.out.zero.cell 2 rfl); (have z3 := HS4.out.zero.cell 3 rfl); (have z4 := HS4.out.zero.cell 4 rfl); (have y0 := HS4.out.zero.frozen 0); (have y1 := HS4.out.zero.frozen 1); (have y2 := HS4.out.zero.frozen 2); (have y3 := HS4.out.zero.frozen 3); (have y4 := HS4.out.zero.frozen 4); dsimp only [RB.zero] at z0 z1 z2 z3 z4)
      have hg9 := grownBy_setB w4 (w.heap.size + 1 + 1 + 1) q1
      have hne9 := hN1.ne (g := w.heap.size + 1 + 1 + 1) (by omega)
      refine bodyPost_ret (v := .tuple #[RB.val q1, .int .i64 0]) (by simp [results, Try.results22, go_sem, z0, z1, z2, z3, z4]) rfl ?_
      exact ⟨q1, by rw [HX.out], by rw [HX.out]; exact ((hN1.kept hg9 hne9.1 hne9.2 HS4.out.below.size (by omega)).mono HS2.out.below.size (Nat.le_refl _)), HS4.out.below.grown hg9 HS4.out.below.size (fun a e => by cases e; omega)⟩
    · have HSM : Hid (∀ W, KB w1.heap.size w1 W → Calls Try.prog 35 #[q.v.val, vr.val] W fun e w' => e = .returned (.bool false) ∧ Below W.heap.size W w') := fun W hk => (hSame W hk).mono fun e w' h => h.no hsame
      have HNS := Lib.hid hsame
      clear hSame hsame
      by_cases hfull : 9007199254740991 ≤ b.seq
      · have HX : Hid (putB b id v = (BoxD.zero, 180)) := by unfold Hid putB; rw [if_pos HAT.out, if_neg (by rw [HPO.out]; exact HNS.out), if_pos hfull]
        have hq : decide ((9007199254740991 : Int) ≤ r.sq) = true := by have := HSQ.out.1; simp; omega
        clear hfull
        go_region_held3 (fun w' => Below w1.heap.size w1 w' ∧ ∀ b o, b < w1.heap.size → w'.cell? ⟨b, o, none⟩ = w1.cell? ⟨b, o, none⟩)
          (first | exact KB.drew w1 | exact hbk)
          ((go_at_call 35; refine (HSM.out _ (by assumption)).mono ?_; rintro e w2 ⟨rfl, hbs⟩; have hbk := KB.step (W := w1) (by assumption) hbs))
        rename (Below w1.heap.size w1 _ ∧ _) => hkb
        have HS2 := Lib.hid (HS1.out.go hkb.1)
        clear c0 c1 c2 c3 c4 s0 e0 e1 e2 e3 e4 z0 z1 z2 z3 z4 y0 y1 y2 y3 y4 f0 f1 f2 f3 f4 f5 hz1 hzz hb1w
        have c0 := HS2.out.box.cell 0 rfl
        have c1 := HS2.out.box.cell 1 rfl
        have c2 := HS2.out.box.cell 2 rfl
        have c3 := HS2.out.box.cell 3 rfl
        have c4 := HS2.out.box.cell 4 rfl
        have z0 := HS2.out.zero.cell 0 rfl
        have z1 := HS2.out.zero.cell 1 rfl
        have z2 := HS2.out.zero.cell 2 rfl
        have z3 := HS2.out.zero.cell 3 rfl
        have z4 := HS2.out.zero.cell 4 rfl
        have y0 := HS2.out.zero.frozen 0
        have y1 := HS2.out.zero.frozen 1
        have y2 := HS2.out.zero.frozen 2
        have y3 := HS2.out.zero.frozen 3
        have y4 := HS2.out.zero.frozen 4
        dsimp only [RB.zero] at z0 z1 z2 z3 z4
        go_wp2_with fail
        refine bodyPost_ret (v := .tuple #[RB.val RB.zero, .int .i64 180]) (by simp [results, Try.results22, go_sem, RB.zero, z0, z1, z2, z3, z4]) rfl ?_
        exact ⟨RB.zero, by rw [HX.out], by rw [HX.out]; exact NewBox.zero _ _ _, HS2.out.below.grown (grownBy_setB _ _ RB.zero) HS2.out.below.size (fun a e => by cases e; omega)⟩
      · have HX : Hid (putB b id v = (chgB b (b.objs.set (lowN b.objs id) (id, v)) id 2, 0)) := by unfold Hid putB; rw [if_pos HAT.out, if_neg (by rw [HPO.out]; exact HNS.out), if_neg hfull]
        have hq : decide ((9007199254740991 : Int) ≤ r.sq) = false := by have := HSQ.out.1; simp; omega
        have HFU := Lib.hid hfull
        clear hfull
        go_region_held3 (fun w' => Below w1.heap.size w1 w' ∧ ∀ b o, b < w1.heap.size → w'.cell? ⟨b, o, none⟩ = w1.cell? ⟨b, o, none⟩)
          (first | exact KB.drew w1 | exact hbk)
          ((go_at_call 35; refine (HSM.out _ (by assumption)).mono ?_; rintro e w2 ⟨rfl, hbs⟩; have hbk := KB.step (W := w1) (by assumption) hbs))
        rename (Below w1.heap.size w1 _ ∧ _) => hkb
        have HS2 := Lib.hid (HS1.out.go hkb.1)
        clear c0 c1 c2 c3 c4 s0 e0 e1 e2 e3 e4 z0 z1 z2 z3 z4 y0 y1 y2 y3 y4 f0 f1 f2 f3 f4 f5 hz1 hzz hb1w
        have c0 := HS2.out.box.cell 0 rfl
        have c1 := HS2.out.box.cell 1 rfl
        have c2 := HS2.out.box.cell 2 rfl
        have c3 := HS2.out.box.cell 3 rfl
        have c4 := HS2.out.box.cell 4 rfl
        go_upto_region 9 with (go_at_call 63; refine (own_any b r _ w.heap.size HS2.out.below.size (HBX.out.under HS2.out.below (Nat.le_refl _)) HOB.out).mono ?_; rintro e w4 ⟨q1, rfl, hN1, hb4⟩; (have HS4 := Lib.hid (HS2.out.go hb4)); clear c0 c1 c2 c3 c4; (have c0 := HS4.out.box.cell 0 rfl); (have c1 := HS4.out.box.cell 1 rfl); (have c2 := HS4.out.box.cell 2 rfl); (have c3 := HS4.out.box.cell 3 rfl); (have c4 := HS4.out.box.cell 4 rfl); (have x0 := HS4.out.box.frozen 0); (have x1 := HS4.out.box.frozen 1); (have x2 := HS4.out.box.frozen 2); (have x3 := HS4.out.box.frozen 3); (have x4 := HS4.out.box.frozen 4))
        have hz3 := HS2.out.size
        have hg5 := grownBy_setB w4 w.heap.size q1
        have HS5 := Lib.hid (HS4.out.setBox q1 (HS4.out.box.stored q1) hg5)
        have hne5 := hN1.ne (g := w.heap.size) (by omega)
        have hN5 := hN1.kept hg5 hne5.1 hne5.2 HS4.out.below.size (Nat.le_refl _)
        obtain ⟨W5, hW5⟩ : ∃ W5, (((((w4.setCell ⟨w.heap.size, 0, none⟩ (.slice q1.po q1.no q1.co)).setCell ⟨w.heap.size, 1, none⟩ (.slice q1.pt q1.nt q1.ct)).setCell ⟨w.heap.size, 2, none⟩ (.int .i64 q1.sq)).setCell ⟨w.heap.size, 3, none⟩ (.int .i64 q1.fl)).setCell ⟨w.heap.size, 4, none⟩ (.int .i64 q1.kp)) = W5 := ⟨_, rfl⟩
        have hz5 : w4.heap.size = W5.heap.size := by rw [← hW5]; simp
        rw [hW5] at HS5 hN5 ⊢
        have hzb := hb4.size
        clear hW5 hg5 hne5 hN1 hb4 HS4 c0 c1 c2 c3 c4 x0 x1 x2 x3 x4
        obtain ⟨bs, hbs⟩ : ∃ n, w2.heap.size = n := ⟨_, rfl⟩
        rw [hbs] at hN5 hz3 hzb
        obtain ⟨ros, hro, hms⟩ := hN5.objs
        have hn1 := hms.len
        have hn2 := rd_nlen (hro.rd codecM)
        obtain ⟨x, hx⟩ : ∃ x, ros[lowN b.objs id]? = some x := ⟨_, List.getElem?_eq_getElem (by have := HILT.out; omega)⟩
        have hxn : x.name = id := by rw [← hms.name _ p x HP.out hx]; exact HPI.out
        obtain ⟨g, hpg, hnn, hgb, hgl, hcell, hfr⟩ := Own.at codecM hro hx
        have hi2 : (lowN b.objs id : Int) < (q1.no : Int) := by have := HILT.out; omega
        have HPG := Lib.hid hpg
        rw [hpg] at hro
        have hst := Own.storedVO hro hx vr
        have c0 := HS5.out.box.cell 0 rfl
        have c1 := HS5.out.box.cell 1 rfl
        have c2 := HS5.out.box.cell 2 rfl
        have c3 := HS5.out.box.cell 3 rfl
        have c4 := HS5.out.box.cell 4 rfl
        rw [hpg] at c0
        have e0 := HS5.out.val.cell 0 rfl
        have e1 := HS5.out.val.cell 1 rfl
        have e2 := HS5.out.val.cell 2 rfl
        have e3 := HS5.out.val.cell 3 rfl
        have e4 := HS5.out.val.cell 4 rfl
        have k0 := hcell 0 _ rfl
        have k1 := hcell 1 _ rfl
        have k2 := hcell 2 _ rfl
        have k3 := hcell 3 _ rfl
        have k4 := hcell 4 _ rfl
        have k5 := hcell 5 _ rfl
        rw [Nat.add_zero] at k0
        have m1 := hfr (lowN b.objs id * 6 + 1)
        have m2 := hfr (lowN b.objs id * 6 + 2)
        have m3 := hfr (lowN b.objs id * 6 + 3)
        have m4 := hfr (lowN b.objs id * 6 + 4)
        have m5 := hfr (lowN b.objs id * 6 + 5)
        have HST := Lib.hid hst
        have HN5 := Lib.hid hN5
        have HMS := Lib.hid hms
        have HZB : Hid (bs ≤ W5.heap.size) := by unfold Hid; omega
        have HXN := Lib.hid hxn
        clear hst hN5 hms hro hn1 hn2 hzb hz5 hbs hx hxn hpg hnn hcell hfr
        go_upto_region 11 with fail
        have hO7 := HST.out.1
        have hg7 := HST.out.2
        have hrow : some g = (Value.slice q1.po q1.no q1.co).ownBlock := by rw [HPG.out]; rfl
        have HS7 := Lib.hid (HS5.out.row hg7 (fun k e => by cases e; omega))
        have hzb7 : bs ≤ W5.heap.size := HZB.out
        have hm7 := ((HMS.out.set (lowN b.objs id) (p := (id, v)) (q := ⟨x.name, vr⟩) HXN.out.symm (HV.out.under HS5.out.below (Nat.le_refl _))).under ((Below.refl w.heap.size W5).grown hg7 HS5.out.below.size (fun k e => by cases e; omega)) (Nat.le_refl _))
        have hN7 := HN5.out.withObjs hg7 hrow (by decide) hO7 hm7
        have hqq : ({ q1 with po := some ⟨g, 0, none⟩, no := q1.no, co := q1.co } : RB) = q1 := by rw [← HPG.out]
        rw [hqq] at hN7
        have HN7 := Lib.hid hN7
        obtain ⟨W7, hW7⟩ : ∃ W7, (((((W5.setCell ⟨g, lowN b.objs id * 6 + 1, none⟩ (.int .i64 vr.k)).setCell ⟨g, lowN b.objs id * 6 + 2, none⟩ (.int .i64 vr.n)).setCell ⟨g, lowN b.objs id * 6 + 3, none⟩ (.string vr.s)).setCell ⟨g, lowN b.objs id * 6 + 4, none⟩ (.slice vr.pl vr.nl vr.cl)).setCell ⟨g, lowN b.objs id * 6 + 5, none⟩ (.slice vr.pm vr.nm vr.cm)) = W7 := ⟨_, rfl⟩
        have hz7 : W7.heap.size = W5.heap.size := by rw [← hW7]; simp
        rw [hW7] at HS7 HN7 ⊢
        clear hW7 hO7 hg7 hrow hm7 hN7 hqq HST k0 k1 k2 k3 k4 k5 m1 m2 m3 m4 m5 c0 c1 c2 c3 c4 e0 e1 e2 e3 e4
        have hCh := changed_any { b with objs := b.objs.set (lowN b.objs id) (id, v) } q1 W7 bs w.heap.size id 2 HS7.out.below.size (by omega) HN7.out HOB.out.seq (by have := HFU.out; show b.seq < _; omega) HOB.out.floor HOB.out.keep (by have := HID.out; unfold maxLen; omega) (by decide) (by have := HOB.out.trail; show (b.trail.length + 1) * 32 ≤ _; omega)
        have HCh := Lib.hid hCh
        have HZ7 := Lib.hid hz7
        clear hCh hz7
        have c0 := HS7.out.box.cell 0 rfl
        have c1 := HS7.out.box.cell 1 rfl
        have c2 := HS7.out.box.cell 2 rfl
        have c3 := HS7.out.box.cell 3 rfl
        have c4 := HS7.out.box.cell 4 rfl
        have s0 := HS7.out.scell
        go_wp2_with (go_at_call 66; refine HCh.out.mono ?_; rintro e w8 ⟨q8, rfl, hN8, hb8⟩; (have HS8 := Lib.hid (HS7.out.go hb8)); (have z0 := HS8.out.zero.cell 0 rfl); (have z1 := HS8.out.zero.cell 1 rfl); (have z2 := HS8.out.zero.cell 2 rfl); (have z3 := HS8.out.zero.cell 3 rfl); (have z4 := HS8.out.zero.cell 4 rfl); (have y0 := HS8.out.zero.frozen 0); (have y1 := HS8.out.zero.frozen 1); (have y2 := HS8.out.zero.frozen 2); (have y3 := HS8.out.zero.frozen 3); (have y4 := HS8.out.zero.frozen 4); dsimp only [RB.zero] at z0 z1 z2 z3 z4)
        have hg9 := grownBy_setB w8 (w.heap.size + 1 + 1 + 1) q8
        have hne9 := hN8.ne (g := w.heap.size + 1 + 1 + 1) (by omega)
        refine bodyPost_ret (v := .tuple #[RB.val q8, .int .i64 0]) (by simp [results, Try.results22, go_sem, z0, z1, z2, z3, z4]) rfl ?_
        exact ⟨q8, by rw [HX.out], by rw [HX.out]; exact ((hN8.kept hg9 hne9.1 hne9.2 HS8.out.below.size (by omega)).mono (by omega) (Nat.le_refl _)), HS8.out.below.grown hg9 HS8.out.below.size (fun a e => by cases e; omega)⟩
end Go.Proofs.Ythgkgjcnmahacaa
end

section
/- slices.Delete of one object out of a slice of the call's own, walked. -/
set_option linter.unusedSimpArgs false
set_option linter.unusedVariables false
namespace Go.Proofs.Ythgkgjcnmahacaa
open Go.RowKit Go.OpenShut

theorem setCells_row (g : Nat) (e : TypeId) : ∀ (vs : List Value) (o : Nat) (w : World) (cur : Array Value), w.heap[g]? = some (.cells cur e (0, 0)) → o + vs.length ≤ cur.size →
    (w.setCells g o vs).heap[g]? = some (.cells (cur.toList.take o ++ vs ++ cur.toList.drop (o + vs.length)).toArray e (0, 0)) ∧ w.grownBy (w.setCells g o vs) (some g)
  | [], o, w, cur, h, hl => ⟨by simpa [World.setCells] using h, World.grownBy.refl w _⟩
  | v :: r, o, w, cur, h, hl => by
    have hl' : o + 1 + r.length ≤ cur.size := by simp at hl; omega
    obtain ⟨h1, h2⟩ := setCells_row g e r (o + 1) (w.setCell ⟨g, o, none⟩ v) (cur.setIfInBounds o v) (heap_setCell_same w g o cur e v h) (by simpa using hl')
    refine ⟨?_, (grownBy_set w g o v).trans h2⟩
    show ((w.setCell ⟨g, o, none⟩ v).setCells g (o + 1) r).heap[g]? = _
    rw [h1]
    congr 3
    rw [Array.toList_setIfInBounds, List.take_add_one, List.take_set_of_le (Nat.le_refl _), List.getElem?_set_self (by simp; omega), List.drop_set_of_lt (by omega)]
    simp [Nat.add_assoc, Nat.add_comm 1]

theorem step_append_runO {P : Program} {ops : Array Oper} {o : Oper} {a : Act} {w : World} {K : Act → World → Prop} {Q : Exit → Act → World → Prop} {E : Prop}
    (hg : o.guard = none) (d x : Operand) (dT sT : TypeId) (hop : o.op = Op.call { callee := Callee.builtin Builtin.append, args := #[d, x], argTypes := #[dT, sT] })
    (v u : Value) (hd : a.eval d = v) (hx : a.eval x = u) {v' : Value} {w' : World} (hr : (Builtin.append_ #[dT, sT] o.type #[v, u]).run P w = .ok v' w') (hK : K (a.put o.dst v') w') :
    if Region.wanted o (yielded ops a.tmps) = true then Oper.wp P o a w K Q else E := by
  have hw : Region.wanted o (yielded ops a.tmps) = true := by simp [Region.wanted, hg]
  rw [if_pos hw]
  unfold Oper.wp
  simp [execOp, hop, resolve, invoke, builtin, hd, hx, hr, Result.andThen]
  exact hK

theorem row_delete {α : Type} {enc : α → List Value} {sz : Nat} (C : Codec enc sz) {cur : List Value} {xs : List α} {n i : Nat} (hn : n = xs.length) (ht : cur.take (n * sz) = cellsOf enc xs) (hi : i < n) (hl : n * sz ≤ cur.length) :
    (cur.take (i * sz) ++ cellsOf enc (xs.drop (i + 1)) ++ cur.drop (i * sz + (cellsOf enc (xs.drop (i + 1))).length)).take (n * sz) = cellsOf enc (xs.take i ++ xs.drop (i + 1) ++ xs.drop (n - 1)) := by
  have h1 : cur.take (i * sz) = cellsOf enc (xs.take i) := by
    rw [← cells_take C, ← ht, List.take_take, Nat.min_eq_left (Nat.mul_le_mul_right _ (by omega))]
  have hd : (cellsOf enc (xs.drop (i + 1))).length = (n - (i + 1)) * sz := by rw [cellsOf_len C, List.length_drop, hn]
  have hk : i * sz + (n - (i + 1)) * sz = (n - 1) * sz := by rw [← Nat.add_mul]; congr 1; omega
  have hns : n * sz = (n - 1) * sz + sz := by
    have : n = n - 1 + 1 := by omega
    rw [this, Nat.add_mul, Nat.one_mul, Nat.add_sub_cancel]
  have h2 : (cur.drop ((n - 1) * sz)).take sz = cellsOf enc (xs.drop (n - 1)) := by
    have e : cellsOf enc xs = cellsOf enc (xs.take (n - 1)) ++ cellsOf enc (xs.drop (n - 1)) := by rw [← cellsOf_append, List.take_append_drop]
    have hl1 : (cellsOf enc (xs.take (n - 1))).length = (n - 1) * sz := by rw [cellsOf_len C, List.length_take]; congr 1; omega
    have e2 : (cellsOf enc xs).drop ((n - 1) * sz) = cellsOf enc (xs.drop (n - 1)) := by rw [e, ← hl1, List.drop_left]
    rw [← e2, ← ht, List.drop_take]
    congr 1
    omega
  rw [hd, hk, cellsOf_append, cellsOf_append, h1, ← h2]
  have hl3 : (cellsOf enc (xs.take i) ++ cellsOf enc (xs.drop (i + 1))).length = (n - 1) * sz := by
    rw [List.length_append, hd, cellsOf_len C, List.length_take, ← Nat.add_mul]
    congr 1; omega
  rw [hns, ← hl3, List.take_length_add_append]

def DelRet (w : World) (base : Nat) (p : Option Addr) (n c : Nat) (ys : List RM) (e : Ending) (w' : World) : Prop :=
  e = .returned (.slice p n c) ∧ Own w' base 46 encM 6 (.slice p n c) ys ∧ w.grownBy w' (Value.slice p n c).ownBlock

theorem oneO : ∀ i z, Try.prog.info? 46 = some i → i.zero = some z → ∀ u ∈ z.cells.toList, u.oneCell' = true := by
  intro i z hi hz
  have h : (Try.prog.info? 46).map (fun i => (i.zero, i.size, i.bytes)) = some (some (.agg #[.string ByteArray.empty, .int .i64 0, .int .i64 0, .string ByteArray.empty, .slice none 0 0, .slice none 0 0]), 6, 96) := by kernel_rfl
  rw [hi] at h
  simp only [Option.map_some, Option.some.injEq, Prod.mk.injEq] at h
  rw [hz] at h
  simp only [Option.some.injEq] at h
  rw [h.1]
  intro u hu
  simp [Value.cells] at hu
  rcases hu with rfl | rfl | rfl | rfl | rfl | rfl <;> rfl

set_option maxRecDepth 100000 in
set_option maxHeartbeats 2000000 in
theorem deleteO_any (w : World) (base : Nat) (p : Option Addr) (n c i : Nat) (xs : List RM) (ho : Own w base 46 encM 6 (.slice p n c) xs) (hb : base ≤ w.heap.size) (hi : i < n) (hlen : n ≤ 1466015503658) :
    Calls Try.prog 68 #[.slice p n c, .int .i64 i, .int .i64 ((i : Int) + 1)] w (DelRet w base p (n - 1) c (xs.take i ++ xs.drop (i + 1))) := by
  obtain ⟨g, cur, rfl, hg, hh, hnx, hnc, hcm, hcs, ht⟩ := ho.row (.inl (by
    obtain ⟨_, _, e, h1, _⟩ := ho.rd codecM
    simp only [Value.slice.injEq] at e
    omega))
  have hcn : cur.toList.length = c * 6 := by simpa using hcs
  have hi0 : (Try.prog.info? 46).map (fun i => (i.zero, i.size, i.bytes)) = some (some (.agg #[.string ByteArray.empty, .int .i64 0, .int .i64 0, .string ByteArray.empty, .slice none 0 0, .slice none 0 0]), 6, 96) := by kernel_rfl
  obtain ⟨i0, hi0, hz0, hzs, hzb⟩ := info_parts hi0
  have hcell : ∀ j, w.cell? ⟨g, j, none⟩ = cur.toList[j]? := fun j => by rw [cell_of_row w g j _ _ _ hh, Array.getElem?_toList]
  have hd : (cellsOf encM (xs.drop (i + 1))).length = (n - (i + 1)) * 6 := by rw [cellsOf_len codecM, List.length_drop, hnx]
  have hcells : ∀ j v, (cellsOf encM (xs.drop (i + 1)))[j]? = some v → w.cell? ⟨g, (i + 1) * 6 + j, none⟩ = some v := fun j v hv => by
    rw [hcell]
    have h1 : (cellsOf encM xs)[(i + 1) * 6 + j]? = some v := by
      have e : cellsOf encM xs = cellsOf encM (xs.take (i + 1)) ++ cellsOf encM (xs.drop (i + 1)) := by rw [← cellsOf_append, List.take_append_drop]
      have hl : (cellsOf encM (xs.take (i + 1))).length = (i + 1) * 6 := by rw [cellsOf_len codecM, List.length_take]; omega
      rw [e, List.getElem?_append_right (by omega), hl]
      simpa using hv
    rw [← ht, List.getElem?_take] at h1
    split at h1
    · exact h1
    · cases h1
  obtain ⟨row1, hrow1⟩ : ∃ r : Array Value, r = (cur.toList.take (i * 6) ++ cellsOf encM (xs.drop (i + 1)) ++ cur.toList.drop (i * 6 + (cellsOf encM (xs.drop (i + 1))).length)).toArray := ⟨_, rfl⟩
  have hr1s : row1.size = c * 6 := by
    rw [hrow1]
    simp only [List.size_toArray, List.length_append, List.length_take, List.length_drop, hd, hcn]
    omega
  have hfin : row1.toList.take (n * 6) = cellsOf encM (xs.take i ++ xs.drop (i + 1) ++ xs.drop (n - 1)) := by
    rw [hrow1]
    exact row_delete codecM hnx ht hi (by omega)
  obtain ⟨W1, hW1⟩ : ∃ W1, w.drew.setCells g (i * 6) (cellsOf encM (xs.drop (i + 1))) = W1 := ⟨_, rfl⟩
  have hrow := setCells_row g 46 (cellsOf encM (xs.drop (i + 1))) (i * 6) w.drew cur hh (by rw [hd]; omega)
  rw [hW1, ← hrow1] at hrow
  have hap : ∀ ty a sc, a = ⟨g, (i + 1) * 6, none⟩ ∨ i + 1 = n → (Builtin.append_ #[32, 32] ty #[.slice (some ⟨g, 0, none⟩) i c, .slice (some a) (n - (i + 1)) sc]).run Try.prog w.drew = .ok (.slice (some ⟨g, 0, none⟩) (n - 1) c) W1 := fun ty a sc ha => by
    have h := run_append_room_cells (P := Try.prog) (w := w.drew) 32 ty 46 i0 Try.underlying32 hi0 g 0 i c a (n - (i + 1)) sc (cellsOf encM (xs.drop (i + 1))) (by rw [hd, hzs]) (fun j u hu => by
        rcases ha with rfl | ha
        · rw [add_eq]
          exact hcells j u hu
        · have := (List.getElem?_eq_some_iff.1 hu).1
          omega) (cellsOf_one codecM _) (by omega)
      (fun j hj => by
        rw [hzs, Nat.zero_add]
        show (w.cell? _).isSome = true
        rw [hcell, List.getElem?_eq_getElem (by omega)]; rfl)
      (fun j hj => by show w.frozen? _ = false; simp [World.frozen?, hh])
    rw [hzs, Nat.zero_add, hW1, show i + (n - (i + 1)) = n - 1 by omega] at h
    exact h
  have hown1 : Own W1 base 46 encM 6 (.slice (some ⟨g, 0, none⟩) n c) (xs.take i ++ xs.drop (i + 1) ++ xs.drop (n - 1)) :=
    Own.ofRow codecM hrow.1 hfin (by simp; omega) hg hnc hcm hr1s
  have hbw1 : w.grownBy W1 (some g) := gb_drew hrow.2
  obtain ⟨w2, hrun, ho2, hg2⟩ := run_clear_own (P := Try.prog) slO oneO codecM W1 0 hown1 (m := n - 1) (by omega) (v := .slice (some ⟨g, (n - 1) * 6, none⟩) (n - (n - 1)) (c - (n - 1))) (by unfold sliced; rw [if_neg (by omega)]; simp [add_eq])
  have hys : (xs.take i ++ xs.drop (i + 1) ++ xs.drop (n - 1)).take (n - 1) = xs.take i ++ xs.drop (i + 1) := by
    have hl : (xs.take i ++ xs.drop (i + 1)).length = n - 1 := by simp; omega
    rw [← hl, List.take_left]
  rw [hys] at ho2
  have HO2 := Lib.hid ho2
  have HB2 : Hid (w.grownBy w2 (some g)) := hbw1.trans hg2
  have hcm2 : c ≤ 9223372036854775807 := by unfold maxLen at hcm; omega
  have hne : ((i : Int) == (i : Int) + 1) = false := by rw [beq_eq_false_iff_ne]; omega
  have hne2 : ¬ ((i : Int) = (i : Int) + 1) := by omega
  have hsh : ∀ W, (Instr.sliceAt 32 (.slice (some ⟨g, 0, none⟩) n c) none (some (.int .i64 i)) none).run Try.prog W = .ok (.slice (some ⟨g, 0, none⟩) i c) W := fun W => run_slice_high (P := Try.prog) slO _ n c i (by omega) W
  obtain ⟨A, hA, hsl⟩ : ∃ A : Addr, (A = ⟨g, (i + 1) * 6, none⟩ ∨ i + 1 = n) ∧ ∀ W, (Instr.sliceAt 32 (.slice (some ⟨g, 0, none⟩) n c) (some (.int .i64 ((i : Int) + 1))) none none).run Try.prog W = .ok (.slice (some A) (n - (i + 1)) (c - (i + 1))) W := by
    have h := fun W => run_slice_low (P := Try.prog) slO (some ⟨g, 0, none⟩) n c (i + 1) (by omega) W
    rw [show ((i + 1 : Nat) : Int) = (i : Int) + 1 by omega] at h
    by_cases e : c = i + 1
    · exact ⟨⟨g, 0, none⟩, .inr (by omega), fun W => by rw [h W]; unfold sliced; rw [if_pos e]⟩
    · exact ⟨⟨g, (i + 1) * 6, none⟩, .inl rfl, fun W => by rw [h W]; unfold sliced; rw [if_neg e]; simp [add_eq]⟩
  have hapA := fun ty => hap ty A (c - (i + 1)) hA
  clear hap hA
  clear ho hh hcn hcs ht hnx hi0 hz0 hzs hzb hcell hd hcells hrow1 hr1s hfin hW1 hrow hown1 hbw1 ho2 hg2 hys hcm
  have htn : ((i : Int) + 1).toNat = i + 1 := by omega
  have hnn : ((n - 1 : Nat) : Int) = (n : Int) - 1 := by omega
  have hb1 : (0 : Int) ≤ (i : Int) + 1 := by omega
  go_enter Try.func68, Try.ntmps68
  go_wp2_with fail
  go_region_law (refine step_append_runO rfl _ _ 32 32 rfl _ _ (by simp [Act.eval, Act.put]) (by simp [Act.eval, Act.put]) (hapA _) ?_)
  clear hapA hsl hsh
  have hsl2 : ∀ W, (Instr.sliceAt 32 (.slice (some ⟨g, 0, none⟩) (n - 1) c) (some (.int .i64 ((n - 1 : Nat) : Int))) (some (.int .i64 n)) none).run Try.prog W = .ok (.slice (some ⟨g, (n - 1) * 6, none⟩) (n - (n - 1)) (c - (n - 1))) W := fun W => by
    obtain ⟨ht, i1, z, hi1, hz, hs1, hs2, hzs⟩ := slO
    have he : Try.prog.elem 32 = 46 := by simp [Program.elem, ht]
    have ht' : Try.prog.underlying 32 = some (.slice (Try.prog.elem 32)) := by rw [he]; exact ht
    rw [run_sliceAt_slice _ _ _ _ _ _ ht', run_slice_lh W 32 _ (n - 1) c ht' .i64 .i64 ((n - 1 : Nat) : Int) (n : Int) (by omega) (by omega) (by omega), he]
    have hcn : ¬ (c = n - 1) := by omega
    simp [sizeOf, typeInfo, hi1, hs1, Result.andThen, sliced, add_eq, hcn]
  go_wp2_with fail
  go_ret
  exact ⟨rfl, HO2.out, HB2.out⟩
end Go.Proofs.Ythgkgjcnmahacaa
end

section
/- store.Drop, walked. -/
set_option linter.unusedSimpArgs false
set_option linter.unusedVariables false
namespace Go.Proofs.Ythgkgjcnmahacaa
open Go.RowKit Go.OpenShut

/-- What Drop answers: the box, and why not. -/
def dropB (b : BoxD) (id : ByteArray) : BoxD × Int :=
  if isAt b.objs id = false then (BoxD.zero, 81) else if 9007199254740991 ≤ b.seq then (BoxD.zero, 180) else (chgB b (b.objs.take (lowN b.objs id) ++ b.objs.drop (lowN b.objs id + 1)) id 3, 0)

/-- A box and what is answered, in blocks of their own. -/
structure TwoB (w W : World) (r : RB) : Prop where
  box : BoxAt W w.heap.size r
  zero : BoxAt W (w.heap.size + 1) RB.zero
  below : Below w.heap.size w W
section
variable {w W W' : World} {r : RB} (h : TwoB w W r)
include h
theorem TwoB.size : w.heap.size + 1 < W.heap.size := h.zero.lt
theorem TwoB.go (hb : Below W.heap.size W W') : TwoB w W' r := ⟨h.box.under hb h.box.lt, h.zero.under hb h.size, h.below.trans (hb.mono h.below.size)⟩
theorem TwoB.setBox (q : RB) (hq : BoxAt W' w.heap.size q) (hg : W.grownBy W' (some w.heap.size)) : TwoB w W' q := ⟨hq, h.zero.kept hg (by omega), h.below.grown hg h.below.size (fun a e => by cases e; exact Nat.le_refl _)⟩
theorem TwoB.row {row : Option Nat} (hg : W.grownBy W' row) (hr : ∀ k, row = some k → w.heap.size + 1 < k) : TwoB w W' r := by
  have hz := h.size
  have hb : ∀ k, k ≤ w.heap.size + 1 → W'.heap[k]? = W.heap[k]? := fun k hk => hg.block k (by omega) (fun e => by have := hr k e.symm; omega)
  exact ⟨(hb _ (by omega)).trans h.box, (hb _ (by omega)).trans h.zero, h.below.grown hg h.below.size (fun a e => by have := hr a e; omega)⟩
end
theorem TwoB.start (w : World) (r : RB) : TwoB w ((w.alloc (.cells #[.slice r.po r.no r.co, .slice r.pt r.nt r.ct, .int .i64 r.sq, .int .i64 r.fl, .int .i64 r.kp] 35)).alloc (.cells #[.slice none 0 0, .slice none 0 0, .int .i64 0, .int .i64 0, .int .i64 0] 35)) r := ⟨heap_alloc_lt (by simp) (heap_alloc_at rfl), heap_alloc_at (by simp), below2 _ _ _⟩

set_option maxRecDepth 200000 in
set_option maxHeartbeats 8000000 in
theorem drop_any (b : BoxD) (r : RB) (id : ByteArray) (w : World) (hb : BoxOf w w.heap.size b r) (hr : Rising b.objs) (ob : b.Ok) (hid : id.size ≤ 140737488351232) :
    Calls Try.prog 23 #[r.val, .string id] w (BoxErr w (dropB b id)) := by
  have hS := TwoB.start w r
  have HBX := Lib.hid hb
  have HR := Lib.hid hr
  have HOB := Lib.hid ob
  have HID := Lib.hid hid
  have HSQ : Hid (b.seq = r.sq ∧ b.objs.length = r.no) := ⟨hb.seq, hb.objs.nlen⟩
  clear hb hr ob hid
  go_enter Try.func23, Try.ntmps23
  go_upto_region 1 with fail
  obtain ⟨W0, hW0⟩ : ∃ W0, ((w.alloc (.cells #[.slice r.po r.no r.co, .slice r.pt r.nt r.ct, .int .i64 r.sq, .int .i64 r.fl, .int .i64 r.kp] 35)).alloc (.cells #[.slice none 0 0, .slice none 0 0, .int .i64 0, .int .i64 0, .int .i64 0] 35)) = W0 := ⟨_, rfl⟩
  rw [hW0] at hS ⊢
  clear hW0
  have HS := Lib.hid hS
  have hz0 := hS.size
  have c0 := hS.box.cell 0 rfl
  have c1 := hS.box.cell 1 rfl
  have c2 := hS.box.cell 2 rfl
  have c3 := hS.box.cell 3 rfl
  have c4 := hS.box.cell 4 rfl
  have HPL := Lib.hid (placeO_any b r id W0 (HBX.out.under hS.below hS.below.size) HR.out HOB.out)
  clear hS
  go_upto_region 2 with (go_at_call 59; refine HPL.out.mono ?_; rintro e w1 ⟨rfl, hb1⟩)
  have HS1 := Lib.hid (HS.out.go hb1)
  clear HPL HS hb1 c0 c1 c2 c3 c4 hz0
  have hz1 := HS1.out.size
  have c0 := HS1.out.box.cell 0 rfl
  have c1 := HS1.out.box.cell 1 rfl
  have c2 := HS1.out.box.cell 2 rfl
  have c3 := HS1.out.box.cell 3 rfl
  have c4 := HS1.out.box.cell 4 rfl
  have z0 := HS1.out.zero.cell 0 rfl
  have z1 := HS1.out.zero.cell 1 rfl
  have z2 := HS1.out.zero.cell 2 rfl
  have z3 := HS1.out.zero.cell 3 rfl
  have z4 := HS1.out.zero.cell 4 rfl
  have y0 := HS1.out.zero.frozen 0
  have y1 := HS1.out.zero.frozen 1
  have y2 := HS1.out.zero.frozen 2
  have y3 := HS1.out.zero.frozen 3
  have y4 := HS1.out.zero.frozen 4
  dsimp only [RB.zero] at z0 z1 z2 z3 z4
  cases hat : isAt b.objs id with
  | false =>
    have HX : Hid (dropB b id = (BoxD.zero, 81)) := by unfold Hid dropB; rw [if_pos hat]
    clear hat
    go_wp2_with fail
    refine bodyPost_ret (v := .tuple #[RB.val RB.zero, .int .i64 81]) (by simp [results, Try.results23, go_sem, RB.zero, z0, z1, z2, z3, z4]) rfl ?_
    exact ⟨RB.zero, by rw [HX.out], by rw [HX.out]; exact NewBox.zero _ _ _, HS1.out.below.grown (grownBy_setB _ _ RB.zero) HS1.out.below.size (fun a e => by cases e; omega)⟩
  | true =>
    obtain ⟨p, hp, hpi, hpo⟩ := isAt_some hat
    have hi := (List.getElem?_eq_some_iff.1 hp).1
    have HAT := Lib.hid hat
    have HILT : Hid (lowN b.objs id < b.objs.length) := hi
    have HP := Lib.hid hp
    clear hat hp hpi hpo hi
    by_cases hfull : 9007199254740991 ≤ b.seq
    · have HX : Hid (dropB b id = (BoxD.zero, 180)) := by unfold Hid dropB; rw [if_neg (by rw [HAT.out]; decide), if_pos hfull]
      have hq : decide ((9007199254740991 : Int) ≤ r.sq) = true := by have := HSQ.out.1; simp; omega
      clear hfull
      go_wp2_with fail
      refine bodyPost_ret (v := .tuple #[RB.val RB.zero, .int .i64 180]) (by simp [results, Try.results23, go_sem, RB.zero, z0, z1, z2, z3, z4]) rfl ?_
      exact ⟨RB.zero, by rw [HX.out], by rw [HX.out]; exact NewBox.zero _ _ _, HS1.out.below.grown (grownBy_setB _ _ RB.zero) HS1.out.below.size (fun a e => by cases e; omega)⟩
    · have HX : Hid (dropB b id = (chgB b (b.objs.take (lowN b.objs id) ++ b.objs.drop (lowN b.objs id + 1)) id 3, 0)) := by unfold Hid dropB; rw [if_neg (by rw [HAT.out]; decide), if_neg hfull]
      have hq : decide ((9007199254740991 : Int) ≤ r.sq) = false := by have := HSQ.out.1; simp; omega
      have HFU := Lib.hid hfull
      clear hfull
      clear z0 z1 z2 z3 z4 y0 y1 y2 y3 y4
      go_upto_region 7 with (go_at_call 63; refine (own_any b r _ w.heap.size HS1.out.below.size (HBX.out.under HS1.out.below (Nat.le_refl _)) HOB.out).mono ?_; rintro e w4 ⟨q1, rfl, hN1, hb4⟩; (have HS4 := Lib.hid (HS1.out.go hb4)); clear c0 c1 c2 c3 c4; (have c0 := HS4.out.box.cell 0 rfl); (have c1 := HS4.out.box.cell 1 rfl); (have c2 := HS4.out.box.cell 2 rfl); (have c3 := HS4.out.box.cell 3 rfl); (have c4 := HS4.out.box.cell 4 rfl); (have x0 := HS4.out.box.frozen 0); (have x1 := HS4.out.box.frozen 1); (have x2 := HS4.out.box.frozen 2); (have x3 := HS4.out.box.frozen 3); (have x4 := HS4.out.box.frozen 4))
      have hg5 := grownBy_setB w4 w.heap.size q1
      have HS5 := Lib.hid (HS4.out.setBox q1 (HS4.out.box.stored q1) hg5)
      have hne5 := hN1.ne (g := w.heap.size) (by omega)
      have hN5 := hN1.kept hg5 hne5.1 hne5.2 HS4.out.below.size (Nat.le_refl _)
      obtain ⟨W5, hW5⟩ : ∃ W5, (((((w4.setCell ⟨w.heap.size, 0, none⟩ (.slice q1.po q1.no q1.co)).setCell ⟨w.heap.size, 1, none⟩ (.slice q1.pt q1.nt q1.ct)).setCell ⟨w.heap.size, 2, none⟩ (.int .i64 q1.sq)).setCell ⟨w.heap.size, 3, none⟩ (.int .i64 q1.fl)).setCell ⟨w.heap.size, 4, none⟩ (.int .i64 q1.kp)) = W5 := ⟨_, rfl⟩
      have hz5 : w4.heap.size = W5.heap.size := by rw [← hW5]; simp
      rw [hW5] at HS5 hN5 ⊢
      have hzb := hb4.size
      clear hW5 hg5 hne5 hN1 hb4 HS4 c0 c1 c2 c3 c4 x0 x1 x2 x3 x4
      obtain ⟨bs, hbs⟩ : ∃ n, w1.heap.size = n := ⟨_, rfl⟩
      rw [hbs] at hN5 hz1 hzb
      obtain ⟨ros, hro, hms⟩ := hN5.objs
      have hn1 := hms.len
      have hn2 := rd_nlen (hro.rd codecM)
      have hlenz := HOB.out.objs
      have c0 := HS5.out.box.cell 0 rfl
      have c1 := HS5.out.box.cell 1 rfl
      have c2 := HS5.out.box.cell 2 rfl
      have c3 := HS5.out.box.cell 3 rfl
      have c4 := HS5.out.box.cell 4 rfl
      have x0 := HS5.out.box.frozen 0
      have hDel := deleteO_any W5 bs q1.po q1.no q1.co (lowN b.objs id) ros hro (by omega) (by have := HILT.out; omega) (by omega)
      have hrowb : (Value.slice q1.po (q1.no - 1) q1.co).ownBlock = (Value.slice q1.po q1.no q1.co).ownBlock := by cases q1.po <;> rfl
      unfold DelRet at hDel
      rw [hrowb] at hDel
      have HDel := Lib.hid hDel
      clear hrowb
      have HN5 := Lib.hid hN5
      have HMS := Lib.hid hms
      have HRO := Lib.hid hro
      have HZB : Hid (bs ≤ W5.heap.size) := by unfold Hid; omega
      have hnn : (lowN b.objs id : Int) ≤ 1466015503658 := by have := HILT.out; omega
      have hnn0 : (0 : Int) ≤ (lowN b.objs id : Int) := Int.natCast_nonneg _
      clear hDel hN5 hms hro hn1 hn2 hlenz hzb hz5 hbs
      go_upto_region 8 with (go_at_call 68; refine HDel.out.mono ?_; rintro e w6 ⟨rfl, ho6, hg6⟩; (have HS6' := Lib.hid (HS5.out.row hg6 (fun k e => by have := (HRO.out.lt k e).1; omega))); clear c0 c1 c2 c3 c4 x0; (have c0 := HS6'.out.box.cell 0 rfl); (have c1 := HS6'.out.box.cell 1 rfl); (have c2 := HS6'.out.box.cell 2 rfl); (have c3 := HS6'.out.box.cell 3 rfl); (have c4 := HS6'.out.box.cell 4 rfl); (have x0 := HS6'.out.box.frozen 0); (have x1 := HS6'.out.box.frozen 1); (have x2 := HS6'.out.box.frozen 2); (have x3 := HS6'.out.box.frozen 3); (have x4 := HS6'.out.box.frozen 4))
      have hg7 := grownBy_set w6 w.heap.size 0 (.slice q1.po (q1.no - 1) q1.co)
      have hB7 := HS6'.out.box.set0 q1.po (q1.no - 1) q1.co
      have HS7 := Lib.hid (HS6'.out.setBox _ hB7 hg7)
      obtain ⟨W7, hW7⟩ : ∃ W7, w6.setCell ⟨w.heap.size, 0, none⟩ (.slice q1.po (q1.no - 1) q1.co) = W7 := ⟨_, rfl⟩
      rw [hW7] at HS7 hg7 ⊢
      have hzb7 : bs ≤ W7.heap.size := by have h1 := hg6.size; have h2 := hg7.size; have := HZB.out; omega
      have hb6 : Below w.heap.size W5 w6 := (Below.refl _ _).grown hg6 HS5.out.below.size (fun k e => by have := (HRO.out.lt k e).1; omega)
      have hN6 := HN5.out.withObjs hg6 rfl (by decide) ho6 ((HMS.out.delete (lowN b.objs id)).under hb6 (Nat.le_refl _))
      have hne6 := hN6.ne (g := w.heap.size) (by omega)
      have HN7 := Lib.hid (hN6.kept hg7 hne6.1 hne6.2 (by have := HS6'.out.below.size; omega) (Nat.le_refl _))
      clear hW7 hg7 hB7 hb6 hN6 hne6 ho6 hg6 c0 c1 c2 c3 c4 x0 x1 x2 x3 x4 HS6' HDel
      have hz7 := HS7.out.size
      have hCh := changed_any { b with objs := b.objs.take (lowN b.objs id) ++ b.objs.drop (lowN b.objs id + 1) } ⟨q1.po, q1.no - 1, q1.co, q1.pt, q1.nt, q1.ct, q1.sq, q1.fl, q1.kp⟩ W7 bs w.heap.size id 3 HS7.out.below.size hzb7 HN7.out HOB.out.seq (by have := HFU.out; show b.seq < _; omega) HOB.out.floor HOB.out.keep (by have := HID.out; unfold maxLen; omega) (by decide) (by have := HOB.out.trail; show (b.trail.length + 1) * 32 ≤ _; omega)
      have HCh := Lib.hid hCh
      clear hCh
      have c0 := HS7.out.box.cell 0 rfl
      have c1 := HS7.out.box.cell 1 rfl
      have c2 := HS7.out.box.cell 2 rfl
      have c3 := HS7.out.box.cell 3 rfl
      have c4 := HS7.out.box.cell 4 rfl
      dsimp only at c0 c1 c2 c3 c4
      go_wp2_with (go_at_call 66; refine HCh.out.mono ?_; rintro e w8 ⟨q8, rfl, hN8, hb8⟩; (have HS8 := Lib.hid (HS7.out.go hb8)); (have z0 := HS8.out.zero.cell 0 rfl); (have z1 := HS8.out.zero.cell 1 rfl); (have z2 := HS8.out.zero.cell 2 rfl); (have z3 := HS8.out.zero.cell 3 rfl); (have z4 := HS8.out.zero.cell 4 rfl); (have y0 := HS8.out.zero.frozen 0); (have y1 := HS8.out.zero.frozen 1); (have y2 := HS8.out.zero.frozen 2); (have y3 := HS8.out.zero.frozen 3); (have y4 := HS8.out.zero.frozen 4); dsimp only [RB.zero] at z0 z1 z2 z3 z4)
      have hz8 := HS8.out.size
      have hg9 := grownBy_setB w8 (w.heap.size + 1) q8
      have hne9 := hN8.ne (g := w.heap.size + 1) (by omega)
      refine bodyPost_ret (v := .tuple #[RB.val q8, .int .i64 0]) (by simp [results, Try.results23, go_sem, z0, z1, z2, z3, z4]) rfl ?_
      exact ⟨q8, by rw [HX.out], by rw [HX.out]; exact ((hN8.kept hg9 hne9.1 hne9.2 HS8.out.below.size (by omega)).mono (by omega) (Nat.le_refl _)), HS8.out.below.grown hg9 HS8.out.below.size (fun a e => by cases e; omega)⟩
end Go.Proofs.Ythgkgjcnmahacaa
end

section
/- store.Ids, walked. -/
set_option linter.unusedSimpArgs false
set_option linter.unusedVariables false
namespace Go.Proofs.Ythgkgjcnmahacaa
open Go.RowKit Go.OpenShut

def encS (s : ByteArray) : List Value := [.string s]
theorem codecS : Codec encS 1 := ⟨fun _ => rfl, fun x u hu => by
  simp only [encS, List.mem_cons, List.not_mem_nil, or_false] at hu
  subst hu; rfl, by decide⟩
theorem slS : SlT Try.prog 43 9 1 16 := SlT.mk (z := .string ByteArray.empty) Try.underlying43 (by kernel_rfl) rfl
def IdsRet (w : World) (l : List ByteArray) (e : Ending) (w' : World) : Prop := ∃ u, e = .returned u ∧ Own w' w.heap.size 9 encS 1 u l ∧ Below w.heap.size w w'

set_option maxRecDepth 100000 in
set_option maxHeartbeats 2000000 in
theorem ids_any (b : BoxD) (r : RB) (w : World) (hb : BoxOf w w.heap.size b r) (ob : b.Ok) :
    Calls Try.prog 24 #[r.val] w (IdsRet w (b.objs.map (·.1))) := by
  have ho := hb.objs
  obtain ⟨po, no, co, pt, nt, ct, sq, fl, kp⟩ := r
  dsimp only [RB.val] at *
  obtain ⟨rms, hrd, hms⟩ := ho
  have hn := rd_nlen hrd
  have hlm := hms.len
  have hzo := ob.objs
  have hA0 : BoxAt (w.alloc (.cells #[.slice po no co, .slice pt nt ct, .int .i64 sq, .int .i64 fl, .int .i64 kp] 35)) w.heap.size ⟨po, no, co, pt, nt, ct, sq, fl, kp⟩ := heap_alloc_at rfl
  have hB0 : Below w.heap.size w (w.alloc (.cells #[.slice po no co, .slice pt nt ct, .int .i64 sq, .int .i64 fl, .int .i64 kp] 35)) := (Below.refl _ _).alloc (Nat.le_refl _) _
  have HRD := Lib.hid hrd
  have HMS := Lib.hid hms
  have HN : Hid (b.objs.length = no ∧ rms.length = no) := ⟨by omega, by omega⟩
  have hno : no ≤ 1466015503658 := by omega
  clear hb hrd hms hn hlm hzo ob
  go_enter Try.func24, Try.ntmps24
  go_upto_region 1 with fail
  obtain ⟨W0, hW0⟩ : ∃ W0, (w.alloc (.cells #[.slice po no co, .slice pt nt ct, .int .i64 sq, .int .i64 fl, .int .i64 kp] 35)) = W0 := ⟨_, rfl⟩
  rw [hW0] at hA0 hB0 ⊢
  clear hW0
  have c0 := hA0.cell 0 rfl
  dsimp only at c0
  have HB := Lib.hid hB0
  have hz := hA0.lt
  clear hA0 hB0
  go_wp2_with fail
  go_loopw [3, 9] (fun o i wr => ∃ k : Nat, k ≤ no ∧ i = .int .i64 k ∧ Hid (Own wr w.heap.size 9 encS 1 o ((b.objs.take k).map (·.1))) ∧ Below w.heap.size w wr) (fun _ i _ => no - (intOf i).toNat)
  case atStart => exact ⟨0, Nat.zero_le _, rfl, Own.nil _ _ _, HB.out⟩
  case round =>
    obtain ⟨k, hk, rfl, hown, hbr⟩ := hrel
    by_cases hlt : k < no
    · obtain ⟨x, hx⟩ : ∃ x, rms[k]? = some x := ⟨_, List.getElem?_eq_getElem (by have := HN.out; omega)⟩
      obtain ⟨p, hp⟩ : ∃ x, b.objs[k]? = some x := ⟨_, List.getElem?_eq_getElem (by have := HN.out; omega)⟩
      have hpn := HMS.out.name _ p x hp hx
      obtain ⟨b1, o1, rfl, hb1, hc1⟩ := rd_at' (HRD.out.below hbr (Nat.le_refl _)) hx
      have f0 := hc1 0 _ rfl
      have f1 := hc1 1 _ rfl
      have f2 := hc1 2 _ rfl
      have f3 := hc1 3 _ rfl
      have f4 := hc1 4 _ rfl
      have f5 := hc1 5 _ rfl
      rw [Nat.add_zero] at f0
      have hk0 : (0 : Int) ≤ (k : Int) := Int.natCast_nonneg _
      have hk1 : (k : Int) < (no : Int) := by omega
      have hsn : (b.objs.take (k + 1)).map (·.1) = (b.objs.take k).map (·.1) ++ [x.name] := by rw [List.take_add_one, hp]; simp [hpn]
      have HSN := Lib.hid hsn
      have HBR := Lib.hid hbr
      have HO2 := Lib.hid ((hown.out.alloc (.cells #[.string x.name, .int .i64 x.v.k, .int .i64 x.v.n, .string x.v.s, .slice x.v.pl x.v.nl x.v.cl, .slice x.v.pm x.v.nm x.v.cm] 46)).alloc (.cells #[.string x.name] 9))
      have HB2 := Lib.hid ((hbr.alloc hbr.size (.cells #[.string x.name, .int .i64 x.v.k, .int .i64 x.v.n, .string x.v.s, .slice x.v.pl x.v.nl x.v.cl, .slice x.v.pm x.v.nm x.v.cm] 46)).alloc (by simp; have := hbr.size; omega) (.cells #[.string x.name] 9))
      have HR2 : Hid (Rd ((wr.alloc (.cells #[.string x.name, .int .i64 x.v.k, .int .i64 x.v.n, .string x.v.s, .slice x.v.pl x.v.nl x.v.cl, .slice x.v.pm x.v.nm x.v.cm] 46)).alloc (.cells #[.string x.name] 9)) (wr.heap.size + 1 + 1) encS 1 (.slice (some ⟨wr.heap.size + 1, 0, none⟩) 1 1) [x.name]) := Rd.one codecS (heap_alloc_at (by simp)) rfl (by omega)
      have hl : ((b.objs.take k).map (·.1)).length ≤ 1466015503658 := by simp; omega
      have HL := Lib.hid hl
      clear hx hp hpn hc1 hbr hsn hown hl
      go_wp2_with (at_builtin; refine wpList_append_rd slS codecS _ rfl _ _ rfl rfl rfl HO2.out HR2.out (by have := HL.out; simp only [List.length_singleton]; unfold maxLen; omega) (by have := HL.out; simp only [List.length_singleton]; omega) (by have := HBR.out.size; simp; omega) ?_; intro v1 w1 ho1 hg1 hat1)
      go_roundw
      case rel => exact ⟨k + 1, by omega, by go_num, by unfold Hid; rw [HSN.out]; exact ho1, Below.appended HB2.out hg1 HO2.out HB2.out.size⟩
      case measure => simp [intOf]; omega
    · obtain rfl : k = no := by omega
      go_wp2_with fail
      go_ret
      refine ⟨_, rfl, ?_, hbr⟩
      have h := hown.out
      rw [List.take_of_length_le (by have := HN.out; omega)] at h
      exact h
end Go.Proofs.Ythgkgjcnmahacaa
end

section
/- What a trail says of an id; slices read by their places. -/
set_option linter.unusedSimpArgs false
set_option linter.unusedVariables false
namespace Go.Proofs.Ythgkgjcnmahacaa
open Go.RowKit Go.OpenShut

/-- What is said of an id. -/
structure Pa where
  id : ByteArray
  was : Bool
  isb : Bool
  last : Int
deriving DecidableEq
def encP (p : Pa) : List Value := [.string p.id, .bool p.was, .bool p.isb, .int .i64 p.last]
theorem codecP : Codec encP 4 := ⟨fun _ => rfl, fun x u hu => by
  simp only [encP, List.mem_cons, List.not_mem_nil, or_false] at hu
  rcases hu with rfl | rfl | rfl | rfl <;> rfl, by decide⟩

def Pa.eqv (a b : Pa) : Bool := a.id.toList == b.id.toList && a.was == b.was && a.isb == b.isb && a.last == b.last
theorem Pa.eqv_eq (a b : Pa) : a.eqv b = decide (a = b) := by
  obtain ⟨i, x, y, s⟩ := a
  obtain ⟨j, x', y', t⟩ := b
  unfold Pa.eqv
  rw [toList_beq]
  by_cases h1 : i = j <;> by_cases h2 : x = x' <;> by_cases h3 : y = y' <;> by_cases h4 : s = t <;> simp [h1, h2, h3, h4]

theorem rd_at {α : Type} {enc : α → List Value} {sz n cap k B : Nat} {w : World} {p : Option Addr} {xs : List α} (h : Rd w B enc sz (.slice p n cap) xs) {x : α} (hx : xs[k]? = some x) :
    ∃ b o, p = some ⟨b, o, none⟩ ∧ b < B ∧ ∀ j u, (enc x)[j]? = some u → w.cell? ⟨b, o + k * sz + j, none⟩ = some u := by
  obtain ⟨p', cap', he, h1, h2, h3, h4⟩ := h
  simp only [Value.slice.injEq] at he
  obtain ⟨rfl, rfl, rfl⟩ := he
  have hk := (List.getElem?_eq_some_iff.1 hx).1
  cases p with
  | none => have := h3 rfl; omega
  | some a =>
    obtain ⟨b, o, rfl, hb, hr⟩ := h4 a rfl (by omega)
    exact ⟨b, o, rfl, hb, hr k x hx⟩
theorem rd_len {α : Type} {enc : α → List Value} {sz B : Nat} {w : World} {v : Value} {xs : List α} (h : Rd w B enc sz v xs) : ∃ p cap, v = .slice p xs.length cap ∧ xs.length ≤ cap ∧ cap ≤ 9223372036854775807 := by
  obtain ⟨p, cap, he, h1, h2, _⟩ := h
  exact ⟨p, cap, he, h1, h2⟩

theorem eqTake_snoc {α : Type} [DecidableEq α] {l m : List α} {k : Nat} {x : α} (hx : l[k]? = some x) (hy : m[k]? = some x) (h : l.take k = m.take k) : l.take (k + 1) = m.take (k + 1) := by
  rw [List.take_add_one, List.take_add_one, hx, hy, h]
theorem eqTake_ne {α : Type} [DecidableEq α] {l m : List α} {k : Nat} {x y : α} (hx : l[k]? = some x) (hy : m[k]? = some y) (h : x ≠ y) : decide (l = m) = false := by
  rw [decide_eq_false_iff_not]
  rintro rfl
  rw [hx] at hy
  exact h (by simpa using hy)

theorem infoP : (Try.prog.info? 128).map (fun i => (i.zero, i.size, i.bytes)) = some (some (.agg #[.string ByteArray.empty, .bool false, .bool false, .int .i64 0]), 4, 32) := by kernel_rfl
end Go.Proofs.Ythgkgjcnmahacaa
end

section
/- New boxes; a number as a value; lists of texts compared: walked. -/
set_option linter.unusedSimpArgs false
set_option linter.unusedVariables false
namespace Go.Proofs.Ythgkgjcnmahacaa
open Go.RowKit Go.OpenShut

/-- A number between two others. -/
def clampI (n hi : Int) : Int := if n < 0 then 0 else if hi < n then hi else n
theorem clamp_eq {n hi : Int} (h : 0 ≤ hi := by decide) : min (max n 0) hi = clampI n hi := by unfold clampI; split <;> (try split) <;> omega
def newB (start keep : Int) : BoxD := ⟨[], [], clampI start 9007199254740991, clampI start 9007199254740991, clampI keep 1000⟩
def newR (start keep : Int) : RB := ⟨none, 0, 0, none, 0, 0, clampI start 9007199254740991, clampI start 9007199254740991, clampI keep 1000⟩
theorem newB_of (w : World) (B : Nat) (start keep : Int) : BoxOf w B (newB start keep) (newR start keep) := ⟨ObjsOf.nil _ _, RdE.nil _ _, rfl, rfl, rfl⟩
def NewRetB (w : World) (start keep : Int) (e : Ending) (w' : World) : Prop := e = .returned (RB.val (newR start keep)) ∧ Below w.heap.size w w'
theorem ret_new {a b c d : Int} (h1 : a = b) (h2 : c = d) : Ending.returned (RB.val ⟨none, 0, 0, none, 0, 0, a, a, c⟩) = .returned (RB.val ⟨none, 0, 0, none, 0, 0, b, b, d⟩) := by rw [h1, h2]

set_option maxRecDepth 100000 in
set_option maxHeartbeats 2000000 in
theorem new_any (start keep : Int) (w : World) : Calls Try.prog 29 #[.int .i64 start, .int .i64 keep] w (NewRetB w start keep) := by
  have hZ0 : BoxAt (w.alloc (.cells #[.slice none 0 0, .slice none 0 0, .int .i64 0, .int .i64 0, .int .i64 0] 35)) w.heap.size RB.zero := heap_alloc_at rfl
  have hB0 : Below w.heap.size w (w.alloc (.cells #[.slice none 0 0, .slice none 0 0, .int .i64 0, .int .i64 0, .int .i64 0] 35)) := (Below.refl _ _).alloc (Nat.le_refl _) _
  go_enter Try.func29, Try.ntmps29
  go_upto_region 1 with fail
  obtain ⟨W0, hW0⟩ : ∃ W0, (w.alloc (.cells #[.slice none 0 0, .slice none 0 0, .int .i64 0, .int .i64 0, .int .i64 0] 35)) = W0 := ⟨_, rfl⟩
  rw [hW0] at hZ0 hB0 ⊢
  clear hW0
  have z0 := hZ0.cell 0 rfl
  have z1 := hZ0.cell 1 rfl
  have z2 := hZ0.cell 2 rfl
  have z3 := hZ0.cell 3 rfl
  have z4 := hZ0.cell 4 rfl
  dsimp only [RB.zero] at z0 z1 z2 z3 z4
  have y0 := hZ0.frozen 0
  have y1 := hZ0.frozen 1
  have y2 := hZ0.frozen 2
  have y3 := hZ0.frozen 3
  have y4 := hZ0.frozen 4
  have HZ := Lib.hid hZ0
  have HB := Lib.hid hB0
  clear hZ0 hB0
  go_wp2_with fail
  have hS := HZ.out.stored (newR start keep)
  have hg := grownBy_setB W0 w.heap.size (newR start keep)
  refine bodyPost_ret (v := RB.val (newR start keep)) (by simp [results, Try.results29, go_sem, newR, clamp_eq, z0, z1, z2, z3, z4]) rfl ⟨rfl, ?_⟩
  exact Below.setCell (Below.setCell (Below.setCell (Below.setCell (Below.setCell HB.out (Nat.le_refl _) _) (Nat.le_refl _) _) (Nat.le_refl _) _) (Nat.le_refl _) _) (Nat.le_refl _) _

set_option maxRecDepth 100000 in
set_option maxHeartbeats 2000000 in
theorem num_any (n : Int) (w : World) : Calls Try.prog 56 #[.int .i64 n] w fun e w' => e = .returned (RV.val ⟨3, n, ⟨#[]⟩, none, 0, 0, none, 0, 0⟩) ∧ Below w.heap.size w w' := by
  have hZ0 : VAt (w.alloc (.cells #[.int .i64 0, .int .i64 0, .string ⟨#[]⟩, .slice none 0 0, .slice none 0 0] 25)) w.heap.size RV.zero := heap_alloc_at rfl
  have hB0 : Below w.heap.size w (w.alloc (.cells #[.int .i64 0, .int .i64 0, .string ⟨#[]⟩, .slice none 0 0, .slice none 0 0] 25)) := (Below.refl _ _).alloc (Nat.le_refl _) _
  go_enter Try.func56, Try.ntmps56
  go_upto_region 1 with fail
  obtain ⟨W0, hW0⟩ : ∃ W0, (w.alloc (.cells #[.int .i64 0, .int .i64 0, .string ⟨#[]⟩, .slice none 0 0, .slice none 0 0] 25)) = W0 := ⟨_, rfl⟩
  rw [hW0] at hZ0 hB0 ⊢
  clear hW0
  have z0 := hZ0.cell 0 rfl
  have z1 := hZ0.cell 1 rfl
  have z2 := hZ0.cell 2 rfl
  have z3 := hZ0.cell 3 rfl
  have z4 := hZ0.cell 4 rfl
  dsimp only [RV.zero] at z0 z1 z2 z3 z4
  have y0 := hZ0.frozen 0
  have y1 := hZ0.frozen 1
  have y2 := hZ0.frozen 2
  have y3 := hZ0.frozen 3
  have y4 := hZ0.frozen 4
  have HB := Lib.hid hB0
  clear hZ0 hB0
  go_wp2_with fail
  refine bodyPost_ret (v := RV.val ⟨3, n, ⟨#[]⟩, none, 0, 0, none, 0, 0⟩) (by simp [results, Try.results56, go_sem, z0, z1, z2, z3, z4]) rfl ⟨rfl, ?_⟩
  exact Below.stored HB.out (Nat.le_refl _) ⟨3, n, ⟨#[]⟩, none, 0, 0, none, 0, 0⟩

set_option maxRecDepth 100000 in
set_option maxHeartbeats 2000000 in
theorem sameParts_any (w : World) (B : Nat) (u v : Value) (l m : List ByteArray) (hu : Rd w B encS 1 u l) (hv : Rd w B encS 1 v m) :
    Calls Try.prog 49 #[u, v] w fun e w' => e = .returned (.bool (decide (l = m))) ∧ ∃ n, w' = w.drewN n := by
  obtain ⟨p, c, rfl, hlc, hcm⟩ := rd_len hu
  obtain ⟨q, d, rfl, hmd, hdm⟩ := rd_len hv
  have HU := Lib.hid hu
  have HV := Lib.hid hv
  clear hu hv
  by_cases hlen : l.length = m.length
  · have hb : ((l.length : Int) != (m.length : Int)) = false := by simp [hlen]
    have HL := Lib.hid hlen
    have hle : l.length ≤ m.length := by omega
    have hle2 : m.length ≤ l.length := by omega
    clear hlen
    go_enter Try.func49, Try.ntmps49
    go_wp2_with fail
    go_loopw [5] (fun i wr => ∃ k : Nat, k ≤ l.length ∧ i = .int .i64 k ∧ Hid (l.take k = m.take k) ∧ ∃ n, wr = w.drewN n) (fun i _ => l.length - (intOf i).toNat)
    case atStart => exact ⟨0, Nat.zero_le _, rfl, rfl, 0, rfl⟩
    case round =>
      obtain ⟨k, hk, rfl, htk, nr, rfl⟩ := hrel
      by_cases hlt : k < l.length
      · obtain ⟨x, hx⟩ : ∃ x, l[k]? = some x := ⟨_, List.getElem?_eq_getElem hlt⟩
        obtain ⟨y, hy⟩ : ∃ x, m[k]? = some x := ⟨_, List.getElem?_eq_getElem (by omega)⟩
        obtain ⟨b1, o1, rfl, hb1, hc1⟩ := rd_at HU.out hx
        obtain ⟨b2, o2, rfl, hb2, hc2⟩ := rd_at HV.out hy
        have f0 := hc1 0 _ rfl
        have g0 := hc2 0 _ rfl
        rw [Nat.add_zero, Nat.mul_one] at f0 g0
        have hk0 : (0 : Int) ≤ (k : Int) := Int.natCast_nonneg _
        have hk1 : (k : Int) < (l.length : Int) := by omega
        have hk2 : (k : Int) < (m.length : Int) := by omega
        have hq := str_beq x y
        by_cases hxy : x = y
        · have e2 : (x.toList == y.toList) = true := by rw [hq]; simpa using hxy
          have e1 : (x.toList != y.toList) = false := by rw [bne, e2]; rfl
          have HTK : Hid (l.take (k + 1) = m.take (k + 1)) := by
            unfold Hid
            rw [List.take_add_one, List.take_add_one, hx, hy, htk.out, hxy]
          clear hx hy hc1 hc2 hq hxy htk
          go_wp2_with fail
          go_quiet (fail)
          go_wp2_with fail
          go_roundw
          case rel => exact ⟨k + 1, by omega, by go_num, HTK, _, rfl⟩
          case measure => simp [intOf]; omega
        · have e2 : (x.toList == y.toList) = false := by rw [hq]; simpa using hxy
          have e1 : (x.toList != y.toList) = true := by rw [bne, e2]; rfl
          have HNO : Hid (decide (l = m) = false) := eqTake_ne hx hy hxy
          clear hx hy hc1 hc2 hq hxy htk
          go_wp2_with fail
          go_quiet (fail)
          go_wp2_with fail
          go_ret
          exact ⟨ret_bool HNO.out.symm, _, World.drewN_drewN _ _ _⟩
      · obtain rfl : k = l.length := by omega
        have HYES : Hid (decide (l = m) = true) := by
          have h := htk.out
          rw [List.take_of_length_le (Nat.le_refl _), List.take_of_length_le hle2] at h
          unfold Hid
          simpa using h
        go_wp2_with fail
        go_ret
        exact ⟨ret_bool HYES.out.symm, _, rfl⟩
  · have hb : ((l.length : Int) != (m.length : Int)) = true := by simp; omega
    have HNO : Hid (decide (l = m) = false) := by unfold Hid; rw [decide_eq_false_iff_not]; exact fun h => hlen (by rw [h])
    clear hlen
    go_enter Try.func49, Try.ntmps49
    go_wp2_with fail
    go_ret
    exact ⟨ret_bool HNO.out.symm, 0, rfl⟩
end Go.Proofs.Ythgkgjcnmahacaa
end

section
/- Texts in their order. -/
set_option linter.unusedSimpArgs false
set_option linter.unusedVariables false
namespace Go.Proofs.Ythgkgjcnmahacaa
open Go.RowKit Go.OpenShut

theorem less_cmpB : ∀ a b : List UInt8, Op.bytesLess a b = decide (Lib.compareBytes a b < 0)
  | [], [] => by simp [Op.bytesLess, Lib.compareBytes]
  | [], _ :: _ => by simp [Op.bytesLess, Lib.compareBytes]
  | _ :: _, [] => by simp [Op.bytesLess, Lib.compareBytes]
  | x :: a, y :: b => by
    have ih := less_cmpB a b
    unfold Op.bytesLess Lib.compareBytes
    by_cases h1 : x < y
    · simp [h1]
    · by_cases h2 : y < x
      · have : x ≠ y := fun e => by subst e; exact h1 h2
        simp [h1, h2, this]
      · have : x = y := by
          rw [UInt8.lt_iff_toNat_lt] at h1 h2
          exact UInt8.toNat_inj.1 (by omega)
        subst this
        simp [h1, ih]
theorem less_cmp (a b : ByteArray) : Op.bytesLess a.toList b.toList = decide (cmpN a b < 0) := by
  rw [ByteArray.toList_eq, ByteArray.toList_eq]
  exact less_cmpB _ _
/-- The first k objects rise. -/
def RisingTo (os : List (ByteArray × JV)) (k : Nat) : Prop := ∀ (i : Nat) p q, i + 1 < k → os[i]? = some p → os[i + 1]? = some q → cmpN p.1 q.1 < 0
theorem RisingTo.all {os : List (ByteArray × JV)} (h : RisingTo os os.length) : Rising os := by
  intro i j p q hij hi hj
  induction j generalizing q with
  | zero => omega
  | succ j ih =>
    have hl := (List.getElem?_eq_some_iff.1 hj).1
    by_cases e : i = j
    · subst e
      exact h i p q hl hi hj
    · obtain ⟨m, hm⟩ : ∃ m, os[j]? = some m := ⟨_, List.getElem?_eq_getElem (by omega)⟩
      exact cmpN_lt_trans (ih m (by omega) hm) (by have := h j m q hl hm hj; have := cmpN_neg m.1 q.1; omega)
theorem Rising.no {os : List (ByteArray × JV)} {i : Nat} {p q : ByteArray × JV} (hp : os[i]? = some p) (hq : os[i + 1]? = some q) (h : ¬ cmpN p.1 q.1 < 0) : ¬ Rising os := fun hr => h (hr i (i + 1) p q (by omega) hp hq)
end Go.Proofs.Ythgkgjcnmahacaa
end
