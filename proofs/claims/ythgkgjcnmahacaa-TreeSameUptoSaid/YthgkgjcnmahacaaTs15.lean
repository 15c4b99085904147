import Derived.Test.YthgkgjcnmahacaaTs13
import Derived.Test.YthgkgjcnmahacaaTs11
import Derived.Test.YthgkgjcnmahacaaTs00
import Derived.Test.YthgkgjcnmahacaaTs09
import Derived.Laws.CopyRow
import Derived.Laws.CopyOwn
import Derived.Shelf.Spec.SlicesInsertGrow
import Derived.Test.YthgkgjcnmahacaaTs12
import Derived.Deep.RegionLaw
import Derived.Outline
section
/- store.changed: a box with an entry more, walked. -/
set_option linter.unusedSimpArgs false
set_option linter.unusedVariables false
namespace Go.Proofs.Ythgkgjcnmahacaa
open Go.RowKit Go.OpenShut

/-- A box with other objects, and an entry more. -/
def chgB (b : BoxD) (os : List (ByteArray × JV)) (id : ByteArray) (what : Int) : BoxD :=
  ⟨os, addL b.trail b.keep ⟨b.seq + 1, id, what⟩, b.seq + 1, addF b.trail b.floor b.keep ⟨b.seq + 1, id, what⟩, b.keep⟩
theorem addL_oks {l : List En} {keep : Int} {e : En} (hl : ∀ x ∈ l, x.ok) (he : e.ok) : ∀ x ∈ addL l keep e, x.ok := fun x hx => by
  rcases List.mem_append.1 (List.mem_of_mem_drop hx) with h | h
  · exact hl x h
  · obtain rfl : x = e := by simpa using h
    exact he
theorem BoxAt.set2 {W : World} {g : Nat} {r : RB} (h : BoxAt W g r) (q : Int) : BoxAt (W.setCell ⟨g, 2, none⟩ (.int .i64 q)) g { r with sq := q } := by
  unfold BoxAt at h ⊢
  simp [World.setCell, Array.getElem?_modify, h]
theorem BoxAt.set13 {W : World} {g : Nat} {r : RB} (h : BoxAt W g r) (p : Option Addr) (n c : Nat) (f : Int) : BoxAt ((W.setCell ⟨g, 1, none⟩ (.slice p n c)).setCell ⟨g, 3, none⟩ (.int .i64 f)) g { r with pt := p, nt := n, ct := c, fl := f } := by
  unfold BoxAt at h ⊢
  simp [World.setCell, Array.getElem?_modify, h]
theorem wf_bounds {n : Int} (h : (Lit.int .i64 n).wf = true) : -9223372036854775808 ≤ n ∧ n ≤ 9223372036854775807 := by
  simp [Lit.wf, IntKind.min, IntKind.max, IntKind.signed, IntKind.bits] at h
  omega
theorem wf_of {n : Int} (h0 : -9223372036854775808 ≤ n) (h1 : n ≤ 9223372036854775807) : (Lit.int .i64 n).wf = true := by
  simp [Lit.wf, IntKind.min, IntKind.max, IntKind.signed, IntKind.bits]
  omega

/-- What the trail says is in the call's own list. -/
structure ChgMid (w W : World) (base B : Nat) (b : BoxD) (q : RB) : Prop where
  box : BoxAt W w.heap.size q
  zero : BoxAt W (w.heap.size + 1) RB.zero
  new : NewBox W base B b q
  below : Below w.heap.size w W
  b1 : (Value.slice q.po q.no q.co).ownBlock ≠ some (w.heap.size + 1)
  b2 : (Value.slice q.pt q.nt q.ct).ownBlock ≠ some (w.heap.size + 1)

set_option maxRecDepth 100000 in
set_option maxHeartbeats 4000000 in
theorem changed_any (b : BoxD) (r : RB) (w : World) (base B : Nat) (id : ByteArray) (what : Int) (hBw : B ≤ w.heap.size) (hbase : base ≤ w.heap.size) (hb : NewBox w base B b r) (hs0 : (Lit.int .i64 b.seq).wf = true) (hs1 : b.seq < 9007199254740991) (hf : (Lit.int .i64 b.floor).wf = true) (hk : (Lit.int .i64 b.keep).wf = true)
    (hid : id.size ≤ maxLen) (hwh : (Lit.int .i64 what).wf = true) (hlen : (b.trail.length + 1) * 32 ≤ 140737488355328) :
    Calls Try.prog 66 #[r.val, .string id, .int .i64 what] w fun e w' => ∃ q, e = .returned (RB.val q) ∧ NewBox w' base B (chgB b b.objs id what) q ∧ Below w.heap.size w w' := by
  obtain ⟨po, no, co, pt, nt, ct, sq, fl, kp⟩ := r
  obtain ⟨⟨ros, hro, hms⟩, htr, hok, hsq, hfl, hkp⟩ := hb
  dsimp only [RB.val] at *
  have hws := wf_bounds hs0
  rw [hsq] at hws hs1
  have hA0 : BoxAt ((w.alloc (.cells #[.slice po no co, .slice pt nt ct, .int .i64 sq, .int .i64 fl, .int .i64 kp] 35)).alloc (.cells #[.slice none 0 0, .slice none 0 0, .int .i64 0, .int .i64 0, .int .i64 0] 35)) w.heap.size ⟨po, no, co, pt, nt, ct, sq, fl, kp⟩ := heap_alloc_lt (by simp) (heap_alloc_at rfl)
  have hZ0 : BoxAt ((w.alloc (.cells #[.slice po no co, .slice pt nt ct, .int .i64 sq, .int .i64 fl, .int .i64 kp] 35)).alloc (.cells #[.slice none 0 0, .slice none 0 0, .int .i64 0, .int .i64 0, .int .i64 0] 35)) (w.heap.size + 1) RB.zero := heap_alloc_at (by simp)
  have hB0 := below2 w (.cells #[.slice po no co, .slice pt nt ct, .int .i64 sq, .int .i64 fl, .int .i64 kp] 35) (.cells #[.slice none 0 0, .slice none 0 0, .int .i64 0, .int .i64 0, .int .i64 0] 35)
  have hwq : (Lit.int .i64 (b.seq + 1)).wf = true := wf_of (by rw [hsq]; omega) (by rw [hsq]; omega)
  have HQ : Hid (En.ok ⟨b.seq + 1, id, what⟩) := ⟨hwq, hid, hwh⟩
  have HRO := Lib.hid hro
  have HRT := Lib.hid htr
  have HOK := Lib.hid hok
  have HMS := Lib.hid hms
  have HEQ : Hid (b.seq = sq ∧ b.floor = fl ∧ b.keep = kp) := ⟨hsq, hfl, hkp⟩
  have HF : Hid ((Lit.int .i64 b.floor).wf = true ∧ (Lit.int .i64 b.keep).wf = true ∧ (b.trail.length + 1) * 32 ≤ 140737488355328) := ⟨hf, hk, hlen⟩
  clear hok hro hms hsq hfl hkp hs0 hf hk hwq hid hwh hlen
  go_enter Try.func66, Try.ntmps66
  go_upto_region 1 with fail
  obtain ⟨W0, hW0⟩ : ∃ W0, ((w.alloc (.cells #[.slice po no co, .slice pt nt ct, .int .i64 sq, .int .i64 fl, .int .i64 kp] 35)).alloc (.cells #[.slice none 0 0, .slice none 0 0, .int .i64 0, .int .i64 0, .int .i64 0] 35)) = W0 := ⟨_, rfl⟩
  have hws0 : W0.heap.size = w.heap.size + 1 + 1 := by rw [← hW0]; simp
  rw [hW0] at hA0 hZ0 hB0 ⊢
  clear hW0
  have c2 := hA0.cell 2 rfl
  have x2 := hA0.frozen 2
  dsimp only at c2
  have hws1 := hws.1
  clear hws
  go_upto_region 2 with fail
  have hA1 := hA0.set2 (sq + 1)
  have hZ1 := hZ0.kept (grownBy_set W0 w.heap.size 2 (.int .i64 (sq + 1))) (by omega)
  have hB1 : Below w.heap.size w (W0.setCell ⟨w.heap.size, 2, none⟩ (.int .i64 (sq + 1))) := hB0.setCell (Nat.le_refl _) _
  obtain ⟨W1, hW1⟩ : ∃ W1, W0.setCell ⟨w.heap.size, 2, none⟩ (.int .i64 (sq + 1)) = W1 := ⟨_, rfl⟩
  have hz1 : W1.heap.size = w.heap.size + 1 + 1 := by rw [← hW1]; simp [hws0]
  rw [hW1] at hA1 hZ1 hB1 ⊢
  clear hW1 hA0 hZ0 hB0 hws0 c2 x2 hws1
  have a0 := hA1.cell 0 rfl
  have a1 := hA1.cell 1 rfl
  have a2 := hA1.cell 2 rfl
  have a3 := hA1.cell 3 rfl
  have a4 := hA1.cell 4 rfl
  dsimp only at a0 a1 a2 a3 a4
  have hadd := add_any W1 (.slice pt nt ct) b.trail fl kp ⟨sq + 1, id, what⟩ ((HRT.out.rd codecE).below hB1 hB1.size) (by rw [← HEQ.out.2.1]; exact HF.out.1) (by rw [← HEQ.out.2.2]; exact HF.out.2.1) HF.out.2.2
  have HADD := Lib.hid hadd
  have HA := Lib.hid hA1
  have HZ := Lib.hid hZ1
  have HB := Lib.hid hB1
  have HZ1 := Lib.hid hz1
  have hz := hA1.lt
  clear hadd hA1 hZ1 hB1 hz1
  go_upto_region 3 with (go_at_call 101; refine HADD.out.mono ?_; rintro e w2 ⟨u, rfl, ho2, hb2⟩; obtain ⟨p2, c2, hu2, _, _⟩ := ho2.len; subst hu2; (have hA2 := HA.out.under hb2 hz); (have d1 := hA2.cell 1 rfl); (have d3 := hA2.cell 3 rfl); (have x1 := hA2.frozen 1); (have x3 := hA2.frozen 3))
  have hA3 := hA2.set13 p2 (addL b.trail kp ⟨sq + 1, id, what⟩).length c2 (addF b.trail fl kp ⟨sq + 1, id, what⟩)
  obtain ⟨W3, hW3⟩ : ∃ W3, (w2.setCell ⟨w.heap.size, 1, none⟩ (.slice p2 (addL b.trail kp ⟨sq + 1, id, what⟩).length c2)).setCell ⟨w.heap.size, 3, none⟩ (.int .i64 (addF b.trail fl kp ⟨sq + 1, id, what⟩)) = W3 := ⟨_, rfl⟩
  have hg3 : w2.grownBy W3 (some w.heap.size) := by rw [← hW3]; exact (grownBy_set w2 _ 1 _).trans (grownBy_set _ _ 3 _)
  rw [hW3] at hA3 ⊢
  clear hW3
  have hz2 := hb2.size
  have hZ3 : BoxAt W3 (w.heap.size + 1) RB.zero := (HZ.out.under hb2 (by have := HZ1.out; omega)).kept hg3 (by omega)
  have hbb2 : Below w.heap.size w w2 := HB.out.trans (hb2.mono (by have := HZ1.out; omega))
  have hlt1 := fun k (e : (Value.slice po no co).ownBlock = some k) => (HRO.out.lt k e).2
  have n1 : (Value.slice po no co).ownBlock ≠ some w.heap.size := fun e => by have := hlt1 _ e; omega
  have n2 : (Value.slice p2 (addL b.trail kp ⟨sq + 1, id, what⟩).length c2).ownBlock ≠ some w.heap.size := fun e => by have := (ho2.lt _ e).1; have := HZ1.out; omega
  have hM : ChgMid w W3 base B (chgB b b.objs id what) ⟨po, no, co, p2, (addL b.trail kp ⟨sq + 1, id, what⟩).length, c2, sq + 1, addF b.trail fl kp ⟨sq + 1, id, what⟩, kp⟩ := by
    obtain ⟨e1, e2, e3⟩ := HEQ.out
    refine ⟨hA3, hZ3, ?_, hbb2.grown hg3 (by have := HZ1.out; omega) (fun a e => by cases e; exact Nat.le_refl _), fun e => by have := hlt1 _ e; omega, fun e => by have := (ho2.lt _ e).1; have := HZ1.out; omega⟩
    refine NewBox.kept (W := w2) (g := w.heap.size) ⟨⟨ros, HRO.out.below hbb2 (Nat.le_refl _), HMS.out.under (hbb2.mono hBw) (Nat.le_refl _)⟩, ?_, ?_, ?_, ?_, ?_⟩ hg3 n1 n2 (by have := hbb2.size; omega) hBw
    · show Own w2 base 48 encE 3 _ (addL b.trail b.keep ⟨b.seq + 1, id, what⟩)
      rw [e1, e3]
      exact ho2.mono (by have := HZ1.out; omega)
    · exact addL_oks HOK.out HQ.out
    · show b.seq + 1 = sq + 1
      rw [e1]
    · show addF b.trail b.floor b.keep ⟨b.seq + 1, id, what⟩ = _
      rw [e1, e2, e3]
    · exact e3
  have HM := Lib.hid hM
  have g0 := hM.box.cell 0 rfl
  have g1 := hM.box.cell 1 rfl
  have g2 := hM.box.cell 2 rfl
  have g3 := hM.box.cell 3 rfl
  have g4 := hM.box.cell 4 rfl
  have z0 := hM.zero.cell 0 rfl
  have z1 := hM.zero.cell 1 rfl
  have z2 := hM.zero.cell 2 rfl
  have z3 := hM.zero.cell 3 rfl
  have z4 := hM.zero.cell 4 rfl
  dsimp only [RB.zero] at g0 g1 g2 g3 g4 z0 z1 z2 z3 z4
  have y0 := hM.zero.frozen 0
  have y1 := hM.zero.frozen 1
  have y2 := hM.zero.frozen 2
  have y3 := hM.zero.frozen 3
  have y4 := hM.zero.frozen 4
  clear hM a0 a1 a2 a3 a4 d1 d3 x1 x3 hA2 hA3 hZ3 hbb2 hlt1 n1 n2 ho2 hb2 hg3 hz hz2
  go_wp2_with fail
  have hg := grownBy_setB W3 (w.heap.size + 1) ⟨po, no, co, p2, (addL b.trail kp ⟨sq + 1, id, what⟩).length, c2, sq + 1, addF b.trail fl kp ⟨sq + 1, id, what⟩, kp⟩
  refine bodyPost_ret (v := RB.val ⟨po, no, co, p2, (addL b.trail kp ⟨sq + 1, id, what⟩).length, c2, sq + 1, addF b.trail fl kp ⟨sq + 1, id, what⟩, kp⟩) (by simp [results, Try.results66, go_sem, z0, z1, z2, z3, z4]) rfl ⟨_, rfl, HM.out.new.kept hg HM.out.b1 HM.out.b2 (by have := HM.out.below.size; omega) (by omega), HM.out.below.grown hg (by have := HM.out.below.size; omega) (fun a e => by cases e; omega)⟩
end Go.Proofs.Ythgkgjcnmahacaa
end

section
/- copy at elements of several cells, and what becomes of a row. Plain laws over any program. -/
set_option linter.unusedSimpArgs false
set_option linter.unusedVariables false
namespace Go.Proofs.Ythgkgjcnmahacaa
open Go Go.RowKit

theorem setRow_at (w : World) (g : Nat) (cur c : Array Value) (t : TypeId) (fr : Nat × Nat) (h : w.heap[g]? = some (.cells cur t fr)) : (w.setRow g c).heap[g]? = some (.cells c t fr) := by
  simp [World.setRow, Array.getElem?_modify, h]
theorem setRow_grown (w : World) (g : Nat) (c : Array Value) : w.grownBy (w.setRow g c) (some g) :=
  ⟨rfl, rfl, rfl, by simp, fun k _ hk => by
    simp only [World.setRow, Array.getElem?_modify]
    rw [if_neg (fun e => hk (by rw [e]))]⟩
section
variable {P : Program} {α : Type} {enc : α → List Value} {sz bytes : Nat} {t e : TypeId}
theorem run_copy_rowN (w : World) (dT sT ty elem : TypeId) (g o dLen dCap : Nat) (a : Addr) (sLen sCap n : Nat) (cur : Array Value) (t : TypeId) (cs : List Value)
    (hu : P.underlying dT = some (.slice elem)) (hs : (P.info? elem).map (·.size) = some sz)
    (hg : w.heap[g]? = some (.cells cur t (0, 0))) (hm : Nat.min sLen dLen = n) (hn : cs.length = n * sz)
    (hsrc : ∀ j v, cs[j]? = some v → w.cell? (a.add j) = some v) (hfit : o + cs.length ≤ cur.size) (h1 : ∀ v ∈ cs, v.oneCell' = true) :
    (Builtin.copy_ #[dT, sT] ty #[.slice (some ⟨g, o, none⟩) dLen dCap, .slice (some a) sLen sCap]).run P w =
      .ok (goInt n) (w.setRow g (cur.toList.take o ++ cs ++ cur.toList.drop (o + cs.length)).toArray) := by
  have hl := run_loadCells_list (P := P) w a cs hsrc
  have hst := run_storeCells_at P g o t cs 0 cur w hg (by simpa using hfit) h1
  cases hq : P.info? elem with
  | none => simp [hq] at hs
  | some i =>
    have hi : i.size = sz := by simpa [hq] using hs
    simp [Builtin.copy_, run_underlying hu, Builtin.lenOf, Builtin.firstCells, sizeOf, typeInfo, hq, hi, hm, ← hn, hl, hst]

/-- A row known whole is owned. -/
theorem Own.ofRow {w : World} {base g n cap : Nat} {xs : List α} {cs : Array Value} (C : Codec enc sz) (h : w.heap[g]? = some (.cells cs e (0, 0))) (hc : cs.toList.take (n * sz) = cellsOf enc xs) (hn : n = xs.length) (hg : base ≤ g) (hnc : n ≤ cap) (hm : cap ≤ maxLen) (hs : cs.size = cap * sz) :
    Own w base e enc sz (.slice (some ⟨g, 0, none⟩) n cap) xs := by
  subst hn
  exact ⟨cellsOf_len C xs, .inr ⟨g, cap, cs, rfl, hg, h, hnc, hm, hs, hc⟩⟩
theorem Own.row {w : World} {base n cap : Nat} {p : Option Addr} {xs : List α} (h : Own w base e enc sz (.slice p n cap) xs) (hp : 0 < cap ∨ p ≠ none) :
    ∃ g cur, p = some ⟨g, 0, none⟩ ∧ base ≤ g ∧ w.heap[g]? = some (.cells cur e (0, 0)) ∧ n = xs.length ∧ n ≤ cap ∧ cap ≤ maxLen ∧ cur.size = cap * sz ∧ cur.toList.take (n * sz) = cellsOf enc xs := by
  obtain ⟨_, h⟩ := h
  rcases h with ⟨hv, _⟩ | ⟨g, cap', cur, hv, hg, hh, hnc, hcm, hcs, ht⟩
  · simp only [Value.slice.injEq] at hv
    obtain ⟨rfl, _, rfl⟩ := hv
    rcases hp with h | h
    · omega
    · exact absurd rfl h
  · simp only [Value.slice.injEq] at hv
    obtain ⟨rfl, rfl, rfl⟩ := hv
    exact ⟨g, cur, rfl, hg, hh, rfl, hnc, hcm, hcs, ht⟩
theorem cells_take (C : Codec enc sz) (xs : List α) (k : Nat) : (cellsOf enc xs).take (k * sz) = cellsOf enc (xs.take k) := by
  have h1 : cellsOf enc xs = cellsOf enc (xs.take k) ++ cellsOf enc (xs.drop k) := by rw [← cellsOf_append, List.take_append_drop]
  by_cases h : k ≤ xs.length
  · have h3 : (cellsOf enc (xs.take k)).length = k * sz := by rw [cellsOf_len C, List.length_take, Nat.min_eq_left h]
    rw [h1, ← h3, List.take_left]
  · rw [List.take_of_length_le (l := xs) (by omega), List.take_of_length_le]
    rw [cellsOf_len C]
    exact Nat.mul_le_mul_right _ (by omega)
/-- A row whose head is opened at element i for one more: the copies of Insert. -/
theorem row_insert (C : Codec enc sz) {cur : List Value} {xs : List α} {n cap i : Nat} {x : α} (hn : n = xs.length) (ht : cur.take (i * sz) = cellsOf enc (xs.take i)) (hi : i ≤ n) (hl : (n + 1) * sz ≤ cur.length) :
    let row1 := cur.take ((i + 1) * sz) ++ cellsOf enc (xs.drop i) ++ cur.drop ((i + 1) * sz + (cellsOf enc (xs.drop i)).length)
    (row1.take (i * sz) ++ enc x ++ row1.drop (i * sz + (enc x).length)).take ((n + 1) * sz) = cellsOf enc (xs.take i ++ x :: xs.drop i) := by
  intro row1
  have hx := C.len x
  have hd : (cellsOf enc (xs.drop i)).length = (n - i) * sz := by rw [cellsOf_len C, List.length_drop, hn]
  have hi1 : (i + 1) * sz = i * sz + sz := by rw [Nat.add_mul, Nat.one_mul]
  have hn1 : (n + 1) * sz = i * sz + sz + (n - i) * sz := by
    have : n + 1 = i + 1 + (n - i) := by omega
    rw [this, Nat.add_mul, Nat.add_mul, Nat.one_mul]
  have h1 : row1.take (i * sz) = cellsOf enc (xs.take i) := by
    rw [← ht]
    show (cur.take ((i + 1) * sz) ++ cellsOf enc (xs.drop i) ++ _).take (i * sz) = _
    rw [List.append_assoc, List.take_append_of_le_length (by rw [List.length_take]; omega), List.take_take, Nat.min_eq_left (by omega)]
  have hlt : (cur.take ((i + 1) * sz)).length = i * sz + sz := by rw [List.length_take]; omega
  have h2 : row1.drop (i * sz + (enc x).length) = cellsOf enc (xs.drop i) ++ cur.drop ((i + 1) * sz + (cellsOf enc (xs.drop i)).length) := by
    rw [hx, ← hlt]
    show (cur.take ((i + 1) * sz) ++ cellsOf enc (xs.drop i) ++ _).drop _ = _
    rw [List.append_assoc, List.drop_left]
  rw [h1, h2, cellsOf_append]
  have e1 : cellsOf enc (x :: xs.drop i) = enc x ++ cellsOf enc (xs.drop i) := by simp [cellsOf]
  have hl1 : (cellsOf enc (xs.take i)).length = i * sz := by rw [← ht, List.length_take]; omega
  rw [e1, ← List.append_assoc (cellsOf enc (xs.take i)), ← List.append_assoc (cellsOf enc (xs.take i) ++ enc x), List.take_append_of_le_length (by simp only [List.length_append]; omega), List.take_of_length_le (by simp only [List.length_append]; omega)]
/-- The same where the element is laid first. -/
theorem row_insert2 (C : Codec enc sz) {cur : List Value} {xs : List α} {n cap i : Nat} {x : α} (hn : n = xs.length) (ht : cur.take (i * sz) = cellsOf enc (xs.take i)) (hi : i ≤ n) (hl : (n + 1) * sz ≤ cur.length) :
    let row1 := cur.take (i * sz) ++ enc x ++ cur.drop (i * sz + (enc x).length)
    (row1.take ((i + 1) * sz) ++ cellsOf enc (xs.drop i) ++ row1.drop ((i + 1) * sz + (cellsOf enc (xs.drop i)).length)).take ((n + 1) * sz) = cellsOf enc (xs.take i ++ x :: xs.drop i) := by
  intro row1
  have hx := C.len x
  have hd : (cellsOf enc (xs.drop i)).length = (n - i) * sz := by rw [cellsOf_len C, List.length_drop, hn]
  have hi1 : (i + 1) * sz = i * sz + sz := by rw [Nat.add_mul, Nat.one_mul]
  have hn1 : (n + 1) * sz = i * sz + sz + (n - i) * sz := by
    have : n + 1 = i + 1 + (n - i) := by omega
    rw [this, Nat.add_mul, Nat.add_mul, Nat.one_mul]
  have hl1 : (cur.take (i * sz)).length = i * sz := by rw [List.length_take]; omega
  have h1 : row1.take ((i + 1) * sz) = cellsOf enc (xs.take i) ++ enc x := by
    rw [← ht, hi1]
    show (cur.take (i * sz) ++ enc x ++ _).take (i * sz + sz) = _
    rw [List.take_append_of_le_length (by simp only [List.length_append]; omega), List.take_of_length_le (by simp only [List.length_append]; omega)]
  rw [h1, cellsOf_append]
  have e1 : cellsOf enc (x :: xs.drop i) = enc x ++ cellsOf enc (xs.drop i) := by simp [cellsOf]
  have hl2 : (cellsOf enc (xs.take i)).length = i * sz := by rw [← ht, hl1]
  rw [e1, List.take_append_of_le_length (by simp only [List.length_append]; omega), List.take_of_length_le (by simp only [List.length_append]; omega), List.append_assoc]
end
end Go.Proofs.Ythgkgjcnmahacaa
end

section
/- slices.Insert of one object into a slice of the call's own, walked. -/
set_option linter.unusedSimpArgs false
set_option linter.unusedVariables false
namespace Go.Proofs.Ythgkgjcnmahacaa
open Go.RowKit Go.OpenShut

theorem gb_drew {w w' : World} {row : Option Nat} (h : w.drew.grownBy w' row) : w.grownBy w' row := ⟨h.os, h.tape, h.output, h.size, h.block⟩
def InsRet (w : World) (base : Nat) (row : Option Nat) (n : Nat) (ys : List RM) (e : Ending) (w' : World) : Prop :=
  ∃ p' c', e = .returned (.slice p' n c') ∧ Own w' base 46 encM 6 (.slice p' n c') ys ∧ w.grownBy w' row
/-- An object in a block of its own. -/
def ObAt (W : World) (g : Nat) (x : RM) : Prop := W.heap[g]? = some (.cells #[.string x.name, .int .i64 x.v.k, .int .i64 x.v.n, .string x.v.s, .slice x.v.pl x.v.nl x.v.cl, .slice x.v.pm x.v.nm x.v.cm] 46 (0, 0))

set_option maxRecDepth 100000 in
set_option maxHeartbeats 1000000 in
theorem insert_end (w : World) (base : Nat) (p : Option Addr) (n c vb : Nat) (xs : List RM) (x : RM) (ho : Own w base 46 encM 6 (.slice p n c) xs) (hb : base ≤ w.heap.size) (hx : ObAt w vb x) (hsz : (n + 1) * 96 ≤ 140737488355328) :
    Calls Try.prog 67 #[.slice p n c, .int .i64 n, .slice (some ⟨vb, 0, none⟩) 1 1] w (InsRet w base (Value.slice p n c).ownBlock (n + 1) (xs ++ [x])) := by
  have hn := rd_nlen (ho.rd codecM)
  have hvb : vb < w.heap.size := (Array.getElem?_eq_some_iff.1 hx).1
  have hR : Rd w w.heap.size encM 6 (.slice (some ⟨vb, 0, none⟩) 1 1) [x] := Rd.one codecM hx rfl hvb
  have HO := Lib.hid ho
  have HR := Lib.hid hR
  have HN := Lib.hid hn
  have HX := Lib.hid hsz
  have hn63 : (n : Int) ≤ 9223372036854775806 := by omega
  have hsl := fun W => run_slice_low (P := Try.prog) slO p n c n (Nat.le_refl _) W
  obtain ⟨row, hrow⟩ : ∃ row, (Value.slice p n c).ownBlock = row := ⟨_, rfl⟩
  rw [hrow]
  have HROW := Lib.hid hrow
  clear ho hR hn hx hsz hrow
  go_enter Try.func67, Try.ntmps67
  go_wp2_with (at_builtin; refine wpList_append_rd slO codecM w rfl (.tmp 23) (.tmp 24) rfl (v := .slice p n c) rfl rfl HO.out HR.out (by have := HN.out; have := HX.out; simp; unfold maxLen; omega) (by have := HN.out; have := HX.out; simp; omega) hb ?_; intro v1 w1 ho1 hg1 hat1)
  all_goals obtain ⟨p1, c1, hv1, _, _⟩ := ho1.len
  all_goals have hl : (xs ++ [x]).length = n + 1 := by have := HN.out; simp; omega
  all_goals rw [hl] at hv1
  all_goals subst hv1
  all_goals go_ret
  all_goals exact ⟨p1, c1, rfl, ho1, by rw [← HROW.out]; exact hg1⟩

set_option maxRecDepth 100000 in
set_option maxHeartbeats 2000000 in
theorem insert_shift (w : World) (base : Nat) (g n c vb i : Nat) (cur : Array Value) (xs : List RM) (x : RM) (hh : w.heap[g]? = some (.cells cur 46 (0, 0))) (hg : base ≤ g) (hn : n = xs.length) (hcm : c ≤ maxLen) (hcs : cur.size = c * 6) (ht : cur.toList.take (n * 6) = cellsOf encM xs)
    (hi : i < n) (hroom : n + 1 ≤ c) (hx : ObAt w vb x) (hne : vb ≠ g) :
    Calls Try.prog 67 #[.slice (some ⟨g, 0, none⟩) n c, .int .i64 i, .slice (some ⟨vb, 0, none⟩) 1 1] w (InsRet w base (some g) (n + 1) (xs.take i ++ x :: xs.drop i)) := by
  have hcn : cur.toList.length = c * 6 := by simpa using hcs
  have htk : cur.toList.take (i * 6) = cellsOf encM (xs.take i) := by
    rw [← cells_take codecM, ← ht, List.take_take, Nat.min_eq_left (by omega)]
  have hszO : (Try.prog.info? 46).map (·.size) = some 6 := by kernel_rfl
  have hshA : w.shape? vb = some (46, 6) := by
    unfold ObAt at hx
    simp [World.shape?, hx]
  have hshB : w.shape? g = some (46, c * 6) := by simp [World.shape?, hh, hcs]
  have hsizeO : ∀ w, (Go.sizeOf 46).run Try.prog w = .ok 6 w := fun w => by kernel_rfl
  have hov : ∀ lb cb, (callFunc 102 #[.slice (some ⟨vb, 0, none⟩) 1 1, .slice (some ⟨g, (i + 1) * 6, none⟩) lb cb]).run Try.prog w = .ok (.value (.bool false)) w := fun lb cb => by
    rw [run_callFunc_extern Try.func102 (by kernel_rfl) (by kernel_rfl) (by kernel_rfl) (e := Extern.SlicesOverlaps.overlaps #[32, 32] #[4]) (by kernel_rfl),
      Lib.run_overlaps_apart w 32 4 46 Try.underlying32 6 hsizeO ⟨vb, 0, none⟩ ⟨g, (i + 1) * 6, none⟩ 1 1 lb cb hne 46 46 6 (c * 6) hshA hshB (by omega) (by unfold ObAt at hx; simp [World.frozen?, hx]) (by unfold ObAt at hx; simp [World.frozen?, hx])]
    rfl
  have hd : (cellsOf encM (xs.drop i)).length = (n - i) * 6 := by rw [cellsOf_len codecM, List.length_drop, hn]
  have hcell : ∀ j, w.cell? ⟨g, j, none⟩ = cur.toList[j]? := fun j => by rw [cell_of_row w g j _ _ _ hh, Array.getElem?_toList]
  have hcells : ∀ j v, (cellsOf encM (xs.drop i))[j]? = some v → w.cell? ((⟨g, i * 6, none⟩ : Addr).add j) = some v := fun j v hv => by
    rw [add_eq, hcell]
    have h1 : (cellsOf encM xs)[i * 6 + j]? = some v := by
      have e : cellsOf encM xs = cellsOf encM (xs.take i) ++ cellsOf encM (xs.drop i) := by rw [← cellsOf_append, List.take_append_drop]
      have hl : (cellsOf encM (xs.take i)).length = i * 6 := by rw [cellsOf_len codecM, List.length_take]; omega
      rw [e, List.getElem?_append_right (by omega), hl]
      simpa using hv
    rw [← ht, List.getElem?_take] at h1
    split at h1
    · exact h1
    · cases h1
  obtain ⟨row1, hrow1⟩ : ∃ r : Array Value, r = (cur.toList.take ((i + 1) * 6) ++ cellsOf encM (xs.drop i) ++ cur.toList.drop ((i + 1) * 6 + (cellsOf encM (xs.drop i)).length)).toArray := ⟨_, rfl⟩
  have hr1s : row1.size = c * 6 := by
    rw [hrow1]
    simp only [List.size_toArray, List.length_append, List.length_take, List.length_drop, hd, hcn]
    omega
  have hcp1 : ∀ ty dc sc, (Builtin.copy_ #[32, 32] ty #[.slice (some ⟨g, (i + 1) * 6, none⟩) (n - i) dc, .slice (some ⟨g, i * 6, none⟩) (n + 1 - i) sc]).run Try.prog w.drew = .ok (goInt ((n - i : Nat) : Int)) (w.drew.setRow g row1) := fun ty dc sc => by
    rw [hrow1]
    exact run_copy_rowN w.drew _ _ ty 46 g ((i + 1) * 6) (n - i) dc ⟨g, i * 6, none⟩ (n + 1 - i) sc (n - i) cur 46 _ Try.underlying32 hszO hh (by simp only [Nat.min_def]; split <;> omega) hd hcells (by rw [hd]; omega) (cellsOf_one codecM _)
  obtain ⟨row2, hrow2⟩ : ∃ r : Array Value, r = (row1.toList.take (i * 6) ++ encM x ++ row1.toList.drop (i * 6 + (encM x).length)).toArray := ⟨_, rfl⟩
  have hxc : ∀ j v, (encM x)[j]? = some v → w.cell? ((⟨vb, 0, none⟩ : Addr).add j) = some v := fun j v hv => by
    unfold ObAt at hx
    rw [add_eq, Nat.zero_add, cell_of_row w vb j _ _ _ hx, ← Array.getElem?_toList]
    exact hv
  have hcp2 : ∀ (W : World), W.heap[g]? = some (.cells row1 46 (0, 0)) → W.heap[vb]? = w.heap[vb]? → ∀ ty dc, (Builtin.copy_ #[32, 32] ty #[.slice (some ⟨g, i * 6, none⟩) (n + 1 - i) dc, .slice (some ⟨vb, 0, none⟩) 1 1]).run Try.prog W = .ok (goInt 1) (W.setRow g row2) := fun W hW hV ty dc => by
    rw [hrow2]
    exact run_copy_rowN W _ _ ty 46 g (i * 6) (n + 1 - i) dc ⟨vb, 0, none⟩ 1 1 1 row1 46 (encM x) Try.underlying32 hszO hW (by simp only [Nat.min_def]; split <;> omega) rfl (fun j v hv => (World.cell?_of_block (w := w) (a := (⟨vb, 0, none⟩ : Addr).add j) (by rw [add_eq]; exact hV)).trans (hxc j v hv)) (by rw [hr1s]; show i * 6 + 6 ≤ _; omega) (codecM.one x)
  have hfin : row2.toList.take ((n + 1) * 6) = cellsOf encM (xs.take i ++ x :: xs.drop i) := by
    rw [hrow2, hrow1]
    exact row_insert (cap := c) codecM hn htk (by omega) (by omega)
  have hr2s : row2.size = c * 6 := by
    rw [hrow2]
    have : (encM x).length = 6 := rfl
    simp only [List.size_toArray, List.length_append, List.length_take, List.length_drop, this, Array.length_toList, hr1s]
    omega
  have HFIN : Hid (∀ W : World, W.heap[g]? = some (.cells row2 46 (0, 0)) → Own W base 46 encM 6 (.slice (some ⟨g, 0, none⟩) (n + 1) c) (xs.take i ++ x :: xs.drop i)) := fun W hW =>
    Own.ofRow codecM hW hfin (by simp; omega) hg hroom hcm hr2s
  have HH := Lib.hid hh
  have HHX := Lib.hid hx
  have HNE := Lib.hid hne
  have hw1 : IntKind.i64.wrap ((i : Int) + 1) = (i : Int) + 1 := by rw [IntKind.wrap_i64]; unfold maxLen at hcm; omega
  have hb1 : (0 : Int) ≤ (i : Int) + 1 := by omega
  have hin : i ≤ n := by omega
  have htn : ((i : Int) + 1).toNat = i + 1 := by omega
  have htn2 : ((n : Int) + 1).toNat = n + 1 := by omega
  have hz2 : ¬ ((i : Int) = (n : Int)) := by omega
  have hb2 : ¬ (c = i + 1) := by omega
  have hb3 : (i : Int) ≤ (n : Int) + 1 := by omega
  have hb4 : ¬ (c = i) := by omega
  have hcm2 : c ≤ 9223372036854775807 := by unfold maxLen at hcm; omega
  clear hh hx hne hcm hcn htk hszO hshA hshB hsizeO hd hcell hcells hrow1 hrow2 hxc hfin hr1s hr2s hcs ht hn
  go_enter Try.func67, Try.ntmps67
  go_wp2_with (simp only [hov])
  go_region_law (refine step_copy_runI rfl _ _ 32 32 rfl _ _ (by simp [Act.eval, Act.put]) (by simp [Act.eval, Act.put]) (hcp1 _ _ _) ?_)
  have hW1 := setRow_at w.drew g cur row1 46 (0, 0) HH.out
  have hV1 : (w.drew.setRow g row1).heap[vb]? = w.heap[vb]? := (setRow_grown w.drew g row1).block vb (by have := (Array.getElem?_eq_some_iff.1 HHX.out).1; exact this) (by simpa using HNE.out)
  have hc2 := hcp2 _ hW1 hV1
  have hW2 := setRow_at _ g row1 row2 46 (0, 0) hW1
  have HW2 := Lib.hid hW2
  have hg0 : w.grownBy (w.drew.setRow g row1) (some g) := gb_drew (setRow_grown w.drew g row1)
  have hG2 : w.grownBy ((w.drew.setRow g row1).setRow g row2) (some g) := hg0.trans (setRow_grown _ g row2)
  clear hg0
  have HG2 := Lib.hid hG2
  clear hW1 hV1 hW2 hG2
  go_wp2_with (at_builtin; refine wpList_copy_runI _ rfl _ _ 32 32 rfl _ _ rfl rfl (hc2 _ _) ?_)
  go_ret
  exact ⟨_, _, rfl, HFIN.out _ HW2.out, HG2.out⟩
end Go.Proofs.Ythgkgjcnmahacaa
end

section
/- slices.Insert of one object where there is no room; the roads joined. -/
set_option linter.unusedSimpArgs false
set_option linter.unusedVariables false
namespace Go.Proofs.Ythgkgjcnmahacaa
open Go.RowKit Go.OpenShut

set_option maxRecDepth 100000 in
set_option maxHeartbeats 2000000 in
theorem insert_grow (w : World) (base : Nat) (g n c vb i : Nat) (cur : Array Value) (xs : List RM) (x : RM) (hh : w.heap[g]? = some (.cells cur 46 (0, 0))) (hb : base ≤ w.heap.size) (hn : n = xs.length) (hnc : n ≤ c) (hcm : c ≤ maxLen) (hcs : cur.size = c * 6) (ht : cur.toList.take (n * 6) = cellsOf encM xs)
    (hi : i < n) (hroom : c < n + 1) (hx : ObAt w vb x) (hsz : (n + 1) * 96 ≤ 140737488355328) :
    Calls Try.prog 67 #[.slice (some ⟨g, 0, none⟩) n c, .int .i64 i, .slice (some ⟨vb, 0, none⟩) 1 1] w (InsRet w base (some g) (n + 1) (xs.take i ++ x :: xs.drop i)) := by
  obtain rfl : c = n := by omega
  have hcn : cur.toList.length = c * 6 := by simpa using hcs
  have htk : cur.toList.take (i * 6) = cellsOf encM (xs.take i) := by
    rw [← cells_take codecM, ← ht, List.take_take, Nat.min_eq_left (by omega)]
  have hgl : g < w.heap.size := (Array.getElem?_eq_some_iff.1 hh).1
  have hvl : vb < w.heap.size := (Array.getElem?_eq_some_iff.1 hx).1
  have hi0 : (Try.prog.info? 46).map (fun i => (i.zero, i.size, i.bytes)) = some (some (.agg #[.string ByteArray.empty, .int .i64 0, .int .i64 0, .string ByteArray.empty, .slice none 0 0, .slice none 0 0]), 6, 96) := by kernel_rfl
  obtain ⟨i0, hi0, hz0, hzs, hzb⟩ := info_parts hi0
  have hszO : (Try.prog.info? 46).map (·.size) = some 6 := by rw [hi0]; simp [hzs]
  have hcell : ∀ j, w.cell? ⟨g, j, none⟩ = cur.toList[j]? := fun j => by rw [cell_of_row w g j _ _ _ hh, Array.getElem?_toList]
  have hold : (Builtin.firstCells i0.size i (.slice (some ⟨g, 0, none⟩) i c)).run Try.prog w.drew = .ok (cellsOf encM (xs.take i)).toArray w.drew := by
    rw [hzs]
    refine run_firstCells_some w.drew 6 i ⟨g, 0, none⟩ i c (cellsOf encM (xs.take i)) (by rw [cellsOf_len codecM, List.length_take]; omega) (fun j v hj => ?_)
    rw [add_eq, Nat.zero_add]
    show w.cell? _ = _
    rw [hcell]
    rw [← htk, List.getElem?_take] at hj
    split at hj
    · exact hj
    · cases hj
  have hkk : (c : Int) + 1 - (i : Int) = ((c + 1 - i : Nat) : Int) := by omega
  have hik : i + (c + 1 - i) = c + 1 := by omega
  obtain ⟨Z, hZ⟩ : ∃ Z : Value, Z = .agg #[.string ByteArray.empty, .int .i64 0, .int .i64 0, .string ByteArray.empty, .slice none 0 0, .slice none 0 0] := ⟨_, rfl⟩
  have hZs : Z.cells.size = 6 := by rw [hZ]; rfl
  rw [← hZ] at hz0
  obtain ⟨G, hG⟩ : ∃ G, G = grownCap w (c + 1) c 46 := ⟨_, rfl⟩
  obtain ⟨ROW, hROW⟩ : ∃ ROW : Array Value, ROW = (cellsOf encM (xs.take i)).toArray ++ Builtin.zeroCells Z.cells (c + 1 - i) ++ Builtin.zeroCells Z.cells (G - (c + 1)) := ⟨_, rfl⟩
  have hrz : ∀ ty, (Builtin.append_ #[32, 3] ty #[.slice (some ⟨g, 0, none⟩) i c, .int .i64 ((c : Int) + 1 - (i : Int))]).run Try.prog w =
      .ok (.slice (some ⟨w.heap.size, 0, none⟩) (c + 1) G) (w.drew.alloc (.cells ROW 46)) := fun ty => by
    have h := Lib.run_append_grow_zeros w 32 3 ty 46 i0 Z .i64 .i64 Try.underlying32 Try.underlying3 hi0 hz0 (some ⟨g, 0, none⟩) i c _ hold (c + 1 - i) (by omega) (by omega) (by omega) (by omega) (by rw [hzb]; omega) (by rw [hzb, hik]; exact growslice_fits (by omega) hsz)
    rw [hik] at h
    rw [hkk, hROW, hG]
    exact h
  have hGn : c + 1 ≤ G := by rw [hG]; exact grownCap_ge w _ _ _
  have hG63 : G ≤ maxLen := by rw [hG]; exact grownCap_le_maxLen w (c + 1) c 46 (by unfold maxLen; omega)
  have hRs : ROW.size = G * 6 := by
    rw [hROW]
    simp only [Array.size_append, size_zeroCells, hZs, List.size_toArray, cellsOf_len codecM, List.length_take]
    omega
  have hRl : ROW.toList.length = G * 6 := by simpa using hRs
  have hRt : ROW.toList.take (i * 6) = cellsOf encM (xs.take i) := by
    have hl : (cellsOf encM (xs.take i)).length = i * 6 := by rw [cellsOf_len codecM, List.length_take]; omega
    rw [hROW]
    simp only [Array.toList_append]
    rw [List.append_assoc, ← hl, List.take_left]
  obtain ⟨W1, hW1⟩ : ∃ W1, W1 = w.drew.alloc (.cells ROW 46) := ⟨_, rfl⟩
  rw [← hW1] at hrz
  have hN1 : W1.heap[w.heap.size]? = some (.cells ROW 46 (0, 0)) := by rw [hW1]; exact heap_alloc_at (w := w.drew) rfl
  have hold1 : ∀ k, k < w.heap.size → W1.heap[k]? = w.heap[k]? := fun k hk => by rw [hW1]; exact Below.heap_alloc w.drew _ k hk
  have hd : (cellsOf encM (xs.drop i)).length = (c - i) * 6 := by rw [cellsOf_len codecM, List.length_drop, hn]
  have hxc : ∀ j v, (encM x)[j]? = some v → w.cell? ((⟨vb, 0, none⟩ : Addr).add j) = some v := fun j v hv => by
    unfold ObAt at hx
    rw [add_eq, Nat.zero_add, cell_of_row w vb j _ _ _ hx, ← Array.getElem?_toList]
    exact hv
  have hcells : ∀ j v, (cellsOf encM (xs.drop i))[j]? = some v → w.cell? ((⟨g, i * 6, none⟩ : Addr).add j) = some v := fun j v hv => by
    rw [add_eq, hcell]
    have h1 : (cellsOf encM xs)[i * 6 + j]? = some v := by
      have e : cellsOf encM xs = cellsOf encM (xs.take i) ++ cellsOf encM (xs.drop i) := by rw [← cellsOf_append, List.take_append_drop]
      have hl : (cellsOf encM (xs.take i)).length = i * 6 := by rw [cellsOf_len codecM, List.length_take]; omega
      rw [e, List.getElem?_append_right (by omega), hl]
      simpa using hv
    rw [← ht, List.getElem?_take] at h1
    split at h1
    · exact h1
    · cases h1
  obtain ⟨row1, hrow1⟩ : ∃ r : Array Value, r = (ROW.toList.take (i * 6) ++ encM x ++ ROW.toList.drop (i * 6 + (encM x).length)).toArray := ⟨_, rfl⟩
  have hr1s : row1.size = G * 6 := by
    rw [hrow1]
    have : (encM x).length = 6 := rfl
    simp only [List.size_toArray, List.length_append, List.length_take, List.length_drop, this, hRl]
    omega
  obtain ⟨row2, hrow2⟩ : ∃ r : Array Value, r = (row1.toList.take ((i + 1) * 6) ++ cellsOf encM (xs.drop i) ++ row1.toList.drop ((i + 1) * 6 + (cellsOf encM (xs.drop i)).length)).toArray := ⟨_, rfl⟩
  have hr2s : row2.size = G * 6 := by
    rw [hrow2]
    simp only [List.size_toArray, List.length_append, List.length_take, List.length_drop, hd, Array.length_toList, hr1s]
    omega
  have hcpA : ∀ (W : World), (∀ k : Nat, W.heap[k]? = W1.heap[k]?) → ∀ ty dc, (Builtin.copy_ #[32, 32] ty #[.slice (some ⟨w.heap.size, i * 6, none⟩) (c + 1 - i) dc, .slice (some ⟨vb, 0, none⟩) 1 1]).run Try.prog W = .ok (goInt 1) (W.setRow w.heap.size row1) := fun W hW ty dc => by
    rw [hrow1]
    exact run_copy_rowN W _ _ ty 46 w.heap.size (i * 6) (c + 1 - i) dc ⟨vb, 0, none⟩ 1 1 1 ROW 46 (encM x) Try.underlying32 hszO ((hW _).trans hN1) (by simp only [Nat.min_def]; split <;> omega) rfl (fun j v hv => (World.cell?_of_block (w := w) (a := (⟨vb, 0, none⟩ : Addr).add j) (by rw [add_eq]; exact (hW _).trans (hold1 _ hvl))).trans (hxc j v hv)) (by rw [hRs]; show i * 6 + 6 ≤ _; omega) (codecM.one x)
  have hcpB : ∀ (W : World), W.heap[w.heap.size]? = some (.cells row1 46 (0, 0)) → W.heap[g]? = w.heap[g]? → ∀ ty dc sc, (Builtin.copy_ #[32, 32] ty #[.slice (some ⟨w.heap.size, (i + 1) * 6, none⟩) (c - i) dc, .slice (some ⟨g, i * 6, none⟩) (c - i) sc]).run Try.prog W = .ok (goInt ((c - i : Nat) : Int)) (W.setRow w.heap.size row2) := fun W hW hV ty dc sc => by
    rw [hrow2]
    exact run_copy_rowN W _ _ ty 46 w.heap.size ((i + 1) * 6) (c - i) dc ⟨g, i * 6, none⟩ (c - i) sc (c - i) row1 46 _ Try.underlying32 hszO hW (by simp only [Nat.min_def]; split <;> omega) hd (fun j v hv => (World.cell?_of_block (w := w) (a := (⟨g, i * 6, none⟩ : Addr).add j) (by rw [add_eq]; exact hV)).trans (hcells j v hv)) (by rw [hr1s, hd]; omega) (cellsOf_one codecM _)
  have hfin : row2.toList.take ((c + 1) * 6) = cellsOf encM (xs.take i ++ x :: xs.drop i) := by
    rw [hrow2, hrow1]
    exact row_insert2 (cap := G) codecM hn hRt (by omega) (by omega)
  have HFIN : Hid (∀ W : World, W.heap[w.heap.size]? = some (.cells row2 46 (0, 0)) → Own W base 46 encM 6 (.slice (some ⟨w.heap.size, 0, none⟩) (c + 1) G) (xs.take i ++ x :: xs.drop i)) := fun W hW =>
    Own.ofRow codecM hW hfin (by simp; omega) hb hGn hG63 hr2s
  have HG1 : Hid (w.grownBy W1 none) := by rw [hW1]; exact ⟨rfl, rfl, rfl, by simp, fun k hk _ => Below.heap_alloc w.drew _ k hk⟩
  have HN1 := Lib.hid hN1
  have HO1 := Lib.hid hold1
  have HB := Lib.hid hb
  have HGL := Lib.hid hgl
  have hG63' : G ≤ 9223372036854775807 := by unfold maxLen at hG63; omega
  have hw1 : IntKind.i64.wrap ((i : Int) + 1) = (i : Int) + 1 := by rw [IntKind.wrap_i64]; omega
  have hb1 : (0 : Int) ≤ (i : Int) + 1 := by omega
  have hin : i ≤ c := by omega
  have htn : ((i : Int) + 1).toNat = i + 1 := by omega
  have htn2 : ((c : Int) + 1).toNat = c + 1 := by omega
  have hz3 : ¬ ((i : Int) = (c : Int)) := by omega
  have hb2 : ¬ (G = i + 1) := by omega
  have hb3 : (i : Int) ≤ (c : Int) + 1 := by omega
  have hb4 : ¬ (c = i) := by omega
  have hb5 : ¬ (G = i) := by omega
  have hc63 : (c : Int) ≤ 9223372036854775806 := by omega
  have hq : decide ((c : Int) < (c : Int) + 1) = true := by simp; omega
  have hz1 : W1.heap.size = w.heap.size + 1 := by rw [hW1]; simp
  have hBW : Below w.heap.size w W1 := by rw [hW1]; exact (Below.refl w.heap.size w).drew.alloc (Nat.le_refl _) _
  have hcA := hcpA W1 (fun _ => rfl)
  have hN2 : (W1.setRow w.heap.size row1).heap[w.heap.size]? = some (.cells row1 46 (0, 0)) := setRow_at _ _ ROW row1 _ (0, 0) hN1
  have hK2 : (W1.setRow w.heap.size row1).heap[g]? = w.heap[g]? := ((setRow_grown _ _ row1).block g (by omega) (by simp; omega)).trans (hold1 g hgl)
  obtain ⟨W2, hW2⟩ : ∃ W2, W1.setRow w.heap.size row1 = W2 := ⟨_, rfl⟩
  have hBW2 : Below w.heap.size w W2 := by rw [← hW2]; exact hBW.grown (setRow_grown _ _ row1) (by omega) (fun a e => by cases e; exact Nat.le_refl _)
  have hz2 : W2.heap.size = w.heap.size + 1 := by rw [← hW2]; simp [hz1]
  rw [hW2] at hN2 hK2
  have HF2 : Hid ((W2.drew.setRow w.heap.size row2).heap[w.heap.size]? = some (.cells row2 46 (0, 0))) := setRow_at W2.drew _ row1 row2 _ (0, 0) hN2
  have HB2 : Hid (Below w.heap.size w (W2.drew.setRow w.heap.size row2)) := hBW2.drew.grown (setRow_grown _ _ row2) (by show w.heap.size ≤ W2.heap.size; omega) (fun a e => by cases e; exact Nat.le_refl _)
  have hcB := hcpB W2.drew hN2 hK2
  clear hN2 hK2 hW1 hz1 hz2 hBW hBW2
  clear hh hx hcm hcn htk hi0 hz0 hzs hzb hszO hcell hold hkk hik hZs hZ hRs hRl hRt hd hxc hcells hr1s hr2s hfin hcs ht hn hG hROW hrow1 hrow2 hN1 hold1 hcpA hcpB hroom hnc hb hgl hvl hsz
  go_enter Try.func67, Try.ntmps67
  go_wp2_with (first
    | (at_builtin; refine Lib.wpList_append_run _ rfl _ _ _ _ rfl _ _ rfl rfl _ _ (hrz _) ?_)
    | (at_builtin; refine wpList_copy_runI _ rfl _ _ 32 32 rfl _ _ rfl rfl (hcA _ _) ?_; rw [hW2]))
  clear hW2
  go_region_law (refine step_copy_runI rfl _ _ 32 32 rfl _ _ (by simp [Act.eval, Act.put]) (by simp [Act.eval, Act.put]) (hcB _ _ _) ?_)
  go_wp2_with fail
  go_ret
  exact ⟨_, _, rfl, HFIN.out _ HF2.out, ⟨HB2.out.os, HB2.out.tape, HB2.out.output, HB2.out.size, fun k hk _ => HB2.out.block k hk⟩⟩

set_option maxRecDepth 100000 in
theorem insertO_any (w : World) (base : Nat) (p : Option Addr) (n c vb i : Nat) (xs : List RM) (x : RM) (ho : Own w base 46 encM 6 (.slice p n c) xs) (hb : base ≤ w.heap.size) (hi : i ≤ n) (hx : ObAt w vb x) (hne : p ≠ some ⟨vb, 0, none⟩) (hsz : (n + 1) * 96 ≤ 140737488355328) :
    Calls Try.prog 67 #[.slice p n c, .int .i64 i, .slice (some ⟨vb, 0, none⟩) 1 1] w (InsRet w base (Value.slice p n c).ownBlock (n + 1) (xs.take i ++ x :: xs.drop i)) := by
  have hn := rd_nlen (ho.rd codecM)
  by_cases h : i = n
  · subst h
    have e : xs.take i ++ x :: xs.drop i = xs ++ [x] := by rw [List.take_of_length_le (by omega), List.drop_of_length_le (by omega)]
    rw [e]
    exact insert_end w base p i c vb xs x ho hb hx hsz
  · obtain ⟨g, cur, rfl, hg, hh, hnx, hnc, hcm, hcs, ht⟩ := ho.row (.inl (by
      obtain ⟨_, _, e, h1, _⟩ := ho.rd codecM
      simp only [Value.slice.injEq] at e
      omega))
    by_cases hr : n + 1 ≤ c
    · exact insert_shift w base g n c vb i cur xs x hh hg hn hcm hcs ht (by omega) hr hx (fun e => hne (by rw [e]))
    · exact insert_grow w base g n c vb i cur xs x hh hb hn hnc hcm hcs ht (by omega) (by omega) hx hsz
end Go.Proofs.Ythgkgjcnmahacaa
end
