import Derived.Test.YthgkgjcnmahacaaSk11
import Derived.ArgAppend
import Derived.Test.YthgkgjcnmahacaaSk14
import Derived.Test.YthgkgjcnmahacaaSk10
import Derived.Test.YthgkgjcnmahacaaSk04
import Derived.WalkLawsBesides
import Derived.BigQuiet
import Derived.Test.YthgkgjcnmahacaaSk09
section
/- slices.Delete of one object out of a slice of the call's own, walked. -/
set_option linter.unusedSimpArgs false
set_option linter.unusedVariables false
namespace Go.Proofs.Ythgkgjcnmahacaa
open Go.RowKit Go.OpenShut

theorem setCells_row (g : Nat) (e : TypeId) : ∀ (vs : List Value) (o : Nat) (w : World) (cur : Array Value), w.heap[g]? = some (.cells cur e (0, 0)) → o + vs.length ≤ cur.size →
    (w.setCells g o vs).heap[g]? = some (.cells (cur.toList.take o ++ vs ++ cur.toList.drop (o + vs.length)).toArray e (0, 0)) ∧ w.grownBy (w.setCells g o vs) (some g)
  | [], o, w, cur, h, hl => ⟨by simpa [World.setCells] using h, World.grownBy.refl w _⟩
  | v :: r, o, w, cur, h, hl => by
    have hl' : o + 1 + r.length ≤ cur.size := by simp at hl; omega
    obtain ⟨h1, h2⟩ := setCells_row g e r (o + 1) (w.setCell ⟨g, o, none⟩ v) (cur.setIfInBounds o v) (heap_setCell_same w g o cur e v h) (by simpa using hl')
    refine ⟨?_, (grownBy_set w g o v).trans h2⟩
    show ((w.setCell ⟨g, o, none⟩ v).setCells g (o + 1) r).heap[g]? = _
    rw [h1]
    congr 3
    rw [Array.toList_setIfInBounds, List.take_add_one, List.take_set_of_le (Nat.le_refl _), List.getElem?_set_self (by simp; omega), List.drop_set_of_lt (by omega)]
    simp [Nat.add_assoc, Nat.add_comm 1]

theorem step_append_runO {P : Program} {ops : Array Oper} {o : Oper} {a : Act} {w : World} {K : Act → World → Prop} {Q : Exit → Act → World → Prop} {E : Prop}
    (hg : o.guard = none) (d x : Operand) (dT sT : TypeId) (hop : o.op = Op.call { callee := Callee.builtin Builtin.append, args := #[d, x], argTypes := #[dT, sT] })
    (v u : Value) (hd : a.eval d = v) (hx : a.eval x = u) {v' : Value} {w' : World} (hr : (Builtin.append_ #[dT, sT] o.type #[v, u]).run P w = .ok v' w') (hK : K (a.put o.dst v') w') :
    if Region.wanted o (yielded ops a.tmps) = true then Oper.wp P o a w K Q else E := by
  have hw : Region.wanted o (yielded ops a.tmps) = true := by simp [Region.wanted, hg]
  rw [if_pos hw]
  unfold Oper.wp
  simp [execOp, hop, resolve, invoke, builtin, hd, hx, hr, Result.andThen]
  exact hK

theorem row_delete {α : Type} {enc : α → List Value} {sz : Nat} (C : Codec enc sz) {cur : List Value} {xs : List α} {n i : Nat} (hn : n = xs.length) (ht : cur.take (n * sz) = cellsOf enc xs) (hi : i < n) (hl : n * sz ≤ cur.length) :
    (cur.take (i * sz) ++ cellsOf enc (xs.drop (i + 1)) ++ cur.drop (i * sz + (cellsOf enc (xs.drop (i + 1))).length)).take (n * sz) = cellsOf enc (xs.take i ++ xs.drop (i + 1) ++ xs.drop (n - 1)) := by
  have h1 : cur.take (i * sz) = cellsOf enc (xs.take i) := by
    rw [← cells_take C, ← ht, List.take_take, Nat.min_eq_left (Nat.mul_le_mul_right _ (by omega))]
  have hd : (cellsOf enc (xs.drop (i + 1))).length = (n - (i + 1)) * sz := by rw [cellsOf_len C, List.length_drop, hn]
  have hk : i * sz + (n - (i + 1)) * sz = (n - 1) * sz := by rw [← Nat.add_mul]; congr 1; omega
  have hns : n * sz = (n - 1) * sz + sz := by
    have : n = n - 1 + 1 := by omega
    rw [this, Nat.add_mul, Nat.one_mul, Nat.add_sub_cancel]
  have h2 : (cur.drop ((n - 1) * sz)).take sz = cellsOf enc (xs.drop (n - 1)) := by
    have e : cellsOf enc xs = cellsOf enc (xs.take (n - 1)) ++ cellsOf enc (xs.drop (n - 1)) := by rw [← cellsOf_append, List.take_append_drop]
    have hl1 : (cellsOf enc (xs.take (n - 1))).length = (n - 1) * sz := by rw [cellsOf_len C, List.length_take]; congr 1; omega
    have e2 : (cellsOf enc xs).drop ((n - 1) * sz) = cellsOf enc (xs.drop (n - 1)) := by rw [e, ← hl1, List.drop_left]
    rw [← e2, ← ht, List.drop_take]
    congr 1
    omega
  rw [hd, hk, cellsOf_append, cellsOf_append, h1, ← h2]
  have hl3 : (cellsOf enc (xs.take i) ++ cellsOf enc (xs.drop (i + 1))).length = (n - 1) * sz := by
    rw [List.length_append, hd, cellsOf_len C, List.length_take, ← Nat.add_mul]
    congr 1; omega
  rw [hns, ← hl3, List.take_length_add_append]

def DelRet (w : World) (base : Nat) (p : Option Addr) (n c : Nat) (ys : List RM) (e : Ending) (w' : World) : Prop :=
  e = .returned (.slice p n c) ∧ Own w' base 46 encM 6 (.slice p n c) ys ∧ w.grownBy w' (Value.slice p n c).ownBlock

theorem oneO : ∀ i z, Try.prog.info? 46 = some i → i.zero = some z → ∀ u ∈ z.cells.toList, u.oneCell' = true := by
  intro i z hi hz
  have h : (Try.prog.info? 46).map (fun i => (i.zero, i.size, i.bytes)) = some (some (.agg #[.string ByteArray.empty, .int .i64 0, .int .i64 0, .string ByteArray.empty, .slice none 0 0, .slice none 0 0]), 6, 96) := by kernel_rfl
  rw [hi] at h
  simp only [Option.map_some, Option.some.injEq, Prod.mk.injEq] at h
  rw [hz] at h
  simp only [Option.some.injEq] at h
  rw [h.1]
  intro u hu
  simp [Value.cells] at hu
  rcases hu with rfl | rfl | rfl | rfl | rfl | rfl <;> rfl

set_option maxRecDepth 100000 in
set_option maxHeartbeats 2000000 in
theorem deleteO_any (w : World) (base : Nat) (p : Option Addr) (n c i : Nat) (xs : List RM) (ho : Own w base 46 encM 6 (.slice p n c) xs) (hb : base ≤ w.heap.size) (hi : i < n) (hlen : n ≤ 1466015503658) :
    Calls Try.prog 68 #[.slice p n c, .int .i64 i, .int .i64 ((i : Int) + 1)] w (DelRet w base p (n - 1) c (xs.take i ++ xs.drop (i + 1))) := by
  obtain ⟨g, cur, rfl, hg, hh, hnx, hnc, hcm, hcs, ht⟩ := ho.row (.inl (by
    obtain ⟨_, _, e, h1, _⟩ := ho.rd codecM
    simp only [Value.slice.injEq] at e
    omega))
  have hcn : cur.toList.length = c * 6 := by simpa using hcs
  have hi0 : (Try.prog.info? 46).map (fun i => (i.zero, i.size, i.bytes)) = some (some (.agg #[.string ByteArray.empty, .int .i64 0, .int .i64 0, .string ByteArray.empty, .slice none 0 0, .slice none 0 0]), 6, 96) := by kernel_rfl
  obtain ⟨i0, hi0, hz0, hzs, hzb⟩ := info_parts hi0
  have hcell : ∀ j, w.cell? ⟨g, j, none⟩ = cur.toList[j]? := fun j => by rw [cell_of_row w g j _ _ _ hh, Array.getElem?_toList]
  have hd : (cellsOf encM (xs.drop (i + 1))).length = (n - (i + 1)) * 6 := by rw [cellsOf_len codecM, List.length_drop, hnx]
  have hcells : ∀ j v, (cellsOf encM (xs.drop (i + 1)))[j]? = some v → w.cell? ⟨g, (i + 1) * 6 + j, none⟩ = some v := fun j v hv => by
    rw [hcell]
    have h1 : (cellsOf encM xs)[(i + 1) * 6 + j]? = some v := by
      have e : cellsOf encM xs = cellsOf encM (xs.take (i + 1)) ++ cellsOf encM (xs.drop (i + 1)) := by rw [← cellsOf_append, List.take_append_drop]
      have hl : (cellsOf encM (xs.take (i + 1))).length = (i + 1) * 6 := by rw [cellsOf_len codecM, List.length_take]; omega
      rw [e, List.getElem?_append_right (by omega), hl]
      simpa using hv
    rw [← ht, List.getElem?_take] at h1
    split at h1
    · exact h1
    · cases h1
  obtain ⟨row1, hrow1⟩ : ∃ r : Array Value, r = (cur.toList.take (i * 6) ++ cellsOf encM (xs.drop (i + 1)) ++ cur.toList.drop (i * 6 + (cellsOf encM (xs.drop (i + 1))).length)).toArray := ⟨_, rfl⟩
  have hr1s : row1.size = c * 6 := by
    rw [hrow1]
    simp only [List.size_toArray, List.length_append, List.length_take, List.length_drop, hd, hcn]
    omega
  have hfin : row1.toList.take (n * 6) = cellsOf encM (xs.take i ++ xs.drop (i + 1) ++ xs.drop (n - 1)) := by
    rw [hrow1]
    exact row_delete codecM hnx ht hi (by omega)
  obtain ⟨W1, hW1⟩ : ∃ W1, w.drew.setCells g (i * 6) (cellsOf encM (xs.drop (i + 1))) = W1 := ⟨_, rfl⟩
  have hrow := setCells_row g 46 (cellsOf encM (xs.drop (i + 1))) (i * 6) w.drew cur hh (by rw [hd]; omega)
  rw [hW1, ← hrow1] at hrow
  have hap : ∀ ty a sc, a = ⟨g, (i + 1) * 6, none⟩ ∨ i + 1 = n → (Builtin.append_ #[32, 32] ty #[.slice (some ⟨g, 0, none⟩) i c, .slice (some a) (n - (i + 1)) sc]).run Try.prog w.drew = .ok (.slice (some ⟨g, 0, none⟩) (n - 1) c) W1 := fun ty a sc ha => by
    have h := run_append_room_cells (P := Try.prog) (w := w.drew) 32 ty 46 i0 Try.underlying32 hi0 g 0 i c a (n - (i + 1)) sc (cellsOf encM (xs.drop (i + 1))) (by rw [hd, hzs]) (fun j u hu => by
        rcases ha with rfl | ha
        · rw [add_eq]
          exact hcells j u hu
        · have := (List.getElem?_eq_some_iff.1 hu).1
          omega) (cellsOf_one codecM _) (by omega)
      (fun j hj => by
        rw [hzs, Nat.zero_add]
        show (w.cell? _).isSome = true
        rw [hcell, List.getElem?_eq_getElem (by omega)]; rfl)
      (fun j hj => by show w.frozen? _ = false; simp [World.frozen?, hh])
    rw [hzs, Nat.zero_add, hW1, show i + (n - (i + 1)) = n - 1 by omega] at h
    exact h
  have hown1 : Own W1 base 46 encM 6 (.slice (some ⟨g, 0, none⟩) n c) (xs.take i ++ xs.drop (i + 1) ++ xs.drop (n - 1)) :=
    Own.ofRow codecM hrow.1 hfin (by simp; omega) hg hnc hcm hr1s
  have hbw1 : w.grownBy W1 (some g) := gb_drew hrow.2
  obtain ⟨w2, hrun, ho2, hg2⟩ := run_clear_own (P := Try.prog) slO oneO codecM W1 0 hown1 (m := n - 1) (by omega) (v := .slice (some ⟨g, (n - 1) * 6, none⟩) (n - (n - 1)) (c - (n - 1))) (by unfold sliced; rw [if_neg (by omega)]; simp [add_eq])
  have hys : (xs.take i ++ xs.drop (i + 1) ++ xs.drop (n - 1)).take (n - 1) = xs.take i ++ xs.drop (i + 1) := by
    have hl : (xs.take i ++ xs.drop (i + 1)).length = n - 1 := by simp; omega
    rw [← hl, List.take_left]
  rw [hys] at ho2
  have HO2 := Lib.hid ho2
  have HB2 : Hid (w.grownBy w2 (some g)) := hbw1.trans hg2
  have hcm2 : c ≤ 9223372036854775807 := by unfold maxLen at hcm; omega
  have hne : ((i : Int) == (i : Int) + 1) = false := by rw [beq_eq_false_iff_ne]; omega
  have hne2 : ¬ ((i : Int) = (i : Int) + 1) := by omega
  have hsh : ∀ W, (Instr.sliceAt 32 (.slice (some ⟨g, 0, none⟩) n c) none (some (.int .i64 i)) none).run Try.prog W = .ok (.slice (some ⟨g, 0, none⟩) i c) W := fun W => run_slice_high (P := Try.prog) slO _ n c i (by omega) W
  obtain ⟨A, hA, hsl⟩ : ∃ A : Addr, (A = ⟨g, (i + 1) * 6, none⟩ ∨ i + 1 = n) ∧ ∀ W, (Instr.sliceAt 32 (.slice (some ⟨g, 0, none⟩) n c) (some (.int .i64 ((i : Int) + 1))) none none).run Try.prog W = .ok (.slice (some A) (n - (i + 1)) (c - (i + 1))) W := by
    have h := fun W => run_slice_low (P := Try.prog) slO (some ⟨g, 0, none⟩) n c (i + 1) (by omega) W
    rw [show ((i + 1 : Nat) : Int) = (i : Int) + 1 by omega] at h
    by_cases e : c = i + 1
    · exact ⟨⟨g, 0, none⟩, .inr (by omega), fun W => by rw [h W]; unfold sliced; rw [if_pos e]⟩
    · exact ⟨⟨g, (i + 1) * 6, none⟩, .inl rfl, fun W => by rw [h W]; unfold sliced; rw [if_neg e]; simp [add_eq]⟩
  have hapA := fun ty => hap ty A (c - (i + 1)) hA
  clear hap hA
  clear ho hh hcn hcs ht hnx hi0 hz0 hzs hzb hcell hd hcells hrow1 hr1s hfin hW1 hrow hown1 hbw1 ho2 hg2 hys hcm
  have htn : ((i : Int) + 1).toNat = i + 1 := by omega
  have hnn : ((n - 1 : Nat) : Int) = (n : Int) - 1 := by omega
  have hb1 : (0 : Int) ≤ (i : Int) + 1 := by omega
  go_enter Try.func68, Try.ntmps68
  go_wp2_with fail
  go_region_law (refine step_append_runO rfl _ _ 32 32 rfl _ _ (by simp [Act.eval, Act.put]) (by simp [Act.eval, Act.put]) (hapA _) ?_)
  clear hapA hsl hsh
  have hsl2 : ∀ W, (Instr.sliceAt 32 (.slice (some ⟨g, 0, none⟩) (n - 1) c) (some (.int .i64 ((n - 1 : Nat) : Int))) (some (.int .i64 n)) none).run Try.prog W = .ok (.slice (some ⟨g, (n - 1) * 6, none⟩) (n - (n - 1)) (c - (n - 1))) W := fun W => by
    obtain ⟨ht, i1, z, hi1, hz, hs1, hs2, hzs⟩ := slO
    have he : Try.prog.elem 32 = 46 := by simp [Program.elem, ht]
    have ht' : Try.prog.underlying 32 = some (.slice (Try.prog.elem 32)) := by rw [he]; exact ht
    rw [run_sliceAt_slice _ _ _ _ _ _ ht', run_slice_lh W 32 _ (n - 1) c ht' .i64 .i64 ((n - 1 : Nat) : Int) (n : Int) (by omega) (by omega) (by omega), he]
    have hcn : ¬ (c = n - 1) := by omega
    simp [sizeOf, typeInfo, hi1, hs1, Result.andThen, sliced, add_eq, hcn]
  go_wp2_with fail
  go_ret
  exact ⟨rfl, HO2.out, HB2.out⟩
end Go.Proofs.Ythgkgjcnmahacaa
end

section
/- store.Drop, walked. -/
set_option linter.unusedSimpArgs false
set_option linter.unusedVariables false
namespace Go.Proofs.Ythgkgjcnmahacaa
open Go.RowKit Go.OpenShut

/-- What Drop answers: the box, and why not. -/
def dropB (b : BoxD) (id : ByteArray) : BoxD × Int :=
  if isAt b.objs id = false then (BoxD.zero, 81) else if 9007199254740991 ≤ b.seq then (BoxD.zero, 180) else (chgB b (b.objs.take (lowN b.objs id) ++ b.objs.drop (lowN b.objs id + 1)) id 3, 0)

/-- A box and what is answered, in blocks of their own. -/
structure TwoB (w W : World) (r : RB) : Prop where
  box : BoxAt W w.heap.size r
  zero : BoxAt W (w.heap.size + 1) RB.zero
  below : Below w.heap.size w W
section
variable {w W W' : World} {r : RB} (h : TwoB w W r)
include h
theorem TwoB.size : w.heap.size + 1 < W.heap.size := h.zero.lt
theorem TwoB.go (hb : Below W.heap.size W W') : TwoB w W' r := ⟨h.box.under hb h.box.lt, h.zero.under hb h.size, h.below.trans (hb.mono h.below.size)⟩
theorem TwoB.setBox (q : RB) (hq : BoxAt W' w.heap.size q) (hg : W.grownBy W' (some w.heap.size)) : TwoB w W' q := ⟨hq, h.zero.kept hg (by omega), h.below.grown hg h.below.size (fun a e => by cases e; exact Nat.le_refl _)⟩
theorem TwoB.row {row : Option Nat} (hg : W.grownBy W' row) (hr : ∀ k, row = some k → w.heap.size + 1 < k) : TwoB w W' r := by
  have hz := h.size
  have hb : ∀ k, k ≤ w.heap.size + 1 → W'.heap[k]? = W.heap[k]? := fun k hk => hg.block k (by omega) (fun e => by have := hr k e.symm; omega)
  exact ⟨(hb _ (by omega)).trans h.box, (hb _ (by omega)).trans h.zero, h.below.grown hg h.below.size (fun a e => by have := hr a e; omega)⟩
end
theorem TwoB.start (w : World) (r : RB) : TwoB w ((w.alloc (.cells #[.slice r.po r.no r.co, .slice r.pt r.nt r.ct, .int .i64 r.sq, .int .i64 r.fl, .int .i64 r.kp] 35)).alloc (.cells #[.slice none 0 0, .slice none 0 0, .int .i64 0, .int .i64 0, .int .i64 0] 35)) r := ⟨heap_alloc_lt (by simp) (heap_alloc_at rfl), heap_alloc_at (by simp), below2 _ _ _⟩

set_option maxRecDepth 200000 in
set_option maxHeartbeats 8000000 in
theorem drop_any (b : BoxD) (r : RB) (id : ByteArray) (w : World) (hb : BoxOf w w.heap.size b r) (hr : Rising b.objs) (ob : b.Ok) (hid : id.size ≤ 140737488351232) :
    Calls Try.prog 23 #[r.val, .string id] w (BoxErr w (dropB b id)) := by
  have hS := TwoB.start w r
  have HBX := Lib.hid hb
  have HR := Lib.hid hr
  have HOB := Lib.hid ob
  have HID := Lib.hid hid
  have HSQ : Hid (b.seq = r.sq ∧ b.objs.length = r.no) := ⟨hb.seq, hb.objs.nlen⟩
  clear hb hr ob hid
  go_enter Try.func23, Try.ntmps23
  go_upto_region 1 with fail
  obtain ⟨W0, hW0⟩ : ∃ W0, ((w.alloc (.cells #[.slice r.po r.no r.co, .slice r.pt r.nt r.ct, .int .i64 r.sq, .int .i64 r.fl, .int .i64 r.kp] 35)).alloc (.cells #[.slice none 0 0, .slice none 0 0, .int .i64 0, .int .i64 0, .int .i64 0] 35)) = W0 := ⟨_, rfl⟩
  rw [hW0] at hS ⊢
  clear hW0
  have HS := Lib.hid hS
  have hz0 := hS.size
  have c0 := hS.box.cell 0 rfl
  have c1 := hS.box.cell 1 rfl
  have c2 := hS.box.cell 2 rfl
  have c3 := hS.box.cell 3 rfl
  have c4 := hS.box.cell 4 rfl
  have HPL := Lib.hid (placeO_any b r id W0 (HBX.out.under hS.below hS.below.size) HR.out HOB.out)
  clear hS
  go_upto_region 2 with (go_at_call 59; refine HPL.out.mono ?_; rintro e w1 ⟨rfl, hb1⟩)
  have HS1 := Lib.hid (HS.out.go hb1)
  clear HPL HS hb1 c0 c1 c2 c3 c4 hz0
  have hz1 := HS1.out.size
  have c0 := HS1.out.box.cell 0 rfl
  have c1 := HS1.out.box.cell 1 rfl
  have c2 := HS1.out.box.cell 2 rfl
  have c3 := HS1.out.box.cell 3 rfl
  have c4 := HS1.out.box.cell 4 rfl
  have z0 := HS1.out.zero.cell 0 rfl
  have z1 := HS1.out.zero.cell 1 rfl
  have z2 := HS1.out.zero.cell 2 rfl
  have z3 := HS1.out.zero.cell 3 rfl
  have z4 := HS1.out.zero.cell 4 rfl
  have y0 := HS1.out.zero.frozen 0
  have y1 := HS1.out.zero.frozen 1
  have y2 := HS1.out.zero.frozen 2
  have y3 := HS1.out.zero.frozen 3
  have y4 := HS1.out.zero.frozen 4
  dsimp only [RB.zero] at z0 z1 z2 z3 z4
  cases hat : isAt b.objs id with
  | false =>
    have HX : Hid (dropB b id = (BoxD.zero, 81)) := by unfold Hid dropB; rw [if_pos hat]
    clear hat
    go_wp2_with fail
    refine bodyPost_ret (v := .tuple #[RB.val RB.zero, .int .i64 81]) (by simp [results, Try.results23, go_sem, RB.zero, z0, z1, z2, z3, z4]) rfl ?_
    exact ⟨RB.zero, by rw [HX.out], by rw [HX.out]; exact NewBox.zero _ _ _, HS1.out.below.grown (grownBy_setB _ _ RB.zero) HS1.out.below.size (fun a e => by cases e; omega)⟩
  | true =>
    obtain ⟨p, hp, hpi, hpo⟩ := isAt_some hat
    have hi := (List.getElem?_eq_some_iff.1 hp).1
    have HAT := Lib.hid hat
    have HILT : Hid (lowN b.objs id < b.objs.length) := hi
    have HP := Lib.hid hp
    clear hat hp hpi hpo hi
    by_cases hfull : 9007199254740991 ≤ b.seq
    · have HX : Hid (dropB b id = (BoxD.zero, 180)) := by unfold Hid dropB; rw [if_neg (by rw [HAT.out]; decide), if_pos hfull]
      have hq : decide ((9007199254740991 : Int) ≤ r.sq) = true := by have := HSQ.out.1; simp; omega
      clear hfull
      go_wp2_with fail
      refine bodyPost_ret (v := .tuple #[RB.val RB.zero, .int .i64 180]) (by simp [results, Try.results23, go_sem, RB.zero, z0, z1, z2, z3, z4]) rfl ?_
      exact ⟨RB.zero, by rw [HX.out], by rw [HX.out]; exact NewBox.zero _ _ _, HS1.out.below.grown (grownBy_setB _ _ RB.zero) HS1.out.below.size (fun a e => by cases e; omega)⟩
    · have HX : Hid (dropB b id = (chgB b (b.objs.take (lowN b.objs id) ++ b.objs.drop (lowN b.objs id + 1)) id 3, 0)) := by unfold Hid dropB; rw [if_neg (by rw [HAT.out]; decide), if_neg hfull]
      have hq : decide ((9007199254740991 : Int) ≤ r.sq) = false := by have := HSQ.out.1; simp; omega
      have HFU := Lib.hid hfull
      clear hfull
      clear z0 z1 z2 z3 z4 y0 y1 y2 y3 y4
      go_upto_region 7 with (go_at_call 63; refine (own_any b r _ w.heap.size HS1.out.below.size (HBX.out.under HS1.out.below (Nat.le_refl _)) HOB.out).mono ?_; rintro e w4 ⟨q1, rfl, hN1, hb4⟩; (have HS4 := Lib.hid (HS1.out.go hb4)); clear c0 c1 c2 c3 c4; (have c0 := HS4.out.box.cell 0 rfl); (have c1 := HS4.out.box.cell 1 rfl); (have c2 := HS4.out.box.cell 2 rfl); (have c3 := HS4.out.box.cell 3 rfl); (have c4 := HS4.out.box.cell 4 rfl); (have x0 := HS4.out.box.frozen 0); (have x1 := HS4.out.box.frozen 1); (have x2 := HS4.out.box.frozen 2); (have x3 := HS4.out.box.frozen 3); (have x4 := HS4.out.box.frozen 4))
      have hg5 := grownBy_setB w4 w.heap.size q1
      have HS5 := Lib.hid (HS4.out.setBox q1 (HS4.out.box.stored q1) hg5)
      have hne5 := hN1.ne (g := w.heap.size) (by omega)
      have hN5 := hN1.kept hg5 hne5.1 hne5.2 HS4.out.below.size (Nat.le_refl _)
      obtain ⟨W5, hW5⟩ : ∃ W5, (((((w4.setCell ⟨w.heap.size, 0, none⟩ (.slice q1.po q1.no q1.co)).setCell ⟨w.heap.size, 1, none⟩ (.slice q1.pt q1.nt q1.ct)).setCell ⟨w.heap.size, 2, none⟩ (.int .i64 q1.sq)).setCell ⟨w.heap.size, 3, none⟩ (.int .i64 q1.fl)).setCell ⟨w.heap.size, 4, none⟩ (.int .i64 q1.kp)) = W5 := ⟨_, rfl⟩
      have hz5 : w4.heap.size = W5.heap.size := by rw [← hW5]; simp
      rw [hW5] at HS5 hN5 ⊢
      have hzb := hb4.size
      clear hW5 hg5 hne5 hN1 hb4 HS4 c0 c1 c2 c3 c4 x0 x1 x2 x3 x4
      obtain ⟨bs, hbs⟩ : ∃ n, w1.heap.size = n := ⟨_, rfl⟩
      rw [hbs] at hN5 hz1 hzb
      obtain ⟨ros, hro, hms⟩ := hN5.objs
      have hn1 := hms.len
      have hn2 := rd_nlen (hro.rd codecM)
      have hlenz := HOB.out.objs
      have c0 := HS5.out.box.cell 0 rfl
      have c1 := HS5.out.box.cell 1 rfl
      have c2 := HS5.out.box.cell 2 rfl
      have c3 := HS5.out.box.cell 3 rfl
      have c4 := HS5.out.box.cell 4 rfl
      have x0 := HS5.out.box.frozen 0
      have hDel := deleteO_any W5 bs q1.po q1.no q1.co (lowN b.objs id) ros hro (by omega) (by have := HILT.out; omega) (by omega)
      have hrowb : (Value.slice q1.po (q1.no - 1) q1.co).ownBlock = (Value.slice q1.po q1.no q1.co).ownBlock := by cases q1.po <;> rfl
      unfold DelRet at hDel
      rw [hrowb] at hDel
      have HDel := Lib.hid hDel
      clear hrowb
      have HN5 := Lib.hid hN5
      have HMS := Lib.hid hms
      have HRO := Lib.hid hro
      have HZB : Hid (bs ≤ W5.heap.size) := by unfold Hid; omega
      have hnn : (lowN b.objs id : Int) ≤ 1466015503658 := by have := HILT.out; omega
      have hnn0 : (0 : Int) ≤ (lowN b.objs id : Int) := Int.natCast_nonneg _
      clear hDel hN5 hms hro hn1 hn2 hlenz hzb hz5 hbs
      go_upto_region 8 with (go_at_call 68; refine HDel.out.mono ?_; rintro e w6 ⟨rfl, ho6, hg6⟩; (have HS6' := Lib.hid (HS5.out.row hg6 (fun k e => by have := (HRO.out.lt k e).1; omega))); clear c0 c1 c2 c3 c4 x0; (have c0 := HS6'.out.box.cell 0 rfl); (have c1 := HS6'.out.box.cell 1 rfl); (have c2 := HS6'.out.box.cell 2 rfl); (have c3 := HS6'.out.box.cell 3 rfl); (have c4 := HS6'.out.box.cell 4 rfl); (have x0 := HS6'.out.box.frozen 0); (have x1 := HS6'.out.box.frozen 1); (have x2 := HS6'.out.box.frozen 2); (have x3 := HS6'.out.box.frozen 3); (have x4 := HS6'.out.box.frozen 4))
      have hg7 := grownBy_set w6 w.heap.size 0 (.slice q1.po (q1.no - 1) q1.co)
      have hB7 := HS6'.out.box.set0 q1.po (q1.no - 1) q1.co
      have HS7 := Lib.hid (HS6'.out.setBox _ hB7 hg7)
      obtain ⟨W7, hW7⟩ : ∃ W7, w6.setCell ⟨w.heap.size, 0, none⟩ (.slice q1.po (q1.no - 1) q1.co) = W7 := ⟨_, rfl⟩
      rw [hW7] at HS7 hg7 ⊢
      have hzb7 : bs ≤ W7.heap.size := by have h1 := hg6.size; have h2 := hg7.size; have := HZB.out; omega
      have hb6 : Below w.heap.size W5 w6 := (Below.refl _ _).grown hg6 HS5.out.below.size (fun k e => by have := (HRO.out.lt k e).1; omega)
      have hN6 := HN5.out.withObjs hg6 rfl (by decide) ho6 ((HMS.out.delete (lowN b.objs id)).under hb6 (Nat.le_refl _))
      have hne6 := hN6.ne (g := w.heap.size) (by omega)
      have HN7 := Lib.hid (hN6.kept hg7 hne6.1 hne6.2 (by have := HS6'.out.below.size; omega) (Nat.le_refl _))
      clear hW7 hg7 hB7 hb6 hN6 hne6 ho6 hg6 c0 c1 c2 c3 c4 x0 x1 x2 x3 x4 HS6' HDel
      have hz7 := HS7.out.size
      have hCh := changed_any { b with objs := b.objs.take (lowN b.objs id) ++ b.objs.drop (lowN b.objs id + 1) } ⟨q1.po, q1.no - 1, q1.co, q1.pt, q1.nt, q1.ct, q1.sq, q1.fl, q1.kp⟩ W7 bs w.heap.size id 3 HS7.out.below.size hzb7 HN7.out HOB.out.seq (by have := HFU.out; show b.seq < _; omega) HOB.out.floor HOB.out.keep (by have := HID.out; unfold maxLen; omega) (by decide) (by have := HOB.out.trail; show (b.trail.length + 1) * 32 ≤ _; omega)
      have HCh := Lib.hid hCh
      clear hCh
      have c0 := HS7.out.box.cell 0 rfl
      have c1 := HS7.out.box.cell 1 rfl
      have c2 := HS7.out.box.cell 2 rfl
      have c3 := HS7.out.box.cell 3 rfl
      have c4 := HS7.out.box.cell 4 rfl
      dsimp only at c0 c1 c2 c3 c4
      go_wp2_with (go_at_call 66; refine HCh.out.mono ?_; rintro e w8 ⟨q8, rfl, hN8, hb8⟩; (have HS8 := Lib.hid (HS7.out.go hb8)); (have z0 := HS8.out.zero.cell 0 rfl); (have z1 := HS8.out.zero.cell 1 rfl); (have z2 := HS8.out.zero.cell 2 rfl); (have z3 := HS8.out.zero.cell 3 rfl); (have z4 := HS8.out.zero.cell 4 rfl); (have y0 := HS8.out.zero.frozen 0); (have y1 := HS8.out.zero.frozen 1); (have y2 := HS8.out.zero.frozen 2); (have y3 := HS8.out.zero.frozen 3); (have y4 := HS8.out.zero.frozen 4); dsimp only [RB.zero] at z0 z1 z2 z3 z4)
      have hz8 := HS8.out.size
      have hg9 := grownBy_setB w8 (w.heap.size + 1) q8
      have hne9 := hN8.ne (g := w.heap.size + 1) (by omega)
      refine bodyPost_ret (v := .tuple #[RB.val q8, .int .i64 0]) (by simp [results, Try.results23, go_sem, z0, z1, z2, z3, z4]) rfl ?_
      exact ⟨q8, by rw [HX.out], by rw [HX.out]; exact ((hN8.kept hg9 hne9.1 hne9.2 HS8.out.below.size (by omega)).mono (by omega) (Nat.le_refl _)), HS8.out.below.grown hg9 HS8.out.below.size (fun a e => by cases e; omega)⟩
end Go.Proofs.Ythgkgjcnmahacaa
end

section
/- store.Ids, walked. -/
set_option linter.unusedSimpArgs false
set_option linter.unusedVariables false
namespace Go.Proofs.Ythgkgjcnmahacaa
open Go.RowKit Go.OpenShut

def encS (s : ByteArray) : List Value := [.string s]
theorem codecS : Codec encS 1 := ⟨fun _ => rfl, fun x u hu => by
  simp only [encS, List.mem_cons, List.not_mem_nil, or_false] at hu
  subst hu; rfl, by decide⟩
theorem slS : SlT Try.prog 43 9 1 16 := SlT.mk (z := .string ByteArray.empty) Try.underlying43 (by kernel_rfl) rfl
def IdsRet (w : World) (l : List ByteArray) (e : Ending) (w' : World) : Prop := ∃ u, e = .returned u ∧ Own w' w.heap.size 9 encS 1 u l ∧ Below w.heap.size w w'

set_option maxRecDepth 100000 in
set_option maxHeartbeats 2000000 in
theorem ids_any (b : BoxD) (r : RB) (w : World) (hb : BoxOf w w.heap.size b r) (ob : b.Ok) :
    Calls Try.prog 24 #[r.val] w (IdsRet w (b.objs.map (·.1))) := by
  have ho := hb.objs
  obtain ⟨po, no, co, pt, nt, ct, sq, fl, kp⟩ := r
  dsimp only [RB.val] at *
  obtain ⟨rms, hrd, hms⟩ := ho
  have hn := rd_nlen hrd
  have hlm := hms.len
  have hzo := ob.objs
  have hA0 : BoxAt (w.alloc (.cells #[.slice po no co, .slice pt nt ct, .int .i64 sq, .int .i64 fl, .int .i64 kp] 35)) w.heap.size ⟨po, no, co, pt, nt, ct, sq, fl, kp⟩ := heap_alloc_at rfl
  have hB0 : Below w.heap.size w (w.alloc (.cells #[.slice po no co, .slice pt nt ct, .int .i64 sq, .int .i64 fl, .int .i64 kp] 35)) := (Below.refl _ _).alloc (Nat.le_refl _) _
  have HRD := Lib.hid hrd
  have HMS := Lib.hid hms
  have HN : Hid (b.objs.length = no ∧ rms.length = no) := ⟨by omega, by omega⟩
  have hno : no ≤ 1466015503658 := by omega
  clear hb hrd hms hn hlm hzo ob
  go_enter Try.func24, Try.ntmps24
  go_upto_region 1 with fail
  obtain ⟨W0, hW0⟩ : ∃ W0, (w.alloc (.cells #[.slice po no co, .slice pt nt ct, .int .i64 sq, .int .i64 fl, .int .i64 kp] 35)) = W0 := ⟨_, rfl⟩
  rw [hW0] at hA0 hB0 ⊢
  clear hW0
  have c0 := hA0.cell 0 rfl
  dsimp only at c0
  have HB := Lib.hid hB0
  have hz := hA0.lt
  clear hA0 hB0
  go_wp2_with fail
  go_loopw [3, 9] (fun o i wr => ∃ k : Nat, k ≤ no ∧ i = .int .i64 k ∧ Hid (Own wr w.heap.size 9 encS 1 o ((b.objs.take k).map (·.1))) ∧ Below w.heap.size w wr) (fun _ i _ => no - (intOf i).toNat)
  case atStart => exact ⟨0, Nat.zero_le _, rfl, Own.nil _ _ _, HB.out⟩
  case round =>
    obtain ⟨k, hk, rfl, hown, hbr⟩ := hrel
    by_cases hlt : k < no
    · obtain ⟨x, hx⟩ : ∃ x, rms[k]? = some x := ⟨_, List.getElem?_eq_getElem (by have := HN.out; omega)⟩
      obtain ⟨p, hp⟩ : ∃ x, b.objs[k]? = some x := ⟨_, List.getElem?_eq_getElem (by have := HN.out; omega)⟩
      have hpn := HMS.out.name _ p x hp hx
      obtain ⟨b1, o1, rfl, hb1, hc1⟩ := rd_at' (HRD.out.below hbr (Nat.le_refl _)) hx
      have f0 := hc1 0 _ rfl
      have f1 := hc1 1 _ rfl
      have f2 := hc1 2 _ rfl
      have f3 := hc1 3 _ rfl
      have f4 := hc1 4 _ rfl
      have f5 := hc1 5 _ rfl
      rw [Nat.add_zero] at f0
      have hk0 : (0 : Int) ≤ (k : Int) := Int.natCast_nonneg _
      have hk1 : (k : Int) < (no : Int) := by omega
      have hsn : (b.objs.take (k + 1)).map (·.1) = (b.objs.take k).map (·.1) ++ [x.name] := by rw [List.take_add_one, hp]; simp [hpn]
      have HSN := Lib.hid hsn
      have HBR := Lib.hid hbr
      have HO2 := Lib.hid ((hown.out.alloc (.cells #[.string x.name, .int .i64 x.v.k, .int .i64 x.v.n, .string x.v.s, .slice x.v.pl x.v.nl x.v.cl, .slice x.v.pm x.v.nm x.v.cm] 46)).alloc (.cells #[.string x.name] 9))
      have HB2 := Lib.hid ((hbr.alloc hbr.size (.cells #[.string x.name, .int .i64 x.v.k, .int .i64 x.v.n, .string x.v.s, .slice x.v.pl x.v.nl x.v.cl, .slice x.v.pm x.v.nm x.v.cm] 46)).alloc (by simp; have := hbr.size; omega) (.cells #[.string x.name] 9))
      have HR2 : Hid (Rd ((wr.alloc (.cells #[.string x.name, .int .i64 x.v.k, .int .i64 x.v.n, .string x.v.s, .slice x.v.pl x.v.nl x.v.cl, .slice x.v.pm x.v.nm x.v.cm] 46)).alloc (.cells #[.string x.name] 9)) (wr.heap.size + 1 + 1) encS 1 (.slice (some ⟨wr.heap.size + 1, 0, none⟩) 1 1) [x.name]) := Rd.one codecS (heap_alloc_at (by simp)) rfl (by omega)
      have hl : ((b.objs.take k).map (·.1)).length ≤ 1466015503658 := by simp; omega
      have HL := Lib.hid hl
      clear hx hp hpn hc1 hbr hsn hown hl
      go_wp2_with (at_builtin; refine wpList_append_rd slS codecS _ rfl _ _ rfl rfl rfl HO2.out HR2.out (by have := HL.out; simp only [List.length_singleton]; unfold maxLen; omega) (by have := HL.out; simp only [List.length_singleton]; omega) (by have := HBR.out.size; simp; omega) ?_; intro v1 w1 ho1 hg1 hat1)
      go_roundw
      case rel => exact ⟨k + 1, by omega, by go_num, by unfold Hid; rw [HSN.out]; exact ho1, Below.appended HB2.out hg1 HO2.out HB2.out.size⟩
      case measure => simp [intOf]; omega
    · obtain rfl : k = no := by omega
      go_wp2_with fail
      go_ret
      refine ⟨_, rfl, ?_, hbr⟩
      have h := hown.out
      rw [List.take_of_length_le (by have := HN.out; omega)] at h
      exact h
end Go.Proofs.Ythgkgjcnmahacaa
end

section
/- What a trail says of an id; slices read by their places. -/
set_option linter.unusedSimpArgs false
set_option linter.unusedVariables false
namespace Go.Proofs.Ythgkgjcnmahacaa
open Go.RowKit Go.OpenShut

/-- What is said of an id. -/
structure Pa where
  id : ByteArray
  was : Bool
  isb : Bool
  last : Int
deriving DecidableEq
def encP (p : Pa) : List Value := [.string p.id, .bool p.was, .bool p.isb, .int .i64 p.last]
theorem codecP : Codec encP 4 := ⟨fun _ => rfl, fun x u hu => by
  simp only [encP, List.mem_cons, List.not_mem_nil, or_false] at hu
  rcases hu with rfl | rfl | rfl | rfl <;> rfl, by decide⟩

def Pa.eqv (a b : Pa) : Bool := a.id.toList == b.id.toList && a.was == b.was && a.isb == b.isb && a.last == b.last
theorem Pa.eqv_eq (a b : Pa) : a.eqv b = decide (a = b) := by
  obtain ⟨i, x, y, s⟩ := a
  obtain ⟨j, x', y', t⟩ := b
  unfold Pa.eqv
  rw [toList_beq]
  by_cases h1 : i = j <;> by_cases h2 : x = x' <;> by_cases h3 : y = y' <;> by_cases h4 : s = t <;> simp [h1, h2, h3, h4]

theorem rd_at {α : Type} {enc : α → List Value} {sz n cap k B : Nat} {w : World} {p : Option Addr} {xs : List α} (h : Rd w B enc sz (.slice p n cap) xs) {x : α} (hx : xs[k]? = some x) :
    ∃ b o, p = some ⟨b, o, none⟩ ∧ b < B ∧ ∀ j u, (enc x)[j]? = some u → w.cell? ⟨b, o + k * sz + j, none⟩ = some u := by
  obtain ⟨p', cap', he, h1, h2, h3, h4⟩ := h
  simp only [Value.slice.injEq] at he
  obtain ⟨rfl, rfl, rfl⟩ := he
  have hk := (List.getElem?_eq_some_iff.1 hx).1
  cases p with
  | none => have := h3 rfl; omega
  | some a =>
    obtain ⟨b, o, rfl, hb, hr⟩ := h4 a rfl (by omega)
    exact ⟨b, o, rfl, hb, hr k x hx⟩
theorem rd_len {α : Type} {enc : α → List Value} {sz B : Nat} {w : World} {v : Value} {xs : List α} (h : Rd w B enc sz v xs) : ∃ p cap, v = .slice p xs.length cap ∧ xs.length ≤ cap ∧ cap ≤ 9223372036854775807 := by
  obtain ⟨p, cap, he, h1, h2, _⟩ := h
  exact ⟨p, cap, he, h1, h2⟩

theorem eqTake_snoc {α : Type} [DecidableEq α] {l m : List α} {k : Nat} {x : α} (hx : l[k]? = some x) (hy : m[k]? = some x) (h : l.take k = m.take k) : l.take (k + 1) = m.take (k + 1) := by
  rw [List.take_add_one, List.take_add_one, hx, hy, h]
theorem eqTake_ne {α : Type} [DecidableEq α] {l m : List α} {k : Nat} {x y : α} (hx : l[k]? = some x) (hy : m[k]? = some y) (h : x ≠ y) : decide (l = m) = false := by
  rw [decide_eq_false_iff_not]
  rintro rfl
  rw [hx] at hy
  exact h (by simpa using hy)

theorem infoP : (Try.prog.info? 128).map (fun i => (i.zero, i.size, i.bytes)) = some (some (.agg #[.string ByteArray.empty, .bool false, .bool false, .int .i64 0]), 4, 32) := by kernel_rfl
end Go.Proofs.Ythgkgjcnmahacaa
end

section
/- New boxes; a number as a value; lists of texts compared: walked. -/
set_option linter.unusedSimpArgs false
set_option linter.unusedVariables false
namespace Go.Proofs.Ythgkgjcnmahacaa
open Go.RowKit Go.OpenShut

/-- A number between two others. -/
def clampI (n hi : Int) : Int := if n < 0 then 0 else if hi < n then hi else n
theorem clamp_eq {n hi : Int} (h : 0 ≤ hi := by decide) : min (max n 0) hi = clampI n hi := by unfold clampI; split <;> (try split) <;> omega
def newB (start keep : Int) : BoxD := ⟨[], [], clampI start 9007199254740991, clampI start 9007199254740991, clampI keep 1000⟩
def newR (start keep : Int) : RB := ⟨none, 0, 0, none, 0, 0, clampI start 9007199254740991, clampI start 9007199254740991, clampI keep 1000⟩
theorem newB_of (w : World) (B : Nat) (start keep : Int) : BoxOf w B (newB start keep) (newR start keep) := ⟨ObjsOf.nil _ _, RdE.nil _ _, rfl, rfl, rfl⟩
def NewRetB (w : World) (start keep : Int) (e : Ending) (w' : World) : Prop := e = .returned (RB.val (newR start keep)) ∧ Below w.heap.size w w'
theorem ret_new {a b c d : Int} (h1 : a = b) (h2 : c = d) : Ending.returned (RB.val ⟨none, 0, 0, none, 0, 0, a, a, c⟩) = .returned (RB.val ⟨none, 0, 0, none, 0, 0, b, b, d⟩) := by rw [h1, h2]

set_option maxRecDepth 100000 in
set_option maxHeartbeats 2000000 in
theorem new_any (start keep : Int) (w : World) : Calls Try.prog 29 #[.int .i64 start, .int .i64 keep] w (NewRetB w start keep) := by
  have hZ0 : BoxAt (w.alloc (.cells #[.slice none 0 0, .slice none 0 0, .int .i64 0, .int .i64 0, .int .i64 0] 35)) w.heap.size RB.zero := heap_alloc_at rfl
  have hB0 : Below w.heap.size w (w.alloc (.cells #[.slice none 0 0, .slice none 0 0, .int .i64 0, .int .i64 0, .int .i64 0] 35)) := (Below.refl _ _).alloc (Nat.le_refl _) _
  go_enter Try.func29, Try.ntmps29
  go_upto_region 1 with fail
  obtain ⟨W0, hW0⟩ : ∃ W0, (w.alloc (.cells #[.slice none 0 0, .slice none 0 0, .int .i64 0, .int .i64 0, .int .i64 0] 35)) = W0 := ⟨_, rfl⟩
  rw [hW0] at hZ0 hB0 ⊢
  clear hW0
  have z0 := hZ0.cell 0 rfl
  have z1 := hZ0.cell 1 rfl
  have z2 := hZ0.cell 2 rfl
  have z3 := hZ0.cell 3 rfl
  have z4 := hZ0.cell 4 rfl
  dsimp only [RB.zero] at z0 z1 z2 z3 z4
  have y0 := hZ0.frozen 0
  have y1 := hZ0.frozen 1
  have y2 := hZ0.frozen 2
  have y3 := hZ0.frozen 3
  have y4 := hZ0.frozen 4
  have HZ := Lib.hid hZ0
  have HB := Lib.hid hB0
  clear hZ0 hB0
  go_wp2_with fail
  have hS := HZ.out.stored (newR start keep)
  have hg := grownBy_setB W0 w.heap.size (newR start keep)
  refine bodyPost_ret (v := RB.val (newR start keep)) (by simp [results, Try.results29, go_sem, newR, clamp_eq, z0, z1, z2, z3, z4]) rfl ⟨rfl, ?_⟩
  exact Below.setCell (Below.setCell (Below.setCell (Below.setCell (Below.setCell HB.out (Nat.le_refl _) _) (Nat.le_refl _) _) (Nat.le_refl _) _) (Nat.le_refl _) _) (Nat.le_refl _) _

set_option maxRecDepth 100000 in
set_option maxHeartbeats 2000000 in
theorem num_any (n : Int) (w : World) : Calls Try.prog 56 #[.int .i64 n] w fun e w' => e = .returned (RV.val ⟨3, n, ⟨#[]⟩, none, 0, 0, none, 0, 0⟩) ∧ Below w.heap.size w w' := by
  have hZ0 : VAt (w.alloc (.cells #[.int .i64 0, .int .i64 0, .string ⟨#[]⟩, .slice none 0 0, .slice none 0 0] 25)) w.heap.size RV.zero := heap_alloc_at rfl
  have hB0 : Below w.heap.size w (w.alloc (.cells #[.int .i64 0, .int .i64 0, .string ⟨#[]⟩, .slice none 0 0, .slice none 0 0] 25)) := (Below.refl _ _).alloc (Nat.le_refl _) _
  go_enter Try.func56, Try.ntmps56
  go_upto_region 1 with fail
  obtain ⟨W0, hW0⟩ : ∃ W0, (w.alloc (.cells #[.int .i64 0, .int .i64 0, .string ⟨#[]⟩, .slice none 0 0, .slice none 0 0] 25)) = W0 := ⟨_, rfl⟩
  rw [hW0] at hZ0 hB0 ⊢
  clear hW0
  have z0 := hZ0.cell 0 rfl
  have z1 := hZ0.cell 1 rfl
  have z2 := hZ0.cell 2 rfl
  have z3 := hZ0.cell 3 rfl
  have z4 := hZ0.cell 4 rfl
  dsimp only [RV.zero] at z0 z1 z2 z3 z4
  have y0 := hZ0.frozen 0
  have y1 := hZ0.frozen 1
  have y2 := hZ0.frozen 2
  have y3 := hZ0.frozen 3
  have y4 := hZ0.frozen 4
  have HB := Lib.hid hB0
  clear hZ0 hB0
  go_wp2_with fail
  refine bodyPost_ret (v := RV.val ⟨3, n, ⟨#[]⟩, none, 0, 0, none, 0, 0⟩) (by simp [results, Try.results56, go_sem, z0, z1, z2, z3, z4]) rfl ⟨rfl, ?_⟩
  exact Below.stored HB.out (Nat.le_refl _) ⟨3, n, ⟨#[]⟩, none, 0, 0, none, 0, 0⟩

set_option maxRecDepth 100000 in
set_option maxHeartbeats 2000000 in
theorem sameParts_any (w : World) (B : Nat) (u v : Value) (l m : List ByteArray) (hu : Rd w B encS 1 u l) (hv : Rd w B encS 1 v m) :
    Calls Try.prog 49 #[u, v] w fun e w' => e = .returned (.bool (decide (l = m))) ∧ ∃ n, w' = w.drewN n := by
  obtain ⟨p, c, rfl, hlc, hcm⟩ := rd_len hu
  obtain ⟨q, d, rfl, hmd, hdm⟩ := rd_len hv
  have HU := Lib.hid hu
  have HV := Lib.hid hv
  clear hu hv
  by_cases hlen : l.length = m.length
  · have hb : ((l.length : Int) != (m.length : Int)) = false := by simp [hlen]
    have HL := Lib.hid hlen
    have hle : l.length ≤ m.length := by omega
    have hle2 : m.length ≤ l.length := by omega
    clear hlen
    go_enter Try.func49, Try.ntmps49
    go_wp2_with fail
    go_loopw [5] (fun i wr => ∃ k : Nat, k ≤ l.length ∧ i = .int .i64 k ∧ Hid (l.take k = m.take k) ∧ ∃ n, wr = w.drewN n) (fun i _ => l.length - (intOf i).toNat)
    case atStart => exact ⟨0, Nat.zero_le _, rfl, rfl, 0, rfl⟩
    case round =>
      obtain ⟨k, hk, rfl, htk, nr, rfl⟩ := hrel
      by_cases hlt : k < l.length
      · obtain ⟨x, hx⟩ : ∃ x, l[k]? = some x := ⟨_, List.getElem?_eq_getElem hlt⟩
        obtain ⟨y, hy⟩ : ∃ x, m[k]? = some x := ⟨_, List.getElem?_eq_getElem (by omega)⟩
        obtain ⟨b1, o1, rfl, hb1, hc1⟩ := rd_at HU.out hx
        obtain ⟨b2, o2, rfl, hb2, hc2⟩ := rd_at HV.out hy
        have f0 := hc1 0 _ rfl
        have g0 := hc2 0 _ rfl
        rw [Nat.add_zero, Nat.mul_one] at f0 g0
        have hk0 : (0 : Int) ≤ (k : Int) := Int.natCast_nonneg _
        have hk1 : (k : Int) < (l.length : Int) := by omega
        have hk2 : (k : Int) < (m.length : Int) := by omega
        have hq := str_beq x y
        by_cases hxy : x = y
        · have e2 : (x.toList == y.toList) = true := by rw [hq]; simpa using hxy
          have e1 : (x.toList != y.toList) = false := by rw [bne, e2]; rfl
          have HTK : Hid (l.take (k + 1) = m.take (k + 1)) := by
            unfold Hid
            rw [List.take_add_one, List.take_add_one, hx, hy, htk.out, hxy]
          clear hx hy hc1 hc2 hq hxy htk
          go_wp2_with fail
          go_quiet (fail)
          go_wp2_with fail
          go_roundw
          case rel => exact ⟨k + 1, by omega, by go_num, HTK, _, rfl⟩
          case measure => simp [intOf]; omega
        · have e2 : (x.toList == y.toList) = false := by rw [hq]; simpa using hxy
          have e1 : (x.toList != y.toList) = true := by rw [bne, e2]; rfl
          have HNO : Hid (decide (l = m) = false) := eqTake_ne hx hy hxy
          clear hx hy hc1 hc2 hq hxy htk
          go_wp2_with fail
          go_quiet (fail)
          go_wp2_with fail
          go_ret
          exact ⟨ret_bool HNO.out.symm, _, World.drewN_drewN _ _ _⟩
      · obtain rfl : k = l.length := by omega
        have HYES : Hid (decide (l = m) = true) := by
          have h := htk.out
          rw [List.take_of_length_le (Nat.le_refl _), List.take_of_length_le hle2] at h
          unfold Hid
          simpa using h
        go_wp2_with fail
        go_ret
        exact ⟨ret_bool HYES.out.symm, _, rfl⟩
  · have hb : ((l.length : Int) != (m.length : Int)) = true := by simp; omega
    have HNO : Hid (decide (l = m) = false) := by unfold Hid; rw [decide_eq_false_iff_not]; exact fun h => hlen (by rw [h])
    clear hlen
    go_enter Try.func49, Try.ntmps49
    go_wp2_with fail
    go_ret
    exact ⟨ret_bool HNO.out.symm, 0, rfl⟩
end Go.Proofs.Ythgkgjcnmahacaa
end

section
/- Texts in their order. -/
set_option linter.unusedSimpArgs false
set_option linter.unusedVariables false
namespace Go.Proofs.Ythgkgjcnmahacaa
open Go.RowKit Go.OpenShut

theorem less_cmpB : ∀ a b : List UInt8, Op.bytesLess a b = decide (Lib.compareBytes a b < 0)
  | [], [] => by simp [Op.bytesLess, Lib.compareBytes]
  | [], _ :: _ => by simp [Op.bytesLess, Lib.compareBytes]
  | _ :: _, [] => by simp [Op.bytesLess, Lib.compareBytes]
  | x :: a, y :: b => by
    have ih := less_cmpB a b
    unfold Op.bytesLess Lib.compareBytes
    by_cases h1 : x < y
    · simp [h1]
    · by_cases h2 : y < x
      · have : x ≠ y := fun e => by subst e; exact h1 h2
        simp [h1, h2, this]
      · have : x = y := by
          rw [UInt8.lt_iff_toNat_lt] at h1 h2
          exact UInt8.toNat_inj.1 (by omega)
        subst this
        simp [h1, ih]
theorem less_cmp (a b : ByteArray) : Op.bytesLess a.toList b.toList = decide (cmpN a b < 0) := by
  rw [ByteArray.toList_eq, ByteArray.toList_eq]
  exact less_cmpB _ _
/-- The first k objects rise. -/
def RisingTo (os : List (ByteArray × JV)) (k : Nat) : Prop := ∀ (i : Nat) p q, i + 1 < k → os[i]? = some p → os[i + 1]? = some q → cmpN p.1 q.1 < 0
theorem RisingTo.all {os : List (ByteArray × JV)} (h : RisingTo os os.length) : Rising os := by
  intro i j p q hij hi hj
  induction j generalizing q with
  | zero => omega
  | succ j ih =>
    have hl := (List.getElem?_eq_some_iff.1 hj).1
    by_cases e : i = j
    · subst e
      exact h i p q hl hi hj
    · obtain ⟨m, hm⟩ : ∃ m, os[j]? = some m := ⟨_, List.getElem?_eq_getElem (by omega)⟩
      exact cmpN_lt_trans (ih m (by omega) hm) (by have := h j m q hl hm hj; have := cmpN_neg m.1 q.1; omega)
theorem Rising.no {os : List (ByteArray × JV)} {i : Nat} {p q : ByteArray × JV} (hp : os[i]? = some p) (hq : os[i + 1]? = some q) (h : ¬ cmpN p.1 q.1 < 0) : ¬ Rising os := fun hr => h (hr i (i + 1) p q (by omega) hp hq)
end Go.Proofs.Ythgkgjcnmahacaa
end
