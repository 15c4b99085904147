import Derived.Deep.CutBlock
import Derived.Test.YthgkgjcnmahacaaSk27
/- The law that what is handed in stays, walked. -/
set_option linter.unusedSimpArgs false
set_option linter.unusedVariables false
namespace Go.Proofs.Ythgkgjcnmahacaa
open Go.RowKit Go.OpenShut

def OpAt (W : World) (g : Nat) (r : RO) : Prop := W.heap[g]? = some (.cells #[.int .i64 r.k, .string r.id, .int .i64 r.v.k, .int .i64 r.v.n, .string r.v.s, .slice r.v.pl r.v.nl r.v.cl, .slice r.v.pm r.v.nm r.v.cm] 37 (0, 0))
theorem OpAt.cell {W : World} {g : Nat} {r : RO} (h : OpAt W g r) (j : Nat) {u : Value} (hu : (encOp r)[j]? = some u) : W.cell? ⟨g, j, none⟩ = some u := by
  unfold OpAt at h
  rw [cell_of_row W g j _ _ _ h, ← Array.getElem?_toList]
  exact hu
theorem OpAt.lt {W : World} {g : Nat} {r : RO} (h : OpAt W g r) : g < W.heap.size := (Array.getElem?_eq_some_iff.1 h).1
/-- The law's arguments in boxes. -/
structure PreS (w W : World) (r : RB) (o : RO) : Prop where
  box : BoxAt W w.heap.size r
  op : OpAt W (w.heap.size + 1) o
  below : Below w.heap.size w W
theorem PreS.go {w W W' : World} {r : RB} {o : RO} (h : PreS w W r o) (hb : Below W.heap.size W W') : PreS w W' r o := ⟨h.box.under hb h.box.lt, (hb.block _ h.op.lt).trans h.op, h.below.trans (hb.mono h.below.size)⟩
theorem PreS.row {w W W' : World} {r : RB} {o : RO} {row : Option Nat} (h : PreS w W r o) (hg : W.grownBy W' row) (hr : ∀ k, row = some k → w.heap.size + 1 < k) : PreS w W' r o := by
  have hz := h.op.lt
  have hb : ∀ k, k ≤ w.heap.size + 1 → W'.heap[k]? = W.heap[k]? := fun k hk => hg.block k (by omega) (fun e => by have := hr k e.symm; omega)
  exact ⟨(hb _ (by omega)).trans h.box, (hb _ (Nat.le_refl _)).trans h.op, h.below.grown hg h.below.size (fun a e => by have := hr a e; omega)⟩
theorem PreS.start (w : World) (r : RB) (o : RO) : PreS w ((w.alloc r.obj).alloc o.obj) r o := ⟨heap_alloc_lt (by simp) (heap_alloc_at rfl), heap_alloc_at (by simp), below2 _ _ _⟩

set_option maxRecDepth 200000 in
set_option maxHeartbeats 16000000 in
theorem storeKeeps_any (w : World) (b : BoxD) (r : RB) (o : RO) (t : JV) (hb : BoxOf w w.heap.size b r) (ob : b.Ok) (ht : TreeOf w w.heap.size t o.v) (ot : OpOk o t) :
    Calls Try.prog 4 #[r.val, o.val] w fun e w' => e = .returned (.bool true) ∧ Below w.heap.size w w' := by
  have hS := PreS.start w r o
  have HBX := Lib.hid hb
  have HOB := Lib.hid ob
  have HT := Lib.hid ht
  have HOT := Lib.hid ot
  clear hb ob ht ot
  go_enter Try.func4, Try.ntmps4
  go_upto_region 1 with fail
  obtain ⟨W0, hW0⟩ : ∃ W0, ((w.alloc r.obj).alloc o.obj) = W0 := ⟨_, rfl⟩
  rw [hW0] at hS
  dsimp only [RB.obj, RO.obj] at hW0
  rw [hW0]
  clear hW0
  have HS := Lib.hid hS
  clear hS
  go_wp2_with fail
  refine (awake18_any _).mono ?_
  rintro e w1 ⟨rfl, hb1⟩
  have HS1 := Lib.hid (HS.out.go hb1)
  clear HS hb1
  have q1 := HS1.out.box.lt
  have c0 := HS1.out.box.cell 0 rfl
  have c1 := HS1.out.box.cell 1 rfl
  have c2 := HS1.out.box.cell 2 rfl
  have c3 := HS1.out.box.cell 3 rfl
  have c4 := HS1.out.box.cell 4 rfl
  go_wp2_with fail
  refine (few18_any b r w1 (HBX.out.under HS1.out.below HS1.out.below.size) HOB.out).mono ?_
  rintro e w2 ⟨y, rfl, HF, hb2⟩
  have HS2 := Lib.hid (HS1.out.go hb2)
  clear HS1 hb2 c0 c1 c2 c3 c4 q1
  cases y with
  | false =>
    go_wp2_with fail
    refine (awake18_any _).mono ?_
    rintro e w3 ⟨rfl, hb3⟩
    go_wp2_with fail
    go_ret
    exact ⟨rfl, (HS2.out.go hb3).below⟩
  | true =>
  have q1 := HS2.out.box.lt
  have c0 := HS2.out.box.cell 0 rfl
  have c1 := HS2.out.box.cell 1 rfl
  have c2 := HS2.out.box.cell 2 rfl
  have c3 := HS2.out.box.cell 3 rfl
  have c4 := HS2.out.box.cell 4 rfl
  go_wp2_with fail
  refine (rightS_any b r w2 (HBX.out.under HS2.out.below HS2.out.below.size) HOB.out).mono ?_
  rintro e w3 ⟨y, rfl, hright, hb3⟩
  have HS3 := Lib.hid (HS2.out.go hb3)
  clear HS2 hb3 c0 c1 c2 c3 c4 q1
  cases y with
  | false =>
    clear hright
    go_wp2_with fail
    refine (awake18_any _).mono ?_
    rintro e w4 ⟨rfl, hb4⟩
    go_wp2_with fail
    go_ret
    exact ⟨rfl, (HS3.out.go hb4).below⟩
  | true =>
  have HR : Hid (RightBx b) := hright.1 rfl
  clear hright
  have q1 := HS3.out.op.lt
  have c0 := HS3.out.op.cell 0 rfl
  have c1 := HS3.out.op.cell 1 rfl
  have c2 := HS3.out.op.cell 2 rfl
  have c3 := HS3.out.op.cell 3 rfl
  have c4 := HS3.out.op.cell 4 rfl
  have c5 := HS3.out.op.cell 5 rfl
  have c6 := HS3.out.op.cell 6 rfl
  go_wp2_with fail
  refine (few7_any t o.v 200 w3 (HT.out.under HS3.out.below HS3.out.below.size) HOT.out.2).mono ?_
  rintro e w4 ⟨y, rfl, _, hb4⟩
  have HS4 := Lib.hid (HS3.out.go hb4)
  clear HS3 hb4 c0 c1 c2 c3 c4 c5 c6 q1
  cases y with
  | false =>
    go_wp2_with fail
    refine (awake18_any _).mono ?_
    rintro e w5 ⟨rfl, hb5⟩
    go_wp2_with fail
    go_ret
    exact ⟨rfl, (HS4.out.go hb5).below⟩
  | true =>
  have q1 := HS4.out.box.lt
  have c0 := HS4.out.box.cell 0 rfl
  have c1 := HS4.out.box.cell 1 rfl
  have c2 := HS4.out.box.cell 2 rfl
  have c3 := HS4.out.box.cell 3 rfl
  have c4 := HS4.out.box.cell 4 rfl
  go_upto_region 4 with fail
  have hS5 := HS4.out.go (W' := w4.alloc (.cells #[.slice r.po r.no r.co, .slice r.pt r.nt r.ct, .int .i64 r.sq, .int .i64 r.fl, .int .i64 r.kp] 35)) ((Below.refl _ _).alloc (Nat.le_refl _) _)
  have hA5 : BoxAt (w4.alloc (.cells #[.slice r.po r.no r.co, .slice r.pt r.nt r.ct, .int .i64 r.sq, .int .i64 r.fl, .int .i64 r.kp] 35)) w4.heap.size r := heap_alloc_at rfl
  have hz5 : w4.heap.size + 1 = (w4.alloc (.cells #[.slice r.po r.no r.co, .slice r.pt r.nt r.ct, .int .i64 r.sq, .int .i64 r.fl, .int .i64 r.kp] 35)).heap.size := by simp
  obtain ⟨W5, hW5⟩ : ∃ W5, w4.alloc (.cells #[.slice r.po r.no r.co, .slice r.pt r.nt r.ct, .int .i64 r.sq, .int .i64 r.fl, .int .i64 r.kp] 35) = W5 := ⟨_, rfl⟩
  obtain ⟨g5, hg5⟩ : ∃ g, w4.heap.size = g := ⟨_, rfl⟩
  have hlt5 : w.heap.size + 1 < w4.heap.size := HS4.out.op.lt
  rw [hW5, hg5] at hA5 hz5
  rw [hW5] at hS5
  rw [hg5] at hlt5
  rw [hW5, hg5]
  clear hW5 hg5 HS4 c0 c1 c2 c3 c4 q1
  obtain ⟨ros, hro, hms⟩ := HBX.out.objs
  have hrn := rd_nlen hro
  have hol := HOB.out.objs
  have hml := hms.len
  have hO : Own (W5.alloc (.cells #[] 46)) (g5 + 1) 46 encM 6 (.slice (some ⟨W5.heap.size, 0, none⟩) 0 0) ([] : List RM) := Own.made (by omega)
  have hB5 : Below w.heap.size w (W5.alloc (.cells #[] 46)) := hS5.below.alloc hS5.below.size _
  have hRO : Rd (W5.alloc (.cells #[] 46)) w.heap.size encM 6 (.slice r.po r.no r.co) ros := hro.below hB5 (Nat.le_refl _)
  have hA5' : BoxAt (W5.alloc (.cells #[] 46)) g5 r := heap_alloc_lt hA5.lt hA5
  have hS5' := hS5.go (W' := W5.alloc (.cells #[] 46)) ((Below.refl _ _).alloc (Nat.le_refl _) _)
  have q0 := hS5.box.lt
  have c0 := hS5.box.cell 0 rfl
  have c1 := hS5.box.cell 1 rfl
  have c2 := hS5.box.cell 2 rfl
  have c3 := hS5.box.cell 3 rfl
  have c4 := hS5.box.cell 4 rfl
  have HO := Lib.hid hO
  have HRO := Lib.hid hRO
  have HA5 := Lib.hid hA5'
  have HS5 := Lib.hid hS5'
  have HMS := Lib.hid hms
  have HL : Hid (ros.length = r.no ∧ ros.length ≤ 1466015503658) := by unfold Hid; omega
  have HZ5 : Hid (g5 + 1 = W5.heap.size) := hz5
  have HLT : Hid (w.heap.size + 1 < g5) := hlt5
  have k6 : Hid (∀ k, (Value.slice (some ⟨W5.heap.size, 0, none⟩) 0 0).ownBlock = some k → k = W5.heap.size) := by intro k e; simp [Value.ownBlock] at e; omega
  have k1 : Hid (([] : List RM).length + ros.length ≤ maxLen) := by unfold Hid maxLen; simp; omega
  have k2 : Hid ((([] : List RM).length + ros.length) * 96 ≤ 140737488355328) := by unfold Hid; simp; omega
  have k3 : Hid (g5 + 1 ≤ (W5.alloc (.cells #[] 46)).heap.size) := by unfold Hid; simp; omega
  have k4 : Hid ((Value.slice (some ⟨W5.heap.size, 0, none⟩) 0 0).ownBlock ≠ some g5) := by unfold Hid; simp [Value.ownBlock]; omega
  have k5 : Hid ((([] : List RM) ++ ros).length = r.no) := by unfold Hid; simp; omega
  clear hro hms hrn hol hml hO hB5 hRO hA5' hS5' hA5 hS5 hz5
  go_upto_region 5 with (at_builtin; refine wpList_append_rd slO codecM _ rfl _ _ rfl rfl rfl HO.out HRO.out k1.out k2.out k3.out ?_; intro v1 w5 ho1 hg1 hat1; obtain ⟨p1, cc1, hv1, hcl1, hcm1⟩ := ho1.len; rw [k5.out] at hv1; subst hv1; (have hA6 := HA5.out.keptR hg1 k4.out); (have d0 := hA6.cell 0 rfl); (have x0 := hA6.frozen 0))
  have hg6 := grownBy_set w5 g5 0 (.slice p1 r.no cc1)
  have hA7 := hA6.set0 p1 r.no cc1
  have hb1 : ∀ k, (Value.slice p1 r.no cc1).ownBlock = some k → g5 < k := fun k e => by have := (ho1.lt k e).1; omega
  have ho7 := ho1.kept hg6 (.inr (fun e => by have := hb1 _ e; omega))
  have hbel : Below W5.heap.size (W5.alloc (.cells #[] 46)) w5 := (Below.refl _ _).grown hg1 (by simp) (fun k e => by have := k6.out k e; omega)
  have hS6 := HS5.out.row hg1 (fun k e => by have := k6.out k e; have := HZ5.out; have := HLT.out; omega)
  have hS7 := hS6.row hg6 (fun k e => by cases e; exact HLT.out)
  obtain ⟨W7, hW7⟩ : ∃ W7, w5.setCell ⟨g5, 0, none⟩ (.slice p1 r.no cc1) = W7 := ⟨_, rfl⟩
  have hz7 : W7.heap.size = w5.heap.size := by rw [← hW7]; simp
  rw [hW7] at hA7 ho7 hS7 ⊢
  have hrt := (rdE_iff.1 HBX.out.trail).2
  have hrok := (rdE_iff.1 HBX.out.trail).1
  have hnt := HBX.out.trail.nlen
  have hO : Own (W7.alloc (.cells #[] 48)) (g5 + 1) 48 encE 3 (.slice (some ⟨W7.heap.size, 0, none⟩) 0 0) ([] : List En) := Own.made (by have := hA7.lt; omega)
  have hB7 : Below w.heap.size w (W7.alloc (.cells #[] 48)) := hS7.below.alloc hS7.below.size _
  have hRT : Rd (W7.alloc (.cells #[] 48)) w.heap.size encE 3 (.slice r.pt r.nt r.ct) b.trail := hrt.below hB7 (Nat.le_refl _)
  have hA7' := (show BoxAt (W7.alloc (.cells #[] 48)) g5 _ from heap_alloc_lt hA7.lt hA7)
  have hS7' := hS7.go (W' := W7.alloc (.cells #[] 48)) ((Below.refl _ _).alloc (Nat.le_refl _) _)
  have ho7' := ho7.alloc (.cells #[] 48)
  have hlt7 := hA7.lt
  have j1 : Hid (([] : List En).length + b.trail.length ≤ maxLen) := by have := HOB.out.trail; unfold Hid maxLen; simp; omega
  have j2 : Hid ((([] : List En).length + b.trail.length) * 32 ≤ 140737488355328) := by have := HOB.out.trail; unfold Hid; simp; omega
  have j3 : Hid (g5 + 1 ≤ (W7.alloc (.cells #[] 48)).heap.size) := by unfold Hid; simp; omega
  have j4 : Hid ((Value.slice (some ⟨W7.heap.size, 0, none⟩) 0 0).ownBlock ≠ some g5) := by unfold Hid; simp [Value.ownBlock]; omega
  have j5 : Hid ((([] : List En) ++ b.trail).length = r.nt) := by unfold Hid; simp; omega
  have j6 : Hid (∀ k, (Value.slice (some ⟨W7.heap.size, 0, none⟩) 0 0).ownBlock = some k → k = W7.heap.size) := by intro k e; simp [Value.ownBlock] at e; omega
  have hb1' : Hid (∀ k, (Value.slice p1 r.no cc1).ownBlock = some k → g5 < k ∧ k < W7.heap.size) := fun k e => ⟨hb1 k e, (ho7.lt k e).2⟩
  have q7 := hS7.box.lt
  clear c0 c1 c2 c3 c4 d0 x0 q0
  have c0 := hS7.box.cell 0 rfl
  have c1 := hS7.box.cell 1 rfl
  have c2 := hS7.box.cell 2 rfl
  have c3 := hS7.box.cell 3 rfl
  have c4 := hS7.box.cell 4 rfl
  have HO7 := Lib.hid hO
  have HRT := Lib.hid hRT
  have HA7 := Lib.hid hA7'
  have HS7 := Lib.hid hS7'
  have HOW := Lib.hid ho7'
  have HOKT := Lib.hid hrok
  have HLT7 : Hid (g5 < W7.heap.size) := hlt7
  clear hrt hrok hnt hO hB7 hRT hA7' hS7' hA7 hS7 hlt7 ho7 ho7' hb1 hbel hS6 hg6 hA6 hg1 ho1 hat1 hz7 hW7 k1 k2 k3 k4 k5 k6 HO HRO HA5 HS5
  go_upto_region 6 with (at_builtin; refine wpList_append_rd slEn codecE _ rfl _ _ rfl rfl rfl HO7.out HRT.out j1.out j2.out j3.out ?_; intro v2 w8 ho2 hg2 hat2; obtain ⟨p2, cc2, hv2, hcl2, hcm2⟩ := ho2.len; rw [j5.out] at hv2; subst hv2; (have hA8 := HA7.out.keptR hg2 j4.out); (have d1 := hA8.cell 1 rfl); (have x1 := hA8.frozen 1))
  have hg9 := grownBy_set w8 g5 1 (.slice p2 r.nt cc2)
  have hA9 : BoxAt (w8.setCell ⟨g5, 1, none⟩ (.slice p2 r.nt cc2)) g5 ⟨p1, r.no, cc1, p2, r.nt, cc2, r.sq, r.fl, r.kp⟩ := by
    have h := hA8
    unfold BoxAt at h ⊢
    simp [World.setCell, Array.getElem?_modify, h]
  have hb2 : ∀ k, (Value.slice p2 r.nt cc2).ownBlock = some k → g5 < k ∧ k < w8.heap.size := fun k e => by have := ho2.lt k e; omega
  have hne2 : ∀ k, (Value.slice p1 r.no cc1).ownBlock = some k → g5 < k ∧ k < w8.heap.size := fun k e => by have := hb1'.out k e; have := hg2.size; simp at this; omega
  have hobj9 := (HOW.out.keptR hg2 (fun k e e2 => by have := hb1'.out k e; have := j6.out k e2; omega)).kept hg9 (.inr (fun e => by have := (hne2 _ e).1; omega))
  have hent9 := ho2.kept hg9 (.inr (fun e => by have := (hb2 _ e).1; omega))
  have hS8 := HS7.out.row hg2 (fun k e => by have := j6.out k e; have := HLT7.out; have := HLT.out; omega)
  have hS9 := hS8.row hg9 (fun k e => by cases e; exact HLT.out)
  obtain ⟨W9, hW9⟩ : ∃ W9, w8.setCell ⟨g5, 1, none⟩ (.slice p2 r.nt cc2) = W9 := ⟨_, rfl⟩
  have hz9 : W9.heap.size = w8.heap.size := by rw [← hW9]; simp
  rw [hW9] at hA9 hobj9 hent9 hS9 ⊢
  rw [List.nil_append] at hobj9 hent9
  have hN9 : NewBox W9 w.heap.size w.heap.size b ⟨p1, r.no, cc1, p2, r.nt, cc2, r.sq, r.fl, r.kp⟩ :=
    ⟨⟨ros, hobj9.mono (by have := HLT.out; omega), HMS.out.under hS9.below (Nat.le_refl _)⟩, hent9.mono (by have := HLT.out; omega), HOKT.out, HBX.out.seq, HBX.out.floor, HBX.out.keep⟩
  obtain ⟨A, hA⟩ : ∃ A, W9.heap.size = A := ⟨_, rfl⟩
  have hw1 : ∀ k, (Value.slice p1 r.no cc1).ownBlock = some k → g5 < k ∧ k < A := fun k e => by have := hne2 k e; omega
  have hw2 : ∀ k, (Value.slice p2 r.nt cc2).ownBlock = some k → g5 < k ∧ k < A := fun k e => by have := hb2 k e; omega
  have HA9 := Lib.hid hA9
  have HS9 := Lib.hid hS9
  have HN9 := Lib.hid hN9
  have HW1 := Lib.hid hw1
  have HW2 := Lib.hid hw2
  have HAS : Hid (W9.heap.size = A ∧ g5 < A) := ⟨hA, by rw [← hA]; exact hA9.lt⟩
  clear hA9 hS9 hN9 hw1 hw2 hA hobj9 hent9 hS8 hb2 hne2 hg9 hA8 hg2 ho2 hat2 hz9 hW9 d1 x1 c0 c1 c2 c3 c4 q7 j1 j2 j3 j4 j5 j6 HO7 HRT HA7 HS7 HOW hb1' HLT7 HZ5 HL HMS
  have hPut := put_any b r o.id t o.v W9 (HBX.out.under HS9.out.below HS9.out.below.size) HR.out.1 HOB.out (HT.out.under HS9.out.below HS9.out.below.size) HOT.out.2 HOT.out.1
  have q9 := HS9.out.box.lt
  have q9' := HS9.out.op.lt
  have c0 := HS9.out.box.cell 0 rfl
  have c1 := HS9.out.box.cell 1 rfl
  have c2 := HS9.out.box.cell 2 rfl
  have c3 := HS9.out.box.cell 3 rfl
  have c4 := HS9.out.box.cell 4 rfl
  have d0 := HS9.out.op.cell 0 rfl
  have d1 := HS9.out.op.cell 1 rfl
  have d2 := HS9.out.op.cell 2 rfl
  have d3 := HS9.out.op.cell 3 rfl
  have d4 := HS9.out.op.cell 4 rfl
  have d5 := HS9.out.op.cell 5 rfl
  have d6 := HS9.out.op.cell 6 rfl
  have HPut := Lib.hid hPut
  clear hPut
  go_upto_region 7 with (go_at_call 22; refine HPut.out.mono ?_; rintro e w10 ⟨rx, rfl, hNx, hbx⟩)
  generalize (putB b o.id t).1 = bx at hNx
  generalize (putB b o.id t).2 = ex
  have hSx := hNx.some
  have hbx1 := hbx.alloc hbx.size (.cells #[.slice rx.po rx.no rx.co, .slice rx.pt rx.nt rx.ct, .int .i64 rx.sq, .int .i64 rx.fl, .int .i64 rx.kp] 35)
  have hba : Below w10.heap.size w10 (w10.alloc (.cells #[.slice rx.po rx.no rx.co, .slice rx.pt rx.nt rx.ct, .int .i64 rx.sq, .int .i64 rx.fl, .int .i64 rx.kp] 35)) := (Below.refl _ _).alloc (Nat.le_refl _) _
  have hA10 : BoxAt (w10.alloc (.cells #[.slice rx.po rx.no rx.co, .slice rx.pt rx.nt rx.ct, .int .i64 rx.sq, .int .i64 rx.fl, .int .i64 rx.kp] 35)) w10.heap.size rx := heap_alloc_at rfl
  have hS10 := HS9.out.go hbx1
  have hA5 := HA9.out.under hbx1 HA9.out.lt
  have hN10 := HN9.out.below hbx1 (by have := HS9.out.below.size; omega)
  have hx1 := hSx.1.below hba
  have hx2 := hSx.2.1.below hba
  have hx3 := hSx.2.2.1
  have hx4 := hSx.2.2.2
  have hzx := hbx.size
  obtain ⟨W10, hW10⟩ : ∃ W, w10.alloc (.cells #[.slice rx.po rx.no rx.co, .slice rx.pt rx.nt rx.ct, .int .i64 rx.sq, .int .i64 rx.fl, .int .i64 rx.kp] 35) = W := ⟨_, rfl⟩
  obtain ⟨g6, hg6⟩ : ∃ g, w10.heap.size = g := ⟨_, rfl⟩
  rw [hW10] at hA10 hS10 hA5 hN10 hx1 hx2 ⊢
  rw [hg6] at hA10 hx3 hx4 hzx ⊢
  rw [HAS.out.1] at hx1 hx2 hx3 hx4 hzx
  have HX1 := Lib.hid hx1
  have HX2 := Lib.hid hx2
  have HX3 := Lib.hid hx3
  have HX4 := Lib.hid hx4
  have HA5 := Lib.hid hA5
  have HN10 := Lib.hid hN10
  have HA10 := Lib.hid hA10
  have HS10 := Lib.hid hS10
  have HZX : Hid (A ≤ g6 ∧ g6 < W10.heap.size) := ⟨hzx, HA10.out.lt⟩
  clear hx1 hx2 hx3 hx4 hA5 hN10 hA10 hS10 hzx hW10 hg6 hba hbx1 hSx hNx hbx HPut HN9 HA9 HS9 q9 q9' c0 c1 c2 c3 c4 d0 d1 d2 d3 d4 d5 d6
  have hDrop := drop_any b r o.id W10 (HBX.out.under HS10.out.below HS10.out.below.size) HR.out.1 HOB.out HOT.out.1
  have q9 := HS10.out.box.lt
  have q9' := HS10.out.op.lt
  have c0 := HS10.out.box.cell 0 rfl
  have c1 := HS10.out.box.cell 1 rfl
  have c2 := HS10.out.box.cell 2 rfl
  have c3 := HS10.out.box.cell 3 rfl
  have c4 := HS10.out.box.cell 4 rfl
  have d0 := HS10.out.op.cell 0 rfl
  have d1 := HS10.out.op.cell 1 rfl
  have d2 := HS10.out.op.cell 2 rfl
  have d3 := HS10.out.op.cell 3 rfl
  have d4 := HS10.out.op.cell 4 rfl
  have d5 := HS10.out.op.cell 5 rfl
  have d6 := HS10.out.op.cell 6 rfl
  have HDrop := Lib.hid hDrop
  clear hDrop
  go_upto_region 8 with (go_at_call 23; refine HDrop.out.mono ?_; rintro e w11 ⟨ry, rfl, hNy, hby⟩)
  generalize (dropB b o.id).1 = by_ at hNy
  generalize (dropB b o.id).2 = ey
  have hSy := hNy.some
  have hby1 := hby.alloc hby.size (.cells #[.slice ry.po ry.no ry.co, .slice ry.pt ry.nt ry.ct, .int .i64 ry.sq, .int .i64 ry.fl, .int .i64 ry.kp] 35)
  have hba : Below w11.heap.size w11 (w11.alloc (.cells #[.slice ry.po ry.no ry.co, .slice ry.pt ry.nt ry.ct, .int .i64 ry.sq, .int .i64 ry.fl, .int .i64 ry.kp] 35)) := (Below.refl _ _).alloc (Nat.le_refl _) _
  have hA11 : BoxAt (w11.alloc (.cells #[.slice ry.po ry.no ry.co, .slice ry.pt ry.nt ry.ct, .int .i64 ry.sq, .int .i64 ry.fl, .int .i64 ry.kp] 35)) w11.heap.size ry := heap_alloc_at rfl
  have hS11 := HS10.out.go hby1
  have hA5' := HA5.out.under hby1 HA5.out.lt
  have hA6' := HA10.out.under hby1 HA10.out.lt
  have hN11 := HN10.out.below hby1 (by have := HS10.out.below.size; omega)
  have hx1' := HX1.out.below hby1
  have hx2' := HX2.out.below hby1
  have hy1 := hSy.1.below hba
  have hy2 := hSy.2.1.below hba
  have hy3 := hSy.2.2.1
  have hy4 := hSy.2.2.2
  have hzy := hby.size
  obtain ⟨W11, hW11⟩ : ∃ W, w11.alloc (.cells #[.slice ry.po ry.no ry.co, .slice ry.pt ry.nt ry.ct, .int .i64 ry.sq, .int .i64 ry.fl, .int .i64 ry.kp] 35) = W := ⟨_, rfl⟩
  obtain ⟨g8, hg8⟩ : ∃ g, w11.heap.size = g := ⟨_, rfl⟩
  obtain ⟨B, hB⟩ : ∃ B, W10.heap.size = B := ⟨_, rfl⟩
  rw [hW11] at hA11 hS11 hA5' hA6' hN11 hx1' hx2' hy1 hy2 ⊢
  rw [hg8] at hA11 hy3 hy4 hzy ⊢
  rw [hB] at hy1 hy2 hy3 hy4 hzy HZX
  have HY1 := Lib.hid hy1
  have HY2 := Lib.hid hy2
  have HY3 := Lib.hid hy3
  have HY4 := Lib.hid hy4
  have HX1 := Lib.hid hx1'
  have HX2 := Lib.hid hx2'
  have HA5 := Lib.hid hA5'
  have HA6 := Lib.hid hA6'
  have HN11 := Lib.hid hN11
  have HA11 := Lib.hid hA11
  have HS11 := Lib.hid hS11
  have HZY : Hid (B ≤ g8 ∧ g8 < W11.heap.size) := ⟨hzy, HA11.out.lt⟩
  clear hy1 hy2 hy3 hy4 hA5' hA6' hN11 hA11 hS11 hzy hW11 hg8 hba hby1 hSy hNy hby HDrop HN10 HA10 HS10 hB hx1' hx2' q9 q9' c0 c1 c2 c3 c4 d0 d1 d2 d3 d4 d5 d6
  have hIds := ids_any b r W11 (HBX.out.under HS11.out.below HS11.out.below.size) HOB.out
  have q9 := HS11.out.box.lt
  have c0 := HS11.out.box.cell 0 rfl
  have c1 := HS11.out.box.cell 1 rfl
  have c2 := HS11.out.box.cell 2 rfl
  have c3 := HS11.out.box.cell 3 rfl
  have c4 := HS11.out.box.cell 4 rfl
  have HIds := Lib.hid hIds
  clear hIds
  go_upto_region 9 with (go_at_call 24; refine HIds.out.mono ?_; rintro e w12 ⟨u, rfl, hou, hbu⟩; obtain ⟨pl, cl, hvl, _, _⟩ := hou.len; rw [List.length_map] at hvl; subst hvl)
  have hK : KeepF w w12 b r ⟨p1, r.no, cc1, p2, r.nt, cc2, r.sq, r.fl, r.kp⟩ rx ry pl b.objs.length cl g5 g6 g8 A B W11.heap.size :=
    ⟨HS11.out.below.trans (hbu.mono HS11.out.below.size), HLT.out, HAS.out.2, HZX.out.1, HZX.out.2, HZY.out.1, HZY.out.2, hbu.size, (HS11.out.go hbu).box, HA5.out.under hbu HA5.out.lt, HA6.out.under hbu HA6.out.lt, HA11.out.under hbu HA11.out.lt, HN11.out.below hbu HS11.out.below.size, HW1.out, HW2.out,
      HX1.out.below hbu, HX3.out, HX2.out.below hbu, HX4.out, HY1.out.below hbu, HY3.out, HY2.out.below hbu, HY4.out, ⟨_, by simp, hou⟩, fun k e => (hou.lt k e).1⟩
  obtain ⟨nl, hnl⟩ : ∃ n, b.objs.length = n := ⟨_, rfl⟩
  have hnl2 : nl ≤ 1466015503658 := by have := HOB.out.objs; omega
  obtain ⟨C, hC⟩ : ∃ C, W11.heap.size = C := ⟨_, rfl⟩
  rw [hC] at hK
  rw [hnl] at hK ⊢
  have HK := Lib.hid hK
  clear hK HIds HS11 HA5 HA6 HN11 HA11 HY1 HY2 HY3 HY4 HX1 HX2 HX3 HX4 HW1 HW2 HZX HZY hbu hou hC hnl q9 c0 c1 c2 c3 c4 HAS HLT HOT HT HOKT HR
  -- LOOPS
  go_upto_block 0 with fail
  go_cut [11] from 64 to 79 (fun v wa => Hid (KeepF w wa b r ⟨p1, r.no, cc1, p2, r.nt, cc2, r.sq, r.fl, r.kp⟩ rx ry pl nl cl g5 g6 g8 A B C))
  case first =>
    go_wp2_with fail
    go_loopw [11] (fun i wa => ∃ k : Nat, k ≤ rx.no ∧ i = .int .i64 k ∧ Hid (KeepF w wa b r ⟨p1, r.no, cc1, p2, r.nt, cc2, r.sq, r.fl, r.kp⟩ rx ry pl nl cl g5 g6 g8 A B C)) (fun i _ => rx.no - (intOf i).toNat)
    case atStart => exact ⟨0, Nat.zero_le _, rfl, HK⟩
    case round =>
      obtain ⟨k, hk, rfl, hkf⟩ := hrel
      clear HK
      have c0 := hkf.out.b6.cell 0 (u := .slice rx.po rx.no rx.co) rfl
      have bl := hkf.out.b6.lt
      have hnm := hkf.out.xo.len
      unfold maxLen at hnm
      have hk0 : (0 : Int) ≤ (k : Int) := Int.natCast_nonneg _
      by_cases hlt : k < rx.no
      · have hk1 : (k : Int) < (rx.no : Int) := by omega
        by_cases hex : ex = 0
        · have hex1 : (ex == 0) = true := by simp [hex]
          have hex2 : decide (ex = 0) = true := by simp [hex]
          obtain ⟨ms, hml, hown⟩ := hkf.out.xo
          obtain ⟨x, hx⟩ : ∃ x, ms[k]? = some x := ⟨_, List.getElem?_eq_getElem (by omega)⟩
          obtain ⟨g, hp, hng, hbg, hgl, hcl, hfr⟩ := hown.at codecM hx
          have f0 := hcl 0 _ rfl
          rw [Nat.add_zero] at f0
          have x0 := hfr (k * 6)
          rw [hp] at c0 hown
          have HX : Hid (ms[k]? = some x) := hx
          have HOW := Lib.hid hown
          have HML := Lib.hid hml
          have HP := Lib.hid hp
          clear hx hown hcl hfr hng hml hp hex
          go_wp2_with fail
          go_roundw
          case rel => exact ⟨k + 1, by omega, by go_num, hkf.out.spoilXO (by rw [HP.out]; exact grownBy_set _ _ _ _) (by rw [HP.out]; exact spoilO HOW.out HX.out HML.out)⟩
          case measure => simp [intOf]; omega
        · have hex1 : (ex == 0) = false := by simp [hex]
          have hex2 : decide (ex = 0) = false := by simp [hex]
          clear hex
          go_wp2_with fail
          go_meet
          exact hkf
      · have hk2 : ¬ ((k : Int) < (rx.no : Int)) := by omega
        go_wp2_with fail
        go_meet
        exact hkf
  case rest =>
  have HK := hcut
  go_upto_block 2 with fail
  go_cut [12] from 80 to 91 (fun v wb => Hid (KeepF w wb b r ⟨p1, r.no, cc1, p2, r.nt, cc2, r.sq, r.fl, r.kp⟩ rx ry pl nl cl g5 g6 g8 A B C))
  case first =>
    go_wp2_with fail
    go_loopw [12] (fun i wb => ∃ k : Nat, k ≤ rx.nt ∧ i = .int .i64 k ∧ Hid (KeepF w wb b r ⟨p1, r.no, cc1, p2, r.nt, cc2, r.sq, r.fl, r.kp⟩ rx ry pl nl cl g5 g6 g8 A B C)) (fun i _ => rx.nt - (intOf i).toNat)
    case atStart => exact ⟨0, Nat.zero_le _, rfl, HK⟩
    case round =>
      obtain ⟨k, hk, rfl, hkf⟩ := hrel
      clear HK
      have c0 := hkf.out.b6.cell 1 (u := .slice rx.pt rx.nt rx.ct) rfl
      have bl := hkf.out.b6.lt
      have hnm := hkf.out.xt.len
      unfold maxLen at hnm
      have hk0 : (0 : Int) ≤ (k : Int) := Int.natCast_nonneg _
      by_cases hlt : k < rx.nt
      · have hk1 : (k : Int) < (rx.nt : Int) := by omega
        obtain ⟨ms, hml, hown⟩ := hkf.out.xt
        obtain ⟨x, hx⟩ : ∃ x, ms[k]? = some x := ⟨_, List.getElem?_eq_getElem (by omega)⟩
        obtain ⟨g, hp, hng, hbg, hgl, hcl, hfr⟩ := hown.at codecE hx
        have f0 := hcl 1 _ rfl
        have x0 := hfr (k * 3 + 1)
        rw [hp] at c0 hown
        have HX : Hid (ms[k]? = some x) := hx
        have HOW := Lib.hid hown
        have HML := Lib.hid hml
        have HP := Lib.hid hp
        clear hx hown hcl hfr hng hml hp
        go_wp2_with fail
        go_roundw
        case rel => exact ⟨k + 1, by omega, by go_num, hkf.out.spoilXT (by rw [HP.out]; exact grownBy_set _ _ _ _) (by rw [HP.out]; exact spoilEn HOW.out HX.out HML.out)⟩
        case measure => simp [intOf]; omega
      · have hk2 : ¬ ((k : Int) < (rx.nt : Int)) := by omega
        go_wp2_with fail
        go_meet
        exact hkf
  case rest =>
  have HK := hcut
  go_upto_block 4 with fail
  go_cut [13] from 92 to 107 (fun v wc => Hid (KeepF w wc b r ⟨p1, r.no, cc1, p2, r.nt, cc2, r.sq, r.fl, r.kp⟩ rx ry pl nl cl g5 g6 g8 A B C))
  case first =>
    go_wp2_with fail
    go_loopw [13] (fun i wc => ∃ k : Nat, k ≤ ry.no ∧ i = .int .i64 k ∧ Hid (KeepF w wc b r ⟨p1, r.no, cc1, p2, r.nt, cc2, r.sq, r.fl, r.kp⟩ rx ry pl nl cl g5 g6 g8 A B C)) (fun i _ => ry.no - (intOf i).toNat)
    case atStart => exact ⟨0, Nat.zero_le _, rfl, HK⟩
    case round =>
      obtain ⟨k, hk, rfl, hkf⟩ := hrel
      clear HK
      have c0 := hkf.out.b8.cell 0 (u := .slice ry.po ry.no ry.co) rfl
      have bl := hkf.out.b8.lt
      have hnm := hkf.out.yo.len
      unfold maxLen at hnm
      have hk0 : (0 : Int) ≤ (k : Int) := Int.natCast_nonneg _
      by_cases hlt : k < ry.no
      · have hk1 : (k : Int) < (ry.no : Int) := by omega
        by_cases hex : ey = 0
        · have hex1 : (ey == 0) = true := by simp [hex]
          have hex2 : decide (ey = 0) = true := by simp [hex]
          obtain ⟨ms, hml, hown⟩ := hkf.out.yo
          obtain ⟨x, hx⟩ : ∃ x, ms[k]? = some x := ⟨_, List.getElem?_eq_getElem (by omega)⟩
          obtain ⟨g, hp, hng, hbg, hgl, hcl, hfr⟩ := hown.at codecM hx
          have f0 := hcl 0 _ rfl
          rw [Nat.add_zero] at f0
          have x0 := hfr (k * 6)
          rw [hp] at c0 hown
          have HX : Hid (ms[k]? = some x) := hx
          have HOW := Lib.hid hown
          have HML := Lib.hid hml
          have HP := Lib.hid hp
          clear hx hown hcl hfr hng hml hp hex
          go_wp2_with fail
          go_roundw
          case rel => exact ⟨k + 1, by omega, by go_num, hkf.out.spoilYO (by rw [HP.out]; exact grownBy_set _ _ _ _) (by rw [HP.out]; exact spoilO HOW.out HX.out HML.out)⟩
          case measure => simp [intOf]; omega
        · have hex1 : (ey == 0) = false := by simp [hex]
          have hex2 : decide (ey = 0) = false := by simp [hex]
          clear hex
          go_wp2_with fail
          go_meet
          exact hkf
      · have hk2 : ¬ ((k : Int) < (ry.no : Int)) := by omega
        go_wp2_with fail
        go_meet
        exact hkf
  case rest =>
  have HK := hcut
  go_upto_block 6 with fail
  go_cut [14] from 108 to 119 (fun v wd => Hid (KeepF w wd b r ⟨p1, r.no, cc1, p2, r.nt, cc2, r.sq, r.fl, r.kp⟩ rx ry pl nl cl g5 g6 g8 A B C))
  case first =>
    go_wp2_with fail
    go_loopw [14] (fun i wd => ∃ k : Nat, k ≤ ry.nt ∧ i = .int .i64 k ∧ Hid (KeepF w wd b r ⟨p1, r.no, cc1, p2, r.nt, cc2, r.sq, r.fl, r.kp⟩ rx ry pl nl cl g5 g6 g8 A B C)) (fun i _ => ry.nt - (intOf i).toNat)
    case atStart => exact ⟨0, Nat.zero_le _, rfl, HK⟩
    case round =>
      obtain ⟨k, hk, rfl, hkf⟩ := hrel
      clear HK
      have c0 := hkf.out.b8.cell 1 (u := .slice ry.pt ry.nt ry.ct) rfl
      have bl := hkf.out.b8.lt
      have hnm := hkf.out.yt.len
      unfold maxLen at hnm
      have hk0 : (0 : Int) ≤ (k : Int) := Int.natCast_nonneg _
      by_cases hlt : k < ry.nt
      · have hk1 : (k : Int) < (ry.nt : Int) := by omega
        obtain ⟨ms, hml, hown⟩ := hkf.out.yt
        obtain ⟨x, hx⟩ : ∃ x, ms[k]? = some x := ⟨_, List.getElem?_eq_getElem (by omega)⟩
        obtain ⟨g, hp, hng, hbg, hgl, hcl, hfr⟩ := hown.at codecE hx
        have f0 := hcl 1 _ rfl
        have x0 := hfr (k * 3 + 1)
        rw [hp] at c0 hown
        have HX : Hid (ms[k]? = some x) := hx
        have HOW := Lib.hid hown
        have HML := Lib.hid hml
        have HP := Lib.hid hp
        clear hx hown hcl hfr hng hml hp
        go_wp2_with fail
        go_roundw
        case rel => exact ⟨k + 1, by omega, by go_num, hkf.out.spoilYT (by rw [HP.out]; exact grownBy_set _ _ _ _) (by rw [HP.out]; exact spoilEn HOW.out HX.out HML.out)⟩
        case measure => simp [intOf]; omega
      · have hk2 : ¬ ((k : Int) < (ry.nt : Int)) := by omega
        go_wp2_with fail
        go_meet
        exact hkf
  case rest =>
  have HK := hcut
  go_upto_block 8 with fail
  go_cut [15] from 120 to 128 (fun v we => Hid (KeepF w we b r ⟨p1, r.no, cc1, p2, r.nt, cc2, r.sq, r.fl, r.kp⟩ rx ry pl nl cl g5 g6 g8 A B C))
  case first =>
    go_wp2_with fail
    go_loopw [15] (fun i we => ∃ k : Nat, k ≤ nl ∧ i = .int .i64 k ∧ Hid (KeepF w we b r ⟨p1, r.no, cc1, p2, r.nt, cc2, r.sq, r.fl, r.kp⟩ rx ry pl nl cl g5 g6 g8 A B C)) (fun i _ => nl - (intOf i).toNat)
    case atStart => exact ⟨0, Nat.zero_le _, rfl, HK⟩
    case round =>
      obtain ⟨k, hk, rfl, hkf⟩ := hrel
      clear HK
      have hnm := hkf.out.l.len
      unfold maxLen at hnm
      have hk0 : (0 : Int) ≤ (k : Int) := Int.natCast_nonneg _
      by_cases hlt : k < nl
      · have hk1 : (k : Int) < (nl : Int) := by omega
        obtain ⟨ms, hml, hown⟩ := hkf.out.l
        obtain ⟨x, hx⟩ : ∃ x, ms[k]? = some x := ⟨_, List.getElem?_eq_getElem (by omega)⟩
        obtain ⟨g, hp, hng, hbg, hgl, hcl, hfr⟩ := hown.at codecS hx
        have f0 := hcl 0 _ rfl
        rw [Nat.mul_one, Nat.add_zero] at f0
        have x0 := hfr k
        subst hp
        have HX : Hid (ms[k]? = some x) := hx
        have HOW := Lib.hid hown
        have HML := Lib.hid hml
        clear hx hown hcl hfr hng hml
        go_wp2_with fail
        go_roundw
        case rel => exact ⟨k + 1, by omega, by go_num, hkf.out.spoilL (by exact grownBy_set _ _ _ _) (by exact spoilS HOW.out HX.out HML.out)⟩
        case measure => simp [intOf]; omega
      · have hk2 : ¬ ((k : Int) < (nl : Int)) := by omega
        go_wp2_with fail
        go_meet
        exact hkf
  case rest =>
  have HK := hcut
  go_upto_region 29 with fail
  have q1 := HK.out.b0.lt
  have q5 := HK.out.b5.lt
  have c0 := HK.out.b0.cell 0 rfl
  have c1 := HK.out.b0.cell 1 rfl
  have c2 := HK.out.b0.cell 2 rfl
  have c3 := HK.out.b0.cell 3 rfl
  have c4 := HK.out.b0.cell 4 rfl
  have d0 := HK.out.b5.cell 0 rfl
  have d1 := HK.out.b5.cell 1 rfl
  have d2 := HK.out.b5.cell 2 rfl
  have d3 := HK.out.b5.cell 3 rfl
  have d4 := HK.out.b5.cell 4 rfl
  go_wp2_with fail
  refine (same18_any b b r ⟨p1, r.no, cc1, p2, r.nt, cc2, r.sq, r.fl, r.kp⟩ _ (HBX.out.under HK.out.below HK.out.below.size) (HK.out.was.box HK.out.below.size) HOB.out HOB.out).mono ?_
  rintro e wz ⟨y, rfl, hs, hbz⟩
  obtain rfl : y = true := hs.2 rfl
  go_wp2_with fail
  go_ret
  exact ⟨rfl, HK.out.below.trans (hbz.mono HK.out.below.size)⟩
end Go.Proofs.Ythgkgjcnmahacaa
