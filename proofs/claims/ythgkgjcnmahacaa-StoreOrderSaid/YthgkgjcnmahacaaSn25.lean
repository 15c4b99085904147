import Derived.Test.YthgkgjcnmahacaaSn24
import Derived.Test.YthgkgjcnmahacaaSn12
import Derived.Deep.RegionHeld3
import Derived.Test.YthgkgjcnmahacaaSn22
import Derived.Test.YthgkgjcnmahacaaSn23
/- The law of order, walked. -/
set_option linter.unusedSimpArgs false
set_option linter.unusedVariables false
namespace Go.Proofs.Ythgkgjcnmahacaa
open Go.RowKit Go.OpenShut

/-- The law's three arguments in their blocks. -/
structure PreT (w W : World) (r : RB) (o p : RO) : Prop where
  pre : PreS w W r o
  op2 : OpAt W (w.heap.size + 1 + 1) p
theorem PreT.sizes {w W : World} {r : RB} {o p : RO} (h : PreT w W r o p) : w.heap.size < W.heap.size ∧ w.heap.size + 1 < W.heap.size ∧ w.heap.size + 1 + 1 < W.heap.size := ⟨h.pre.box.lt, h.pre.op.lt, h.op2.lt⟩
theorem PreT.go {w W W' : World} {r : RB} {o p : RO} (h : PreT w W r o p) (hb : Below W.heap.size W W') : PreT w W' r o p := ⟨h.pre.go hb, (hb.block _ h.op2.lt).trans h.op2⟩
theorem PreT.row {w W W' : World} {r : RB} {o p : RO} {row : Option Nat} (h : PreT w W r o p) (hg : W.grownBy W' row) (hr : ∀ k, row = some k → w.heap.size + 1 + 1 < k) : PreT w W' r o p :=
  ⟨h.pre.row hg (fun k e => by have := hr k e; omega), (hg.block _ h.op2.lt (fun e => by have := hr _ e.symm; omega)).trans h.op2⟩
theorem PreT.start (w : World) (r : RB) (o p : RO) : PreT w (((w.alloc r.obj).alloc o.obj).alloc p.obj) r o p := ⟨(PreS.start w r o).go ((Below.refl _ _).alloc (Nat.le_refl _) _), heap_alloc_at (by simp)⟩
/-- A box answered, in a block of the law's own. -/
structure OrdS (w W : World) (r : RB) (o p : RO) (g : Nat) (d : BoxD) (q : RB) : Prop where
  pre : PreT w W r o p
  box : BoxAt W g q
  val : BoxOf W W.heap.size d q
  gt : w.heap.size + 1 + 1 < g
theorem OrdS.go {w W W' : World} {r : RB} {o p : RO} {g : Nat} {d : BoxD} {q : RB} (h : OrdS w W r o p g d q) (hb : Below W.heap.size W W') : OrdS w W' r o p g d q := ⟨h.pre.go hb, h.box.under hb h.box.lt, h.val.under hb hb.size, h.gt⟩
theorem OrdS.store {w W : World} {r : RB} {o p : RO} {g : Nat} {d : BoxD} {q : RB} (h : PreT w W r o p) (hz : BoxAt W g RB.zero) (hv : BoxOf W W.heap.size d q) (hg : w.heap.size + 1 + 1 < g) : OrdS w (((((W.setCell ⟨g, 0, none⟩ (.slice q.po q.no q.co)).setCell ⟨g, 1, none⟩ (.slice q.pt q.nt q.ct)).setCell ⟨g, 2, none⟩ (.int .i64 q.sq)).setCell ⟨g, 3, none⟩ (.int .i64 q.fl)).setCell ⟨g, 4, none⟩ (.int .i64 q.kp)) r o p g d q := by
  have hgr := grownBy_setB W g q
  exact ⟨h.row hgr (fun k e => by cases e; exact hg), hz.stored q, hv.unbox hz hgr, hg⟩

theorem KB.setB {W W' : World} (h : KB W.heap.size W W') (g : Nat) (q : RB) (hg : W.heap.size ≤ g) : KB W.heap.size W (((((W'.setCell ⟨g, 0, none⟩ (.slice q.po q.no q.co)).setCell ⟨g, 1, none⟩ (.slice q.pt q.nt q.ct)).setCell ⟨g, 2, none⟩ (.int .i64 q.sq)).setCell ⟨g, 3, none⟩ (.int .i64 q.fl)).setCell ⟨g, 4, none⟩ (.int .i64 q.kp)) :=
  KB.mk (h.1.grown (grownBy_setB W' g q) h.1.size (fun a e => by cases e; exact hg))
theorem ks_drew (W : World) : Below W.heap.size W W.drew ∧ ∀ b o, b < W.heap.size → World.cell? W.drew ⟨b, o, none⟩ = W.cell? ⟨b, o, none⟩ := KB.drew W
theorem ks_da (W : World) (x : Obj) : Below W.heap.size W (W.alloc x).drew ∧ ∀ b o, b < W.heap.size → World.cell? (W.alloc x).drew ⟨b, o, none⟩ = W.cell? ⟨b, o, none⟩ := (KB.mk ((Below.refl _ _).alloc (Nat.le_refl _) x).drew : KB W.heap.size W (W.alloc x).drew)
theorem ks_same {W W' : World} (h : KB W.heap.size W W') : Below W.heap.size W W' ∧ ∀ b o, b < W.heap.size → World.cell? W' ⟨b, o, none⟩ = W.cell? ⟨b, o, none⟩ := h
theorem ks_alloc {W W' : World} (h : KB W.heap.size W W') (x : Obj) : Below W.heap.size W (W'.alloc x) ∧ ∀ b o, b < W.heap.size → World.cell? (W'.alloc x) ⟨b, o, none⟩ = W.cell? ⟨b, o, none⟩ := h.step ((Below.refl _ _).alloc (Nat.le_refl _) _)
theorem ks_set {W W' : World} (h : KB W.heap.size W W') (g : Nat) (q : RB) (hg : W.heap.size ≤ g) : Below W.heap.size W (((((W'.setCell ⟨g, 0, none⟩ (.slice q.po q.no q.co)).setCell ⟨g, 1, none⟩ (.slice q.pt q.nt q.ct)).setCell ⟨g, 2, none⟩ (.int .i64 q.sq)).setCell ⟨g, 3, none⟩ (.int .i64 q.fl)).setCell ⟨g, 4, none⟩ (.int .i64 q.kp)) ∧ ∀ b o, b < W.heap.size → World.cell? (((((W'.setCell ⟨g, 0, none⟩ (.slice q.po q.no q.co)).setCell ⟨g, 1, none⟩ (.slice q.pt q.nt q.ct)).setCell ⟨g, 2, none⟩ (.int .i64 q.sq)).setCell ⟨g, 3, none⟩ (.int .i64 q.fl)).setCell ⟨g, 4, none⟩ (.int .i64 q.kp)) ⟨b, o, none⟩ = W.cell? ⟨b, o, none⟩ := h.setB g q hg
theorem OrdS.fresh {w W : World} {r : RB} {o p : RO} {d : BoxD} {q : RB} (h : PreT w W r o p) (hv : BoxOf W W.heap.size d q) : OrdS w (W.alloc (.cells #[.slice q.po q.no q.co, .slice q.pt q.nt q.ct, .int .i64 q.sq, .int .i64 q.fl, .int .i64 q.kp] 35)) r o p W.heap.size d q := by
  have hb : Below W.heap.size W (W.alloc (.cells #[.slice q.po q.no q.co, .slice q.pt q.nt q.ct, .int .i64 q.sq, .int .i64 q.fl, .int .i64 q.kp] 35)) := (Below.refl _ _).alloc (Nat.le_refl _) _
  exact ⟨h.go hb, heap_alloc_at rfl, hv.under hb hb.size, h.op2.lt⟩
set_option maxRecDepth 200000 in
set_option maxHeartbeats 16000000 in
theorem storeOrder_any (w : World) (b : BoxD) (r : RB) (o p : RO) (t u : JV) (hb : BoxOf w w.heap.size b r) (ob : b.Ok) (ht : TreeOf w w.heap.size t o.v) (ot : OpOk o t) (hu : TreeOf w w.heap.size u p.v) (ou : OpOk p u) :
    Calls Try.prog 6 #[r.val, o.val, p.val] w fun e w' => e = .returned (.bool true) ∧ Below w.heap.size w w' := by
  have hS := PreT.start w r o p
  have HBX := Lib.hid hb
  have HOB := Lib.hid ob
  have HT := Lib.hid ht
  have HOT := Lib.hid ot
  have HU := Lib.hid hu
  have HOU := Lib.hid ou
  clear hb ob ht ot hu ou
  go_enter Try.func6, Try.ntmps6
  go_upto_region 1 with fail
  obtain ⟨W0, hW0⟩ : ∃ W0, (((w.alloc r.obj).alloc o.obj).alloc p.obj) = W0 := ⟨_, rfl⟩
  rw [hW0] at hS
  dsimp only [RB.obj, RO.obj] at hW0
  rw [hW0]
  clear hW0
  have HS0 := Lib.hid hS
  clear hS
  go_wp2_with fail
  refine (awake18_any _).mono ?_
  rintro e w1 ⟨rfl, hb1⟩
  have HS1 := Lib.hid (HS0.out.go hb1)
  clear HS0 hb1
  have c0 := HS1.out.pre.box.cell 0 rfl
  have c1 := HS1.out.pre.box.cell 1 rfl
  have c2 := HS1.out.pre.box.cell 2 rfl
  have c3 := HS1.out.pre.box.cell 3 rfl
  have c4 := HS1.out.pre.box.cell 4 rfl
  have q1 := HS1.out.sizes
  go_wp2_with fail
  refine (few18_any b r w1 (HBX.out.under HS1.out.pre.below HS1.out.pre.below.size) HOB.out).mono ?_
  rintro e w2 ⟨y, rfl, HF, hb2⟩
  have HS2 := Lib.hid (HS1.out.go hb2)
  clear HS1 hb2 q1 c0 c1 c2 c3 c4
  cases y with
  | false =>
    go_wp2_with fail
    refine (awake18_any _).mono ?_
    rintro e wz ⟨rfl, hbz⟩
    go_wp2_with fail
    go_ret
    exact ⟨rfl, (HS2.out.go hbz).pre.below⟩
  | true =>
  have c0 := HS2.out.pre.box.cell 0 rfl
  have c1 := HS2.out.pre.box.cell 1 rfl
  have c2 := HS2.out.pre.box.cell 2 rfl
  have c3 := HS2.out.pre.box.cell 3 rfl
  have c4 := HS2.out.pre.box.cell 4 rfl
  have q1 := HS2.out.sizes
  go_wp2_with fail
  refine (rightS_any b r w2 (HBX.out.under HS2.out.pre.below HS2.out.pre.below.size) HOB.out).mono ?_
  rintro e w3 ⟨y, rfl, hright, hb3⟩
  have HS3 := Lib.hid (HS2.out.go hb3)
  clear HS2 hb3 q1 c0 c1 c2 c3 c4
  cases y with
  | false =>
    go_wp2_with fail
    refine (awake18_any _).mono ?_
    rintro e wz ⟨rfl, hbz⟩
    go_wp2_with fail
    go_ret
    exact ⟨rfl, (HS3.out.go hbz).pre.below⟩
  | true =>
  have HR : Hid (RightBx b) := hright.1 rfl
  clear hright
  have d0 := HS3.out.pre.op.cell 0 rfl
  have d1 := HS3.out.pre.op.cell 1 rfl
  have d2 := HS3.out.pre.op.cell 2 rfl
  have d3 := HS3.out.pre.op.cell 3 rfl
  have d4 := HS3.out.pre.op.cell 4 rfl
  have d5 := HS3.out.pre.op.cell 5 rfl
  have d6 := HS3.out.pre.op.cell 6 rfl
  have q1 := HS3.out.sizes
  go_wp2_with fail
  refine (few7_any t o.v 200 w3 (HT.out.under HS3.out.pre.below HS3.out.pre.below.size) HOT.out.2).mono ?_
  rintro e w4 ⟨y, rfl, _, hb4⟩
  have HS4 := Lib.hid (HS3.out.go hb4)
  clear HS3 hb4 q1 d0 d1 d2 d3 d4 d5 d6
  cases y with
  | false =>
    go_wp2_with fail
    refine (awake18_any _).mono ?_
    rintro e wz ⟨rfl, hbz⟩
    go_wp2_with fail
    go_ret
    exact ⟨rfl, (HS4.out.go hbz).pre.below⟩
  | true =>
  have e0 := HS4.out.op2.cell 0 rfl
  have e1 := HS4.out.op2.cell 1 rfl
  have e2 := HS4.out.op2.cell 2 rfl
  have e3 := HS4.out.op2.cell 3 rfl
  have e4 := HS4.out.op2.cell 4 rfl
  have e5 := HS4.out.op2.cell 5 rfl
  have e6 := HS4.out.op2.cell 6 rfl
  have q1 := HS4.out.sizes
  go_wp2_with fail
  refine (few7_any u p.v 200 w4 (HU.out.under HS4.out.pre.below HS4.out.pre.below.size) HOU.out.2).mono ?_
  rintro e w5 ⟨y, rfl, _, hb5⟩
  have HS5 := Lib.hid (HS4.out.go hb5)
  clear HS4 hb5 q1 e0 e1 e2 e3 e4 e5 e6
  cases y with
  | false =>
    go_wp2_with fail
    refine (awake18_any _).mono ?_
    rintro e wz ⟨rfl, hbz⟩
    go_wp2_with fail
    go_ret
    exact ⟨rfl, (HS5.out.go hbz).pre.below⟩
  | true =>
  have c0 := HS5.out.pre.box.cell 0 rfl
  have c1 := HS5.out.pre.box.cell 1 rfl
  have c2 := HS5.out.pre.box.cell 2 rfl
  have c3 := HS5.out.pre.box.cell 3 rfl
  have c4 := HS5.out.pre.box.cell 4 rfl
  have d0 := HS5.out.pre.op.cell 0 rfl
  have d1 := HS5.out.pre.op.cell 1 rfl
  have d2 := HS5.out.pre.op.cell 2 rfl
  have d3 := HS5.out.pre.op.cell 3 rfl
  have d4 := HS5.out.pre.op.cell 4 rfl
  have d5 := HS5.out.pre.op.cell 5 rfl
  have d6 := HS5.out.pre.op.cell 6 rfl
  have e0 := HS5.out.op2.cell 0 rfl
  have e1 := HS5.out.op2.cell 1 rfl
  have e2 := HS5.out.op2.cell 2 rfl
  have e3 := HS5.out.op2.cell 3 rfl
  have e4 := HS5.out.op2.cell 4 rfl
  have e5 := HS5.out.op2.cell 5 rfl
  have e6 := HS5.out.op2.cell 6 rfl
  have q1 := HS5.out.sizes
  by_cases hid : o.id = p.id
  · have he1 : (o.id.toList == p.id.toList) = true := by rw [str_beq]; simpa using hid
    clear hid
    go_wp2_with fail
    refine (awake18_any _).mono ?_
    rintro e wz ⟨rfl, hbz⟩
    go_wp2_with fail
    go_ret
    exact ⟨rfl, (HS5.out.go hbz).pre.below⟩
  · have he1 : (o.id.toList == p.id.toList) = false := by rw [str_beq]; simpa using hid
    have HID := Lib.hid hid
    clear hid
    by_cases hsq : (1125899906842624 : Int) < r.sq
    · have hs1 : decide ((1125899906842624 : Int) < r.sq) = true := by simp [hsq]
      go_wp2_with fail
      refine (awake18_any _).mono ?_
      rintro e wz ⟨rfl, hbz⟩
      go_wp2_with fail
      go_ret
      exact ⟨rfl, (HS5.out.go hbz).pre.below⟩
    · have hs1 : decide ((1125899906842624 : Int) < r.sq) = false := by simp [hsq]
      have HSQ := Lib.hid hsq
      clear hsq
      go_wp2_with fail
      refine (gone_any b r o.id w5 (HBX.out.under HS5.out.pre.below HS5.out.pre.below.size) (rise_iff.1 HR.out.1) HOB.out).mono ?_
      rintro e w6 ⟨y, rfl, hy, hb6⟩
      have HS6 := Lib.hid (HS5.out.go hb6)
      have HY1 := Lib.hid hy
      clear HS5 hb6 q1 hy c0 c1 c2 c3 c4 d0 d1 d2 d3 d4 d5 d6 e0 e1 e2 e3 e4 e5 e6 he1 hs1
      cases y with
      | true =>
        go_wp2_with fail
        refine (awake18_any _).mono ?_
        rintro e wz ⟨rfl, hbz⟩
        go_wp2_with fail
        go_ret
        exact ⟨rfl, (HS6.out.go hbz).pre.below⟩
      | false =>
      have c0 := HS6.out.pre.box.cell 0 rfl
      have c1 := HS6.out.pre.box.cell 1 rfl
      have c2 := HS6.out.pre.box.cell 2 rfl
      have c3 := HS6.out.pre.box.cell 3 rfl
      have c4 := HS6.out.pre.box.cell 4 rfl
      have e0 := HS6.out.op2.cell 0 rfl
      have e1 := HS6.out.op2.cell 1 rfl
      have e2 := HS6.out.op2.cell 2 rfl
      have e3 := HS6.out.op2.cell 3 rfl
      have e4 := HS6.out.op2.cell 4 rfl
      have e5 := HS6.out.op2.cell 5 rfl
      have e6 := HS6.out.op2.cell 6 rfl
      have q1 := HS6.out.sizes
      go_wp2_with fail
      refine (gone_any b r p.id w6 (HBX.out.under HS6.out.pre.below HS6.out.pre.below.size) (rise_iff.1 HR.out.1) HOB.out).mono ?_
      rintro e w7 ⟨y, rfl, hy, hb7⟩
      have HS7 := Lib.hid (HS6.out.go hb7)
      have HY2 := Lib.hid hy
      clear HS6 hb7 q1 hy c0 c1 c2 c3 c4 e0 e1 e2 e3 e4 e5 e6
      cases y with
      | true =>
        go_wp2_with fail
        refine (awake18_any _).mono ?_
        rintro e wz ⟨rfl, hbz⟩
        go_wp2_with fail
        go_ret
        exact ⟨rfl, (HS7.out.go hbz).pre.below⟩
      | false =>
      have HG1 : Hid (NotGone b o.id) := Classical.byContradiction fun h => absurd (HY1.out.2 h) (by decide)
      have HG2 : Hid (NotGone b p.id) := Classical.byContradiction fun h => absurd (HY2.out.2 h) (by decide)
      go_upto_region 3 with fail
      clear HY1 HY2
      have HDO : ∀ (k1 : Int) (i1 : ByteArray) (v1 : JV), i1.size ≤ 140737488351232 → v1.Ok → NotGone b i1 → Rising (doesB b k1 i1 v1).objs ∧ (doesB b k1 i1 v1).Ok ∧ (∀ x ∈ (doesB b k1 i1 v1).trail, x.ok) ∧ (doesB b k1 i1 v1).objs.length ≤ 1000 ∧ (doesB b k1 i1 v1).trail.length ≤ 1000 := by
        intro k1 i1 v1 h1 h2 h3
        have hsq : b.seq ≤ 1125899906842624 := by rw [HBX.out.seq]; exact HSQ.out
        have hf := HF.out trivial
        have hk := doesB_ok (k := k1) HOB.out (rdE_iff.1 HBX.out.trail).1 (by omega) (by omega) h1 h2
        exact ⟨rise_iff.2 (doesB_to (rise_iff.1 HR.out.1) (by omega) h3).rise, hk.1, doesB_trail HOB.out (rdE_iff.1 HBX.out.trail).1 h1, by have := hk.2.1; omega, by have := hk.2.2; omega⟩
      have hd1 := HDO o.k o.id t HOT.out.1 HOT.out.2 HG1.out
      have hd2 := HDO p.k p.id u HOU.out.1 HOU.out.2 HG2.out
      have hord := order_law (k1 := o.k) (k2 := p.k) (v1 := t) (v2 := u) (rise_iff.1 HR.out.1) (by have := HSQ.out; rw [← HBX.out.seq] at this; omega) HID.out HG1.out HG2.out
      have HX1 : Hid (∀ W, Below w.heap.size w W → Calls Try.prog 33 #[r.val, o.val] W (DoesRet W (doesB b o.k o.id t))) := fun W hW =>
        does_any b r o t W (HBX.out.under hW hW.size) HR.out.1 HOB.out (HT.out.under hW hW.size) HOT.out
      have HY1 : Hid (∀ W, Below w.heap.size w W → Calls Try.prog 33 #[r.val, p.val] W (DoesRet W (doesB b p.k p.id u))) := fun W hW =>
        does_any b r p u W (HBX.out.under hW hW.size) HR.out.1 HOB.out (HU.out.under hW hW.size) HOU.out
      have HX2 : Hid (∀ W q, Below w.heap.size w W → BoxOf W W.heap.size (doesB b o.k o.id t) q → Calls Try.prog 33 #[q.val, p.val] W (DoesRet W (doesB (doesB b o.k o.id t) p.k p.id u))) := fun W q hW hq =>
        does_any _ q p u W hq hd1.1 hd1.2.1 (HU.out.under hW hW.size) HOU.out
      have HY2 : Hid (∀ W q, Below w.heap.size w W → BoxOf W W.heap.size (doesB b p.k p.id u) q → Calls Try.prog 33 #[q.val, o.val] W (DoesRet W (doesB (doesB b p.k p.id u) o.k o.id t))) := fun W q hW hq =>
        does_any _ q o t W hq hd2.1 hd2.2.1 (HT.out.under hW hW.size) HOT.out
      have hdx := (doesB_ok (k := p.k) hd1.2.1 hd1.2.2.1 hd1.2.2.2.1 hd1.2.2.2.2 HOU.out.1 HOU.out.2).1
      have hdy := (doesB_ok (k := o.k) hd2.2.1 hd2.2.2.1 hd2.2.2.2.1 hd2.2.2.2.2 HOT.out.1 HOT.out.2).1
      have HDOK := Lib.hid (And.intro hdx hdy)
      have HORD := Lib.hid hord
      clear hord hd1 hd2 HDO hdx hdy
      obtain ⟨dx1, hdx1⟩ : ∃ d, doesB b o.k o.id t = d := ⟨_, rfl⟩
      obtain ⟨dy1, hdy1⟩ : ∃ d, doesB b p.k p.id u = d := ⟨_, rfl⟩
      rw [hdx1] at HX1 HX2 HORD HDOK
      rw [hdy1] at HY1 HY2 HORD HDOK
      obtain ⟨dx, hdx⟩ : ∃ d, doesB dx1 p.k p.id u = d := ⟨_, rfl⟩
      obtain ⟨dy, hdy⟩ : ∃ d, doesB dy1 o.k o.id t = d := ⟨_, rfl⟩
      rw [hdx] at HX2 HORD HDOK
      rw [hdy] at HY2 HORD HDOK
      clear hdx1 hdy1 hdx hdy
      have c0 := HS7.out.pre.box.cell 0 rfl
      have c1 := HS7.out.pre.box.cell 1 rfl
      have c2 := HS7.out.pre.box.cell 2 rfl
      have c3 := HS7.out.pre.box.cell 3 rfl
      have c4 := HS7.out.pre.box.cell 4 rfl
      have d0 := HS7.out.pre.op.cell 0 rfl
      have d1 := HS7.out.pre.op.cell 1 rfl
      have d2 := HS7.out.pre.op.cell 2 rfl
      have d3 := HS7.out.pre.op.cell 3 rfl
      have d4 := HS7.out.pre.op.cell 4 rfl
      have d5 := HS7.out.pre.op.cell 5 rfl
      have d6 := HS7.out.pre.op.cell 6 rfl
      have e0 := HS7.out.op2.cell 0 rfl
      have e1 := HS7.out.op2.cell 1 rfl
      have e2 := HS7.out.op2.cell 2 rfl
      have e3 := HS7.out.op2.cell 3 rfl
      have e4 := HS7.out.op2.cell 4 rfl
      have e5 := HS7.out.op2.cell 5 rfl
      have e6 := HS7.out.op2.cell 6 rfl
      have q1 := HS7.out.sizes
      have HZA : Hid (BoxAt (w7.alloc (.cells #[.slice RB.zero.po RB.zero.no RB.zero.co, .slice RB.zero.pt RB.zero.nt RB.zero.ct, .int .i64 RB.zero.sq, .int .i64 RB.zero.fl, .int .i64 RB.zero.kp] 35)).drew w7.heap.size RB.zero) := heap_alloc_at rfl
      dsimp only [RB.zero] at HZA
      go_cut [7] from 59 to 63 (fun v wr => ∃ g q, v = .pointer (some ⟨g, 0, none⟩) ∧ Hid (OrdS w wr r o p g dx q ∧ Below w7.heap.size w7 wr))
      case first =>
        go_region_held3 (fun w' => Below w7.heap.size w7 w' ∧ ∀ b o, b < w7.heap.size → w'.cell? ⟨b, o, none⟩ = w7.cell? ⟨b, o, none⟩)
          (first | with_reducible exact ks_drew w7 | with_reducible exact ks_same hbk | with_reducible exact ks_alloc hbk _ | with_reducible exact ks_da w7 _ | (with_reducible refine ks_set hbk _ _ ?_; first | exact Nat.le_refl _ | (simp; omega) | omega))
          (first
            | (go_at_call 33; refine (HX2.out _ q8 (KB.fin (by assumption) HS7.out.pre.below HS7.out.pre.below.size) ?_).mono ?_; (first | exact HQ8.out | exact HQ8.out.under ((Below.refl _ _).alloc (Nat.le_refl _) _) (by simp)); rintro e w9 ⟨q9, rfl, hq9, hb9⟩; (have hbk := KB.step (W := w7) (by assumption) hb9); (have HQ9 := Lib.hid hq9); (have hs9 := hbk.1.size); (first | ((have HZ9 := Lib.hid (HZ8.out.under hb9 HZ8.out.lt)); (have z0 := HZ9.out.cell 0 rfl); (have z1 := HZ9.out.cell 1 rfl); (have z2 := HZ9.out.cell 2 rfl); (have z3 := HZ9.out.cell 3 rfl); (have z4 := HZ9.out.cell 4 rfl); (have y0 := HZ9.out.frozen 0); (have y1 := HZ9.out.frozen 1); (have y2 := HZ9.out.frozen 2); (have y3 := HZ9.out.frozen 3); (have y4 := HZ9.out.frozen 4); dsimp only [RB.zero] at z0 z1 z2 z3 z4) | ((have HZ8' : BoxAt (w8.alloc (.cells #[.slice none 0 0, .slice none 0 0, .int .i64 0, .int .i64 0, .int .i64 0] 35)) w8.heap.size RB.zero := heap_alloc_at rfl); (have HZ9 := Lib.hid (HZ8'.under hb9 (by simp))); (have z0 := HZ9.out.cell 0 rfl); (have z1 := HZ9.out.cell 1 rfl); (have z2 := HZ9.out.cell 2 rfl); (have z3 := HZ9.out.cell 3 rfl); (have z4 := HZ9.out.cell 4 rfl); (have y0 := HZ9.out.frozen 0); (have y1 := HZ9.out.frozen 1); (have y2 := HZ9.out.frozen 2); (have y3 := HZ9.out.frozen 3); (have y4 := HZ9.out.frozen 4); dsimp only [RB.zero] at z0 z1 z2 z3 z4) | skip))
            | (go_at_call 33; refine (HX1.out _ (KB.fin (by assumption) HS7.out.pre.below HS7.out.pre.below.size)).mono ?_; rintro e w8 ⟨q8, rfl, hq8, hb8⟩; (have hbk := KB.step (W := w7) (by assumption) hb8); (have HQ8 := Lib.hid hq8); (have hs8 := hbk.1.size); (first | (have HZ8 := Lib.hid (HZA.out.under hb8 HZA.out.lt)) | skip)))
        all_goals (
          go_wp2_with fail
          go_meet
          first
            | (have hz := HZ9
               exact ⟨_, q9, rfl, OrdS.store (HS7.out.go hbk.1) hz.out HQ9.out (by have := HS7.out.op2.lt; omega), (KB.setB hbk _ _ (by omega)).1⟩)
            | exact ⟨_, q9, rfl, OrdS.fresh (HS7.out.go hbk.1) HQ9.out, (KB.step (W := w7) hbk ((Below.refl _ _).alloc (Nat.le_refl _) _)).1⟩)
      case rest =>
      obtain ⟨gx, qx, rfl, hx⟩ := hcut
      have HXS := Lib.hid hx.out.1
      have HT8 := Lib.hid hx.out.1.pre
      clear hx c0 c1 c2 c3 c4 d0 d1 d2 d3 d4 d5 d6 e0 e1 e2 e3 e4 e5 e6 HZA q1 HS7
      go_upto_region 4 with fail
      have c0 := HT8.out.pre.box.cell 0 rfl
      have c1 := HT8.out.pre.box.cell 1 rfl
      have c2 := HT8.out.pre.box.cell 2 rfl
      have c3 := HT8.out.pre.box.cell 3 rfl
      have c4 := HT8.out.pre.box.cell 4 rfl
      have d0 := HT8.out.pre.op.cell 0 rfl
      have d1 := HT8.out.pre.op.cell 1 rfl
      have d2 := HT8.out.pre.op.cell 2 rfl
      have d3 := HT8.out.pre.op.cell 3 rfl
      have d4 := HT8.out.pre.op.cell 4 rfl
      have d5 := HT8.out.pre.op.cell 5 rfl
      have d6 := HT8.out.pre.op.cell 6 rfl
      have e0 := HT8.out.op2.cell 0 rfl
      have e1 := HT8.out.op2.cell 1 rfl
      have e2 := HT8.out.op2.cell 2 rfl
      have e3 := HT8.out.op2.cell 3 rfl
      have e4 := HT8.out.op2.cell 4 rfl
      have e5 := HT8.out.op2.cell 5 rfl
      have e6 := HT8.out.op2.cell 6 rfl
      have q1 := HT8.out.sizes
      have HZA : Hid (BoxAt (wc.alloc (.cells #[.slice RB.zero.po RB.zero.no RB.zero.co, .slice RB.zero.pt RB.zero.nt RB.zero.ct, .int .i64 RB.zero.sq, .int .i64 RB.zero.fl, .int .i64 RB.zero.kp] 35)).drew wc.heap.size RB.zero) := heap_alloc_at rfl
      dsimp only [RB.zero] at HZA
      go_cut [8] from 64 to 68 (fun v wr => ∃ g q, v = .pointer (some ⟨g, 0, none⟩) ∧ Hid (OrdS w wr r o p g dy q ∧ Below wc.heap.size wc wr))
      case first =>
        go_region_held3 (fun w' => Below wc.heap.size wc w' ∧ ∀ b o, b < wc.heap.size → w'.cell? ⟨b, o, none⟩ = wc.cell? ⟨b, o, none⟩)
          (first | with_reducible exact ks_drew wc | with_reducible exact ks_same hbk | with_reducible exact ks_alloc hbk _ | with_reducible exact ks_da wc _ | (with_reducible refine ks_set hbk _ _ ?_; first | exact Nat.le_refl _ | (simp; omega) | omega))
          (first
            | (go_at_call 33; refine (HY2.out _ q8 (KB.fin (by assumption) HT8.out.pre.below HT8.out.pre.below.size) ?_).mono ?_; (first | exact HQ8.out | exact HQ8.out.under ((Below.refl _ _).alloc (Nat.le_refl _) _) (by simp)); rintro e w9 ⟨q9, rfl, hq9, hb9⟩; (have hbk := KB.step (W := wc) (by assumption) hb9); (have HQ9 := Lib.hid hq9); (have hs9 := hbk.1.size); (first | ((have HZ9 := Lib.hid (HZ8.out.under hb9 HZ8.out.lt)); (have z0 := HZ9.out.cell 0 rfl); (have z1 := HZ9.out.cell 1 rfl); (have z2 := HZ9.out.cell 2 rfl); (have z3 := HZ9.out.cell 3 rfl); (have z4 := HZ9.out.cell 4 rfl); (have y0 := HZ9.out.frozen 0); (have y1 := HZ9.out.frozen 1); (have y2 := HZ9.out.frozen 2); (have y3 := HZ9.out.frozen 3); (have y4 := HZ9.out.frozen 4); dsimp only [RB.zero] at z0 z1 z2 z3 z4) | ((have HZ8' : BoxAt (w8.alloc (.cells #[.slice none 0 0, .slice none 0 0, .int .i64 0, .int .i64 0, .int .i64 0] 35)) w8.heap.size RB.zero := heap_alloc_at rfl); (have HZ9 := Lib.hid (HZ8'.under hb9 (by simp))); (have z0 := HZ9.out.cell 0 rfl); (have z1 := HZ9.out.cell 1 rfl); (have z2 := HZ9.out.cell 2 rfl); (have z3 := HZ9.out.cell 3 rfl); (have z4 := HZ9.out.cell 4 rfl); (have y0 := HZ9.out.frozen 0); (have y1 := HZ9.out.frozen 1); (have y2 := HZ9.out.frozen 2); (have y3 := HZ9.out.frozen 3); (have y4 := HZ9.out.frozen 4); dsimp only [RB.zero] at z0 z1 z2 z3 z4) | skip))
            | (go_at_call 33; refine (HY1.out _ (KB.fin (by assumption) HT8.out.pre.below HT8.out.pre.below.size)).mono ?_; rintro e w8 ⟨q8, rfl, hq8, hb8⟩; (have hbk := KB.step (W := wc) (by assumption) hb8); (have HQ8 := Lib.hid hq8); (have hs8 := hbk.1.size); (first | (have HZ8 := Lib.hid (HZA.out.under hb8 HZA.out.lt)) | skip)))
        all_goals (
          go_wp2_with fail
          go_meet
          first
            | (have hz := HZ9
               exact ⟨_, q9, rfl, OrdS.store (HT8.out.go hbk.1) hz.out HQ9.out (by have := HT8.out.op2.lt; omega), (KB.setB hbk _ _ (by omega)).1⟩)
            | exact ⟨_, q9, rfl, OrdS.fresh (HT8.out.go hbk.1) HQ9.out, (KB.step (W := wc) hbk ((Below.refl _ _).alloc (Nat.le_refl _) _)).1⟩)
      case rest =>
      obtain ⟨gy, qy, rfl, hy⟩ := hcut
      have HXS2 := Lib.hid (HXS.out.go hy.out.2)
      have HYS := Lib.hid hy.out.1
      clear hy c0 c1 c2 c3 c4 d0 d1 d2 d3 d4 d5 d6 e0 e1 e2 e3 e4 e5 e6 HZA q1 HXS HT8 HX1 HX2 HY1 HY2
      have c0 := HXS2.out.box.cell 0 rfl
      have c1 := HXS2.out.box.cell 1 rfl
      have c2 := HXS2.out.box.cell 2 rfl
      have c3 := HXS2.out.box.cell 3 rfl
      have c4 := HXS2.out.box.cell 4 rfl
      have d0 := HYS.out.box.cell 0 rfl
      have d1 := HYS.out.box.cell 1 rfl
      have d2 := HYS.out.box.cell 2 rfl
      have d3 := HYS.out.box.cell 3 rfl
      have d4 := HYS.out.box.cell 4 rfl
      have hsq : qx.sq = qy.sq := by rw [← HXS2.out.val.seq, ← HYS.out.val.seq]; exact HORD.out.1
      have hno : qx.no = qy.no := by rw [← HXS2.out.val.objs.nlen, ← HYS.out.val.objs.nlen, HORD.out.2]
      have s1 : (qx.sq != qy.sq) = false := by simp [hsq]
      have s2 : ((qx.no : Int) != (qy.no : Int)) = false := by simp [hno]
      have s3 : (qx.sq == qy.sq) = true := by simp [hsq]
      have s4 : ((qx.no : Int) == (qy.no : Int)) = true := by simp [hno]
      have HNO := Lib.hid hno
      clear hsq hno
      go_wp2_with fail
      go_loopw [9] (fun i wr => ∃ k : Nat, k ≤ qx.no ∧ i = .int .i64 k ∧ Hid (OrdS w wr r o p gx dx qx ∧ OrdS w wr r o p gy dy qy)) (fun i _ => qx.no - (intOf i).toNat)
      case atStart => exact ⟨0, Nat.zero_le _, rfl, HXS2.out, HYS.out⟩
      case round =>
        obtain ⟨k, hk, rfl, hxy⟩ := hrel
        clear c0 c1 c2 c3 c4 d0 d1 d2 d3 d4 s1 s2 s3 s4 HXS2 HYS
        have c0 := hxy.out.1.box.cell 0 (u := .slice qx.po qx.no qx.co) rfl
        have d0 := hxy.out.2.box.cell 0 (u := .slice qy.po qy.no qy.co) rfl
        have q1 := hxy.out.1.box.lt
        have q2 := hxy.out.2.box.lt
        obtain ⟨ras, hra, hma⟩ := hxy.out.1.val.objs
        obtain ⟨rbs, hrb, hmb⟩ := hxy.out.2.val.objs
        have hn1 := rd_nlen hra
        have hn2 := rd_nlen hrb
        have hn3 := hma.len
        have hn4 := HNO.out
        have hn5 := HDOK.out.1.objs
        have HLE : Hid (qx.no ≤ 1466015503658) := by unfold Hid; omega
        have hnx := HLE.out
        by_cases hlt : k < qx.no
        · obtain ⟨x, hx⟩ : ∃ x, ras[k]? = some x := ⟨_, List.getElem?_eq_getElem (by omega)⟩
          obtain ⟨y, hy⟩ : ∃ x, rbs[k]? = some x := ⟨_, List.getElem?_eq_getElem (by omega)⟩
          obtain ⟨z, hz⟩ : ∃ x, dx.objs[k]? = some x := ⟨_, List.getElem?_eq_getElem (by omega)⟩
          have hz2 : dy.objs[k]? = some z := by rw [← HORD.out.2]; exact hz
          have hnm : x.name = y.name := by rw [← hma.name _ z x hz hx, ← hmb.name _ z y hz2 hy]
          have HTX := Lib.hid (hma.val _ z x hz hx)
          have HTY := Lib.hid (hmb.val _ z y hz2 hy)
          have HOZ : Hid z.2.Ok := (HDOK.out.1.each z (List.mem_of_getElem? hz)).2
          obtain ⟨b1, o1, hpo, hb1, hc1⟩ := rd_at' hra hx
          obtain ⟨b2, o2, hqo, hb2, hc2⟩ := rd_at' hrb hy
          rw [hpo] at c0
          rw [hqo] at d0
          have f0 := hc1 0 _ rfl
          have f1 := hc1 1 _ rfl
          have f2 := hc1 2 _ rfl
          have f3 := hc1 3 _ rfl
          have f4 := hc1 4 _ rfl
          have f5 := hc1 5 _ rfl
          have g0 := hc2 0 _ rfl
          have g1 := hc2 1 _ rfl
          have g2 := hc2 2 _ rfl
          have g3 := hc2 3 _ rfl
          have g4 := hc2 4 _ rfl
          have g5 := hc2 5 _ rfl
          rw [Nat.add_zero] at f0 g0
          have hk0 : (0 : Int) ≤ (k : Int) := Int.natCast_nonneg _
          have hk1 : (k : Int) < (qx.no : Int) := by omega
          have hk2 : (k : Int) < (qy.no : Int) := by omega
          have e2 : (x.name.toList == y.name.toList) = true := by rw [str_beq]; simpa using hnm
          have e1 : (x.name.toList != y.name.toList) = false := by rw [bne, e2]; rfl
          have HSM : Hid (∀ W, KB wr.heap.size wr W → Calls Try.prog 31 #[x.v.val, y.v.val] W fun e w' => e = .returned (.bool true) ∧ Below W.heap.size W w') := fun W hkb =>
            (same5_any _ z.2 z.2 x.v y.v W (Nat.le_refl _) (HTX.out.under hkb.1 hkb.1.size) (HTY.out.under hkb.1 hkb.1.size) HOZ.out HOZ.out).mono fun e w' h => h.yes rfl
          clear hx hy hz hz2 hnm hc1 hc2 hra hrb hma hmb hn1 hn2 hn3 hn4 hn5 hpo hqo
          go_wp2_with fail
          go_region_held3 (fun w' => Below wr.heap.size wr w' ∧ ∀ b o, b < wr.heap.size → w'.cell? ⟨b, o, none⟩ = wr.cell? ⟨b, o, none⟩)
            (first | exact KB.drew wr | exact hbk)
            ((go_at_call 31; refine (HSM.out _ (by assumption)).mono ?_; rintro e w2 ⟨rfl, hbs⟩; have hbk := KB.step (W := wr) (by assumption) hbs))
          rename (Below wr.heap.size wr _ ∧ _) => hkb
          go_wp2_with fail
          go_roundw
          case rel => exact ⟨k + 1, by omega, by go_num, hxy.out.1.go hkb.1, hxy.out.2.go hkb.1⟩
          case measure => simp [intOf]; omega
        · have hk2 : ¬ ((k : Int) < (qx.no : Int)) := by omega
          clear hra hrb hma hmb hn1 hn2 hn3 hn4 hn5
          go_wp2_with fail
          go_ret
          exact ⟨rfl, hxy.out.1.pre.pre.below⟩
end Go.Proofs.Ythgkgjcnmahacaa
