import Derived.Test.YtanemojiaahbgaaGreatDoorSf42
import Derived.Test.YtanemojiaahbgaaGreatDoorSf28
import Derived.Test.YtanemojiaahbgaaGreatDoorSf43
/- ref26.Get, walked: what came in under a bound of its own. (Printed by gen/getb.py.) -/
set_option linter.unusedSimpArgs false
set_option linter.unusedVariables false
namespace Go.Proofs.YtanemojiaahbgaaGreatDoor
open Go Go.RowKit Go.OpenShut

theorem inB_take {l : List ByteArray} {k : Nat} {y x : ByteArray} (h : l[k]? = some y) : inB (l.take (k + 1)) x = (inB (l.take k) x || decide (y = x)) := by
  unfold inB
  rw [List.take_add_one, h, List.any_append]
  simp
theorem foldU_take {l acc : List ByteArray} {k : Nat} {y : ByteArray} (h : l[k]? = some y) : (l.take (k + 1)).foldl addU acc = addU ((l.take k).foldl addU acc) y := by
  rw [List.take_add_one, h, Option.toList_some, List.foldl_append]
  rfl
theorem asked_whole {b : BoxD} {v : JV} (h : v.k = 1 → v.l = []) : (v.l.map JV.s).foldl addU (if v.k = 1 then b.objs.map (·.1) else []) = askedL b v := by
  unfold askedL
  by_cases h1 : v.k = 1
  · rw [if_pos h1, if_pos h1, h h1]
    rfl
  · rw [if_neg h1, if_neg h1]
/-- What Find told, laid into a cell of its own. -/
structure FdR (w0 : World) (B : Nat) (o : Option JV) (g : Nat) (rv : RV) (w : World) : Prop where
  at' : VAt w g rv
  ge : w0.heap.size ≤ g
  tree : TreeOf w B (o.getD JV.zero) rv
  below : Below w0.heap.size w0 w
theorem FdR.fresh {w0 w : World} {B : Nat} {o : Option JV} {rv : RV} (hB : B ≤ w0.heap.size) (ht : TreeOf w B (o.getD JV.zero) rv) (hb : Below w0.heap.size w0 w) : FdR w0 B o w.heap.size rv (w.alloc rv.obj) :=
  ⟨heap_alloc_at rfl, hb.size, ht.under ((Below.refl B w).alloc (Nat.le_trans hB hb.size) _) (Nat.le_refl _), hb.alloc hb.size _⟩
theorem FdR.stored {w0 w : World} {B g : Nat} {o : Option JV} {rv : RV} (hB : B ≤ w0.heap.size) (ht : TreeOf w B (o.getD JV.zero) rv) (hg : w0.heap.size ≤ g) (hz : VAt w g RV.zero) (hb : Below w0.heap.size w0 w) : FdR w0 B o g rv (((((w.setCell ⟨g, 0, none⟩ (.int .i64 rv.k)).setCell ⟨g, 1, none⟩ (.int .i64 rv.n)).setCell ⟨g, 2, none⟩ (.string rv.s)).setCell ⟨g, 3, none⟩ (.slice rv.pl rv.nl rv.cl)).setCell ⟨g, 4, none⟩ (.slice rv.pm rv.nm rv.cm)) :=
  ⟨hz.stored rv, hg, ht.under (Below.stored (Below.refl B w) (Nat.le_trans hB hg) rv) (Nat.le_refl _), Below.stored hb hg rv⟩
set_option maxRecDepth 200000 in
set_option maxHeartbeats 8000000 in
theorem rgetB_any (a : AcD) (ra : RAc) (known book : Bool) (t : JV) (r : RV) (w : World) (B : Nat) (hBw : B ≤ w.heap.size) (ha : AcOf w B a ra) (oc : a.cards.Ok) (ob : a.books.Ok) (hfew : ∀ bk (y : ByteArray × JV), y ∈ (a.box bk).objs → y.2.m.length ≤ 90000) (ht : TreeOf w B t r) (ot : t.Ok) (hnul : (argI t).k = 1 → (argI t).l = []) :
    Calls Tryz.prog 9 #[RAc.val ra, .bool known, .int .i64 (kindB book), RV.val r] w (GetRetS w B a.id known (!book) (a.box book) t) := by
  obtain ⟨W0, hW0⟩ : ∃ W0, ((w.alloc (RAc.obj ra)).alloc r.obj).alloc (.cells #[.int .i64 0, .int .i64 0, .string ⟨#[]⟩, .slice none 0 0, .slice none 0 0] 31) = W0 := ⟨_, rfl⟩
  have hA0 : W0.heap[w.heap.size]? = some (RAc.obj ra) := by rw [← hW0]; exact heap_alloc_lt (by simp; omega) (heap_alloc_lt (by simp) (heap_alloc_at rfl))
  have hT0 : VAt W0 (w.heap.size + 1) r := by rw [← hW0]; exact heap_alloc_lt (by simp) (heap_alloc_at (by simp))
  have hZ0 : VAt W0 (w.heap.size + 1 + 1) RV.zero := by rw [← hW0]; exact heap_alloc_at (by simp)
  have hB0 : Below w.heap.size w W0 := by rw [← hW0]; exact (below2 w _ _).alloc (by simp; omega) _
  have hz0 := hZ0.lt
  have HBG : Hid (Calls Tryz.prog 31 #[.bool known, r.val, .string kindsG] W0 (BeginRet W0 B known t ksG)) := begin26_any W0 B known kindsG ksG t r kindsG_okR (Nat.le_trans hBw hB0.size) (ht.under (hB0.mono hBw) (Nat.le_refl _)) ot
  have HBX : Hid (∀ W, Calls Tryz.prog 32 #[RAc.val ra, .int .i64 (kindB book)] W fun e w' => e = .returned (RB.val (ra.box book)) ∧ Below W.heap.size W w') := fun W => box26_any ra book W
  have hkb : kindB book = kindI (!book) := by cases book <;> rfl
  have HST : Hid (∀ W, Calls Tryz.prog 36 #[.int .i64 (kindB book), .int .i64 (a.box book).seq] W fun e w' => e = .returned (.string (stateB (!book) (a.box book).seq)) ∧ Below W.heap.size W w') := fun W => by
    rw [hkb]
    exact state10_any (!book) _ W (by cases book; exact oc.seq; exact ob.seq)
  obtain ⟨kd, hkd⟩ : ∃ k, kindB book = k := ⟨_, rfl⟩
  rw [hkd] at HBX HST
  have HAB := Lib.hid (ha.box book)
  have HOB : Hid (a.box book).Ok := by unfold Hid; cases book; exact oc; exact ob
  have HFW : Hid (∀ y, y ∈ (a.box book).objs → y.2.m.length ≤ 90000) := hfew book
  have HAI := Lib.hid ha.id
  obtain ⟨bd, hbd⟩ : ∃ b, a.box book = b := ⟨_, rfl⟩
  obtain ⟨⟨po, no, co, pt, nt, ct, sq, fl, kp⟩, hrb⟩ : ∃ b, ra.box book = b := ⟨_, rfl⟩
  obtain ⟨cd, hcd⟩ : ∃ b, (!book) = b := ⟨_, rfl⟩
  rw [hbd, hrb] at HAB
  rw [hbd] at HOB HFW
  rw [hbd, hcd] at HST
  rw [hrb] at HBX
  rw [hbd, hcd]
  rw [hkd]
  obtain ⟨tk, tn, ts, tpl, tnl, tcl, tpm, tnm, tcm⟩ := r
  dsimp only [RV.val, RV.obj, RB.val] at *
  have hsq : bd.seq = sq := HAB.out.seq
  have hno : bd.objs.length = no := HAB.out.objs.nlen
  rw [hsq] at HST
  have HNO := Lib.hid hno
  have HSQ := Lib.hid hsq
  clear hsq hno
  have HW := Lib.hid hW0
  have HA0 := Lib.hid hA0
  have HT0 := Lib.hid hT0
  have HZ0 := Lib.hid hZ0
  have HB0 := Lib.hid hB0
  have HOT := Lib.hid ot
  clear hW0 hA0 hZ0 hB0 ha oc ob hfew ht ot hkb hkd hbd hrb hcd
  unfold BeginRet whyB at HBG
  have q0 := hT0.cell 0 rfl
  have q1 := hT0.cell 1 rfl
  have q2 := hT0.cell 2 rfl
  have q3 := hT0.cell 3 rfl
  have q4 := hT0.cell 4 rfl
  dsimp only at q0 q1 q2 q3 q4
  clear hT0
  cases hab : argsB t ksG
  · rw [hab] at HBG
    simp only [Bool.false_eq_true, if_false, Bool.false_and] at HBG
    unfold badN at HBG
    have HAR := Lib.hid hab
    clear hab
    go_enter Tryz.func9, Tryz.ntmps9
    go_upto_region 1 with fail
    rw [HW.out]
    clear HW
    go_upto_region 2 with (go_at_call 31; refine HBG.out.mono ?_; rintro e w1 ⟨pl, nl, cl, rfl, hb1, _⟩; (have hz := HZ0.out.under hb1 hz0); (have z0 := hz.cell 0 rfl); (have z1 := hz.cell 1 rfl); (have z2 := hz.cell 2 rfl); (have z3 := hz.cell 3 rfl); (have z4 := hz.cell 4 rfl); (have y0 := hz.frozen 0); (have y1 := hz.frozen 1); (have y2 := hz.frozen 2); (have y3 := hz.frozen 3); (have y4 := hz.frozen 4); dsimp only [RV.zero] at z0 z1 z2 z3 z4; (have HZ := Lib.hid hz); (have HB1 := Lib.hid hb1); clear hz hb1)
    go_wp2_with fail
    refine bodyPost_ret (v := .tuple #[RV.val RV.zero, .string ⟨#[105, 110, 118, 97, 108, 105, 100, 65, 114, 103, 117, 109, 101, 110, 116, 115]⟩]) (by simp [results, Tryz.results9, go_sem, RV.zero, z0, z1, z2, z3, z4]) rfl (GetRetS.bad HAR.out (Below.stored (HB0.out.trans (HB1.out.mono HB0.out.size)) (by omega) RV.zero))
  · cases known
    · rw [hab] at HBG
      simp only [Bool.false_eq_true, if_true, if_false, Bool.and_false] at HBG
      unfold noAccN at HBG
      have HAR := Lib.hid hab
      clear hab
      go_enter Tryz.func9, Tryz.ntmps9
      go_upto_region 1 with fail
      rw [HW.out]
      clear HW
      go_upto_region 2 with (go_at_call 31; refine HBG.out.mono ?_; rintro e w1 ⟨pl, nl, cl, rfl, hb1, _⟩; (have hz := HZ0.out.under hb1 hz0); (have z0 := hz.cell 0 rfl); (have z1 := hz.cell 1 rfl); (have z2 := hz.cell 2 rfl); (have z3 := hz.cell 3 rfl); (have z4 := hz.cell 4 rfl); (have y0 := hz.frozen 0); (have y1 := hz.frozen 1); (have y2 := hz.frozen 2); (have y3 := hz.frozen 3); (have y4 := hz.frozen 4); dsimp only [RV.zero] at z0 z1 z2 z3 z4; (have HZ := Lib.hid hz); (have HB1 := Lib.hid hb1); clear hz hb1)
      go_wp2_with fail
      refine bodyPost_ret (v := .tuple #[RV.val RV.zero, .string ⟨#[97, 99, 99, 111, 117, 110, 116, 78, 111, 116, 70, 111, 117, 110, 100]⟩]) (by simp [results, Tryz.results9, go_sem, RV.zero, z0, z1, z2, z3, z4]) rfl (GetRetS.noAcc HAR.out (Below.stored (HB0.out.trans (HB1.out.mono HB0.out.size)) (by omega) RV.zero))
    · rw [hab] at HBG
      simp only [if_true, Bool.and_true, if_true] at HBG
      have HAR := Lib.hid hab
      clear hab
      have hA0 := HA0.out
      go_enter Tryz.func9, Tryz.ntmps9
      go_upto_region 1 with fail
      rw [HW.out]
      clear HW
      go_upto_region 2 with (go_at_call 31; refine HBG.out.mono ?_; rintro e w1 ⟨pl, nl, cl, rfl, hb1, hargs'⟩; (have hz := HZ0.out.under hb1 hz0); (have z0 := hz.cell 0 rfl); (have z1 := hz.cell 1 rfl); (have z2 := hz.cell 2 rfl); (have z3 := hz.cell 3 rfl); (have z4 := hz.cell 4 rfl); (have y0 := hz.frozen 0); (have y1 := hz.frozen 1); (have y2 := hz.frozen 2); (have y3 := hz.frozen 3); (have y4 := hz.frozen 4); dsimp only [RV.zero] at z0 z1 z2 z3 z4; (have HZ := Lib.hid hz); (have HB1 := Lib.hid hb1); clear hz hb1)
      obtain ⟨rs, hO1, hl1, ht1⟩ := hargs' trivial trivial
      obtain ⟨r0, r1, r2, rfl⟩ : ∃ a b c, rs = [a, b, c] := by
        match rs, hl1 with
        | [a, b, c], _ => exact ⟨a, b, c, rfl⟩
      have HT1 : Hid (TreeOf w1 B (argI t) r1) := ht1 1 _ r1 rfl rfl
      have HT2 : Hid (TreeOf w1 B (argP t) r2) := ht1 2 _ r2 rfl rfl
      obtain ⟨gl, rfl, hnl, hgl0, hgl1, hc1, _⟩ := hO1.at codecV (k := 1) (x := r1) rfl
      obtain ⟨gl', he, _, _, _, hc2, _⟩ := hO1.at codecV (k := 2) (x := r2) rfl
      obtain rfl : gl = gl' := by injection he with he; injection he
      simp only [List.length_cons, List.length_nil, Nat.zero_add, Nat.reduceAdd] at hnl
      subst hnl
      obtain ⟨i1, _, _⟩ := HT1.out.head
      obtain ⟨i2, _, _⟩ := HT2.out.head
      have i3 : r1.nl = (argI t).l.length := by obtain ⟨rs, h1, h2, _⟩ := HT1.out.lst; rw [h2]; exact rd_nlen h1
      have i4 : r2.nl = (argP t).l.length := by obtain ⟨rs, h1, h2, _⟩ := HT2.out.lst; rw [h2]; exact rd_nlen h1
      obtain ⟨r1k, r1n, r1s, r1pl, r1nl, r1cl, r1pm, r1nm, r1cm⟩ := r1
      obtain ⟨r2k, r2n, r2s, r2pl, r2nl, r2cl, r2pm, r2nm, r2cm⟩ := r2
      have e0 := hc1 0 _ rfl
      have e1 := hc1 1 _ rfl
      have e2 := hc1 2 _ rfl
      have e3 := hc1 3 _ rfl
      have e4 := hc1 4 _ rfl
      have f0 := hc2 0 _ rfl
      have f1 := hc2 1 _ rfl
      have f2 := hc2 2 _ rfl
      have f3 := hc2 3 _ rfl
      have f4 := hc2 4 _ rfl
      simp only [Nat.reduceMul, Nat.reduceAdd, Nat.add_zero] at e0 e1 e2 e3 e4 f0 f1 f2 f3 f4
      dsimp only at i1 i2 i3 i4
      clear hc1 hc2 hargs' hO1 hl1 ht1 he
      have hA1 : w1.heap[w.heap.size]? = some (RAc.obj ra) := (HB1.out.block _ (by omega)).trans HA0.out
      have a0 : w1.cell? ⟨w.heap.size, 0, none⟩ = some (.string ra.id) := (cell_of_row w1 w.heap.size 0 _ _ _ hA1).trans rfl
      have a1 : w1.cell? ⟨w.heap.size, 1, none⟩ = some (.slice ra.cards.po ra.cards.no ra.cards.co) := (cell_of_row w1 w.heap.size 1 _ _ _ hA1).trans rfl
      have a2 : w1.cell? ⟨w.heap.size, 2, none⟩ = some (.slice ra.cards.pt ra.cards.nt ra.cards.ct) := (cell_of_row w1 w.heap.size 2 _ _ _ hA1).trans rfl
      have a3 : w1.cell? ⟨w.heap.size, 3, none⟩ = some (.int .i64 ra.cards.sq) := (cell_of_row w1 w.heap.size 3 _ _ _ hA1).trans rfl
      have a4 : w1.cell? ⟨w.heap.size, 4, none⟩ = some (.int .i64 ra.cards.fl) := (cell_of_row w1 w.heap.size 4 _ _ _ hA1).trans rfl
      have a5 : w1.cell? ⟨w.heap.size, 5, none⟩ = some (.int .i64 ra.cards.kp) := (cell_of_row w1 w.heap.size 5 _ _ _ hA1).trans rfl
      have a6 : w1.cell? ⟨w.heap.size, 6, none⟩ = some (.slice ra.books.po ra.books.no ra.books.co) := (cell_of_row w1 w.heap.size 6 _ _ _ hA1).trans rfl
      have a7 : w1.cell? ⟨w.heap.size, 7, none⟩ = some (.slice ra.books.pt ra.books.nt ra.books.ct) := (cell_of_row w1 w.heap.size 7 _ _ _ hA1).trans rfl
      have a8 : w1.cell? ⟨w.heap.size, 8, none⟩ = some (.int .i64 ra.books.sq) := (cell_of_row w1 w.heap.size 8 _ _ _ hA1).trans rfl
      have a9 : w1.cell? ⟨w.heap.size, 9, none⟩ = some (.int .i64 ra.books.fl) := (cell_of_row w1 w.heap.size 9 _ _ _ hA1).trans rfl
      have a10 : w1.cell? ⟨w.heap.size, 10, none⟩ = some (.int .i64 ra.books.kp) := (cell_of_row w1 w.heap.size 10 _ _ _ hA1).trans rfl
      have a11 : w1.cell? ⟨w.heap.size, 11, none⟩ = some (.int .i64 ra.next) := (cell_of_row w1 w.heap.size 11 _ _ _ hA1).trans rfl
      have hz1 : W0.heap.size ≤ w1.heap.size := HB1.out.size
      go_upto_region 5 with (go_at_call 32; refine (HBX.out _).mono ?_; rintro e w2 ⟨rfl, hb2⟩)
      have hB5 : Below w1.heap.size w1 (w2.alloc (.cells #[.slice po no co, .slice pt nt ct, .int .i64 sq, .int .i64 fl, .int .i64 kp] 25)) := hb2.alloc hb2.size _
      have hX5 : BoxAt (w2.alloc (.cells #[.slice po no co, .slice pt nt ct, .int .i64 sq, .int .i64 fl, .int .i64 kp] 25)) w2.heap.size ⟨po, no, co, pt, nt, ct, sq, fl, kp⟩ := heap_alloc_at rfl
      have hg12 : w1.heap.size ≤ w2.heap.size := hb2.size
      obtain ⟨g12, hg12e⟩ : ∃ g, w2.heap.size = g := ⟨_, rfl⟩
      obtain ⟨W5, hW5⟩ : ∃ W, w2.alloc (.cells #[.slice po no co, .slice pt nt ct, .int .i64 sq, .int .i64 fl, .int .i64 kp] 25) = W := ⟨_, rfl⟩
      rw [hW5] at hB5 hX5
      rw [hg12e] at hX5 hg12
      try rw [hW5]
      try rw [hg12e]
      have HB5 := Lib.hid hB5
      have HX5 := Lib.hid hX5
      have e0 := bcs hB5 hgl1 e0
      have e3 := bcs hB5 hgl1 e3
      have f3 := bcs hB5 hgl1 f3
      have c0 := hX5.cell 0 rfl
      dsimp only at c0
      have HE : Hid (W5.cell? ⟨gl, 6, none⟩ = some (.int .i64 r1n) ∧ W5.cell? ⟨gl, 7, none⟩ = some (.string r1s) ∧ W5.cell? ⟨gl, 9, none⟩ = some (.slice r1pm r1nm r1cm)) := ⟨bcs hB5 hgl1 e1, bcs hB5 hgl1 e2, bcs hB5 hgl1 e4⟩
      have HF : Hid (W5.cell? ⟨gl, 10, none⟩ = some (.int .i64 r2k) ∧ W5.cell? ⟨gl, 11, none⟩ = some (.int .i64 r2n) ∧ W5.cell? ⟨gl, 12, none⟩ = some (.string r2s) ∧ W5.cell? ⟨gl, 14, none⟩ = some (.slice r2pm r2nm r2cm)) := ⟨bcs hB5 hgl1 f0, bcs hB5 hgl1 f1, bcs hB5 hgl1 f2, bcs hB5 hgl1 f4⟩
      have HA5 : Hid (W5.heap[w.heap.size]? = some (RAc.obj ra)) := (hB5.block _ (by omega)).trans hA1
      have HZ5 := Lib.hid (HZ.out.under hB5 HZ.out.lt)
      have HGL : Hid (W0.heap.size ≤ gl ∧ gl < w1.heap.size) := ⟨hgl0, hgl1⟩
      have hgl5 : gl < W5.heap.size := Nat.lt_of_lt_of_le hgl1 hB5.size
      have HW05 : Hid (Below w.heap.size w W5) := (HB0.out.trans (HB1.out.mono HB0.out.size)).trans (hB5.mono (by omega))
      clear hW5 hg12e hB5 hX5 hb2 e1 e2 e4 f0 f1 f2 f4 a0 a1 a2 a3 a4 a5 a6 a7 a8 a9 a10 a11 hA0 hA1 z0 z1 z2 z3 z4 y0 y1 y2 y3 y4 q0 q1 q2 q3 q4 HBX HBG HZ hgl1 hgl0
      have HNUL := Lib.hid hnul
      clear hnul
      obtain ⟨x1, hx1⟩ : ∃ x, decide (32 < r1nl) = x := ⟨_, rfl⟩
      obtain ⟨x2, hx2⟩ : ∃ x, decide (32 < r2nl) = x := ⟨_, rfl⟩
      obtain ⟨x3, hx3⟩ : ∃ x, (r1k == 1) = x := ⟨_, rfl⟩
      obtain ⟨x4, hx4⟩ : ∃ x, decide (32 < no) = x := ⟨_, rfl⟩
      have hd3 : decide (r1k = 1) = x3 := by rw [← hx3]; rfl
      have HBIG : Hid (bigB bd (argI t) (argP t) = (x1 || (x2 || (x3 && x4)))) := by
        unfold Hid bigB
        rw [← i3, ← i4, hx1, hx2, i1, HNO.out, hx4, hd3]
      have hx1' : decide ((32 : Int) < (r1nl : Int)) = x1 := by rw [← hx1]; congr 1; simp; omega
      have hx2' : decide ((32 : Int) < (r2nl : Int)) = x2 := by rw [← hx2]; congr 1; simp; omega
      have HI : Hid ((argI t).k = r1k ∧ r1nl = (argI t).l.length ∧ r2nl = (argP t).l.length) := ⟨i1, i3, i4⟩
      have HXX : Hid (decide (32 < r1nl) = x1 ∧ decide (32 < r2nl) = x2 ∧ decide (r1k = 1) = x3 ∧ decide (32 < no) = x4) := ⟨hx1, hx2, hd3, hx4⟩
      clear i1 i2 i3 i4 hx1 hx2 hx4 hd3
      have hnoo : no ≤ 1466015503658 := by have := HOB.out.objs; have := HNO.out; omega
      have hg125 : g12 < W5.heap.size := HX5.out.lt
      obtain ⟨oms, hord, homs⟩ := HAB.out.objs
      have hB5z : B ≤ W5.heap.size := Nat.le_trans hBw HW05.out.size
      have hbw1 : Below w.heap.size w w1 := HB0.out.trans (HB1.out.mono HB0.out.size)
      have HORD : Hid (Rd W5 B encM 6 (.slice po no co) oms) := hord.below (HW05.out.mono hBw) (Nat.le_refl _)
      have HOMS := Lib.hid homs
      have HOL : Hid (oms.length = no) := (rd_nlen hord).symm
      clear hord homs
      go_wp2_with fail
      go_loopg [13, 14] no (fun gk m i wr => ∃ k : Nat, gk = no - k ∧ k ≤ no ∧ i = .int .i64 k ∧ (x3 = false → k = 0) ∧ Hid (Own wr W5.heap.size 9 encS 1 m ((bd.objs.take k).map (·.1)) ∧ Below W5.heap.size W5 wr))
      case atStart => exact ⟨0, rfl, Nat.zero_le _, rfl, fun _ => rfl, Own.nil _ _ _, Below.refl _ _⟩
      case round =>
        obtain ⟨k, hgk, hk, rfl, hk3, hH⟩ := hrel
        have HGK := Lib.hid hgk
        have HK3 := Lib.hid hk3
        have hgz5 : W5.heap.size ≤ wr.heap.size := hH.out.2.size
        have hc0 := bcs hH.out.2 hg125 c0
        have he0 := bcs hH.out.2 hgl5 e0
        clear hgk hk3
        have hk0 : (0 : Int) ≤ (k : Int) := Int.natCast_nonneg _
        obtain ⟨d, hd⟩ : ∃ d, decide (k < no) = d := ⟨_, rfl⟩
        have hd2 : decide ((k : Int) < (no : Int)) = d := by rw [← hd]; congr 1; simp
        have HD := Lib.hid hd
        go_upto_region 7 with fail
        go_cut [48] from 37 to 48 (fun v wq => v = .bool (d && x3) ∧ wq = wr)
        case first =>
          cases d
          · go_wp2_with fail
            go_meet
            exact ⟨rfl, rfl⟩
          · go_wp2_with fail
            go_meet
            exact ⟨rfl, rfl⟩
        case rest =>
        obtain ⟨rfl, hwc⟩ := hcut
        obtain rfl : wr = wc := hwc.symm
        obtain ⟨g, hg⟩ : ∃ g, (d && x3) = g := ⟨_, rfl⟩
        rw [hg]
        have HG := Lib.hid hg
        clear hg
        cases g
        · have hl0 : (bd.objs.take k).map (·.1) = if (argI t).k = 1 then bd.objs.map (·.1) else [] := by
            have h1 := HXX.out.2.2.1
            rw [HI.out.1]
            by_cases h3 : x3 = true
            · subst h3
              rw [if_pos (of_decide_eq_true h1)]
              have h4 := HG.out
              rw [Bool.and_true] at h4
              have h5 := of_decide_eq_false (HD.out.trans h4)
              rw [List.take_of_length_le (by have := HNO.out; omega)]
            · have h4 : x3 = false := by simpa using h3
              rw [if_neg (of_decide_eq_false (h1.trans h4)), HK3.out h4]
              rfl
          obtain ⟨L0, hL0⟩ : ∃ L, (bd.objs.take k).map (·.1) = L := ⟨_, rfl⟩
          rw [hL0] at hl0 hH
          have HL0 := Lib.hid hl0
          obtain ⟨p0, n0, d0, rfl⟩ : ∃ p n c, u13 = Value.slice p n c := by obtain ⟨p, c, hv, _, _⟩ := hH.out.1.len; exact ⟨p, _, c, hv⟩
          have hln0 : L0.length = n0 := by obtain ⟨_, _, hv, _, _⟩ := hH.out.1.len; simp only [Value.slice.injEq] at hv; exact hv.2.1.symm
          obtain ⟨W6, rfl⟩ : ∃ W, W = wr := ⟨_, rfl⟩
          have H6 := Lib.hid hH.out
          obtain ⟨x5, hx5⟩ : ∃ x, decide (32 < n0) = x := ⟨_, rfl⟩
          have hx5' : decide ((32 : Int) < (n0 : Int)) = x5 := by rw [← hx5]; congr 1; simp; omega
          have HX53 : Hid (x5 = (x3 && x4)) := by
            unfold Hid
            rw [← hx5, ← HXX.out.2.2.1, ← HXX.out.2.2.2, ← hln0, hl0, HI.out.1]
            by_cases h3 : r1k = 1
            · rw [if_pos h3, decide_eq_true h3, List.length_map, HNO.out]
              rfl
            · rw [if_neg h3, decide_eq_false h3]
              rfl
          have HX5N := Lib.hid hx5
          have HLN := Lib.hid hln0
          have he3 := bcs H6.out.2 hgl5 e3
          have hf3 := bcs H6.out.2 hgl5 f3
          have HE5 : Hid (W5.cell? ⟨gl, 8, none⟩ = some (.slice r1pl r1nl r1cl) ∧ W5.cell? ⟨gl, 13, none⟩ = some (.slice r2pl r2nl r2cl)) := ⟨e3, f3⟩
          have HC5 := Lib.hid c0
          clear hl0 hL0 hH hln0 hx5 hd2 hd HK3 HG HD HGK e0 e3 f3 c0 hc0 he0 hx3
          go_upto_region 10 with fail
          go_cut [78] from 60 to 78 (fun v wq => v = .bool (x5 || (x1 || x2)) ∧ wq = W6)
          case first =>
            cases x5
            · cases x1
              · go_wp2_with fail
                go_meet
                exact ⟨rfl, rfl⟩
              · go_wp2_with fail
                go_meet
                exact ⟨rfl, rfl⟩
            · go_wp2_with fail
              go_meet
              exact ⟨rfl, rfl⟩
          case rest =>
          obtain ⟨rfl, hwc⟩ := hcut
          obtain rfl : W6 = wc := hwc.symm
          obtain ⟨bg, hbg⟩ : ∃ b, (x5 || (x1 || x2)) = b := ⟨_, rfl⟩
          rw [hbg]
          have HBG2 : Hid (bigB bd (argI t) (argP t) = bg) := by
            unfold Hid
            rw [HBIG.out, ← HX53.out, ← hbg]
            cases x5 <;> cases x1 <;> cases x2 <;> rfl
          have HBG := Lib.hid hbg
          clear hbg hx5' hx1' hx2' HBIG
          have HW06 : Hid (Below w.heap.size w W6) := HW05.out.trans (H6.out.2.mono HW05.out.size)
          cases bg
          · have hn32 : r1nl ≤ 32 ∧ n0 ≤ 32 := by
              obtain ⟨h1, h2, h3, h4⟩ := HXX.out
              have hb := HBG.out
              rw [← h1, ← h2, ← HX5N.out] at hb
              simp at hb
              omega
            have HN32 := Lib.hid hn32
            obtain ⟨irs, hird, hirl, hirt⟩ := HT1.out.lst
            have HIR : Hid (Rd W5 B encV 5 (.slice r1pl r1nl r1cl) irs) := hird.below (HB5.out.mono (by have := HB1.out.size; omega)) (Nat.le_refl _)
            have HIL : Hid ((argI t).l.length = r1nl ∧ irs.length = r1nl) := ⟨HI.out.2.1.symm, (rd_nlen hird).symm⟩
            have HIT : Hid (∀ (i : Nat) (x : JV) (q : RV), (argI t).l[i]? = some x → irs[i]? = some q → x.s = q.s) := fun i x q h1 h2 => (hirt i x q h1 h2).head.2.2
            have hr32 : r1nl ≤ 32 := hn32.1
            clear hn32 hird hirl hirt he3 hf3
            go_wp2_with fail
            go_loopg [13, 15] r1nl (fun gk m i wr => ∃ k : Nat, gk = r1nl - k ∧ k ≤ r1nl ∧ i = .int .i64 k ∧ Hid (Own wr W5.heap.size 9 encS 1 m ((((argI t).l.map JV.s).take k).foldl addU L0) ∧ Below W5.heap.size W5 wr))
            case atStart => exact ⟨0, rfl, Nat.zero_le _, rfl, H6.out.1, H6.out.2⟩
            case round =>
              obtain ⟨k2, hgk2, hk2, rfl, hH2⟩ := hrel
              have HGK2 := Lib.hid hgk2
              clear hgk2
              have hgz52 : W5.heap.size ≤ wr.heap.size := hH2.out.2.size
              have he3 := bcs hH2.out.2 hgl5 HE5.out.1
              obtain ⟨p, n, c, rfl⟩ : ∃ p n c, u13 = Value.slice p n c := by obtain ⟨p, c, hv, _, _⟩ := hH2.out.1.len; exact ⟨p, _, c, hv⟩
              have hk20 : (0 : Int) ≤ (k2 : Int) := Int.natCast_nonneg _
              by_cases hlt : k2 < r1nl
              · obtain ⟨y, hy⟩ : ∃ y, (argI t).l[k2]? = some y := ⟨_, List.getElem?_eq_getElem (by have := HIL.out; omega)⟩
                obtain ⟨⟨xk, xn, xs, xpl, xnl, xcl, xpm, xnm, xcm⟩, hx⟩ : ∃ x, irs[k2]? = some x := ⟨_, List.getElem?_eq_getElem (by have := HIL.out; omega)⟩
                have hys := HIT.out k2 y _ hy hx
                dsimp only at hys
                have HTK : Hid ((((argI t).l.map JV.s).take (k2 + 1)).foldl addU L0 = addU ((((argI t).l.map JV.s).take k2).foldl addU L0) xs) := foldU_take (by rw [List.getElem?_map, hy, Option.map_some, hys])
                obtain ⟨b1, o1, rfl, hb1, hc1⟩ := rd_at' (HIR.out.below (hH2.out.2.mono hB5z) (Nat.le_refl _)) hx
                have f0 := hc1 0 _ rfl
                have f1 := hc1 1 _ rfl
                have f2 := hc1 2 _ rfl
                have f3 := hc1 3 _ rfl
                have f4 := hc1 4 _ rfl
                rw [Nat.add_zero] at f0
                dsimp only at f0 f1 f2 f3 f4
                have hk21 : (k2 : Int) < (r1nl : Int) := by omega
                have hLl : ((((argI t).l.map JV.s).take k2).foldl addU L0).length ≤ 64 := by
                  have h1 := foldU_len (((argI t).l.map JV.s).take k2) L0
                  have h2 := List.length_take_le k2 ((argI t).l.map JV.s)
                  have h3 := HN32.out
                  have h4 := HLN.out
                  omega
                obtain ⟨L, hL⟩ : ∃ L, (((argI t).l.map JV.s).take k2).foldl addU L0 = L := ⟨_, rfl⟩
                rw [hL] at hH2 HTK hLl
                have hnL : L.length = n := by obtain ⟨_, _, hv, _, _⟩ := hH2.out.1.len; simp only [Value.slice.injEq] at hv; exact hv.2.1.symm
                have hn64 : n ≤ 64 := by omega
                have HLL := Lib.hid hLl
                have HNL := Lib.hid hnL
                have HBR := Lib.hid hH2.out.2
                have HO := Lib.hid hH2.out.1
                have hb1w : b1 < wr.heap.size := by have := HW05.out.size; omega
                have HF := Lib.hid (And.intro f0 (And.intro f1 (And.intro f3 f4)))
                clear hy hx hys hc1 hL hLl hnL hH2 f0 f1 f3 f4
                go_wp2_with fail
                go_loopg [16, 17] n (fun gk s i w2 => ∃ (j q : Nat), gk = n - j ∧ j ≤ n ∧ i = .int .i64 j ∧ s = .bool (inB (L.take j) xs) ∧ w2 = wr.drewN q)
                case atStart => exact ⟨0, 0, rfl, Nat.zero_le _, rfl, rfl, rfl⟩
                case round =>
                  obtain ⟨j, q, hgj, hj, rfl, rfl, rfl⟩ := hrel
                  have HGJ := Lib.hid hgj
                  clear hgj
                  have hj0 : (0 : Int) ≤ (j : Int) := Int.natCast_nonneg _
                  by_cases hjl : j < n
                  · obtain ⟨z, hz⟩ : ∃ x, L[j]? = some x := ⟨_, List.getElem?_eq_getElem (by have := HNL.out; omega)⟩
                    obtain ⟨b2, o2, rfl, hb2, hc2⟩ := rd_at' (HO.out.rd codecS) hz
                    have e0 := hc2 0 _ rfl
                    rw [Nat.add_zero, Nat.mul_one] at e0
                    have hj1 : (j : Int) < (n : Int) := by omega
                    have hst : (z.toList == xs.toList) = decide (z = xs) := str_beq z xs
                    have HIN := Lib.hid (inB_take (x := xs) hz)
                    obtain ⟨s, hs⟩ : ∃ s, inB (L.take j) xs = s := ⟨_, rfl⟩
                    rw [hs] at HIN
                    rw [hs]
                    obtain ⟨d, hd⟩ : ∃ d, decide (z = xs) = d := ⟨_, rfl⟩
                    rw [hd] at hst HIN
                    clear hs hd hz hc2
                    cases s
                    · cases d
                      all_goals
                        go_wp2_with fail
                        go_quiet (fail)
                        go_wp2_with fail
                        go_roundg (n - (j + 1))
                        case measure => have := HGJ.out; omega
                        case rel => exact ⟨j + 1, _, rfl, by omega, by go_num, by rw [HIN.out]; rfl, rfl⟩
                    · go_wp2_with fail
                      go_quiet (fail)
                      go_wp2_with fail
                      go_roundg (n - (j + 1))
                      case measure => have := HGJ.out; omega
                      case rel => exact ⟨j + 1, _, rfl, by omega, by go_num, by rw [HIN.out]; rfl, rfl⟩
                  · obtain rfl : j = n := by omega
                    have hta : L.take j = L := List.take_of_length_le (by have := HNL.out; omega)
                    rw [hta]
                    obtain ⟨d, hd⟩ : ∃ d, inB L xs = d := ⟨_, rfl⟩
                    rw [hd]
                    have HD := Lib.hid hd
                    have hb7 : Below wr.heap.size wr (wr.drewN q) := bdn (Below.refl _ _) q
                    obtain ⟨w7, hw7⟩ : ∃ W, wr.drewN q = W := ⟨_, rfl⟩
                    rw [hw7] at hb7
                    try rw [hw7]
                    have he3 := bcs hb7 (by omega) he3
                    have f2 := bcs hb7 hb1w f2
                    have HO7 := Lib.hid (HO.out.below hb7 (Nat.le_refl _))
                    have HB7 : Hid (Below W5.heap.size W5 w7) := HBR.out.trans (hb7.mono HBR.out.size)
                    have hz7 : W5.heap.size ≤ w7.heap.size := HB7.out.size
                    clear hta hd hw7 hb7
                    cases d
                    · have HO8 := Lib.hid (HO7.out.alloc (.cells #[.string xs] 9))
                      have HR8 : Hid (Rd (w7.alloc (.cells #[.string xs] 9)) (w7.heap.size + 1) encS 1 (.slice (some ⟨w7.heap.size, 0, none⟩) 1 1) [xs]) := Rd.one codecS (heap_alloc_at rfl) rfl (by omega)
                      go_wp2_with (at_builtin; refine wpList_append_rd slS codecS _ rfl _ _ rfl rfl rfl HO8.out HR8.out (by have := HLL.out; simp only [List.length_singleton]; unfold maxLen; omega) (by have := HLL.out; simp only [List.length_singleton]; omega) (by simp; omega) ?_; intro v8 w8 ho8 hg8 hat8)
                      go_roundg (r1nl - (k2 + 1))
                      case measure => have := HGK2.out; omega
                      case rel =>
                        refine ⟨k2 + 1, rfl, by omega, by go_num, ?_, Below.appended (HB7.out.alloc hz7 _) hg8 HO8.out (by simp; omega)⟩
                        rw [HTK.out]
                        have hnm : addU L xs = L ++ [xs] := by unfold addU; rw [if_neg (by rw [HD.out]; simp)]
                        rw [hnm]
                        exact ho8
                    · go_wp2_with fail
                      go_roundg (r1nl - (k2 + 1))
                      case measure => have := HGK2.out; omega
                      case rel =>
                        refine ⟨k2 + 1, rfl, by omega, by go_num, ?_, HB7.out⟩
                        rw [HTK.out]
                        have hnm : addU L xs = L := by unfold addU; rw [if_pos HD.out]
                        rw [hnm]
                        exact HO7.out
              · obtain rfl : k2 = r1nl := by omega
                have e1 : ((argI t).l.map JV.s).foldl addU L0 = askedL bd (argI t) := by rw [HL0.out]; exact asked_whole HNUL.out
                have hta : ((argI t).l.map JV.s).take k2 = (argI t).l.map JV.s := List.take_of_length_le (by rw [List.length_map]; have := HIL.out; omega)
                rw [hta, e1] at hH2
                have hLl : (askedL bd (argI t)).length ≤ 64 := by
                  have h1 := foldU_len ((argI t).l.map JV.s) L0
                  rw [e1, List.length_map] at h1
                  have h2 := HN32.out
                  have h3 := HLN.out
                  have h4 := HIL.out.1
                  omega
                obtain ⟨L, hL⟩ : ∃ L, askedL bd (argI t) = L := ⟨_, rfl⟩
                rw [hL] at hH2 hLl
                have hni : L.length = n := by obtain ⟨_, _, hv, _, _⟩ := hH2.out.1.len; simp only [Value.slice.injEq] at hv; exact hv.2.1.symm
                obtain ⟨pi, rfl⟩ : ∃ x, x = p := ⟨p, rfl⟩
                obtain ⟨ni, rfl⟩ : ∃ x, x = n := ⟨n, rfl⟩
                obtain ⟨ci, rfl⟩ : ∃ x, x = c := ⟨c, rfl⟩
                obtain ⟨W8, rfl⟩ : ∃ W, W = wr := ⟨_, rfl⟩
                have HO8 := Lib.hid hH2.out.1
                have HB58 := Lib.hid hH2.out.2
                have HLA := Lib.hid hL
                have HNI := Lib.hid hni
                have HLL := Lib.hid hLl
                have hni64 : ni ≤ 64 := by omega
                have hsz58 : W5.heap.size ≤ W8.heap.size := HB58.out.size
                clear hta e1 hLl hL hni hH2
                go_upto_region 23 with fail
                clear he3
                have hb9 : Below W8.heap.size W8 (W8.alloc (.cells #[.int .i64 5, .int .i64 0, .string ⟨#[]⟩, .slice none 0 0, .slice none 0 0] 31)) := (Below.refl _ _).alloc (Nat.le_refl _) _
                have hl9 : VAt (W8.alloc (.cells #[.int .i64 5, .int .i64 0, .string ⟨#[]⟩, .slice none 0 0, .slice none 0 0] 31)) W8.heap.size ⟨5, 0, ⟨#[]⟩, none, 0, 0, none, 0, 0⟩ := heap_alloc_at rfl
                have hoz : W8.heap.size < (W8.alloc (.cells #[.int .i64 5, .int .i64 0, .string ⟨#[]⟩, .slice none 0 0, .slice none 0 0] 31)).heap.size := by simp
                have hb59 : Below W5.heap.size W5 (W8.alloc (.cells #[.int .i64 5, .int .i64 0, .string ⟨#[]⟩, .slice none 0 0, .slice none 0 0] 31)) := HB58.out.trans (hb9.mono HB58.out.size)
                obtain ⟨w9, hw9⟩ : ∃ W, W8.alloc (.cells #[.int .i64 5, .int .i64 0, .string ⟨#[]⟩, .slice none 0 0, .slice none 0 0] 31) = W := ⟨_, rfl⟩
                rw [hw9] at hb9 hl9 hoz hb59
                try rw [hw9]
                clear hw9
                have HB89 := Lib.hid hb9
                obtain ⟨o, hoe⟩ : ∃ g, W8.heap.size = g := ⟨_, rfl⟩
                have hgi8 : ∀ x, x < W8.heap.size → x < o := fun x h => by omega
                rw [hoe] at hl9 hoz
                try rw [hoe]
                have ho5 : W5.heap.size ≤ o := by omega
                have HOE := Lib.hid hoe
                clear hoe
                have HB59 := Lib.hid hb59
                have HB9 : Hid (Below w.heap.size w w9) := HW05.out.trans (hb59.mono HW05.out.size)
                have HS9 : Hid (GetS w9 B o none 0 0 (shownTo bd (argP t) (L.take 0)) (.slice none 0 0) (missTo bd (L.take 0)) w9) := GetS.start hl9
                have HF9 : Hid (w9.cell? ⟨gl, 10, none⟩ = some (.int .i64 r2k) ∧ w9.cell? ⟨gl, 11, none⟩ = some (.int .i64 r2n) ∧ w9.cell? ⟨gl, 12, none⟩ = some (.string r2s) ∧ w9.cell? ⟨gl, 13, none⟩ = some (.slice r2pl r2nl r2cl) ∧ w9.cell? ⟨gl, 14, none⟩ = some (.slice r2pm r2nm r2cm)) := ⟨bcs hb59 hgl5 HF.out.1, bcs hb59 hgl5 HF.out.2.1, bcs hb59 hgl5 HF.out.2.2.1, bcs hb59 hgl5 HE5.out.2, bcs hb59 hgl5 HF.out.2.2.2⟩
                have HX9 : Hid (w9.cell? ⟨g12, 0, none⟩ = some (.slice po no co) ∧ w9.cell? ⟨g12, 1, none⟩ = some (.slice pt nt ct) ∧ w9.cell? ⟨g12, 2, none⟩ = some (.int .i64 sq) ∧ w9.cell? ⟨g12, 3, none⟩ = some (.int .i64 fl) ∧ w9.cell? ⟨g12, 4, none⟩ = some (.int .i64 kp)) := ⟨bcs hb59 hg125 (HX5.out.cell 0 rfl), bcs hb59 hg125 (HX5.out.cell 1 rfl), bcs hb59 hg125 (HX5.out.cell 2 rfl), bcs hb59 hg125 (HX5.out.cell 3 rfl), bcs hb59 hg125 (HX5.out.cell 4 rfl)⟩
                have hwz5 : w.heap.size ≤ W5.heap.size := HW05.out.size
                have HP9 : Hid (TreeOf w9 B (argP t) ⟨r2k, r2n, r2s, r2pl, r2nl, r2cl, r2pm, r2nm, r2cm⟩) := HT2.out.under ((HB5.out.mono (by have := HB1.out.size; omega)).trans (hb59.mono hB5z)) (Nat.le_refl _)
                have hz59 : W5.heap.size ≤ w9.heap.size := hb59.size
                have HZ9 : Hid (VAt w9 (w.heap.size + 1 + 1) RV.zero) := HZ5.out.under hb59 HZ5.out.lt
                have hzw5 : w.heap.size + 1 + 1 < W5.heap.size := HZ5.out.lt
                have HA9 : Hid (w9.heap[w.heap.size]? = some (RAc.obj ra)) := (hb59.block _ (by omega)).trans HA5.out
                clear hb9 hl9 hb59
                go_wp2_with fail
                go_loopg [19, 20] ni (fun gk m i wr => ∃ (k : Nat) (p : Option Addr) (n c : Nat), gk = ni - k ∧ k ≤ ni ∧ i = .int .i64 k ∧ Hid (GetS w9 B o p n c (shownTo bd (argP t) (L.take k)) m (missTo bd (L.take k)) wr))
                case atStart => exact ⟨0, none, 0, 0, rfl, Nat.zero_le _, rfl, HS9.out⟩
                case round =>
                  obtain ⟨k, p, n, c, hgk, hk, rfl, HG⟩ := hrel
                  have HGK := Lib.hid hgk
                  clear hgk
                  have hgz : w9.heap.size ≤ wr.heap.size := HG.out.grown.size
                  have HBW : Hid (Below w.heap.size w wr) := HB9.out.grown HG.out.grown HB9.out.size (fun k e => by cases e; omega)
                  have hcc : ∀ b o' v, b < w9.heap.size → b ≠ o → w9.cell? ⟨b, o', none⟩ = some v → wr.cell? ⟨b, o', none⟩ = some v := fun b o' v hb hne h => (World.cell?_of_block (a := ⟨b, o', none⟩) (HG.out.grown.block b hb (fun e => hne (by injection e)))).trans h
                  have hx0 := hcc _ _ _ (by omega) (by omega) HX9.out.1
                  have hx1 := hcc _ _ _ (by omega) (by omega) HX9.out.2.1
                  have hx2 := hcc _ _ _ (by omega) (by omega) HX9.out.2.2.1
                  have hx3 := hcc _ _ _ (by omega) (by omega) HX9.out.2.2.2.1
                  have hx4 := hcc _ _ _ (by omega) (by omega) HX9.out.2.2.2.2
                  obtain ⟨pm, nm, cm, rfl⟩ : ∃ p n c, u19 = Value.slice p n c := by obtain ⟨p, c, hv, _, _⟩ := HG.out.mis.len; exact ⟨p, _, c, hv⟩
                  have hk0 : (0 : Int) ≤ (k : Int) := Int.natCast_nonneg _
                  by_cases hlt : k < ni
                  · obtain ⟨id, hid⟩ : ∃ x, L[k]? = some x := ⟨_, List.getElem?_eq_getElem (by have := HNI.out; omega)⟩
                    obtain ⟨gi, rfl, hgn, hgi0, hgi1, hci, hgf⟩ := HO8.out.at codecS hid
                    clear hgn hgf
                    have i0 := hci 0 _ rfl
                    rw [Nat.add_zero, Nat.mul_one] at i0
                    have hgio := hgi8 _ hgi1
                    have I9 : Hid (w9.cell? ⟨gi, k, none⟩ = some (.string id)) := bcs HB89.out hgi1 i0
                    have i0 := hcc _ _ _ (by omega) (by omega) I9.out
                    have hk1 : (k : Int) < (ni : Int) := by omega
                    have HSH := Lib.hid (shownTo_take (b := bd) (names := argP t) hid)
                    have HMS := Lib.hid (missTo_take (b := bd) hid)
                    have HFD : Hid (∀ W, Below wr.heap.size wr W → Calls Tryz.prog 33 #[.agg #[.slice po no co, .slice pt nt ct, .int .i64 sq, .int .i64 fl, .int .i64 kp], .string id] W (GetRetB W B (findJ bd.objs id))) := fun W hb =>
                      refFindB_any bd ⟨po, no, co, pt, nt, ct, sq, fl, kp⟩ id W B (Nat.le_trans (Nat.le_trans hBw HBW.out.size) hb.size) (HAB.out.under ((HBW.out.trans (hb.mono HBW.out.size)).mono hBw) (Nat.le_refl _)) HOB.out
                    have HFM : Hid (∀ v, findJ bd.objs id = Option.some v → v.m.length ≤ 90000) := fun v hv => by
                      unfold findJ at hv
                      cases hf : bd.objs.find? (fun p => decide (p.1 = id)) with
                      | none => rw [hf] at hv; cases hv
                      | some y => rw [hf] at hv; cases hv; exact HFW.out y (List.mem_of_find?_eq_some hf)
                    have hg12r : g12 < wr.heap.size := by omega
                    have hgir : gi < wr.heap.size := by omega
                    have HBWZ : Hid (B ≤ wr.heap.size) := Nat.le_trans hBw HBW.out.size
                    have HZA : Hid (VAt (wr.alloc (.cells #[.int .i64 0, .int .i64 0, .string ⟨#[]⟩, .slice none 0 0, .slice none 0 0] 31)).drew wr.heap.size RV.zero) := heap_alloc_at rfl
                    have hk00 := KB.drew wr
                    have hkA : KB wr.heap.size wr (wr.alloc (.cells #[.int .i64 0, .int .i64 0, .string ⟨#[]⟩, .slice none 0 0, .slice none 0 0] 31)).drew := kt_da wr _
                    clear hid hci
                    go_upto_region 27 with fail
                    go_cut [21, 22] from 125 to 161 (fun v b2 wq => ∃ (g : Nat) (rv : RV), v = .pointer (some ⟨g, 0, none⟩) ∧ b2 = .bool (findJ bd.objs id).isSome ∧ Hid (FdR wr B (findJ bd.objs id) g rv wq))
                    case first =>
                      go_region_held3 (fun w' => Below wr.heap.size wr w' ∧ ∀ b o, b < wr.heap.size → w'.cell? ⟨b, o, none⟩ = wr.cell? ⟨b, o, none⟩)
                        (first | with_reducible exact kt_drew wr | with_reducible exact kt_same hbk | with_reducible exact kt_alloc hbk _ | with_reducible exact kt_da wr _ | with_reducible exact kt_setV hbk _ ⟨rk, rn, rS, rpl, rnl, rcl, rpm, rnm, rcm⟩ (Nat.le_refl _) | with_reducible exact kt_setV hbk _ ⟨rk, rn, rS, rpl, rnl, rcl, rpm, rnm, rcm⟩ hs10)
                        (first
                          | (go_at_call 33; refine (HFD.out _ (kb1 (by assumption))).mono ?_; rintro e w10 ⟨rv, bb, rfl, hbb, htv, hb10⟩; obtain ⟨rk, rn, rS, rpl, rnl, rcl, rpm, rnm, rcm⟩ := rv; (have hbk := KB.step (W := wr) (by assumption) hb10); (have hs10 := hbk.1.size); (have HB10 := Lib.hid (And.intro hbb (And.intro htv hbk.1))); (first | ((have HZ10 := Lib.hid (HZA.out.under hb10 HZA.out.lt)); (have z0 := HZ10.out.cell 0 rfl); (have z1 := HZ10.out.cell 1 rfl); (have z2 := HZ10.out.cell 2 rfl); (have z3 := HZ10.out.cell 3 rfl); (have z4 := HZ10.out.cell 4 rfl); (have y0 := HZ10.out.frozen 0); (have y1 := HZ10.out.frozen 1); (have y2 := HZ10.out.frozen 2); (have y3 := HZ10.out.frozen 3); (have y4 := HZ10.out.frozen 4); dsimp only [RV.zero] at z0 z1 z2 z3 z4) | skip))
                          | fail)
                      all_goals (
                        go_wp2_with fail
                        go_meet
                        first
                          | (have hz := HZ10
                             exact ⟨_, ⟨rk, rn, rS, rpl, rnl, rcl, rpm, rnm, rcm⟩, rfl, rfl, FdR.stored HBWZ.out HB10.out.2.1 (Nat.le_refl _) hz.out HB10.out.2.2⟩)
                          | exact ⟨_, ⟨rk, rn, rS, rpl, rnl, rcl, rpm, rnm, rcm⟩, rfl, rfl, FdR.fresh HBWZ.out HB10.out.2.1 HB10.out.2.2⟩)
                    case rest =>
                    obtain ⟨g17, rv17, rfl, rfl, hfdr⟩ := hcut
                    obtain ⟨rk, rn, rS, rpl, rnl, rcl, rpm, rnm, rcm⟩ := rv17
                    obtain ⟨W13, rfl⟩ : ∃ W, W = wc := ⟨_, rfl⟩
                    have HG13 := Lib.hid (HG.out.step hfdr.out.below)
                    have HBR := Lib.hid hfdr.out.below
                    have HB13 : Hid (Below w.heap.size w W13) := HBW.out.trans (HBR.out.mono HBW.out.size)
                    have HV13 := Lib.hid hfdr.out.at'
                    have HT13 := Lib.hid hfdr.out.tree
                    have hg17 : wr.heap.size ≤ g17 := hfdr.out.ge
                    have hz13 : wr.heap.size ≤ W13.heap.size := HBR.out.size
                    have hcc13 : ∀ b o' v, b < w9.heap.size → b ≠ o → w9.cell? ⟨b, o', none⟩ = some v → W13.cell? ⟨b, o', none⟩ = some v := fun b o' v hb hne h => (World.cell?_of_block (a := ⟨b, o', none⟩) (HG13.out.grown.block b hb (fun e => hne (by injection e)))).trans h
                    have i13 := hcc13 _ _ _ (by omega) (by omega) I9.out
                    clear hfdr HFD hx0 hx1 hx2 hx3 hx4 i0 HZA hk00 hkA
                    obtain ⟨bb, hbb⟩ : ∃ b, (findJ bd.objs id).isSome = b := ⟨_, rfl⟩
                    rw [hbb]
                    cases hfd : findJ bd.objs id
                    · rw [hfd] at hbb HSH HMS
                      simp only [Option.isSome_none] at hbb
                      subst hbb
                      simp only [List.append_nil] at HSH
                      have hml := missTo_len bd (L.take k)
                      have HML : Hid ((missTo bd (L.take k)).length ≤ 64) := by have := List.length_take_le k L; have := HLL.out; unfold Hid; omega
                      have HOM := Lib.hid (HG13.out.mis.alloc (.cells #[.string id] 9))
                      have HRM : Hid (Rd (W13.alloc (.cells #[.string id] 9)) (W13.heap.size + 1) encS 1 (.slice (some ⟨W13.heap.size, 0, none⟩) 1 1) [id]) := Rd.one codecS (heap_alloc_at rfl) rfl (by omega)
                      clear hml hfd HFM HV13 HT13 hcc13
                      go_wp2_with (at_builtin; refine wpList_append_rd slS codecS (W13.alloc (.cells #[.string id] 9)) rfl _ _ rfl (v := .slice pm nm cm) rfl rfl HOM.out HRM.out (by have := HML.out; simp only [List.length_singleton]; unfold maxLen; omega) (by have := HML.out; simp only [List.length_singleton]; omega) (by simp; omega) ?_; intro v8 w8 ho8 hg8 hat8)
                      go_roundg (ni - (k + 1))
                      case measure => have := HGK.out; omega
                      case rel =>
                        refine ⟨k + 1, p, n, c, rfl, by omega, by go_num, ?_⟩
                        unfold Hid
                        rw [HSH.out, HMS.out]
                        exact HG13.out.pushM (by omega) (by omega) ((Below.refl _ _).alloc (Nat.le_refl _) _) ho8 hg8 hat8
                    · rename_i v
                      rw [hfd] at hbb HSH HMS HT13
                      simp only [Option.isSome_some] at hbb
                      subst hbb
                      simp only [List.append_nil] at HMS
                      have hvm := HFM.out v hfd
                      have HSHC : Hid (∀ W, Below W13.heap.size W13 W → Calls Tryz.prog 14 #[.string id, .agg #[.int .i64 rk, .int .i64 rn, .string rS, .slice rpl rnl rcl, .slice rpm rnm rcm], .agg #[.int .i64 r2k, .int .i64 r2n, .string r2s, .slice r2pl r2nl r2cl, .slice r2pm r2nm r2cm]] W (MapRet W B ((idN, textJ id) :: showM v (argP t)))) := fun W hb => by
                        have hP := HP9.out.under ((HG13.out.grown).bl0 (B := B) (by omega) (Nat.le_trans hBw HB9.out.size)) (Nat.le_refl _)
                        have hnl : (argP t).l.length ≤ 1759218604390 := by
                          exact ok_l (argG_ok HOT.out (propN, 116))
                        exact refShow_any id v (argP t) ⟨rk, rn, rS, rpl, rnl, rcl, rpm, rnm, rcm⟩ ⟨r2k, r2n, r2s, r2pl, r2nl, r2cl, r2pm, r2nm, r2cm⟩ W B (Nat.le_trans (Nat.le_trans hBw HB13.out.size) hb.size) (HT13.out.under (hb.mono (Nat.le_trans hBw HB13.out.size)) (Nat.le_refl _)) (hP.under (hb.mono (Nat.le_trans hBw HB13.out.size)) (Nat.le_trans (Nat.le_trans hBw HB13.out.size) hb.size)) hvm hnl
                      have hS13 : (fun w' : World => w'.cell? ⟨o, 3, none⟩ = some (.slice p n c) ∧ w'.cell? ⟨g17, 0, none⟩ = some (.int .i64 rk) ∧ w'.cell? ⟨g17, 1, none⟩ = some (.int .i64 rn) ∧ w'.cell? ⟨g17, 2, none⟩ = some (.string rS) ∧ w'.cell? ⟨g17, 3, none⟩ = some (.slice rpl rnl rcl) ∧ w'.cell? ⟨g17, 4, none⟩ = some (.slice rpm rnm rcm) ∧ w'.cell? ⟨gl, 10, none⟩ = some (.int .i64 r2k) ∧ w'.cell? ⟨gl, 11, none⟩ = some (.int .i64 r2n) ∧ w'.cell? ⟨gl, 12, none⟩ = some (.string r2s) ∧ w'.cell? ⟨gl, 13, none⟩ = some (.slice r2pl r2nl r2cl) ∧ w'.cell? ⟨gl, 14, none⟩ = some (.slice r2pm r2nm r2cm) ∧ w'.cell? ⟨gi, k, none⟩ = some (.string id)) W13 := ⟨HG13.out.out.cell 3 rfl, HV13.out.cell 0 rfl, HV13.out.cell 1 rfl, HV13.out.cell 2 rfl, HV13.out.cell 3 rfl, HV13.out.cell 4 rfl, hcc13 _ _ _ (by omega) (by omega) HF9.out.1, hcc13 _ _ _ (by omega) (by omega) HF9.out.2.1, hcc13 _ _ _ (by omega) (by omega) HF9.out.2.2.1, hcc13 _ _ _ (by omega) (by omega) HF9.out.2.2.2.1, hcc13 _ _ _ (by omega) (by omega) HF9.out.2.2.2.2, i13⟩
                      have hoz13 : o < W13.heap.size := by omega
                      have hgl13 : gl < W13.heap.size := by omega
                      have hgi13 : gi < W13.heap.size := by omega
                      have hg1713 : g17 < W13.heap.size := HV13.out.lt
                      have HKP : Hid (∀ W, (∀ k, k < W13.heap.size → k = o ∨ k = g17 ∨ k = gl ∨ k = gi → W.heap[k]? = W13.heap[k]?) → (fun w' : World => w'.cell? ⟨o, 3, none⟩ = some (.slice p n c) ∧ w'.cell? ⟨g17, 0, none⟩ = some (.int .i64 rk) ∧ w'.cell? ⟨g17, 1, none⟩ = some (.int .i64 rn) ∧ w'.cell? ⟨g17, 2, none⟩ = some (.string rS) ∧ w'.cell? ⟨g17, 3, none⟩ = some (.slice rpl rnl rcl) ∧ w'.cell? ⟨g17, 4, none⟩ = some (.slice rpm rnm rcm) ∧ w'.cell? ⟨gl, 10, none⟩ = some (.int .i64 r2k) ∧ w'.cell? ⟨gl, 11, none⟩ = some (.int .i64 r2n) ∧ w'.cell? ⟨gl, 12, none⟩ = some (.string r2s) ∧ w'.cell? ⟨gl, 13, none⟩ = some (.slice r2pl r2nl r2cl) ∧ w'.cell? ⟨gl, 14, none⟩ = some (.slice r2pm r2nm r2cm) ∧ w'.cell? ⟨gi, k, none⟩ = some (.string id)) W) := fun W hk => by
                        have key : ∀ b o' v, b < W13.heap.size → (b = o ∨ b = g17 ∨ b = gl ∨ b = gi) → W13.cell? ⟨b, o', none⟩ = some v → W.cell? ⟨b, o', none⟩ = some v := fun b o' v hb hx h => (World.cell?_of_block (a := ⟨b, o', none⟩) (hk b hb hx)).trans h
                        obtain ⟨h0, h1, h2, h3, h4, h5, h6, h7, h8, h9, h10, h11⟩ := hS13
                        exact ⟨key _ _ _ hoz13 (.inl rfl) h0, key _ _ _ hg1713 (.inr (.inl rfl)) h1, key _ _ _ hg1713 (.inr (.inl rfl)) h2, key _ _ _ hg1713 (.inr (.inl rfl)) h3, key _ _ _ hg1713 (.inr (.inl rfl)) h4, key _ _ _ hg1713 (.inr (.inl rfl)) h5, key _ _ _ hgl13 (.inr (.inr (.inl rfl))) h6, key _ _ _ hgl13 (.inr (.inr (.inl rfl))) h7, key _ _ _ hgl13 (.inr (.inr (.inl rfl))) h8, key _ _ _ hgl13 (.inr (.inr (.inl rfl))) h9, key _ _ _ hgl13 (.inr (.inr (.inl rfl))) h10, key _ _ _ hgi13 (.inr (.inr (.inr rfl))) h11⟩
                      obtain ⟨rs, hO13, hl13, hT13⟩ := HG13.out.lst
                      have HOO := Lib.hid (And.intro hO13 (And.intro hl13 hT13))
                      have HLW : Hid (∀ k, (Value.slice p n c).ownBlock = Option.some k → k < wr.heap.size) := by
                        obtain ⟨_, hO, _, _⟩ := HG.out.lst
                        exact fun k e => (hO.lt k e).2
                      have hsl := shownTo_len bd (argP t) (L.take k)
                      have HRS : Hid (rs.length ≤ 64) := by have := List.length_take_le k L; have := HLL.out; unfold Hid; omega
                      clear hO13 hl13 hT13 hsl hfd HFM hvm hcc13
                      go_upto_region 29 with fail
                      have hSd : (fun w' : World => w'.cell? ⟨o, 3, none⟩ = some (.slice p n c) ∧ w'.cell? ⟨g17, 0, none⟩ = some (.int .i64 rk) ∧ w'.cell? ⟨g17, 1, none⟩ = some (.int .i64 rn) ∧ w'.cell? ⟨g17, 2, none⟩ = some (.string rS) ∧ w'.cell? ⟨g17, 3, none⟩ = some (.slice rpl rnl rcl) ∧ w'.cell? ⟨g17, 4, none⟩ = some (.slice rpm rnm rcm) ∧ w'.cell? ⟨gl, 10, none⟩ = some (.int .i64 r2k) ∧ w'.cell? ⟨gl, 11, none⟩ = some (.int .i64 r2n) ∧ w'.cell? ⟨gl, 12, none⟩ = some (.string r2s) ∧ w'.cell? ⟨gl, 13, none⟩ = some (.slice r2pl r2nl r2cl) ∧ w'.cell? ⟨gl, 14, none⟩ = some (.slice r2pm r2nm r2cm) ∧ w'.cell? ⟨gi, k, none⟩ = some (.string id)) W13.drew := hS13
                      refine wp_region_K 14 (fun w' : World => w'.cell? ⟨o, 3, none⟩ = some (.slice p n c) ∧ w'.cell? ⟨g17, 0, none⟩ = some (.int .i64 rk) ∧ w'.cell? ⟨g17, 1, none⟩ = some (.int .i64 rn) ∧ w'.cell? ⟨g17, 2, none⟩ = some (.string rS) ∧ w'.cell? ⟨g17, 3, none⟩ = some (.slice rpl rnl rcl) ∧ w'.cell? ⟨g17, 4, none⟩ = some (.slice rpm rnm rcm) ∧ w'.cell? ⟨gl, 10, none⟩ = some (.int .i64 r2k) ∧ w'.cell? ⟨gl, 11, none⟩ = some (.int .i64 r2n) ∧ w'.cell? ⟨gl, 12, none⟩ = some (.string r2s) ∧ w'.cell? ⟨gl, 13, none⟩ = some (.slice r2pl r2nl r2cl) ∧ w'.cell? ⟨gl, 14, none⟩ = some (.slice r2pm r2nm r2cm) ∧ w'.cell? ⟨gi, k, none⟩ = some (.string id)) (by kernel_rfl) hSd ?_
                      intro hHeld
                      clear hS13 hSd
                      refine wpAnyK_take (v := ?vv1) 0 rfl (by kernel_rfl) (by kernel_rfl) (by kernel_rfl) (by kernel_rfl) (by kernel_rfl) (fun _ _ _ h => h) (by assumption) (Or.inl ⟨by rfl, ?hy1⟩) ?rest1
                      case hy1 => (intro w' hSw; (try dsimp only at hSw); first | (go_simp; done) | (go_simp; with_reducible rfl))
                      try simp only [Act.put, List.setIfInBounds_toArray, List.set_cons_zero, List.set_cons_succ]
                      refine wpAnyK_take (v := ?vv2) 1 rfl (by kernel_rfl) (by kernel_rfl) (by kernel_rfl) (by kernel_rfl) (by kernel_rfl) (fun _ _ _ h => h) (by assumption) (Or.inl ⟨by rfl, ?hy2⟩) ?rest2
                      case hy2 => (intro w' hSw; (try dsimp only at hSw); first | (go_simp; done) | (go_simp; with_reducible rfl))
                      try simp only [Act.put, List.setIfInBounds_toArray, List.set_cons_zero, List.set_cons_succ]
                      refine wpAnyK_take (v := ?vv3) 2 rfl (by kernel_rfl) (by kernel_rfl) (by kernel_rfl) (by kernel_rfl) (by kernel_rfl) (fun _ _ _ h => h) (by assumption) (Or.inl ⟨by rfl, ?hy3⟩) ?rest3
                      case hy3 => (intro w' hSw; (try dsimp only at hSw); first | (go_simp; done) | (go_simp; with_reducible rfl))
                      try simp only [Act.put, List.setIfInBounds_toArray, List.set_cons_zero, List.set_cons_succ]
                      refine wpAnyK_take (v := ?vv4) 3 rfl (by kernel_rfl) (by kernel_rfl) (by kernel_rfl) (by kernel_rfl) (by kernel_rfl) (fun _ _ _ h => h) (by assumption) (Or.inl ⟨by rfl, ?hy4⟩) ?rest4
                      case hy4 => (intro w' hSw; (try dsimp only at hSw); first | (go_simp; done) | (go_simp; with_reducible rfl))
                      try simp only [Act.put, List.setIfInBounds_toArray, List.set_cons_zero, List.set_cons_succ]
                      refine wpAnyK_take (v := ?vv5) 4 rfl (by kernel_rfl) (by kernel_rfl) (by kernel_rfl) (by kernel_rfl) (by kernel_rfl) (fun _ _ _ h => h) (by assumption) (Or.inl ⟨by rfl, ?hy5⟩) ?rest5
                      case hy5 => (intro w' hSw; (try dsimp only at hSw); first | (go_simp; done) | (go_simp; with_reducible rfl))
                      try simp only [Act.put, List.setIfInBounds_toArray, List.set_cons_zero, List.set_cons_succ]
                      refine wpAnyK_take (v := ?vv6) 5 rfl (by kernel_rfl) (by kernel_rfl) (by kernel_rfl) (by kernel_rfl) (by kernel_rfl) (fun _ _ _ h => h) (by assumption) (Or.inl ⟨by rfl, ?hy6⟩) ?rest6
                      case hy6 => (intro w' hSw; (try dsimp only at hSw); first | (go_simp; done) | (go_simp; with_reducible rfl))
                      try simp only [Act.put, List.setIfInBounds_toArray, List.set_cons_zero, List.set_cons_succ]
                      refine wpAnyK_take (v := ?vv7) 6 rfl (by kernel_rfl) (by kernel_rfl) (by kernel_rfl) (by kernel_rfl) (by kernel_rfl) (fun _ _ _ h => h) (by assumption) (Or.inl ⟨by rfl, ?hy7⟩) ?rest7
                      case hy7 => (intro w' hSw; (try dsimp only at hSw); first | (go_simp; done) | (go_simp; with_reducible rfl))
                      try simp only [Act.put, List.setIfInBounds_toArray, List.set_cons_zero, List.set_cons_succ]
                      refine wpAnyK_take (v := ?vv8) 7 rfl (by kernel_rfl) (by kernel_rfl) (by kernel_rfl) (by kernel_rfl) (by kernel_rfl) (fun _ _ _ h => h) (by assumption) (Or.inl ⟨by rfl, ?hy8⟩) ?rest8
                      case hy8 => (intro w' hSw; (try dsimp only at hSw); first | (go_simp; done) | (go_simp; with_reducible rfl))
                      try simp only [Act.put, List.setIfInBounds_toArray, List.set_cons_zero, List.set_cons_succ]
                      refine wpAnyK_take (v := ?vv9) 8 rfl (by kernel_rfl) (by kernel_rfl) (by kernel_rfl) (by kernel_rfl) (by kernel_rfl) (fun _ _ _ h => h) (by assumption) (Or.inl ⟨by rfl, ?hy9⟩) ?rest9
                      case hy9 => (intro w' hSw; (try dsimp only at hSw); first | (go_simp; done) | (go_simp; with_reducible rfl))
                      try simp only [Act.put, List.setIfInBounds_toArray, List.set_cons_zero, List.set_cons_succ]
                      refine wpAnyK_take (v := ?vv10) 9 rfl (by kernel_rfl) (by kernel_rfl) (by kernel_rfl) (by kernel_rfl) (by kernel_rfl) (fun _ _ _ h => h) (by assumption) (Or.inl ⟨by rfl, ?hy10⟩) ?rest10
                      case hy10 => (intro w' hSw; (try dsimp only at hSw); first | (go_simp; done) | (go_simp; with_reducible rfl))
                      try simp only [Act.put, List.setIfInBounds_toArray, List.set_cons_zero, List.set_cons_succ]
                      refine wpAnyK_eff 10 rfl (by kernel_rfl) (fun K hK => ?_)
                      go_simp
                      go_at_call 14
                      refine (HSHC.out _ (Below.refl _ _).drew).mono ?_
                      rintro e w14 ⟨p4, n4, c4, rms4, rfl, ho4, hm4, hb4'⟩
                      have hb4 : Below W13.heap.size W13 w14 := (Below.refl _ _).drew.trans hb4'
                      refine hK.out _ _ (HKP.out w14 (fun k hk _ => hb4.block k hk)) (fun hHeld => ?_)
                      clear hK K
                      try simp only [Act.put, List.setIfInBounds_toArray, List.set_cons_zero, List.set_cons_succ]
                      refine wpAnyK_eff 11 rfl (by kernel_rfl) (fun K hK => ?_)
                      go_simp
                      have hb5 : Below W13.heap.size W13 (w14.alloc (.cells #[.int .i64 6, .int .i64 0, .string ⟨#[]⟩, .slice none 0 0, .slice p4 n4 c4] 31)) := hb4.alloc hb4.size _
                      refine hK.out _ _ (HKP.out _ (fun k hk _ => hb5.block k hk)) (fun hHeld => ?_)
                      clear hK K
                      try simp only [Act.put, List.setIfInBounds_toArray, List.set_cons_zero, List.set_cons_succ]
                      have ho5 : Own (w14.alloc (.cells #[.int .i64 6, .int .i64 0, .string ⟨#[]⟩, .slice none 0 0, .slice p4 n4 c4] 31)) w9.heap.size 31 encV 5 (.slice p n c) rs := HOO.out.1.below hb5 (Nat.le_refl _)
                      refine wpAnyK_eff 12 rfl (by kernel_rfl) (fun K hK => ?_)
                      refine step_append_rd slV codecV (w14.alloc (.cells #[.int .i64 6, .int .i64 0, .string ⟨#[]⟩, .slice none 0 0, .slice p4 n4 c4] 31)) (by rfl) (.tmp 142) (.tmp 152) (by rfl) (v := .slice p n c) (by rfl) (by rfl) ho5 (Rd.one (B := w14.heap.size + 1) (x := (⟨6, 0, ⟨#[]⟩, none, 0, 0, p4, n4, c4⟩ : RV)) codecV (heap_alloc_new _ _) rfl (by omega)) (by have := HRS.out; simp only [List.length_singleton]; unfold maxLen; omega) (by have := HRS.out; simp only [List.length_singleton]; omega) (by have := hb5.size; omega) ?_
                      intro v8 w8 ho8 hg8 hat8
                      obtain ⟨p8, n8, c8, rfl⟩ : ∃ p n c, v8 = Value.slice p n c := by obtain ⟨p, c, hv, _, _⟩ := ho8.len; exact ⟨p, _, c, hv⟩
                      have hlow := ho5.lt
                      refine hK.out _ _ (HKP.out w8 (fun k hk hx => (hg8.block k (by have := hb5.size; omega) (fun e => by
                        have h1 := (HOO.out.1.lt k e.symm)
                        have h2 := HLW.out k e.symm
                        rcases hx with rfl | rfl | rfl | rfl
                        · omega
                        · omega
                        · omega
                        · omega)).trans (hb5.block k hk))) (fun hHeld => ?_)
                      clear hK K
                      try simp only [Act.put, List.setIfInBounds_toArray, List.set_cons_zero, List.set_cons_succ]
                      refine wpAnyK_take (v := ?vv11) 13 rfl (by kernel_rfl) (by kernel_rfl) (by kernel_rfl) (by kernel_rfl) (by kernel_rfl) (fun _ _ _ h => h) (by assumption) (Or.inl ⟨by rfl, ?hy11⟩) ?rest11
                      case hy11 => (intro w' hSw; (try dsimp only at hSw); first | (go_simp; done) | (go_simp; with_reducible rfl))
                      try simp only [Act.put, List.setIfInBounds_toArray, List.set_cons_zero, List.set_cons_succ]
                      have hV8 : VAt w8 o ⟨5, 0, ⟨#[]⟩, p, n, c, none, 0, 0⟩ := (hg8.block o (by have := hb5.size; omega) (fun e => by have := (HOO.out.1.lt o e.symm); omega)).trans (HG13.out.out.under hb5 hoz13)
                      have y83 := hV8.frozen 3
                      have c83 := hV8.cell 3 rfl
                      dsimp only at c83
                      refine wpAnyK_last rfl (by kernel_rfl) (by kernel_rfl) (fun K hK => ?_)
                      go_simp
                      refine hK.out _ _ ?_
                      have htS : TreeS (w14.alloc (.cells #[.int .i64 6, .int .i64 0, .string ⟨#[]⟩, .slice none 0 0, .slice p4 n4 c4] 31)) (fun k => k < (w14.alloc (.cells #[.int .i64 6, .int .i64 0, .string ⟨#[]⟩, .slice none 0 0, .slice p4 n4 c4] 31)).heap.size ∧ (k < B ∨ w9.heap.size ≤ k) ∧ (Value.slice p n c).ownBlock ≠ some k ∧ (Value.slice pm nm cm).ownBlock ≠ some k) (showJ id v (argP t)) ⟨6, 0, ⟨#[]⟩, none, 0, 0, p4, n4, c4⟩ := by
                        have h1 := (own_treeS (B := B) ho4 hm4)
                        have h2 : ∀ k, (Value.slice p n c).ownBlock = some k → w9.heap.size ≤ k ∧ k < W13.heap.size := fun k e => HOO.out.1.lt k e
                        have h3 : ∀ k, (Value.slice pm nm cm).ownBlock = some k → w9.heap.size ≤ k ∧ k < W13.heap.size := fun k e => HG13.out.mis.lt k e
                        have h4 : W13.drew.heap.size = W13.heap.size := rfl
                        have h5 := hb4.size
                        have h6 : (w14.alloc (.cells #[.int .i64 6, .int .i64 0, .string ⟨#[]⟩, .slice none 0 0, .slice p4 n4 c4] 31)).heap.size = w14.heap.size + 1 := by simp
                        have h7 := HB13.out.size
                        refine (h1.same (fun k e => Below.heap_alloc w14 _ k (by rcases e with e | e <;> omega))).mono (fun k e => ?_)
                        rw [h6]
                        rw [h4] at e
                        refine ⟨by rcases e with e | e <;> omega, (by rcases e with e | e; exact .inl e; exact .inr (by omega)), fun e2 => ?_, fun e2 => ?_⟩
                        · have := h2 k e2; rcases e with e | e <;> omega
                        · have := h3 k e2; rcases e with e | e <;> omega
                      have hfin := HG13.out.pushL (by omega) (by omega) HOO.out.1 HOO.out.2.1 HOO.out.2.2 hb5 htS ho8 hg8 hat8
                      have HFIN := Lib.hid hfin
                      clear hfin htS hV8 ho8 hg8 hat8 ho5 hb5 hb4 hb4' ho4 hm4 hlow HSHC HKP HOO
                      go_wp2_with fail
                      go_roundg (ni - (k + 1))
                      case measure => have := HGK.out; omega
                      case rel =>
                        refine ⟨k + 1, p8, n8, c8, rfl, by omega, by go_num, ?_⟩
                        unfold Hid
                        rw [HSH.out, HMS.out]
                        exact HFIN.out
                  · obtain rfl : k = ni := by omega
                    have htk : L.take k = L := List.take_of_length_le (by have := HNI.out; omega)
                    rw [htk] at HG
                    have hml := missTo_len bd L
                    have HML : Hid ((missTo bd L).length ≤ 100000) := by have := HLL.out; unfold Hid; omega
                    have hid0 : wr.cell? ⟨w.heap.size, 0, none⟩ = some (.string ra.id) := hcc _ _ _ (by omega) (by omega) ((cell_of_row w9 w.heap.size 0 _ _ _ HA9.out).trans rfl)
                    have HZR : Hid (VAt wr (w.heap.size + 1 + 1) RV.zero) := HZ9.out.keep (HG.out.grown.block _ (by omega) (fun e => by injection e with e; omega))
                    have hol := HG.out.out
                    have hor : o < wr.heap.size := hol.lt
                    have hg12r : g12 < wr.heap.size := by omega
                    have hwr : w.heap.size < wr.heap.size := by omega
                    have hzwr : w.heap.size + 1 + 1 < wr.heap.size := by omega
                    obtain ⟨stx, hstx⟩ : ∃ s, stateB cd sq = s := ⟨_, rfl⟩
                    rw [hstx] at HST
                    have HSX := Lib.hid hstx
                    have C1 : Hid (∀ W, Calls Tryz.prog 35 #[.string ra.id] W fun e w' => e = .returned (.agg #[.int .i64 4, .int .i64 0, .string ra.id, .slice none 0 0, .slice none 0 0]) ∧ Below W.heap.size W w') := fun W => textV25_any ra.id W
                    have C2 : Hid (∀ W, Calls Tryz.prog 35 #[.string stx] W fun e w' => e = .returned (.agg #[.int .i64 4, .int .i64 0, .string stx, .slice none 0 0, .slice none 0 0]) ∧ Below W.heap.size W w') := fun W => textV25_any stx W
                    have C7 : Hid (∀ W, Below wr.heap.size wr W → Calls Tryz.prog 13 #[.slice pm nm cm] W fun e w' => ∃ pt nt ct, e = .returned (.agg #[.int .i64 5, .int .i64 0, .string ⟨#[]⟩, .slice pt nt ct, .slice none 0 0]) ∧ TreeS w' (fun k => wr.heap.size ≤ k ∧ k < w'.heap.size) (listJ ((missTo bd L).map textJ)) ⟨5, 0, ⟨#[]⟩, pt, nt, ct, none, 0, 0⟩ ∧ Below W.heap.size W w') := fun W hb =>
                      (refTexts_any (missTo bd L) pm nm cm W ((HG.out.mis.below hb (Nat.le_refl _)).rd codecS) HML.out).mono (fun e w' h => by
                        obtain ⟨pt, nt, ct, he, ho, hb2⟩ := h
                        exact ⟨pt, nt, ct, he, (texts_tree ho).mono (fun k e => ⟨Nat.le_trans hb.size e.1, e.2⟩), hb2⟩)
                    have A1 : Hid (∀ W, Calls Tryz.prog 34 #[.agg #[.int .i64 0, .int .i64 0, .string ⟨#[]⟩, .slice none 0 0, .slice none 0 0], .string ⟨#[97, 99, 99, 111, 117, 110, 116, 73, 100]⟩, .agg #[.int .i64 4, .int .i64 0, .string ra.id, .slice none 0 0, .slice none 0 0]] W fun e w' => ∃ p n c, e = .returned (.agg #[.int .i64 6, .int .i64 0, .string ⟨#[]⟩, .slice none 0 0, .slice p n c]) ∧ Own w' W.heap.size 48 encM 6 (.slice p n c) [⟨accIdN, textR ra.id⟩] ∧ Below W.heap.size W w') := fun W =>
                      addV_any 0 0 ⟨#[]⟩ none 0 0 none 0 0 [] accIdN (textR ra.id) W (Rd.nil _ _) (by simp)
                    have A2 : Hid (∀ (W : World) (p1 : Option Addr) (n1 c1 base : Nat), Own W base 48 encM 6 (.slice p1 n1 c1) [⟨accIdN, textR ra.id⟩] → Calls Tryz.prog 34 #[.agg #[.int .i64 6, .int .i64 0, .string ⟨#[]⟩, .slice none 0 0, .slice p1 n1 c1], .string ⟨#[115, 116, 97, 116, 101]⟩, .agg #[.int .i64 4, .int .i64 0, .string stx, .slice none 0 0, .slice none 0 0]] W fun e w' => ∃ p n c, e = .returned (.agg #[.int .i64 6, .int .i64 0, .string ⟨#[]⟩, .slice none 0 0, .slice p n c]) ∧ Own w' W.heap.size 48 encM 6 (.slice p n c) [⟨accIdN, textR ra.id⟩, ⟨stateN, textR stx⟩] ∧ Below W.heap.size W w') := fun W p1 n1 c1 base ho =>
                      addV_any 6 0 ⟨#[]⟩ none 0 0 p1 n1 c1 [⟨accIdN, textR ra.id⟩] stateN (textR stx) W (ho.rd codecM) (by simp)
                    have A3 : Hid (∀ (W : World) (p1 : Option Addr) (n1 c1 base : Nat), Own W base 48 encM 6 (.slice p1 n1 c1) [⟨accIdN, textR ra.id⟩, ⟨stateN, textR stx⟩] → Calls Tryz.prog 34 #[.agg #[.int .i64 6, .int .i64 0, .string ⟨#[]⟩, .slice none 0 0, .slice p1 n1 c1], .string ⟨#[108, 105, 115, 116]⟩, .agg #[.int .i64 5, .int .i64 0, .string ⟨#[]⟩, .slice p n c, .slice none 0 0]] W fun e w' => ∃ p3 n3 c3, e = .returned (.agg #[.int .i64 6, .int .i64 0, .string ⟨#[]⟩, .slice none 0 0, .slice p3 n3 c3]) ∧ Own w' W.heap.size 48 encM 6 (.slice p3 n3 c3) [⟨accIdN, textR ra.id⟩, ⟨stateN, textR stx⟩, ⟨listN, ⟨5, 0, ⟨#[]⟩, p, n, c, none, 0, 0⟩⟩] ∧ Below W.heap.size W w') := fun W p1 n1 c1 base ho =>
                      addV_any 6 0 ⟨#[]⟩ none 0 0 p1 n1 c1 [⟨accIdN, textR ra.id⟩, ⟨stateN, textR stx⟩] listN ⟨5, 0, ⟨#[]⟩, p, n, c, none, 0, 0⟩ W (ho.rd codecM) (by simp)
                    have HWH := Lib.hid HG.out.whole
                    have HAID : Hid (a.id = ra.id ∧ bd.seq = sq ∧ askedL bd (argI t) = L) := ⟨HAI.out, HSQ.out, HLA.out⟩
                    have A4 : Hid (∀ (W W' : World) (p1 : Option Addr) (n1 c1 base : Nat) (pt : Option Addr) (nt ct : Nat), Own W base 48 encM 6 (.slice p1 n1 c1) [⟨accIdN, textR ra.id⟩, ⟨stateN, textR stx⟩, ⟨listN, ⟨5, 0, ⟨#[]⟩, p, n, c, none, 0, 0⟩⟩] → TreeS W' (fun k => wr.heap.size ≤ k ∧ k < W'.heap.size) (listJ ((missTo bd L).map textJ)) ⟨5, 0, ⟨#[]⟩, pt, nt, ct, none, 0, 0⟩ → Below wr.heap.size wr W' → Below W'.heap.size W' W →
                        Calls Tryz.prog 34 #[.agg #[.int .i64 6, .int .i64 0, .string ⟨#[]⟩, .slice none 0 0, .slice p1 n1 c1], .string ⟨#[110, 111, 116, 70, 111, 117, 110, 100]⟩, .agg #[.int .i64 5, .int .i64 0, .string ⟨#[]⟩, .slice pt nt ct, .slice none 0 0]] W fun e w' => ∃ p6 n6 c6, e = .returned (.agg #[.int .i64 6, .int .i64 0, .string ⟨#[]⟩, .slice none 0 0, .slice p6 n6 c6]) ∧ TreeS w' (fun k => k < w'.heap.size ∧ (k < B ∨ w9.heap.size ≤ k)) (getJ a.id cd bd (argI t) (argP t)) ⟨6, 0, ⟨#[]⟩, none, 0, 0, p6, n6, c6⟩ ∧ Below W.heap.size W w') := fun W W' p1 n1 c1 base pt nt ct ho1 h1 hb hb' =>
                      (addV_any 6 0 ⟨#[]⟩ none 0 0 p1 n1 c1 [⟨accIdN, textR ra.id⟩, ⟨stateN, textR stx⟩, ⟨listN, ⟨5, 0, ⟨#[]⟩, p, n, c, none, 0, 0⟩⟩] notFoundN ⟨5, 0, ⟨#[]⟩, pt, nt, ct, none, 0, 0⟩ W (ho1.rd codecM) (by simp)).mono (fun e w' h => by
                        obtain ⟨p6, n6, c6, he, ho, hb6⟩ := h
                        have hbz : Below W'.heap.size W' w' := hb'.trans (hb6.mono hb'.size)
                        have hbw : Below wr.heap.size wr w' := hb.trans (hbz.mono hb.size)
                        have hs1 := hb.size
                        have hs2 := hb'.size
                        have hs3 := hbz.size
                        refine ⟨p6, n6, c6, he, ?_, hb6⟩
                        unfold getJ
                        rw [HAID.out.1, HAID.out.2.1, HAID.out.2.2, HSX.out]
                        refine four_tree ho (fun k h1 h2 => ⟨h2, .inr (by omega)⟩) (textR_of _ _ _) (textR_of _ _ _) ?_ ?_
                        · exact (HWH.out.same (fun k e => hbw.block k e.1)).mono (fun k e => ⟨by have := e.1; omega, e.2⟩)
                        · exact (h1.same (fun k e => hbz.block k e.2)).mono (fun k e => ⟨by have := e.2; omega, .inr (by have := e.1; omega)⟩))
                    clear hx0 hx1 hx3 hx4 hcc htk hml hstx HS9
                    go_upto_region 32 with (first
                      | (go_at_call 35; refine (C1.out _).mono ?_; rintro e w21 ⟨rfl, hb21⟩)
                      | (go_at_call 34; refine (A1.out _).mono ?_; rintro e w22 ⟨p1, n1, c1, rfl, ho1, hb22⟩))
                    have hb31 : Below wr.heap.size wr (w22.alloc (.cells #[.int .i64 6, .int .i64 0, .string ⟨#[]⟩, .slice none 0 0, .slice p1 n1 c1] 31)) := (hb21.trans (hb22.mono hb21.size)).alloc (Nat.le_trans hb21.size hb22.size) _
                    have hv31 : VAt (w22.alloc (.cells #[.int .i64 6, .int .i64 0, .string ⟨#[]⟩, .slice none 0 0, .slice p1 n1 c1] 31)) w22.heap.size ⟨6, 0, ⟨#[]⟩, none, 0, 0, p1, n1, c1⟩ := heap_alloc_at rfl
                    have ho31 : Own (w22.alloc (.cells #[.int .i64 6, .int .i64 0, .string ⟨#[]⟩, .slice none 0 0, .slice p1 n1 c1] 31)) w21.heap.size 48 encM 6 (.slice p1 n1 c1) [⟨accIdN, textR ra.id⟩] := ho1.alloc _
                    have hgw23 : wr.heap.size ≤ w22.heap.size := Nat.le_trans hb21.size hb22.size
                    obtain ⟨g23, hg23⟩ : ∃ g, w22.heap.size = g := ⟨_, rfl⟩
                    obtain ⟨W31, hW31⟩ : ∃ W, w22.alloc (.cells #[.int .i64 6, .int .i64 0, .string ⟨#[]⟩, .slice none 0 0, .slice p1 n1 c1] 31) = W := ⟨_, rfl⟩
                    rw [hW31] at hb31 hv31 ho31
                    rw [hg23] at hv31 hgw23
                    try rw [hW31]
                    try rw [hg23]
                    clear hW31 hg23 hb21 hb22 ho1 hid0
                    have hg2331 : g23 < W31.heap.size := hv31.lt
                    have HV31 := Lib.hid hv31
                    have HB31 := Lib.hid hb31
                    have HO31 := Lib.hid ho31
                    have x31 := bcs hb31 hg12r hx2
                    have hg1231 : g12 < W31.heap.size := Nat.lt_of_lt_of_le hg12r hb31.size
                    have hS31 : (fun w' : World => w'.cell? ⟨g23, 0, none⟩ = some (.int .i64 6) ∧ w'.cell? ⟨g23, 1, none⟩ = some (.int .i64 0) ∧ w'.cell? ⟨g23, 2, none⟩ = some (.string ⟨#[]⟩) ∧ w'.cell? ⟨g23, 3, none⟩ = some (.slice none 0 0) ∧ w'.cell? ⟨g23, 4, none⟩ = some (.slice p1 n1 c1) ∧ w'.cell? ⟨g12, 2, none⟩ = some (.int .i64 sq)) W31 := ⟨hv31.cell 0 rfl, hv31.cell 1 rfl, hv31.cell 2 rfl, hv31.cell 3 rfl, hv31.cell 4 rfl, x31⟩
                    have HK32 : Hid (∀ W, Below W31.heap.size W31 W → (fun w' : World => w'.cell? ⟨g23, 0, none⟩ = some (.int .i64 6) ∧ w'.cell? ⟨g23, 1, none⟩ = some (.int .i64 0) ∧ w'.cell? ⟨g23, 2, none⟩ = some (.string ⟨#[]⟩) ∧ w'.cell? ⟨g23, 3, none⟩ = some (.slice none 0 0) ∧ w'.cell? ⟨g23, 4, none⟩ = some (.slice p1 n1 c1) ∧ w'.cell? ⟨g12, 2, none⟩ = some (.int .i64 sq)) W) := fun W hb => ⟨bcs hb hg2331 hS31.1, bcs hb hg2331 hS31.2.1, bcs hb hg2331 hS31.2.2.1, bcs hb hg2331 hS31.2.2.2.1, bcs hb hg2331 hS31.2.2.2.2.1, bcs hb hg1231 hS31.2.2.2.2.2⟩
                    have hSd32 : (fun w' : World => w'.cell? ⟨g23, 0, none⟩ = some (.int .i64 6) ∧ w'.cell? ⟨g23, 1, none⟩ = some (.int .i64 0) ∧ w'.cell? ⟨g23, 2, none⟩ = some (.string ⟨#[]⟩) ∧ w'.cell? ⟨g23, 3, none⟩ = some (.slice none 0 0) ∧ w'.cell? ⟨g23, 4, none⟩ = some (.slice p1 n1 c1) ∧ w'.cell? ⟨g12, 2, none⟩ = some (.int .i64 sq)) W31.drew := hS31
                    clear hv31 hb31 ho31 x31 hx2
                    refine wp_region_K 7 (fun w' : World => w'.cell? ⟨g23, 0, none⟩ = some (.int .i64 6) ∧ w'.cell? ⟨g23, 1, none⟩ = some (.int .i64 0) ∧ w'.cell? ⟨g23, 2, none⟩ = some (.string ⟨#[]⟩) ∧ w'.cell? ⟨g23, 3, none⟩ = some (.slice none 0 0) ∧ w'.cell? ⟨g23, 4, none⟩ = some (.slice p1 n1 c1) ∧ w'.cell? ⟨g12, 2, none⟩ = some (.int .i64 sq)) (by kernel_rfl) hSd32 ?_
                    intro hHeld
                    clear hS31 hSd32
                    refine wpAnyK_take (v := ?vv12) 0 rfl (by kernel_rfl) (by kernel_rfl) (by kernel_rfl) (by kernel_rfl) (by kernel_rfl) (fun _ _ _ h => h) (by assumption) (Or.inl ⟨by rfl, ?hy12⟩) ?rest12
                    case hy12 => (intro w' hSw; (try dsimp only at hSw); first | (go_simp; done) | (go_simp; with_reducible rfl))
                    try simp only [Act.put, List.setIfInBounds_toArray, List.set_cons_zero, List.set_cons_succ]
                    refine wpAnyK_take (v := ?vv13) 1 rfl (by kernel_rfl) (by kernel_rfl) (by kernel_rfl) (by kernel_rfl) (by kernel_rfl) (fun _ _ _ h => h) (by assumption) (Or.inl ⟨by rfl, ?hy13⟩) ?rest13
                    case hy13 => (intro w' hSw; (try dsimp only at hSw); first | (go_simp; done) | (go_simp; with_reducible rfl))
                    try simp only [Act.put, List.setIfInBounds_toArray, List.set_cons_zero, List.set_cons_succ]
                    refine wpAnyK_take (v := ?vv14) 2 rfl (by kernel_rfl) (by kernel_rfl) (by kernel_rfl) (by kernel_rfl) (by kernel_rfl) (fun _ _ _ h => h) (by assumption) (Or.inl ⟨by rfl, ?hy14⟩) ?rest14
                    case hy14 => (intro w' hSw; (try dsimp only at hSw); first | (go_simp; done) | (go_simp; with_reducible rfl))
                    try simp only [Act.put, List.setIfInBounds_toArray, List.set_cons_zero, List.set_cons_succ]
                    refine wpAnyK_take (v := ?vv15) 3 rfl (by kernel_rfl) (by kernel_rfl) (by kernel_rfl) (by kernel_rfl) (by kernel_rfl) (fun _ _ _ h => h) (by assumption) (Or.inl ⟨by rfl, ?hy15⟩) ?rest15
                    case hy15 => (intro w' hSw; (try dsimp only at hSw); first | (go_simp; done) | (go_simp; with_reducible rfl))
                    try simp only [Act.put, List.setIfInBounds_toArray, List.set_cons_zero, List.set_cons_succ]
                    refine wpAnyK_eff 4 rfl (by kernel_rfl) (fun K hK => ?_)
                    go_simp
                    go_at_call 36
                    refine (HST.out _).mono ?_
                    rintro e w23 ⟨rfl, hb23'⟩
                    have hb23 : Below W31.heap.size W31 w23 := (Below.refl _ _).drew.trans hb23'
                    refine hK.out _ _ (HK32.out _ hb23) (fun hHeld => ?_)
                    clear hK K
                    try simp only [Act.put, List.setIfInBounds_toArray, List.set_cons_zero, List.set_cons_succ]
                    refine wpAnyK_eff 5 rfl (by kernel_rfl) (fun K hK => ?_)
                    go_simp
                    go_at_call 35
                    refine (C2.out _).mono ?_
                    rintro e w24 ⟨rfl, hb24'⟩
                    have hb24 : Below W31.heap.size W31 w24 := hb23.trans (hb24'.mono hb23.size)
                    refine hK.out _ _ (HK32.out _ hb24) (fun hHeld => ?_)
                    clear hK K
                    try simp only [Act.put, List.setIfInBounds_toArray, List.set_cons_zero, List.set_cons_succ]
                    refine wpAnyK_eff 6 rfl (by kernel_rfl) (fun K hK => ?_)
                    go_simp
                    go_at_call 34
                    refine (A2.out _ _ _ _ _ (HO31.out.below hb24 (Nat.le_refl _))).mono ?_
                    rintro e w25 ⟨p2, n2, c2, rfl, ho2, hb25'⟩
                    have hb25 : Below W31.heap.size W31 w25 := hb24.trans (hb25'.mono hb24.size)
                    refine hK.out _ _ (HK32.out _ hb25) (fun hHeld => ?_)
                    clear hK K
                    try simp only [Act.put, List.setIfInBounds_toArray, List.set_cons_zero, List.set_cons_succ]
                    have hv25 := HV31.out.under hb25 hg2331
                    have z0 := hv25.cell 0 rfl
                    have z1 := hv25.cell 1 rfl
                    have z2 := hv25.cell 2 rfl
                    have z3 := hv25.cell 3 rfl
                    have z4 := hv25.cell 4 rfl
                    have y0 := hv25.frozen 0
                    have y1 := hv25.frozen 1
                    have y2 := hv25.frozen 2
                    have y3 := hv25.frozen 3
                    have y4 := hv25.frozen 4
                    dsimp only at z0 z1 z2 z3 z4
                    refine wpAnyK_last rfl (by kernel_rfl) (by kernel_rfl) (fun K hK => ?_)
                    go_simp
                    refine hK.out _ _ ?_
                    have hgs25 := grownBy_set5 w25 g23 ⟨6, 0, ⟨#[]⟩, none, 0, 0, p2, n2, c2⟩
                    have hb32 : Below wr.heap.size wr (((((w25.setCell ⟨g23, 0, none⟩ (.int .i64 (⟨6, 0, ⟨#[]⟩, none, 0, 0, p2, n2, c2⟩ : RV).k)).setCell ⟨g23, 1, none⟩ (.int .i64 (⟨6, 0, ⟨#[]⟩, none, 0, 0, p2, n2, c2⟩ : RV).n)).setCell ⟨g23, 2, none⟩ (.string (⟨6, 0, ⟨#[]⟩, none, 0, 0, p2, n2, c2⟩ : RV).s)).setCell ⟨g23, 3, none⟩ (.slice (⟨6, 0, ⟨#[]⟩, none, 0, 0, p2, n2, c2⟩ : RV).pl (⟨6, 0, ⟨#[]⟩, none, 0, 0, p2, n2, c2⟩ : RV).nl (⟨6, 0, ⟨#[]⟩, none, 0, 0, p2, n2, c2⟩ : RV).cl)).setCell ⟨g23, 4, none⟩ (.slice (⟨6, 0, ⟨#[]⟩, none, 0, 0, p2, n2, c2⟩ : RV).pm (⟨6, 0, ⟨#[]⟩, none, 0, 0, p2, n2, c2⟩ : RV).nm (⟨6, 0, ⟨#[]⟩, none, 0, 0, p2, n2, c2⟩ : RV).cm)) := Below.stored (HB31.out.trans (hb25.mono HB31.out.size)) hgw23 ⟨6, 0, ⟨#[]⟩, none, 0, 0, p2, n2, c2⟩
                    have hv32 : VAt (((((w25.setCell ⟨g23, 0, none⟩ (.int .i64 (⟨6, 0, ⟨#[]⟩, none, 0, 0, p2, n2, c2⟩ : RV).k)).setCell ⟨g23, 1, none⟩ (.int .i64 (⟨6, 0, ⟨#[]⟩, none, 0, 0, p2, n2, c2⟩ : RV).n)).setCell ⟨g23, 2, none⟩ (.string (⟨6, 0, ⟨#[]⟩, none, 0, 0, p2, n2, c2⟩ : RV).s)).setCell ⟨g23, 3, none⟩ (.slice (⟨6, 0, ⟨#[]⟩, none, 0, 0, p2, n2, c2⟩ : RV).pl (⟨6, 0, ⟨#[]⟩, none, 0, 0, p2, n2, c2⟩ : RV).nl (⟨6, 0, ⟨#[]⟩, none, 0, 0, p2, n2, c2⟩ : RV).cl)).setCell ⟨g23, 4, none⟩ (.slice (⟨6, 0, ⟨#[]⟩, none, 0, 0, p2, n2, c2⟩ : RV).pm (⟨6, 0, ⟨#[]⟩, none, 0, 0, p2, n2, c2⟩ : RV).nm (⟨6, 0, ⟨#[]⟩, none, 0, 0, p2, n2, c2⟩ : RV).cm)) g23 ⟨6, 0, ⟨#[]⟩, none, 0, 0, p2, n2, c2⟩ := hv25.stored ⟨6, 0, ⟨#[]⟩, none, 0, 0, p2, n2, c2⟩
                    have ho32 := ho2.kept hgs25 (.inr (fun e => by have := (ho2.lt _ e).1; have := hb24.size; omega))
                    dsimp only at hb32 hv32 ho32
                    clear hK K hHeld z0 z1 z2 z3 z4 y0 y1 y2 y3 y4 hv25 hgs25 hb25 hb25' hb24 hb24' hb23 hb23' ho2 HK32 HV31 HO31 HST
                    obtain ⟨W32, hW32⟩ : ∃ W, ((((w25.setCell ⟨g23, 0, none⟩ (.int .i64 6)).setCell ⟨g23, 1, none⟩ (.int .i64 0)).setCell ⟨g23, 2, none⟩ (.string ⟨#[]⟩)).setCell ⟨g23, 3, none⟩ (.slice none 0 0)).setCell ⟨g23, 4, none⟩ (.slice p2 n2 c2) = W := ⟨_, rfl⟩
                    rw [hW32] at hb32 hv32 ho32
                    try rw [hW32]
                    clear hW32
                    have hg2332 : g23 < W32.heap.size := hv32.lt
                    have HV32 := Lib.hid hv32
                    have HO32 := Lib.hid ho32
                    have HB32 := Lib.hid hb32
                    have hol32 := hol.under hb32 hor
                    have z0 := hv32.cell 0 rfl
                    have z1 := hv32.cell 1 rfl
                    have z2 := hv32.cell 2 rfl
                    have z3 := hv32.cell 3 rfl
                    have z4 := hv32.cell 4 rfl
                    have m0 := hol32.cell 0 rfl
                    have m1 := hol32.cell 1 rfl
                    have m2 := hol32.cell 2 rfl
                    have m3 := hol32.cell 3 rfl
                    have m4 := hol32.cell 4 rfl
                    dsimp only at z0 z1 z2 z3 z4 m0 m1 m2 m3 m4
                    clear hb32 hv32 ho32 hol32
                    go_upto_region 34 with (first
                      | (go_at_call 34; refine (A3.out _ _ _ _ _ HO32.out).mono ?_; rintro e w26 ⟨p3, n3, c3, rfl, ho3, hb26⟩; (have hv26 := HV32.out.under hb26 hg2332); (have z0 := hv26.cell 0 rfl); (have z1 := hv26.cell 1 rfl); (have z2 := hv26.cell 2 rfl); (have z3 := hv26.cell 3 rfl); (have z4 := hv26.cell 4 rfl); (have y0 := hv26.frozen 0); (have y1 := hv26.frozen 1); (have y2 := hv26.frozen 2); (have y3 := hv26.frozen 3); (have y4 := hv26.frozen 4); dsimp only at z0 z1 z2 z3 z4)
                      | fail)
                    have hgs26 := grownBy_set5 w26 g23 ⟨6, 0, ⟨#[]⟩, none, 0, 0, p3, n3, c3⟩
                    have hb33 : Below wr.heap.size wr (((((w26.setCell ⟨g23, 0, none⟩ (.int .i64 (⟨6, 0, ⟨#[]⟩, none, 0, 0, p3, n3, c3⟩ : RV).k)).setCell ⟨g23, 1, none⟩ (.int .i64 (⟨6, 0, ⟨#[]⟩, none, 0, 0, p3, n3, c3⟩ : RV).n)).setCell ⟨g23, 2, none⟩ (.string (⟨6, 0, ⟨#[]⟩, none, 0, 0, p3, n3, c3⟩ : RV).s)).setCell ⟨g23, 3, none⟩ (.slice (⟨6, 0, ⟨#[]⟩, none, 0, 0, p3, n3, c3⟩ : RV).pl (⟨6, 0, ⟨#[]⟩, none, 0, 0, p3, n3, c3⟩ : RV).nl (⟨6, 0, ⟨#[]⟩, none, 0, 0, p3, n3, c3⟩ : RV).cl)).setCell ⟨g23, 4, none⟩ (.slice (⟨6, 0, ⟨#[]⟩, none, 0, 0, p3, n3, c3⟩ : RV).pm (⟨6, 0, ⟨#[]⟩, none, 0, 0, p3, n3, c3⟩ : RV).nm (⟨6, 0, ⟨#[]⟩, none, 0, 0, p3, n3, c3⟩ : RV).cm)) := Below.stored (HB32.out.trans (hb26.mono HB32.out.size)) hgw23 ⟨6, 0, ⟨#[]⟩, none, 0, 0, p3, n3, c3⟩
                    have hv33 : VAt (((((w26.setCell ⟨g23, 0, none⟩ (.int .i64 (⟨6, 0, ⟨#[]⟩, none, 0, 0, p3, n3, c3⟩ : RV).k)).setCell ⟨g23, 1, none⟩ (.int .i64 (⟨6, 0, ⟨#[]⟩, none, 0, 0, p3, n3, c3⟩ : RV).n)).setCell ⟨g23, 2, none⟩ (.string (⟨6, 0, ⟨#[]⟩, none, 0, 0, p3, n3, c3⟩ : RV).s)).setCell ⟨g23, 3, none⟩ (.slice (⟨6, 0, ⟨#[]⟩, none, 0, 0, p3, n3, c3⟩ : RV).pl (⟨6, 0, ⟨#[]⟩, none, 0, 0, p3, n3, c3⟩ : RV).nl (⟨6, 0, ⟨#[]⟩, none, 0, 0, p3, n3, c3⟩ : RV).cl)).setCell ⟨g23, 4, none⟩ (.slice (⟨6, 0, ⟨#[]⟩, none, 0, 0, p3, n3, c3⟩ : RV).pm (⟨6, 0, ⟨#[]⟩, none, 0, 0, p3, n3, c3⟩ : RV).nm (⟨6, 0, ⟨#[]⟩, none, 0, 0, p3, n3, c3⟩ : RV).cm)) g23 ⟨6, 0, ⟨#[]⟩, none, 0, 0, p3, n3, c3⟩ := hv26.stored ⟨6, 0, ⟨#[]⟩, none, 0, 0, p3, n3, c3⟩
                    have ho33 := ho3.kept hgs26 (.inr (fun e => by have := (ho3.lt _ e).1; omega))
                    dsimp only at hb33 hv33 ho33
                    clear z0 z1 z2 z3 z4 y0 y1 y2 y3 y4 m0 m1 m2 m3 m4 hv26 hgs26 hb26 ho3
                    obtain ⟨W33, hW33⟩ : ∃ W, ((((w26.setCell ⟨g23, 0, none⟩ (.int .i64 6)).setCell ⟨g23, 1, none⟩ (.int .i64 0)).setCell ⟨g23, 2, none⟩ (.string ⟨#[]⟩)).setCell ⟨g23, 3, none⟩ (.slice none 0 0)).setCell ⟨g23, 4, none⟩ (.slice p3 n3 c3) = W := ⟨_, rfl⟩
                    rw [hW33] at hb33 hv33 ho33
                    try rw [hW33]
                    clear hW33
                    have hg2333 : g23 < W33.heap.size := hv33.lt
                    have HO33 := Lib.hid ho33
                    have HB33 := Lib.hid hb33
                    have hS33 : (fun w' : World => w'.cell? ⟨g23, 0, none⟩ = some (.int .i64 6) ∧ w'.cell? ⟨g23, 1, none⟩ = some (.int .i64 0) ∧ w'.cell? ⟨g23, 2, none⟩ = some (.string ⟨#[]⟩) ∧ w'.cell? ⟨g23, 3, none⟩ = some (.slice none 0 0) ∧ w'.cell? ⟨g23, 4, none⟩ = some (.slice p3 n3 c3)) W33 := ⟨hv33.cell 0 rfl, hv33.cell 1 rfl, hv33.cell 2 rfl, hv33.cell 3 rfl, hv33.cell 4 rfl⟩
                    have HSW : Hid (∀ W, Below W33.heap.size W33 W → (fun w' : World => w'.cell? ⟨g23, 0, none⟩ = some (.int .i64 6) ∧ w'.cell? ⟨g23, 1, none⟩ = some (.int .i64 0) ∧ w'.cell? ⟨g23, 2, none⟩ = some (.string ⟨#[]⟩) ∧ w'.cell? ⟨g23, 3, none⟩ = some (.slice none 0 0) ∧ w'.cell? ⟨g23, 4, none⟩ = some (.slice p3 n3 c3)) W) := fun W hb => ⟨bcs hb hg2333 hS33.1, bcs hb hg2333 hS33.2.1, bcs hb hg2333 hS33.2.2.1, bcs hb hg2333 hS33.2.2.2.1, bcs hb hg2333 hS33.2.2.2.2⟩
                    have HSS : Hid (∀ W (q : RV), Below W33.heap.size W33 W → (fun w' : World => w'.cell? ⟨g23, 0, none⟩ = some (.int .i64 6) ∧ w'.cell? ⟨g23, 1, none⟩ = some (.int .i64 0) ∧ w'.cell? ⟨g23, 2, none⟩ = some (.string ⟨#[]⟩) ∧ w'.cell? ⟨g23, 3, none⟩ = some (.slice none 0 0) ∧ w'.cell? ⟨g23, 4, none⟩ = some (.slice p3 n3 c3)) (((((W.setCell ⟨(w.heap.size + 1 + 1), 0, none⟩ (.int .i64 q.k)).setCell ⟨(w.heap.size + 1 + 1), 1, none⟩ (.int .i64 q.n)).setCell ⟨(w.heap.size + 1 + 1), 2, none⟩ (.string q.s)).setCell ⟨(w.heap.size + 1 + 1), 3, none⟩ (.slice q.pl q.nl q.cl)).setCell ⟨(w.heap.size + 1 + 1), 4, none⟩ (.slice q.pm q.nm q.cm))) := fun W q hb => by
                      have key : ∀ b o' v, b ≠ w.heap.size + 1 + 1 → W.cell? ⟨b, o', none⟩ = some v → (((((W.setCell ⟨(w.heap.size + 1 + 1), 0, none⟩ (.int .i64 q.k)).setCell ⟨(w.heap.size + 1 + 1), 1, none⟩ (.int .i64 q.n)).setCell ⟨(w.heap.size + 1 + 1), 2, none⟩ (.string q.s)).setCell ⟨(w.heap.size + 1 + 1), 3, none⟩ (.slice q.pl q.nl q.cl)).setCell ⟨(w.heap.size + 1 + 1), 4, none⟩ (.slice q.pm q.nm q.cm)).cell? ⟨b, o', none⟩ = some v := fun b o' v hne h =>
                        (World.cell?_of_block (a := ⟨b, o', none⟩) ((grownBy_set5 W (w.heap.size + 1 + 1) q).block b (cell_some h).2 (fun e => hne (by injection e)))).trans h
                      obtain ⟨h0, h1, h2, h3, h4⟩ := HSW.out W hb
                      exact ⟨key _ _ _ (by omega) h0, key _ _ _ (by omega) h1, key _ _ _ (by omega) h2, key _ _ _ (by omega) h3, key _ _ _ (by omega) h4⟩
                    have C7' : Hid (∀ W, Below W33.heap.size W33 W → Calls Tryz.prog 13 #[.slice pm nm cm] W fun e w' => ∃ pt nt ct, e = .returned (.agg #[.int .i64 5, .int .i64 0, .string ⟨#[]⟩, .slice pt nt ct, .slice none 0 0]) ∧ TreeS w' (fun k => wr.heap.size ≤ k ∧ k < w'.heap.size) (listJ ((missTo bd L).map textJ)) ⟨5, 0, ⟨#[]⟩, pt, nt, ct, none, 0, 0⟩ ∧ Below W.heap.size W w') := fun W hb => C7.out W (HB33.out.trans (hb.mono HB33.out.size))
                    have A4' : Hid (∀ (W' : World) (pt : Option Addr) (nt ct : Nat), TreeS W' (fun k => wr.heap.size ≤ k ∧ k < W'.heap.size) (listJ ((missTo bd L).map textJ)) ⟨5, 0, ⟨#[]⟩, pt, nt, ct, none, 0, 0⟩ → Below W33.heap.size W33 W' →
                        Calls Tryz.prog 34 #[.agg #[.int .i64 6, .int .i64 0, .string ⟨#[]⟩, .slice none 0 0, .slice p3 n3 c3], .string ⟨#[110, 111, 116, 70, 111, 117, 110, 100]⟩, .agg #[.int .i64 5, .int .i64 0, .string ⟨#[]⟩, .slice pt nt ct, .slice none 0 0]] W' fun e w' => ∃ p6 n6 c6, e = .returned (.agg #[.int .i64 6, .int .i64 0, .string ⟨#[]⟩, .slice none 0 0, .slice p6 n6 c6]) ∧ TreeS w' (fun k => k < w'.heap.size ∧ (k < B ∨ w9.heap.size ≤ k)) (getJ a.id cd bd (argI t) (argP t)) ⟨6, 0, ⟨#[]⟩, none, 0, 0, p6, n6, c6⟩ ∧ Below W'.heap.size W' w') := fun W' pt nt ct h1 hb =>
                      A4.out W' W' p3 n3 c3 _ pt nt ct (HO33.out.below hb (Nat.le_refl _)) h1 (HB33.out.trans (hb.mono HB33.out.size)) (Below.refl _ _)
                    have hk0 := KB.drew W33
                    obtain ⟨z0, z1, z2, z3, z4⟩ := hS33
                    clear hb33 hv33 ho33 C1 C2 A1 A2 A3
                    go_region_held3 (fun w' : World => w'.cell? ⟨g23, 0, none⟩ = some (.int .i64 6) ∧ w'.cell? ⟨g23, 1, none⟩ = some (.int .i64 0) ∧ w'.cell? ⟨g23, 2, none⟩ = some (.string ⟨#[]⟩) ∧ w'.cell? ⟨g23, 3, none⟩ = some (.slice none 0 0) ∧ w'.cell? ⟨g23, 4, none⟩ = some (.slice p3 n3 c3))
                      (first | with_reducible exact HSW.out _ (kb1 hk0) | with_reducible exact HSS.out _ ⟨6, 0, ⟨#[]⟩, none, 0, 0, p6, n6, c6⟩ (kb1 hbk) | with_reducible exact HSW.out _ (kb1 hbk))
                      (first
                        | (go_at_call 13; (with_reducible refine (C7'.out _ (kb1 hk0)).mono ?_); rintro e w27 ⟨qt, nq, cq, rfl, hT27, hb27⟩; (have hbk := KB.step (W := W33) (by assumption) hb27); (have hbk27 := (kb1 hbk)))
                        | (go_at_call 34; (with_reducible refine (A4'.out w27 qt nq cq hT27 hbk27).mono ?_); rintro e w28 ⟨p6, n6, c6, rfl, hT28, hb28⟩; (have hbk := KB.step (W := W33) (by assumption) hb28); (have hbo : Below wr.heap.size wr w28 := HB33.out.trans ((kb1 hbk).mono HB33.out.size)); (have hzo := HZR.out.under hbo hzwr); (have z0 := hzo.cell 0 rfl); (have z1 := hzo.cell 1 rfl); (have z2 := hzo.cell 2 rfl); (have z3 := hzo.cell 3 rfl); (have z4 := hzo.cell 4 rfl); (have y0 := hzo.frozen 0); (have y1 := hzo.frozen 1); (have y2 := hzo.frozen 2); (have y3 := hzo.frozen 3); (have y4 := hzo.frozen 4); dsimp only [RV.zero] at z0 z1 z2 z3 z4)
                        | fail)
                    go_wp2_with fail
                    refine bodyPost_ret (v := .tuple #[RV.val ⟨6, 0, ⟨#[]⟩, none, 0, 0, p6, n6, c6⟩, .string ⟨#[]⟩]) (by simp [results, Tryz.results9, go_sem, z0, z1, z2, z3, z4]) rfl (GetRetS.ok HAR.out HBG2.out ?_ (Below.stored (HBW.out.trans (hbo.mono HBW.out.size)) (by omega) ⟨6, 0, ⟨#[]⟩, none, 0, 0, p6, n6, c6⟩))
                    have hgs := grownBy_set5 w28 (w.heap.size + 1 + 1) ⟨6, 0, ⟨#[]⟩, none, 0, 0, p6, n6, c6⟩
                    exact (hT28.same (fun k e => hgs.block k e.1 (fun e2 => by injection e2 with e2; rcases e.2 with h | h <;> omega))).mono (fun k e => ⟨Nat.lt_of_lt_of_le e.1 hgs.size, e.2.imp id (fun h => by omega)⟩)
          · have hz := HZ5.out.under H6.out.2 HZ5.out.lt
            have z0 := hz.cell 0 rfl
            have z1 := hz.cell 1 rfl
            have z2 := hz.cell 2 rfl
            have z3 := hz.cell 3 rfl
            have z4 := hz.cell 4 rfl
            have y0 := hz.frozen 0
            have y1 := hz.frozen 1
            have y2 := hz.frozen 2
            have y3 := hz.frozen 3
            have y4 := hz.frozen 4
            dsimp only [RV.zero] at z0 z1 z2 z3 z4
            clear hz he3 hf3
            go_wp2_with fail
            refine bodyPost_ret (v := .tuple #[RV.val RV.zero, .string ⟨#[114, 101, 113, 117, 101, 115, 116, 84, 111, 111, 76, 97, 114, 103, 101]⟩]) (by simp [results, Tryz.results9, go_sem, RV.zero, z0, z1, z2, z3, z4]) rfl (GetRetS.big HAR.out HBG2.out (Below.stored HW06.out (by omega) RV.zero))
        · have hg1 := HG.out
          rw [Bool.and_eq_true] at hg1
          have hkn : k < no := of_decide_eq_true (HD.out.trans hg1.1)
          have H3 := Lib.hid hg1.2
          obtain ⟨⟨xn, xv⟩, hx⟩ : ∃ x, oms[k]? = some x := ⟨_, List.getElem?_eq_getElem (by have := HOL.out; omega)⟩
          obtain ⟨y, hy⟩ : ∃ x, bd.objs[k]? = some x := ⟨_, List.getElem?_eq_getElem (by have := HNO.out; omega)⟩
          have hpn := HOMS.out.name _ y _ hy hx
          dsimp only at hpn
          obtain ⟨b1, o1, rfl, hb1, hc1⟩ := rd_at' (HORD.out.below (hH.out.2.mono hB5z) (Nat.le_refl _)) hx
          have f0 := hc1 0 _ rfl
          rw [Nat.add_zero] at f0
          have hk1 : (k : Int) < (no : Int) := by omega
          have HSN : Hid ((bd.objs.take (k + 1)).map (·.1) = (bd.objs.take k).map (·.1) ++ [xn]) := by unfold Hid; rw [List.take_add_one, hy]; simp [hpn]
          have HO2 := Lib.hid (hH.out.1.alloc (.cells #[.string xn] 9))
          have HB2 := Lib.hid (hH.out.2.alloc hH.out.2.size (.cells #[.string xn] 9))
          have HR2 : Hid (Rd (wr.alloc (.cells #[.string xn] 9)) (wr.heap.size + 1) encS 1 (.slice (some ⟨wr.heap.size, 0, none⟩) 1 1) [xn]) := Rd.one codecS (heap_alloc_at rfl) rfl (by omega)
          have HL : Hid (((bd.objs.take k).map (·.1)).length ≤ 1466015503658) := by unfold Hid; simp; omega
          clear hx hy hpn hc1 hg1 hd hd2 hx3 hH he0
          go_wp2_with (at_builtin; refine wpList_append_rd slS codecS _ rfl _ _ rfl rfl rfl HO2.out HR2.out (by have := HL.out; simp only [List.length_singleton]; unfold maxLen; omega) (by have := HL.out; simp only [List.length_singleton]; omega) (by simp; omega) ?_; intro v8 w8 ho8 hg8 hat8)
          go_roundg (no - (k + 1))
          case measure => have := HGK.out; omega
          case rel =>
            refine ⟨k + 1, rfl, by omega, by go_num, fun h => (by rw [H3.out] at h; cases h), ?_, Below.appended HB2.out hg8 HO2.out HB2.out.size⟩
            rw [HSN.out]
            exact ho8
end Go.Proofs.YtanemojiaahbgaaGreatDoor
