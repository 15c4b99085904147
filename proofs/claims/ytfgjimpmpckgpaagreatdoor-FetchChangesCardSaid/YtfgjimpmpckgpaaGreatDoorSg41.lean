import Derived.Test.YtfgjimpmpckgpaaGreatDoorSg15
set_option linter.unusedSimpArgs false
set_option linter.unusedVariables false
set_option maxRecDepth 200000
set_option maxHeartbeats 8000000
namespace Go.Proofs.YtfgjimpmpckgpaaGreatDoor
section
open Go Go.RowKit Go.OpenShut
theorem fgetN_any (a : AcD) (ra : RAc) (known book : Bool) (t : JV) (r : RV) (w : World) (hV : Vars w) (ha : AcOf w w.heap.size a ra) (oc : a.cards.Ok) (ob : a.books.Ok) (hnone : ∀ bk, (a.box bk).objs = []) (ht : TreeOf w w.heap.size t r) (ot : t.Ok) :
 Calls Tryz.prog 23 #[RAc.val ra, .bool known, .int .i64 (kindB book), RV.val r] w (GetRet26 w a.id known (!book) (a.box book) t) := by
 obtain ⟨W0, hW0⟩ : ∃ W0, ((w.alloc (RAc.obj ra)).alloc r.obj).alloc (.cells #[.int .i64 0, .int .i64 0, .string ⟨#[]⟩, .slice none 0 0, .slice none 0 0] 31) = W0 := ⟨_, rfl⟩
 have hA0 : W0.heap[w.heap.size]? = some (RAc.obj ra) := by rw [<- hW0]; exact heap_alloc_lt (by simp; omega) (heap_alloc_lt (by simp) (heap_alloc_at rfl))
 have hT0 : VAt W0 (w.heap.size + 1) r := by rw [<- hW0]; exact heap_alloc_lt (by simp) (heap_alloc_at (by simp))
 have hZ0 : VAt W0 (w.heap.size + 1 + 1) RV.zero := by rw [<- hW0]; exact heap_alloc_at (by simp)
 have hB0 : Below w.heap.size w W0 := by rw [<- hW0]; exact (below2 w _ _).alloc (by simp; omega) _
 have hz0 := hZ0.lt
 have HBG : Hid (Calls Tryz.prog 30 #[.bool known, r.val, .string kindsG] W0 (BeginRet W0 w.heap.size known t ksG)) := begin_any W0 w.heap.size known kindsG ksG t r kindsG_ok (hV.below hB0) hB0.size (ht.under hB0 (Nat.le_refl _)) ot
 have HBX : Hid (∀ W, Calls Tryz.prog 33 #[RAc.val ra, .int .i64 (kindB book)] W fun e w' => e = .returned (RB.val (ra.box book)) /\ Below W.heap.size W w') := fun W => boxOf_any ra book W
 have hkb : kindB book = kindI (!book) := by cases book <;> rfl
 have HST : Hid (∀ W, Calls Tryz.prog 13 #[.int .i64 (kindB book), .int .i64 (a.box book).seq] W fun e w' => e = .returned (.string (stateB (!book) (a.box book).seq)) /\ Below W.heap.size W w') := fun W => by
  rw [hkb]
  exact stateI_any (!book) _ W (by cases book; exact oc.seq; exact ob.seq)
 obtain ⟨kd, hkd⟩ : ∃ k, kindB book = k := ⟨_, rfl⟩
 rw [hkd] at HBX HST
 have HAB := Lib.hid (ha.box book)
 have HOB : Hid (a.box book).Ok := by unfold Hid; cases book; exact oc; exact ob
 have HFW : Hid ((a.box book).objs = []) := hnone book
 have HAI := Lib.hid ha.id
 obtain ⟨bd, hbd⟩ : ∃ b, a.box book = b := ⟨_, rfl⟩
 obtain ⟨⟨po, no, co, pt, nt, ct, sq, fl, kp⟩, hrb⟩ : ∃ b, ra.box book = b := ⟨_, rfl⟩
 obtain ⟨cd, hcd⟩ : ∃ b, (!book) = b := ⟨_, rfl⟩
 rw [hbd, hrb] at HAB
 rw [hbd] at HOB HFW
 rw [hbd, hcd] at HST
 rw [hrb] at HBX
 rw [hbd, hcd]
 rw [hkd]
 obtain ⟨tk, tn, ts, tpl, tnl, tcl, tpm, tnm, tcm⟩ := r
 dsimp only [RV.val, RV.obj, RB.val] at *
 have hsq : bd.seq = sq := HAB.out.seq
 have hno : bd.objs.length = no := HAB.out.objs.nlen
 rw [hsq] at HST
 have HNO := Lib.hid hno
 have HSQ := Lib.hid hsq
 clear hsq hno
 have HW := Lib.hid hW0
 have HA0 := Lib.hid hA0
 have HT0 := Lib.hid hT0
 have HZ0 := Lib.hid hZ0
 have HB0 := Lib.hid hB0
 have HOT := Lib.hid ot
 clear hW0 hA0 hZ0 hB0 hV ha oc ob hnone ht ot hkb hkd hbd hrb hcd
 unfold BeginRet whyB at HBG
 obtain ⟨q0, q1, q2, q3, q4⟩ := hT0.cells5
 dsimp only at q0 q1 q2 q3 q4
 clear hT0
 cases hab : argsB t ksG
 ·rw [hab] at HBG
  simp only [Bool.false_eq_true, if_false, Bool.false_and] at HBG
  unfold badN at HBG
  have HAR := Lib.hid hab
  clear hab
  go_enter Tryz.func23, Tryz.ntmps23
  go_upto_region 1 with fail
  rw [HW.out]
  clear HW
  go_upto_region 2 with (go_at_call 30; refine HBG.out.mono ?_; rintro e w1 ⟨pl, nl, cl, rfl, hb1, _⟩; (have hz := HZ0.out.under hb1 hz0); (obtain ⟨z0, z1, z2, z3, z4⟩ := hz.cells5); (have y0 := hz.frozen 0); (have y1 := hz.frozen 1); (have y2 := hz.frozen 2); (have y3 := hz.frozen 3); (have y4 := hz.frozen 4); dsimp only [RV.zero] at z0 z1 z2 z3 z4; (have HZ := Lib.hid hz); (have HB1 := Lib.hid hb1); clear hz hb1)
  go_wp2_with fail
  refine bodyPost_ret (v := .tuple #[RV.val RV.zero, .string ⟨#[105, 110, 118, 97, 108, 105, 100, 65, 114, 103, 117, 109, 101, 110, 116, 115]⟩]) (by simp [results, Tryz.results23, go_sem, RV.zero, z0, z1, z2, z3, z4]) rfl (GetRet26.bad HAR.out (Below.stored (HB0.out.trans (HB1.out.mono HB0.out.size)) (by omega) RV.zero))
 ·cases known
  ·rw [hab] at HBG
   simp only [Bool.false_eq_true, if_true, if_false, Bool.and_false] at HBG
   unfold noAccN at HBG
   have HAR := Lib.hid hab
   clear hab
   go_enter Tryz.func23, Tryz.ntmps23
   go_upto_region 1 with fail
   rw [HW.out]
   clear HW
   go_upto_region 2 with (go_at_call 30; refine HBG.out.mono ?_; rintro e w1 ⟨pl, nl, cl, rfl, hb1, _⟩; (have hz := HZ0.out.under hb1 hz0); (obtain ⟨z0, z1, z2, z3, z4⟩ := hz.cells5); (have y0 := hz.frozen 0); (have y1 := hz.frozen 1); (have y2 := hz.frozen 2); (have y3 := hz.frozen 3); (have y4 := hz.frozen 4); dsimp only [RV.zero] at z0 z1 z2 z3 z4; (have HZ := Lib.hid hz); (have HB1 := Lib.hid hb1); clear hz hb1)
   go_wp2_with fail
   refine bodyPost_ret (v := .tuple #[RV.val RV.zero, .string ⟨#[97, 99, 99, 111, 117, 110, 116, 78, 111, 116, 70, 111, 117, 110, 100]⟩]) (by simp [results, Tryz.results23, go_sem, RV.zero, z0, z1, z2, z3, z4]) rfl (GetRet26.noAcc HAR.out (Below.stored (HB0.out.trans (HB1.out.mono HB0.out.size)) (by omega) RV.zero))
  ·rw [hab] at HBG
   simp only [if_true, Bool.and_true, if_true] at HBG
   have HAR := Lib.hid hab
   clear hab
   have hA0 := HA0.out
   go_enter Tryz.func23, Tryz.ntmps23
   go_upto_region 1 with fail
   rw [HW.out]
   clear HW
   go_upto_region 2 with (go_at_call 30; refine HBG.out.mono ?_; rintro e w1 ⟨pl, nl, cl, rfl, hb1, hargs'⟩; (have hz := HZ0.out.under hb1 hz0); (obtain ⟨z0, z1, z2, z3, z4⟩ := hz.cells5); (have y0 := hz.frozen 0); (have y1 := hz.frozen 1); (have y2 := hz.frozen 2); (have y3 := hz.frozen 3); (have y4 := hz.frozen 4); dsimp only [RV.zero] at z0 z1 z2 z3 z4; (have HZ := Lib.hid hz); (have HB1 := Lib.hid hb1); clear hz hb1)
   obtain ⟨rs, hO1, hl1, ht1⟩ := hargs' trivial trivial
   obtain ⟨r0, r1, r2, rfl⟩ : ∃ a b c, rs = [a, b, c] := by
    match rs, hl1 with
    | [a, b, c], _ => exact ⟨a, b, c, rfl⟩
   have HT1 : Hid (TreeOf w1 w.heap.size (argI t) r1) := ht1 1 _ r1 rfl rfl
   have HT2 : Hid (TreeOf w1 w.heap.size (argP t) r2) := ht1 2 _ r2 rfl rfl
   obtain ⟨gl, rfl, hnl, hgl0, hgl1, hc1, _⟩ := hO1.at codecV (k := 1) (x := r1) rfl
   obtain ⟨gl', he, _, _, _, hc2, _⟩ := hO1.at codecV (k := 2) (x := r2) rfl
   obtain rfl : gl = gl' := by injection he with he; injection he
   simp only [List.length_cons, List.length_nil, Nat.zero_add, Nat.reduceAdd] at hnl
   subst hnl
   obtain ⟨i1, _, _⟩ := HT1.out.head
   obtain ⟨i2, _, _⟩ := HT2.out.head
   have i3 : r1.nl = (argI t).l.length := by obtain ⟨rs, h1, h2, _⟩ := HT1.out.lst; rw [h2]; exact rd_nlen h1
   have i4 : r2.nl = (argP t).l.length := by obtain ⟨rs, h1, h2, _⟩ := HT2.out.lst; rw [h2]; exact rd_nlen h1
   obtain ⟨r1k, r1n, r1s, r1pl, r1nl, r1cl, r1pm, r1nm, r1cm⟩ := r1
   obtain ⟨r2k, r2n, r2s, r2pl, r2nl, r2cl, r2pm, r2nm, r2cm⟩ := r2
   have e0 := hc1 0 _ rfl
   have e1 := hc1 1 _ rfl
   have e2 := hc1 2 _ rfl
   have e3 := hc1 3 _ rfl
   have e4 := hc1 4 _ rfl
   have f0 := hc2 0 _ rfl
   have f1 := hc2 1 _ rfl
   have f2 := hc2 2 _ rfl
   have f3 := hc2 3 _ rfl
   have f4 := hc2 4 _ rfl
   simp only [Nat.reduceMul, Nat.reduceAdd, Nat.add_zero] at e0 e1 e2 e3 e4 f0 f1 f2 f3 f4
   dsimp only at i1 i2 i3 i4
   clear hc1 hc2 hargs' hO1 hl1 ht1 he
   have hA1 : w1.heap[w.heap.size]? = some (RAc.obj ra) := (HB1.out.block _ (by omega)).trans HA0.out
   obtain ⟨a0, a1, a2, a3, a4, a5, a6, a7, a8, a9, a10, a11⟩ := RAc.cells12 hA1
   have hz1 : W0.heap.size <= w1.heap.size := HB1.out.size
   go_upto_region 5 with (go_at_call 33; refine (HBX.out _).mono ?_; rintro e w2 ⟨rfl, hb2⟩)
   have hB5 : Below w1.heap.size w1 (w2.alloc (.cells #[.slice po no co, .slice pt nt ct, .int .i64 sq, .int .i64 fl, .int .i64 kp] 25)) := hb2.alloc hb2.size _
   have hX5 : BoxAt (w2.alloc (.cells #[.slice po no co, .slice pt nt ct, .int .i64 sq, .int .i64 fl, .int .i64 kp] 25)) w2.heap.size ⟨po, no, co, pt, nt, ct, sq, fl, kp⟩ := heap_alloc_at rfl
   have hg12 : w1.heap.size <= w2.heap.size := hb2.size
   obtain ⟨g12, hg12e⟩ : ∃ g, w2.heap.size = g := ⟨_, rfl⟩
   obtain ⟨W5, hW5⟩ : ∃ W, w2.alloc (.cells #[.slice po no co, .slice pt nt ct, .int .i64 sq, .int .i64 fl, .int .i64 kp] 25) = W := ⟨_, rfl⟩
   rw [hW5] at hB5 hX5
   rw [hg12e] at hX5 hg12
   try rw [hW5]
   try rw [hg12e]
   have HB5 := Lib.hid hB5
   have HX5 := Lib.hid hX5
   have e0 := bcs hB5 hgl1 e0
   have e3 := bcs hB5 hgl1 e3
   have f3 := bcs hB5 hgl1 f3
   have c0 := hX5.cell 0 rfl
   dsimp only at c0
   have HE : Hid (W5.cell? ⟨gl, 6, none⟩ = some (.int .i64 r1n) /\ W5.cell? ⟨gl, 7, none⟩ = some (.string r1s) /\ W5.cell? ⟨gl, 9, none⟩ = some (.slice r1pm r1nm r1cm)) := ⟨bcs hB5 hgl1 e1, bcs hB5 hgl1 e2, bcs hB5 hgl1 e4⟩
   have HF : Hid (W5.cell? ⟨gl, 10, none⟩ = some (.int .i64 r2k) /\ W5.cell? ⟨gl, 11, none⟩ = some (.int .i64 r2n) /\ W5.cell? ⟨gl, 12, none⟩ = some (.string r2s) /\ W5.cell? ⟨gl, 14, none⟩ = some (.slice r2pm r2nm r2cm)) := ⟨bcs hB5 hgl1 f0, bcs hB5 hgl1 f1, bcs hB5 hgl1 f2, bcs hB5 hgl1 f4⟩
   have HA5 : Hid (W5.heap[w.heap.size]? = some (RAc.obj ra)) := (hB5.block _ (by omega)).trans hA1
   have HZ5 := Lib.hid (HZ.out.under hB5 HZ.out.lt)
   have HGL : Hid (W0.heap.size <= gl /\ gl < w1.heap.size) := ⟨hgl0, hgl1⟩
   have hgl5 : gl < W5.heap.size := Nat.lt_of_lt_of_le hgl1 hB5.size
   have HW05 : Hid (Below w.heap.size w W5) := (HB0.out.trans (HB1.out.mono HB0.out.size)).trans (hB5.mono (by omega))
   clear hW5 hg12e hB5 hX5 hb2 e1 e2 e4 f0 f1 f2 f4 a0 a1 a2 a3 a4 a5 a6 a7 a8 a9 a10 a11 hA0 hA1 z0 z1 z2 z3 z4 y0 y1 y2 y3 y4 q0 q1 q2 q3 q4 HBX HBG HZ hgl1 hgl0
   obtain ⟨x1, hx1⟩ : ∃ x, decide (32 < r1nl) = x := ⟨_, rfl⟩
   obtain ⟨x2, hx2⟩ : ∃ x, decide (32 < r2nl) = x := ⟨_, rfl⟩
   obtain ⟨x3, hx3⟩ : ∃ x, (r1k == 1) = x := ⟨_, rfl⟩
   obtain ⟨x4, hx4⟩ : ∃ x, decide (32 < no) = x := ⟨_, rfl⟩
   have HBIG : Hid (bigB bd (argI t) (argP t) = (x1 || (x2 || (x3 && x4)))) := by
    unfold Hid bigB
    rw [<- i3, <- i4, hx1, hx2, i1, HNO.out, hx4]
    have : decide (r1k = 1) = x3 := by rw [<- hx3]; rfl
    rw [this]
   have hx1' : decide ((32 : Int) < (r1nl : Int)) = x1 := by rw [<- hx1]; congr 1; simp; omega
   have hx2' : decide ((32 : Int) < (r2nl : Int)) = x2 := by rw [<- hx2]; congr 1; simp; omega
   have hx4' : decide ((32 : Int) < (no : Int)) = x4 := by rw [<- hx4]; congr 1; simp; omega
   have HI : Hid ((argI t).k = r1k /\ r1nl = (argI t).l.length /\ r2nl = (argP t).l.length) := ⟨i1, i3, i4⟩
   have HXX : Hid (decide (32 < r1nl) = x1 /\ decide (32 < r2nl) = x2 /\ (r1k == 1) = x3 /\ decide (32 < no) = x4) := ⟨hx1, hx2, hx3, hx4⟩
   clear i1 i2 i3 i4 hx1 hx2 hx4
   go_cut [58] from 29 to 58 (fun v wr => v = .bool (x1 || (x2 || (x3 && x4))) /\ wr = W5)
   case first =>
    cases x1
    ·cases x2
     ·cases x3
      ·go_wp2_with fail
       go_meet
       exact ⟨rfl, rfl⟩
      ·cases x4
       all_goals
        go_wp2_with fail
        go_meet
        exact ⟨rfl, rfl⟩
     ·go_wp2_with fail
      go_meet
      exact ⟨rfl, rfl⟩
    ·go_wp2_with fail
     go_meet
     exact ⟨rfl, rfl⟩
   case rest =>
   obtain ⟨rfl, hwc⟩ := hcut
   obtain rfl : W5 = wc := hwc.symm
   obtain ⟨bg, hbg⟩ : ∃ b, (x1 || (x2 || (x3 && x4))) = b := ⟨_, rfl⟩
   rw [hbg] at HBIG
   rw [hbg]
   have HBG := Lib.hid hbg
   clear hbg hx1' hx2' hx3 hx4'
   cases bg
   ·have hn32 : r1nl <= 32 /\ (r1k = 1 -> no <= 32) := by
     obtain ⟨h1, h2, h3, h4⟩ := HXX.out
     have hb := HBG.out
     rw [<- h1, <- h2, <- h3, <- h4] at hb
     simp at hb
     exact ⟨hb.1, hb.2.2⟩
    have HN32 := Lib.hid hn32
    clear hn32 HXX HBG
    go_upto_region 9 with fail
    have hb7 : Below W5.heap.size W5 (W5.alloc (.cells #[.int .i64 5, .int .i64 0, .string ⟨#[]⟩, .slice none 0 0, .slice none 0 0] 31)) := (Below.refl _ _).alloc (Nat.le_refl _) _
    have hl7 : VAt (W5.alloc (.cells #[.int .i64 5, .int .i64 0, .string ⟨#[]⟩, .slice none 0 0, .slice none 0 0] 31)) W5.heap.size ⟨5, 0, ⟨#[]⟩, none, 0, 0, none, 0, 0⟩ := heap_alloc_at rfl
    have hg12z := HX5.out.lt
    obtain ⟨o, hoe⟩ : ∃ g, W5.heap.size = g := ⟨_, rfl⟩
    obtain ⟨W7, hW7⟩ : ∃ W, W5.alloc (.cells #[.int .i64 5, .int .i64 0, .string ⟨#[]⟩, .slice none 0 0, .slice none 0 0] 31) = W := ⟨_, rfl⟩
    have e0 := bcs hb7 hgl5 e0
    have e1 := bcs hb7 hgl5 HE.out.1
    have e2 := bcs hb7 hgl5 HE.out.2.1
    have e3 := bcs hb7 hgl5 e3
    have e4 := bcs hb7 hgl5 HE.out.2.2
    have hf0 := bcs hb7 hgl5 HF.out.1
    have hf1 := bcs hb7 hgl5 HF.out.2.1
    have hf2 := bcs hb7 hgl5 HF.out.2.2.1
    have hf3 := bcs hb7 hgl5 f3
    have hf4 := bcs hb7 hgl5 HF.out.2.2.2
    have hX7 := HX5.out.under hb7 hg12z
    have HW07 : Hid (Below w.heap.size w (W5.alloc (.cells #[.int .i64 5, .int .i64 0, .string ⟨#[]⟩, .slice none 0 0, .slice none 0 0] 31))) := HW05.out.trans (hb7.mono HW05.out.size)
    have HZ7 := Lib.hid (HZ5.out.under hb7 HZ5.out.lt)
    have HA7 : Hid ((W5.alloc (.cells #[.int .i64 5, .int .i64 0, .string ⟨#[]⟩, .slice none 0 0, .slice none 0 0] 31)).heap[w.heap.size]? = some (RAc.obj ra)) := (hb7.block _ (by have := HZ5.out.lt; omega)).trans HA5.out
    have hoz : o < (W5.alloc (.cells #[.int .i64 5, .int .i64 0, .string ⟨#[]⟩, .slice none 0 0, .slice none 0 0] 31)).heap.size := by rw [<- hoe]; simp
    have hgw : w.heap.size + 1 + 1 < o := by rw [<- hoe]; exact HZ5.out.lt
    rw [hW7] at e0 e1 e2 e3 e4 hf0 hf1 hf2 hf3 hf4 hX7 HW07 HZ7 HA7 hoz
    rw [hW7, hoe] at hl7
    rw [hoe] at hgl5 hg12z
    try rw [hW7]
    try rw [hoe]
    have HT17 : Hid (TreeOf W7 w.heap.size (argI t) ⟨r1k, r1n, r1s, r1pl, r1nl, r1cl, r1pm, r1nm, r1cm⟩ /\ TreeOf W7 w.heap.size (argP t) ⟨r2k, r2n, r2s, r2pl, r2nl, r2cl, r2pm, r2nm, r2cm⟩) := by
     have hb17 : Below w.heap.size w1 W7 := by rw [<- hW7]; exact ((HB5.out.mono (by omega)).trans (hb7.mono (by omega)))
     exact ⟨HT1.out.under hb17 (Nat.le_refl _), HT2.out.under hb17 (Nat.le_refl _)⟩
    have HF7 : Hid (W7.cell? ⟨gl, 10, none⟩ = some (.int .i64 r2k) /\ W7.cell? ⟨gl, 11, none⟩ = some (.int .i64 r2n) /\ W7.cell? ⟨gl, 12, none⟩ = some (.string r2s) /\ W7.cell? ⟨gl, 13, none⟩ = some (.slice r2pl r2nl r2cl) /\ W7.cell? ⟨gl, 14, none⟩ = some (.slice r2pm r2nm r2cm)) := ⟨hf0, hf1, hf2, hf3, hf4⟩
    have HL7 := Lib.hid hl7
    have HX7 := Lib.hid hX7
    obtain ⟨hx0, hx1, hx2, hx3, hx4⟩ := hX7.cells5
    dsimp only at hx0 hx1 hx2 hx3 hx4
    have hgl7 : gl < W7.heap.size := by omega
    have hg127 : g12 < W7.heap.size := by omega
    clear hW7 hoe hb7 hl7 hX7 hf0 hf1 hf2 hf3 hf4 HB5 HX5 HE HF HA5 HZ5 HW05 HT1 HT2
    have HASK : Hid (∀ W, KB W7.heap.size W7 W -> Calls Tryz.prog 66 #[.agg #[.slice po no co, .slice pt nt ct, .int .i64 sq, .int .i64 fl, .int .i64 kp], .agg #[.int .i64 r1k, .int .i64 r1n, .string r1s, .slice r1pl r1nl r1cl, .slice r1pm r1nm r1cm]] W (IdsRet W (askedL bd (argI t)))) := fun W hk =>
     asked_any bd ⟨po, no, co, pt, nt, ct, sq, fl, kp⟩ (argI t) ⟨r1k, r1n, r1s, r1pl, r1nl, r1cl, r1pm, r1nm, r1cm⟩ W (HAB.out.under (HW07.out.trans (hk.1.mono HW07.out.size)) (Nat.le_trans HW07.out.size hk.1.size)) HOB.out (HT17.out.1.under (hk.1.mono HW07.out.size) (Nat.le_trans HW07.out.size hk.1.size)) (by have := HI.out.2.1; have := HN32.out.1; omega)
    go_region_held3 (fun w' => Below W7.heap.size W7 w' /\ ∀ b o, b < W7.heap.size -> w'.cell? ⟨b, o, none⟩ = W7.cell? ⟨b, o, none⟩)
     (first | with_reducible exact kt_drew W7 | with_reducible exact kt_same hbk)
     (first
      | (go_at_call 66; refine (HASK.out _ (by assumption)).mono ?_; rintro e w9 ⟨u9, rfl, ho9, hb9⟩; (have hbk := KB.step (W := W7) (by assumption) hb9); obtain ⟨pi, ni, ci, rfl⟩ : ∃ p n c, u9 = Value.slice p n c := (by obtain ⟨p, c, hv, _, _⟩ := ho9.len; exact ⟨p, _, c, hv⟩))
      | fail)
    have hb9k : Below W7.heap.size W7 w9 := hbk.1
    obtain ⟨L, hL⟩ : ∃ L, askedL bd (argI t) = L := ⟨_, rfl⟩
    rw [hL] at ho9
    have hLl : L.length <= 32 := by
     rw [<- hL]
     unfold askedL
     split
     ·rename_i h1
      rw [List.length_map, HNO.out]
      exact HN32.out.2 (HI.out.1 ▸ h1)
     ·have := foldU_len ((argI t).l.map JV.s) []
      have h2 := HI.out.2.1
      have h3 := HN32.out.1
      simp only [List.length_nil, List.length_map] at this
      omega
    have hni : L.length = ni := by obtain ⟨_, _, hv, _, _⟩ := ho9.len; simp only [Value.slice.injEq] at hv; exact hv.2.1.symm
    have hni32 : ni <= 32 := by omega
    have hz9 : W7.heap.size <= w9.heap.size := hb9k.size
    have HO9 : Hid (Own w9 W7.heap.size 9 encS 1 (.slice pi ni ci) L) := ho9
    have HLA := Lib.hid hL
    have HNI := Lib.hid hni
    have HLL := Lib.hid hLl
    have HB9 : Hid (Below w.heap.size w w9) := HW07.out.trans (hb9k.mono HW07.out.size)
    have HB79 := Lib.hid hb9k
    have HS9 : Hid (GetS w9 w.heap.size o none 0 0 (shownTo bd (argP t) (L.take 0)) (.slice none 0 0) (missTo bd (L.take 0)) w9) := GetS.start (HL7.out.under hb9k hoz)
    have hx0 := bcs hb9k hg127 hx0
    have hx1 := bcs hb9k hg127 hx1
    have hx2 := bcs hb9k hg127 hx2
    have hx3 := bcs hb9k hg127 hx3
    have hx4 := bcs hb9k hg127 hx4
    have HF9 : Hid (w9.cell? ⟨gl, 10, none⟩ = some (.int .i64 r2k) /\ w9.cell? ⟨gl, 11, none⟩ = some (.int .i64 r2n) /\ w9.cell? ⟨gl, 12, none⟩ = some (.string r2s) /\ w9.cell? ⟨gl, 13, none⟩ = some (.slice r2pl r2nl r2cl) /\ w9.cell? ⟨gl, 14, none⟩ = some (.slice r2pm r2nm r2cm)) := ⟨bcs hb9k hgl7 HF7.out.1, bcs hb9k hgl7 HF7.out.2.1, bcs hb9k hgl7 HF7.out.2.2.1, bcs hb9k hgl7 HF7.out.2.2.2.1, bcs hb9k hgl7 HF7.out.2.2.2.2⟩
    have HX9 : Hid (w9.cell? ⟨g12, 0, none⟩ = some (.slice po no co) /\ w9.cell? ⟨g12, 1, none⟩ = some (.slice pt nt ct) /\ w9.cell? ⟨g12, 2, none⟩ = some (.int .i64 sq) /\ w9.cell? ⟨g12, 3, none⟩ = some (.int .i64 fl) /\ w9.cell? ⟨g12, 4, none⟩ = some (.int .i64 kp)) := ⟨hx0, hx1, hx2, hx3, hx4⟩
    have HP9 : Hid (TreeOf w9 w.heap.size (argP t) ⟨r2k, r2n, r2s, r2pl, r2nl, r2cl, r2pm, r2nm, r2cm⟩) := HT17.out.2.under (hb9k.mono HW07.out.size) (Nat.le_refl _)
    clear hbk ho9 hb9 hb9k hL hLl hni hx0 hx1 hx2 hx3 hx4 e0 e1 e2 e3 e4 HASK HF7 HX7 HL7 HT17 HN32
    go_wp2_with fail
    go_loopg [14, 67] ni (fun gk m i wr => ∃ (k : Nat) (p : Option Addr) (n c : Nat), gk = ni - k /\ k <= ni /\ i = .int .i64 k /\ Hid (GetS w9 w.heap.size o p n c (shownTo bd (argP t) (L.take k)) m (missTo bd (L.take k)) wr))
    case atStart => exact ⟨0, none, 0, 0, rfl, Nat.zero_le _, rfl, HS9.out⟩
    case round =>
     obtain ⟨k, p, n, c, hgk, hk, rfl, HG⟩ := hrel
     have HGK := Lib.hid hgk
     clear hgk
     have hgz : w9.heap.size <= wr.heap.size := HG.out.grown.size
     have HBW : Hid (Below w.heap.size w wr) := HB9.out.grown HG.out.grown HB9.out.size (fun k e => by cases e; omega)
     have hcc : ∀ b o' v, b < w9.heap.size -> b ≠ o -> w9.cell? ⟨b, o', none⟩ = some v -> wr.cell? ⟨b, o', none⟩ = some v := fun b o' v hb hne h => (World.cell?_of_block (a := ⟨b, o', none⟩) (HG.out.grown.block b hb (fun e => hne (by injection e)))).trans h
     have hx0 := hcc _ _ _ (by omega) (by omega) HX9.out.1
     have hx1 := hcc _ _ _ (by omega) (by omega) HX9.out.2.1
     have hx2 := hcc _ _ _ (by omega) (by omega) HX9.out.2.2.1
     have hx3 := hcc _ _ _ (by omega) (by omega) HX9.out.2.2.2.1
     have hx4 := hcc _ _ _ (by omega) (by omega) HX9.out.2.2.2.2
     obtain ⟨pm, nm, cm, rfl⟩ : ∃ p n c, u14 = Value.slice p n c := by obtain ⟨p, c, hv, _, _⟩ := HG.out.mis.len; exact ⟨p, _, c, hv⟩
     have hk0 : (0 : Int) <= (k : Int) := Int.natCast_nonneg _
     by_cases hlt : k < ni
     ·obtain ⟨id, hid⟩ : ∃ x, L[k]? = some x := ⟨_, List.getElem?_eq_getElem (by have := HNI.out; omega)⟩
      obtain ⟨gi, rfl, hgn, hgi0, hgi1, hci, hgf⟩ := HO9.out.at codecS hid
      clear hgn hgf
      have i0 := hci 0 _ rfl
      rw [Nat.add_zero, Nat.mul_one] at i0
      have i0 := hcc _ _ _ hgi1 (by omega) i0
      have hk1 : (k : Int) < (ni : Int) := by omega
      have HSH := Lib.hid (shownTo_take (b := bd) (names := argP t) hid)
      have HMS := Lib.hid (missTo_take (b := bd) hid)
      have HFD : Hid (Calls Tryz.prog 67 #[.agg #[.slice po no co, .slice pt nt ct, .int .i64 sq, .int .i64 fl, .int .i64 kp], .string id] wr (GetRetB wr w.heap.size (findJ bd.objs id))) :=
       findB_any bd ⟨po, no, co, pt, nt, ct, sq, fl, kp⟩ id wr w.heap.size HBW.out.size (HAB.out.under HBW.out (Nat.le_refl _)) HOB.out
      clear hid hci
      go_upto_region 13 with (go_at_call 67; refine HFD.out.mono ?_; rintro e w10 ⟨rv, bb, rfl, hbb, htv, hb10⟩; obtain ⟨rk, rn, rS, rpl, rnl, rcl, rpm, rnm, rcm⟩ := rv)
      have hb13 : Below wr.heap.size wr (w10.alloc (.cells #[.int .i64 rk, .int .i64 rn, .string rS, .slice rpl rnl rcl, .slice rpm rnm rcm] 31)) := hb10.alloc hb10.size _
      have hv13 : VAt (w10.alloc (.cells #[.int .i64 rk, .int .i64 rn, .string rS, .slice rpl rnl rcl, .slice rpm rnm rcm] 31)) w10.heap.size ⟨rk, rn, rS, rpl, rnl, rcl, rpm, rnm, rcm⟩ := heap_alloc_at rfl
      have ht13 := htv.under ((Below.refl w.heap.size w10).alloc (Nat.le_trans HBW.out.size hb10.size) (.cells #[.int .i64 rk, .int .i64 rn, .string rS, .slice rpl rnl rcl, .slice rpm rnm rcm] 31)) (Nat.le_refl _)
      have hg17 : wr.heap.size <= w10.heap.size := hb10.size
      obtain ⟨g17, hg17e⟩ : ∃ g, w10.heap.size = g := ⟨_, rfl⟩
      obtain ⟨W13, hW13⟩ : ∃ W, w10.alloc (.cells #[.int .i64 rk, .int .i64 rn, .string rS, .slice rpl rnl rcl, .slice rpm rnm rcm] 31) = W := ⟨_, rfl⟩
      rw [hW13] at hb13 hv13 ht13
      rw [hg17e] at hv13 hg17
      try rw [hW13]
      try rw [hg17e]
      have HG13 := Lib.hid (HG.out.step hb13)
      have HB13 : Hid (Below w.heap.size w W13) := HBW.out.trans (hb13.mono HBW.out.size)
      have HV13 := Lib.hid hv13
      have HT13 := Lib.hid ht13
      have HBR := Lib.hid hb13
      have hz13 : wr.heap.size <= W13.heap.size := hb13.size
      clear hW13 hg17e hb10 htv hb13 hv13 ht13 HFD hx0 hx1 hx2 hx3 hx4 i0
      cases hfd : findJ bd.objs id
      ·rw [hfd] at hbb HSH HMS
       simp only [Option.isSome_none] at hbb
       subst hbb
       simp only [List.append_nil] at HSH
       have hml := missTo_len bd (L.take k)
       have HML : Hid ((missTo bd (L.take k)).length <= 32) := by have := List.length_take_le k L; have := HLL.out; unfold Hid; omega
       have HOM := Lib.hid (HG13.out.mis.alloc (.cells #[.string id] 9))
       have HRM : Hid (Rd (W13.alloc (.cells #[.string id] 9)) (W13.heap.size + 1) encS 1 (.slice (some ⟨W13.heap.size, 0, none⟩) 1 1) [id]) := Rd.one codecS (heap_alloc_at rfl) rfl (by omega)
       clear hml hfd HV13 HT13
       go_wp2_with (at_builtin; refine wpList_append_rd slS codecS (W13.alloc (.cells #[.string id] 9)) rfl (.tmp 79) (.tmp 81) rfl (v := .slice pm nm cm) rfl rfl HOM.out HRM.out (by have := HML.out; simp only [List.length_singleton]; unfold maxLen; omega) (by have := HML.out; simp only [List.length_singleton]; omega) (by simp; omega) ?_; intro v8 w8 ho8 hg8 hat8)
       go_roundg (ni - (k + 1))
       case measure => have := HGK.out; omega
       case rel =>
        refine ⟨k + 1, p, n, c, rfl, by omega, by go_num, ?_⟩
        unfold Hid
        rw [HSH.out, HMS.out]
        exact HG13.out.pushM (by omega) (by omega) ((Below.refl _ _).alloc (Nat.le_refl _) _) ho8 hg8 hat8
      ·rename_i v
       have h0 : findJ bd.objs id = Option.none := by rw [HFW.out]; rfl
       rw [h0] at hfd
       cases hfd
     ·obtain rfl : k = ni := by omega
      have hta : L.take k = L := List.take_of_length_le (by have := HNI.out; omega)
      rw [hta] at HG
      have hml := missTo_len bd L
      have HML : Hid ((missTo bd L).length <= 100000) := by have := HLL.out; unfold Hid; omega
      have hid0 : wr.cell? ⟨w.heap.size, 0, none⟩ = some (.string ra.id) := by
       have h7 : W7.cell? ⟨w.heap.size, 0, none⟩ = some (.string ra.id) := (cell_of_row W7 w.heap.size 0 _ _ _ HA7.out).trans rfl
       exact hcc _ _ _ (by omega) (by omega) (bcs HB79.out (by omega) h7)
      have hzr : VAt wr (w.heap.size + 1 + 1) RV.zero := (HZ7.out.under HB79.out (by omega)).keep (HG.out.grown.block _ (by omega) (fun e => by injection e with e; omega))
      have HZR := Lib.hid hzr
      have hol := HG.out.out
      have hor : o < wr.heap.size := hol.lt
      have hg12r : g12 < wr.heap.size := by omega
      have hwr : w.heap.size < wr.heap.size := by omega
      obtain ⟨stx, hstx⟩ : ∃ s, stateB cd sq = s := ⟨_, rfl⟩
      rw [hstx] at HST
      have HSX := Lib.hid hstx
      have HS7 : Hid (∀ W, Below wr.heap.size wr W -> (fun w' : World => w'.cell? ⟨w.heap.size, 0, none⟩ = some (.string ra.id) /\ w'.cell? ⟨g12, 2, none⟩ = some (.int .i64 sq) /\ w'.cell? ⟨o, 0, none⟩ = some (.int .i64 5) /\ w'.cell? ⟨o, 1, none⟩ = some (.int .i64 0) /\ w'.cell? ⟨o, 2, none⟩ = some (.string ⟨#[]⟩) /\ w'.cell? ⟨o, 3, none⟩ = some (.slice p n c) /\ w'.cell? ⟨o, 4, none⟩ = some (.slice none 0 0)) W) := fun W hb => ⟨bcs hb hwr hid0, bcs hb hg12r hx2, bcs hb hor (hol.cell 0 rfl), bcs hb hor (hol.cell 1 rfl), bcs hb hor (hol.cell 2 rfl), bcs hb hor (hol.cell 3 rfl), bcs hb hor (hol.cell 4 rfl)⟩
      have HS7S : Hid (∀ W (q : RV), Below wr.heap.size wr W -> (fun w' : World => w'.cell? ⟨w.heap.size, 0, none⟩ = some (.string ra.id) /\ w'.cell? ⟨g12, 2, none⟩ = some (.int .i64 sq) /\ w'.cell? ⟨o, 0, none⟩ = some (.int .i64 5) /\ w'.cell? ⟨o, 1, none⟩ = some (.int .i64 0) /\ w'.cell? ⟨o, 2, none⟩ = some (.string ⟨#[]⟩) /\ w'.cell? ⟨o, 3, none⟩ = some (.slice p n c) /\ w'.cell? ⟨o, 4, none⟩ = some (.slice none 0 0)) (((((W.setCell ⟨(w.heap.size + 1 + 1), 0, none⟩ (.int .i64 q.k)).setCell ⟨(w.heap.size + 1 + 1), 1, none⟩ (.int .i64 q.n)).setCell ⟨(w.heap.size + 1 + 1), 2, none⟩ (.string q.s)).setCell ⟨(w.heap.size + 1 + 1), 3, none⟩ (.slice q.pl q.nl q.cl)).setCell ⟨(w.heap.size + 1 + 1), 4, none⟩ (.slice q.pm q.nm q.cm))) := fun W q hb => by
       have key : ∀ b o' v, b ≠ w.heap.size + 1 + 1 -> W.cell? ⟨b, o', none⟩ = some v -> (((((W.setCell ⟨(w.heap.size + 1 + 1), 0, none⟩ (.int .i64 q.k)).setCell ⟨(w.heap.size + 1 + 1), 1, none⟩ (.int .i64 q.n)).setCell ⟨(w.heap.size + 1 + 1), 2, none⟩ (.string q.s)).setCell ⟨(w.heap.size + 1 + 1), 3, none⟩ (.slice q.pl q.nl q.cl)).setCell ⟨(w.heap.size + 1 + 1), 4, none⟩ (.slice q.pm q.nm q.cm)).cell? ⟨b, o', none⟩ = some v := fun b o' v hne h =>
        (World.cell?_of_block (a := ⟨b, o', none⟩) ((grownBy_set5 W (w.heap.size + 1 + 1) q).block b (cell_some h).2 (fun e => hne (by injection e)))).trans h
       obtain ⟨h0, h1, h2, h3, h4, h5, h6⟩ := HS7.out W hb
       exact ⟨key _ _ _ (by omega) h0, key _ _ _ (by omega) h1, key _ _ _ (by omega) h2, key _ _ _ (by omega) h3, key _ _ _ (by omega) h4, key _ _ _ (by omega) h5, key _ _ _ (by omega) h6⟩
      have C1 : Hid (∀ W, Calls Tryz.prog 36 #[.string ra.id] W fun e w' => e = .returned (.agg #[.int .i64 4, .int .i64 0, .string ra.id, .slice none 0 0, .slice none 0 0]) /\ Below W.heap.size W w') := fun W => textV_any ra.id W
      have C2 : Hid (∀ W, Calls Tryz.prog 36 #[.string stx] W fun e w' => e = .returned (.agg #[.int .i64 4, .int .i64 0, .string stx, .slice none 0 0, .slice none 0 0]) /\ Below W.heap.size W w') := fun W => textV_any stx W
      have C3 : Hid (∀ W, Calls Tryz.prog 35 #[.string ⟨#[97, 99, 99, 111, 117, 110, 116, 73, 100]⟩, .agg #[.int .i64 4, .int .i64 0, .string ra.id, .slice none 0 0, .slice none 0 0]] W fun e w' => e = .returned (.agg #[.string ⟨#[97, 99, 99, 111, 117, 110, 116, 73, 100]⟩, .int .i64 4, .int .i64 0, .string ra.id, .slice none 0 0, .slice none 0 0]) /\ Below W.heap.size W w') := fun W => member_any ⟨#[97, 99, 99, 111, 117, 110, 116, 73, 100]⟩ (textR ra.id) W
      have C4 : Hid (∀ W, Calls Tryz.prog 35 #[.string ⟨#[115, 116, 97, 116, 101]⟩, .agg #[.int .i64 4, .int .i64 0, .string stx, .slice none 0 0, .slice none 0 0]] W fun e w' => e = .returned (.agg #[.string ⟨#[115, 116, 97, 116, 101]⟩, .int .i64 4, .int .i64 0, .string stx, .slice none 0 0, .slice none 0 0]) /\ Below W.heap.size W w') := fun W => member_any ⟨#[115, 116, 97, 116, 101]⟩ (textR stx) W
      have C5 : Hid (∀ W, Calls Tryz.prog 35 #[.string ⟨#[108, 105, 115, 116]⟩, .agg #[.int .i64 5, .int .i64 0, .string ⟨#[]⟩, .slice p n c, .slice none 0 0]] W fun e w' => e = .returned (.agg #[.string ⟨#[108, 105, 115, 116]⟩, .int .i64 5, .int .i64 0, .string ⟨#[]⟩, .slice p n c, .slice none 0 0]) /\ Below W.heap.size W w') := fun W => member_any ⟨#[108, 105, 115, 116]⟩ ⟨5, 0, ⟨#[]⟩, p, n, c, none, 0, 0⟩ W
      have C6 : Hid (∀ W pt nt ct, Calls Tryz.prog 35 #[.string ⟨#[110, 111, 116, 70, 111, 117, 110, 100]⟩, .agg #[.int .i64 5, .int .i64 0, .string ⟨#[]⟩, .slice pt nt ct, .slice none 0 0]] W fun e w' => e = .returned (.agg #[.string ⟨#[110, 111, 116, 70, 111, 117, 110, 100]⟩, .int .i64 5, .int .i64 0, .string ⟨#[]⟩, .slice pt nt ct, .slice none 0 0]) /\ Below W.heap.size W w') := fun W pt nt ct => member_any ⟨#[110, 111, 116, 70, 111, 117, 110, 100]⟩ ⟨5, 0, ⟨#[]⟩, pt, nt, ct, none, 0, 0⟩ W
      have C7 : Hid (∀ W, Below wr.heap.size wr W -> Calls Tryz.prog 38 #[.slice pm nm cm] W fun e w' => ∃ pt nt ct, e = .returned (.agg #[.int .i64 5, .int .i64 0, .string ⟨#[]⟩, .slice pt nt ct, .slice none 0 0]) /\ TreeS w' (fun k => wr.heap.size <= k /\ k < w'.heap.size) (listJ ((missTo bd L).map textJ)) ⟨5, 0, ⟨#[]⟩, pt, nt, ct, none, 0, 0⟩ /\ Below W.heap.size W w') := fun W hb =>
       (texts_any (missTo bd L) pm nm cm W ((HG.out.mis.below hb (Nat.le_refl _)).rd codecS) HML.out).mono (fun e w' h => by
        obtain ⟨pt, nt, ct, he, ho, hb2⟩ := h
        exact ⟨pt, nt, ct, he, (texts_tree ho).mono (fun k e => ⟨Nat.le_trans hb.size e.1, e.2⟩), hb2⟩)
      have HWH := Lib.hid HG.out.whole
      have HAID : Hid (a.id = ra.id /\ bd.seq = sq /\ askedL bd (argI t) = L) := ⟨HAI.out, HSQ.out, HLA.out⟩
      have C8 : Hid (∀ (W W' : World) (pt : Option Addr) (nt ct : Nat), TreeS W' (fun k => wr.heap.size <= k /\ k < W'.heap.size) (listJ ((missTo bd L).map textJ)) ⟨5, 0, ⟨#[]⟩, pt, nt, ct, none, 0, 0⟩ -> Below wr.heap.size wr W' -> Below W'.heap.size W' W ->
       Calls Tryz.prog 34 #[.slice (some ⟨W.heap.size, 0, none⟩) 4 4] (W.alloc (.cells #[.string ⟨#[97, 99, 99, 111, 117, 110, 116, 73, 100]⟩, .int .i64 4, .int .i64 0, .string ra.id, .slice none 0 0, .slice none 0 0, .string ⟨#[115, 116, 97, 116, 101]⟩, .int .i64 4, .int .i64 0, .string stx, .slice none 0 0, .slice none 0 0, .string ⟨#[108, 105, 115, 116]⟩, .int .i64 5, .int .i64 0, .string ⟨#[]⟩, .slice p n c, .slice none 0 0, .string ⟨#[110, 111, 116, 70, 111, 117, 110, 100]⟩, .int .i64 5, .int .i64 0, .string ⟨#[]⟩, .slice pt nt ct, .slice none 0 0] 81)) fun e w' => ∃ p6 n6 c6, e = .returned (.agg #[.int .i64 6, .int .i64 0, .string ⟨#[]⟩, .slice none 0 0, .slice p6 n6 c6]) /\ TreeS w' (fun k => k < w'.heap.size /\ (k < w.heap.size \/ w9.heap.size <= k)) (getJ a.id cd bd (argI t) (argP t)) ⟨6, 0, ⟨#[]⟩, none, 0, 0, p6, n6, c6⟩ /\ Below wr.heap.size wr w') := fun W W' pt nt ct h1 hb hb' =>
       (object_any [⟨accIdN, textR ra.id⟩, ⟨stateN, textR stx⟩, ⟨listN, ⟨5, 0, ⟨#[]⟩, p, n, c, none, 0, 0⟩⟩, ⟨notFoundN, ⟨5, 0, ⟨#[]⟩, pt, nt, ct, none, 0, 0⟩⟩] _ 4 4 _ (Rd.block (xs := [⟨accIdN, textR ra.id⟩, ⟨stateN, textR stx⟩, ⟨listN, ⟨5, 0, ⟨#[]⟩, p, n, c, none, 0, 0⟩⟩, ⟨notFoundN, ⟨5, 0, ⟨#[]⟩, pt, nt, ct, none, 0, 0⟩⟩]) codecM (heap_alloc_new _ _) rfl (by simp) (show 4 <= maxLen by decide)) (by simp)).mono (fun e w' h => by
        obtain ⟨p6, n6, c6, he, ho, hb6⟩ := h
        have hbz : Below W'.heap.size W' w' := (hb'.alloc hb'.size _).trans (hb6.mono (by have := hb'.size; simp; omega))
        have hbw : Below wr.heap.size wr w' := hb.trans (hbz.mono hb.size)
        have hs1 := hb.size
        have hs2 := hb'.size
        have hs3 := hbz.size
        refine ⟨p6, n6, c6, he, ?_, hbw⟩
        unfold getJ
        rw [HAID.out.1, HAID.out.2.1, HAID.out.2.2, HSX.out]
        refine four_tree ho (fun k h1 h2 => ⟨h2, .inr (by simp at h1; omega)⟩) (textR_of _ _ _) (textR_of _ _ _) ?_ ?_
        ·exact (HWH.out.same (fun k e => hbw.block k e.1)).mono (fun k e => ⟨by have := e.1; omega, e.2⟩)
        ·exact (h1.same (fun k e => hbz.block k e.2)).mono (fun k e => ⟨by have := e.2; omega, .inr (by have := e.1; omega)⟩))
      have hk0 := KB.drew wr
      clear hx0 hx1 hx2 hx3 hx4 hcc hid0 hzr hol hta hml hstx HG
      go_upto_region 17 with fail
      go_region_held3 (fun w' => w'.cell? ⟨w.heap.size, 0, none⟩ = some (.string ra.id) /\ w'.cell? ⟨g12, 2, none⟩ = some (.int .i64 sq) /\ w'.cell? ⟨o, 0, none⟩ = some (.int .i64 5) /\ w'.cell? ⟨o, 1, none⟩ = some (.int .i64 0) /\ w'.cell? ⟨o, 2, none⟩ = some (.string ⟨#[]⟩) /\ w'.cell? ⟨o, 3, none⟩ = some (.slice p n c) /\ w'.cell? ⟨o, 4, none⟩ = some (.slice none 0 0))
       (first | with_reducible exact HS7.out _ (kb1 hk0) | with_reducible exact HS7.out _ hbo | with_reducible exact HS7S.out _ ⟨6, 0, ⟨#[]⟩, none, 0, 0, p6, n6, c6⟩ hbo | with_reducible exact HS7.out _ (kb1 hbk) | with_reducible exact HS7.out _ ((kb1 hbk).alloc (kb1 hbk).size _))
       (first
        | (go_at_call 36; (with_reducible refine (C1.out _).mono ?_); rintro e w21 ⟨rfl, hb21⟩; (have hbk := KB.step (W := wr) (by assumption) hb21))
        | (go_at_call 36; (with_reducible refine (C2.out _).mono ?_); rintro e w24 ⟨rfl, hb24⟩; (have hbk := KB.step (W := wr) (by assumption) hb24))
        | (go_at_call 13; (with_reducible refine (HST.out _).mono ?_); rintro e w23 ⟨rfl, hb23⟩; (have hbk := KB.step (W := wr) (by assumption) hb23))
        | (go_at_call 35; (with_reducible refine (C3.out _).mono ?_); rintro e w22 ⟨rfl, hb22⟩; (have hbk := KB.step (W := wr) (by assumption) hb22))
        | (go_at_call 35; (with_reducible refine (C4.out _).mono ?_); rintro e w25 ⟨rfl, hb25⟩; (have hbk := KB.step (W := wr) (by assumption) hb25))
        | (go_at_call 35; (with_reducible refine (C5.out _).mono ?_); rintro e w26 ⟨rfl, hb26⟩; (have hbk := KB.step (W := wr) (by assumption) hb26))
        | (go_at_call 38; (with_reducible refine (C7.out _ (kb1 hbk)).mono ?_); rintro e w27 ⟨pt, nt, ct, rfl, hT27, hb27⟩; (have hbk := KB.step (W := wr) (by assumption) hb27); (have hbk27 := (kb1 hbk)))
        | (go_at_call 35; (with_reducible refine (C6.out _ pt nt ct).mono ?_); rintro e w28 ⟨rfl, hb28⟩; (have hbk := KB.step (W := wr) (by assumption) hb28))
        | (go_at_call 34; (with_reducible refine (C8.out w28 w27 pt nt ct hT27 hbk27 hb28).mono ?_); rintro e w29 ⟨p6, n6, c6, rfl, hT29, hbo⟩; (have hzo := HZR.out.under hbo (by omega)); (obtain ⟨z0, z1, z2, z3, z4⟩ := hzo.cells5); (have y0 := hzo.frozen 0); (have y1 := hzo.frozen 1); (have y2 := hzo.frozen 2); (have y3 := hzo.frozen 3); (have y4 := hzo.frozen 4); dsimp only [RV.zero] at z0 z1 z2 z3 z4)
        | fail)
      go_wp2_with fail
      refine bodyPost_ret (v := .tuple #[RV.val ⟨6, 0, ⟨#[]⟩, none, 0, 0, p6, n6, c6⟩, .string ⟨#[]⟩]) (by simp [results, Tryz.results23, go_sem, z0, z1, z2, z3, z4]) rfl (GetRet26.ok HAR.out HBIG.out ?_ (Below.stored (HBW.out.trans (hbo.mono HBW.out.size)) (by omega) ⟨6, 0, ⟨#[]⟩, none, 0, 0, p6, n6, c6⟩))
      have hgs := grownBy_set5 w29 (w.heap.size + 1 + 1) ⟨6, 0, ⟨#[]⟩, none, 0, 0, p6, n6, c6⟩
      exact (hT29.same (fun k e => hgs.block k e.1 (fun e2 => by injection e2 with e2; rcases e.2 with h | h <;> omega))).tree (fun k e => Nat.lt_of_lt_of_le e.1 hgs.size)
   ·have hz := HZ5.out
    obtain ⟨z0, z1, z2, z3, z4⟩ := hz.cells5
    have y0 := hz.frozen 0
    have y1 := hz.frozen 1
    have y2 := hz.frozen 2
    have y3 := hz.frozen 3
    have y4 := hz.frozen 4
    dsimp only [RV.zero] at z0 z1 z2 z3 z4
    clear hz
    go_wp2_with fail
    refine bodyPost_ret (v := .tuple #[RV.val RV.zero, .string ⟨#[114, 101, 113, 117, 101, 115, 116, 84, 111, 111, 76, 97, 114, 103, 101]⟩]) (by simp [results, Tryz.results23, go_sem, RV.zero, z0, z1, z2, z3, z4]) rfl (GetRet26.big HAR.out HBIG.out (Below.stored HW05.out (by omega) RV.zero))
end
end Go.Proofs.YtfgjimpmpckgpaaGreatDoor
