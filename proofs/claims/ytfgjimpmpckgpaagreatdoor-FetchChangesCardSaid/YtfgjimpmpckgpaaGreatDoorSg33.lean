import Derived.Test.YtfgjimpmpckgpaaGreatDoorSg31
import Derived.Test.YtfgjimpmpckgpaaGreatDoorSg32
import Derived.Test.YtfgjimpmpckgpaaGreatDoorSg13
set_option linter.unusedSimpArgs false
set_option linter.unusedVariables false
set_option maxRecDepth 200000
set_option maxHeartbeats 8000000
namespace Go.Proofs.YtfgjimpmpckgpaaGreatDoor
section
open Go Go.RowKit Go.OpenShut
theorem rchgB_any (a : AcD) (ra : RAc) (known book : Bool) (t : JV) (r : RV) (w : World) (B : Nat) (hBw : B <= w.heap.size) (ha : AcOf w B a ra) (oc : a.cards.Ok) (ob : a.books.Ok) (hright : RightBx (a.box book)) (ht : TreeOf w B t r) (ot : t.Ok) :
 Calls Tryz.prog 9 #[RAc.val ra, .bool known, .int .i64 (kindB book), RV.val r] w (ChgRetS w B a.id known (!book) (a.box book) t) := by
 obtain ⟨W0, hW0⟩ : ∃ W0, ((w.alloc (RAc.obj ra)).alloc r.obj).alloc (.cells #[.int .i64 0, .int .i64 0, .string ⟨#[]⟩, .slice none 0 0, .slice none 0 0] 31) = W0 := ⟨_, rfl⟩
 have hA0 : W0.heap[w.heap.size]? = some (RAc.obj ra) := by rw [<- hW0]; exact heap_alloc_lt (by simp; omega) (heap_alloc_lt (by simp) (heap_alloc_at rfl))
 have hT0 : VAt W0 (w.heap.size + 1) r := by rw [<- hW0]; exact heap_alloc_lt (by simp) (heap_alloc_at (by simp))
 have hZ0 : VAt W0 (w.heap.size + 1 + 1) RV.zero := by rw [<- hW0]; exact heap_alloc_at (by simp)
 have hB0 : Below w.heap.size w W0 := by rw [<- hW0]; exact (below2 w _ _).alloc (by simp; omega) _
 have hz0 := hZ0.lt
 have HBG : Hid (Calls Tryz.prog 39 #[.bool known, r.val, .string kindsC] W0 (BeginRet W0 B known t ksC)) := begin26_any W0 B known kindsC ksC t r kindsC_okR (Nat.le_trans hBw hB0.size) (ht.under (hB0.mono hBw) (Nat.le_refl _)) ot
 have HBX : Hid (∀ W, Calls Tryz.prog 42 #[RAc.val ra, .int .i64 (kindB book)] W fun e w' => e = .returned (RB.val (ra.box book)) /\ Below W.heap.size W w') := fun W => box26_any ra book W
 have hkb : kindB book = kindI (!book) := by cases book <;> rfl
 have HST : Hid (∀ (n : Int) W, (Lit.int .i64 n).wf = true -> Calls Tryz.prog 44 #[.int .i64 (kindB book), .int .i64 n] W fun e w' => e = .returned (.string (stateB (!book) n)) /\ Below W.heap.size W w') := fun n W h => by
  rw [hkb]
  exact state10_any (!book) _ W h
 have HSE : Hid (∀ (s : ByteArray) W, s.size <= maxLen -> Calls Tryz.prog 40 #[.int .i64 (kindB book), .string s] W fun e w' => e = .returned (seqRet (seqI (!book) s)) /\ Below W.heap.size W w') := fun s W h => by
  rw [hkb]
  exact refSeq_any (!book) s W h
 obtain ⟨kd, hkd⟩ : ∃ k, kindB book = k := ⟨_, rfl⟩
 rw [hkd] at HBX HST HSE
 have HAB := Lib.hid (ha.box book)
 have HOB : Hid (a.box book).Ok := by unfold Hid; cases book; exact oc; exact ob
 have HRB := Lib.hid hright
 have HAI := Lib.hid ha.id
 obtain ⟨bd, hbd⟩ : ∃ b, a.box book = b := ⟨_, rfl⟩
 obtain ⟨⟨po, no, co, pt, nt, ct, sq, fl, kp⟩, hrb⟩ : ∃ b, ra.box book = b := ⟨_, rfl⟩
 obtain ⟨cd, hcd⟩ : ∃ b, (!book) = b := ⟨_, rfl⟩
 rw [hbd, hrb] at HAB
 rw [hbd] at HOB HRB
 rw [hcd] at HST HSE
 rw [hrb] at HBX
 rw [hbd, hcd]
 rw [hkd]
 obtain ⟨tk, tn, ts, tpl, tnl, tcl, tpm, tnm, tcm⟩ := r
 dsimp only [RV.val, RV.obj, RB.val] at *
 have hsq : bd.seq = sq := HAB.out.seq
 have hno : bd.objs.length = no := HAB.out.objs.nlen
 have HNO := Lib.hid hno
 have HSQ := Lib.hid hsq
 clear hsq hno
 have HW := Lib.hid hW0
 have HA0 := Lib.hid hA0
 have HT0 := Lib.hid hT0
 have HZ0 := Lib.hid hZ0
 have HB0 := Lib.hid hB0
 have HOT := Lib.hid ot
 clear hW0 hA0 hZ0 hB0 ha oc ob hright ht ot hkb hkd hbd hrb hcd
 unfold BeginRet whyB at HBG
 obtain ⟨q0, q1, q2, q3, q4⟩ := hT0.cells5
 dsimp only at q0 q1 q2 q3 q4
 clear hT0
 cases hab : argsB t ksC
 ·rw [hab] at HBG
  simp only [Bool.false_eq_true, if_false, Bool.false_and] at HBG
  unfold badN at HBG
  have HAR := Lib.hid hab
  clear hab
  go_enter Tryz.func9, Tryz.ntmps9
  go_upto_region 1 with fail
  rw [HW.out]
  clear HW
  go_upto_region 2 with (go_at_call 39; refine HBG.out.mono ?_; rintro e w1 ⟨pl, nl, cl, rfl, hb1, _⟩; (have hz := HZ0.out.under hb1 hz0); (obtain ⟨z0, z1, z2, z3, z4⟩ := hz.cells5); (have y0 := hz.frozen 0); (have y1 := hz.frozen 1); (have y2 := hz.frozen 2); (have y3 := hz.frozen 3); (have y4 := hz.frozen 4); dsimp only [RV.zero] at z0 z1 z2 z3 z4; (have HZ := Lib.hid hz); (have HB1 := Lib.hid hb1); clear hz hb1)
  go_wp2_with fail
  refine bodyPost_ret (v := .tuple #[RV.val RV.zero, .string ⟨#[105, 110, 118, 97, 108, 105, 100, 65, 114, 103, 117, 109, 101, 110, 116, 115]⟩]) (by simp [results, Tryz.results9, go_sem, RV.zero, z0, z1, z2, z3, z4]) rfl (ChgRetS.bad HAR.out (Below.stored (HB0.out.trans (HB1.out.mono HB0.out.size)) (by omega) RV.zero))
 ·cases known
  ·rw [hab] at HBG
   simp only [Bool.false_eq_true, if_true, if_false, Bool.and_false] at HBG
   unfold noAccN at HBG
   have HAR := Lib.hid hab
   clear hab
   go_enter Tryz.func9, Tryz.ntmps9
   go_upto_region 1 with fail
   rw [HW.out]
   clear HW
   go_upto_region 2 with (go_at_call 39; refine HBG.out.mono ?_; rintro e w1 ⟨pl, nl, cl, rfl, hb1, _⟩; (have hz := HZ0.out.under hb1 hz0); (obtain ⟨z0, z1, z2, z3, z4⟩ := hz.cells5); (have y0 := hz.frozen 0); (have y1 := hz.frozen 1); (have y2 := hz.frozen 2); (have y3 := hz.frozen 3); (have y4 := hz.frozen 4); dsimp only [RV.zero] at z0 z1 z2 z3 z4; (have HZ := Lib.hid hz); (have HB1 := Lib.hid hb1); clear hz hb1)
   go_wp2_with fail
   refine bodyPost_ret (v := .tuple #[RV.val RV.zero, .string ⟨#[97, 99, 99, 111, 117, 110, 116, 78, 111, 116, 70, 111, 117, 110, 100]⟩]) (by simp [results, Tryz.results9, go_sem, RV.zero, z0, z1, z2, z3, z4]) rfl (ChgRetS.noAcc HAR.out (Below.stored (HB0.out.trans (HB1.out.mono HB0.out.size)) (by omega) RV.zero))
  ·rw [hab] at HBG
   simp only [if_true, Bool.and_true, if_true] at HBG
   have HAR := Lib.hid hab
   clear hab
   have hA0 := HA0.out
   go_enter Tryz.func9, Tryz.ntmps9
   go_upto_region 1 with fail
   rw [HW.out]
   clear HW
   go_upto_region 2 with (go_at_call 39; refine HBG.out.mono ?_; rintro e w1 ⟨pl, nl, cl, rfl, hb1, hargs'⟩; (have hz := HZ0.out.under hb1 hz0); (obtain ⟨z0, z1, z2, z3, z4⟩ := hz.cells5); (have y0 := hz.frozen 0); (have y1 := hz.frozen 1); (have y2 := hz.frozen 2); (have y3 := hz.frozen 3); (have y4 := hz.frozen 4); dsimp only [RV.zero] at z0 z1 z2 z3 z4; (have HZ := Lib.hid hz); (have HB1 := Lib.hid hb1); clear hz hb1)
   obtain ⟨rs, hO1, hl1, ht1⟩ := hargs' trivial trivial
   obtain ⟨r0, r1, r2, rfl⟩ : ∃ a b c, rs = [a, b, c] := by
    match rs, hl1 with
    | [a, b, c], _ => exact ⟨a, b, c, rfl⟩
   have HT1 : Hid (TreeOf w1 B (argS t) r1) := ht1 1 _ r1 rfl rfl
   have HT2 : Hid (TreeOf w1 B (argX t) r2) := ht1 2 _ r2 rfl rfl
   obtain ⟨gl, rfl, hnl, hgl0, hgl1, hc1, _⟩ := hO1.at codecV (k := 1) (x := r1) rfl
   obtain ⟨gl', he, _, _, _, hc2, _⟩ := hO1.at codecV (k := 2) (x := r2) rfl
   obtain rfl : gl = gl' := by injection he with he; injection he
   simp only [List.length_cons, List.length_nil, Nat.zero_add, Nat.reduceAdd] at hnl
   subst hnl
   obtain ⟨_, _, i1⟩ := HT1.out.head
   obtain ⟨_, i2, _⟩ := HT2.out.head
   obtain ⟨r1k, r1n, r1s, r1pl, r1nl, r1cl, r1pm, r1nm, r1cm⟩ := r1
   obtain ⟨r2k, r2n, r2s, r2pl, r2nl, r2cl, r2pm, r2nm, r2cm⟩ := r2
   have e0 := hc1 0 _ rfl
   have e1 := hc1 1 _ rfl
   have e2 := hc1 2 _ rfl
   have e3 := hc1 3 _ rfl
   have e4 := hc1 4 _ rfl
   have f1 := hc2 1 _ rfl
   simp only [Nat.reduceMul, Nat.reduceAdd, Nat.add_zero] at e0 e1 e2 e3 e4 f1
   dsimp only at i1 i2
   have hsz1 : r1s.size <= maxLen := by
    rw [<- i1]
    have h := ok_s (argG_ok HOT.out (sinceN, 115))
    exact Nat.le_trans h (by decide)
   have hwm : (Lit.int .i64 r2n).wf = true := by
    rw [<- i2]
    exact ok_n (argG_ok HOT.out (maxN, 112))
   have HSI : Hid ((argS t).s = r1s /\ (argX t).n = r2n) := ⟨i1, i2⟩
   clear i1 i2
   clear hc1 hc2 hargs' hO1 hl1 ht1 he
   have hA1 : w1.heap[w.heap.size]? = some (RAc.obj ra) := (HB1.out.block _ (by omega)).trans HA0.out
   obtain ⟨a0, a1, a2, a3, a4, a5, a6, a7, a8, a9, a10, a11⟩ := RAc.cells12 hA1
   have hz1 : W0.heap.size <= w1.heap.size := HB1.out.size
   have HBW1 : Hid (Below w.heap.size w w1) := HB0.out.trans (HB1.out.mono HB0.out.size)
   have HSE1 := Lib.hid (fun W => HSE.out r1s W hsz1)
   clear HSE hsz1
   obtain ⟨sn, hsn⟩ : ∃ x : Int, (seqI cd r1s).getD 0 = x := ⟨_, rfl⟩
   obtain ⟨bad, hbad⟩ : ∃ x : Int, (if (seqI cd r1s).isSome then 0 else 100) = x := ⟨_, rfl⟩
   have HSQR : Hid (seqRet (seqI cd r1s) = .tuple #[.int .i64 sn, .int .i64 bad]) := by
    unfold Hid
    rw [<- hsn, <- hbad]
    cases seqI cd r1s <;> rfl
   have HSNB : Hid ((seqI cd r1s).getD 0 = sn /\ (if (seqI cd r1s).isSome then 0 else 100) = bad) := ⟨hsn, hbad⟩
   rw [HSQR.out] at HSE1
   have hA1' := Lib.hid hA1
   clear hsn hbad HSQR a0 a1 a2 a3 a4 a5 a6 a7 a8 a9 a10 a11 hA1 hA0 z0 z1 z2 z3 z4 y0 y1 y2 y3 y4
   go_upto_region 5 with (go_at_call 40; refine (HSE1.out _).mono ?_; rintro e w2 ⟨rfl, hb2⟩)
   obtain ⟨Wb, rfl⟩ : ∃ W, W = w2 := ⟨_, rfl⟩
   have HBWB : Hid (Below w.heap.size w Wb) := HBW1.out.trans (hb2.mono HBW1.out.size)
   have hsb := hb2.size
   have hAb : Wb.heap[w.heap.size]? = some (RAc.obj ra) := (hb2.block _ (by omega)).trans hA1'.out
   obtain ⟨a0, a1, a2, a3, a4, a5, a6, a7, a8, a9, a10, a11⟩ := RAc.cells12 hAb
   have f1 := bcs hb2 hgl1 f1
   have HE : Hid (Wb.cell? ⟨gl, 5, none⟩ = some (.int .i64 r1k) /\ Wb.cell? ⟨gl, 6, none⟩ = some (.int .i64 r1n) /\ Wb.cell? ⟨gl, 7, none⟩ = some (.string r1s) /\ Wb.cell? ⟨gl, 8, none⟩ = some (.slice r1pl r1nl r1cl) /\ Wb.cell? ⟨gl, 9, none⟩ = some (.slice r1pm r1nm r1cm)) := ⟨bcs hb2 hgl1 e0, bcs hb2 hgl1 e1, bcs hb2 hgl1 e2, bcs hb2 hgl1 e3, bcs hb2 hgl1 e4⟩
   have HTB : Hid (TreeOf Wb B (argS t) ⟨r1k, r1n, r1s, r1pl, r1nl, r1cl, r1pm, r1nm, r1cm⟩) := HT1.out.under (hb2.mono (by omega)) (Nat.le_refl _)
   have HZB := Lib.hid (HZ.out.under hb2 (by omega))
   have hglb : gl < Wb.heap.size := Nat.lt_of_lt_of_le hgl1 hsb
   have hwb : w.heap.size < Wb.heap.size := by omega
   have hww : w.heap.size <= Wb.heap.size := by omega
   obtain ⟨er, her⟩ : ∃ e : Int, (if (chgN bd sn r2n).isSome then 0 else 190) = e := ⟨_, rfl⟩
   obtain ⟨dd, hdd⟩ : ∃ d, (chgN bd sn r2n).getD ChD.zero = d := ⟨_, rfl⟩
   have HCH : Hid (∀ W, Below w.heap.size w W -> Calls Tryz.prog 41 #[.agg #[.slice po no co, .slice pt nt ct, .int .i64 sq, .int .i64 fl, .int .i64 kp], .int .i64 sn, .int .i64 r2n] W fun e w' => ∃ pa na ca pb nb cb pc nc cc tn mr, e = .returned (.tuple #[.agg #[.slice pa na ca, .slice pb nb cb, .slice pc nc cc, .int .i64 tn, .bool mr], .int .i64 er]) /\ Hid (NewChg w' W.heap.size dd ⟨pa, na, ca, pb, nb, cb, pc, nc, cc, tn, mr⟩) /\ Below W.heap.size W w') := fun W hb =>
    (refChanges_any bd ⟨po, no, co, pt, nt, ct, sq, fl, kp⟩ sn r2n W (HAB.out.under (hb.mono hBw) (Nat.le_trans hBw hb.size)) (by have := HRB.out.2.2.1; have := HRB.out.2.2.2.1; omega) hwm).mono (fun e w' h => by
     obtain ⟨⟨pa, na, ca, pb, nb, cb, pc, nc, cc, tn, mr⟩, h1, h2, h3⟩ := sncRet_fix h
     rw [her] at h1
     rw [hdd] at h2
     exact ⟨_, _, _, _, _, _, _, _, _, _, _, h1, h2, h3⟩)
   have HER : Hid ((if (chgN bd sn r2n).isSome then 0 else 190) = er /\ (chgN bd sn r2n).getD ChD.zero = dd) := ⟨her, hdd⟩
   clear her hdd e0 e1 e2 e3 e4 hwm hb2 hsb HSE1 hA1' HBW1 HZ
   have HZA : Hid (ChAt (Wb.alloc (.cells #[.slice none 0 0, .slice none 0 0, .slice none 0 0, .int .i64 0, .bool false] 75)).drew Wb.heap.size RC.zero) := heap_alloc_at rfl
   have hk0 := KB.drew Wb
   have hkA : KB Wb.heap.size Wb (Wb.alloc (.cells #[.slice none 0 0, .slice none 0 0, .slice none 0 0, .int .i64 0, .bool false] 75)).drew := kt_da Wb _
   have HSA : Hid (Wb.heap.size < (Wb.alloc (.cells #[.slice none 0 0, .slice none 0 0, .slice none 0 0, .int .i64 0, .bool false] 75)).drew.heap.size) := by unfold Hid; simp [World.drew]
   go_upto_region 5 with fail
   go_cut [15, 14] from 36 to 47 (fun v p wr => ∃ (g : Nat) (rc : RC), v = .int .i64 er /\ p = .pointer (some ⟨g, 0, none⟩) /\ Hid (CgR Wb dd g rc wr))
   case first =>
    go_region_held3 (fun w' => Below Wb.heap.size Wb w' /\ ∀ b o, b < Wb.heap.size -> w'.cell? ⟨b, o, none⟩ = Wb.cell? ⟨b, o, none⟩)
     (first | with_reducible exact kt_drew Wb | with_reducible exact kt_same hbk | with_reducible exact kt_alloc hbk _ | with_reducible exact kt_da Wb _ | with_reducible exact kt_setC hbk _ ⟨pa, na, ca, pb, nb, cb, pc, nc, cc, tn, mr⟩ (Nat.le_refl _) | with_reducible exact kt_setC hbk _ ⟨pa, na, ca, pb, nb, cb, pc, nc, cc, tn, mr⟩ hs8)
     (first
      | (go_at_call 41; refine (HCH.out _ (KB.fin (by assumption) HBWB.out hww)).mono ?_; rintro e w9 ⟨pa, na, ca, pb, nb, cb, pc, nc, cc, tn, mr, rfl, hT9, hb9⟩; (have hbk := KB.step (W := Wb) (by assumption) hb9); (have HX := Lib.hid (And.intro hT9.out hbk.1)); (have hsw9 := hb9.size); (first | ((have HZ9 := Lib.hid (HZ8.out.under hb9 HZ8.out.lt)); (have HS9 := HS8.out); (obtain ⟨z0, z1, z2, z3, z4⟩ := HZ9.out.cells5); (have y0 := HZ9.out.frozen 0); (have y1 := HZ9.out.frozen 1); (have y2 := HZ9.out.frozen 2); (have y3 := HZ9.out.frozen 3); (have y4 := HZ9.out.frozen 4); dsimp only [RC.zero] at z0 z1 z2 z3 z4) | ((have HZ8' : ChAt (w8.alloc (.cells #[.slice none 0 0, .slice none 0 0, .slice none 0 0, .int .i64 0, .bool false] 75)) w8.heap.size RC.zero := heap_alloc_at rfl); (have HZ9 := Lib.hid (HZ8'.under hb9 (by simp))); (obtain ⟨z0, z1, z2, z3, z4⟩ := HZ9.out.cells5); (have y0 := HZ9.out.frozen 0); (have y1 := HZ9.out.frozen 1); (have y2 := HZ9.out.frozen 2); (have y3 := HZ9.out.frozen 3); (have y4 := HZ9.out.frozen 4); dsimp only [RC.zero] at z0 z1 z2 z3 z4) | skip))
      | (go_at_call 42; refine (HBX.out _).mono ?_; rintro e w8 ⟨rfl, hb8⟩; (have hbk := KB.step (W := Wb) (by assumption) hb8); (have hs8 := hbk.1.size); (first | ((have HZ8 := Lib.hid (HZA.out.under hb8 HZA.out.lt)); (have HS8 : Hid (Wb.heap.size < w8.heap.size) := Nat.lt_of_lt_of_le HSA.out hb8.size)) | skip))
      | fail)
    all_goals (
     go_wp2_with fail
     go_meet
     first
      | (have hz := HZ9
         exact ⟨_, ⟨pa, na, ca, pb, nb, cb, pc, nc, cc, tn, mr⟩, rfl, rfl, CgR.stored HX.out.1 (by have h4 := hs8; (try (have h5 := HS8.out)); (try simp only [World.alloc, World.drew, Array.size_push] at h4 ⊢); omega) (by have h4 := hs8; (try simp only [World.alloc, World.drew, Array.size_push] at h4 ⊢); omega) hz.out HX.out.2⟩)
      | exact ⟨_, ⟨pa, na, ca, pb, nb, cb, pc, nc, cc, tn, mr⟩, rfl, rfl, CgR.fresh HX.out.1 (by have h4 := hs8; (try simp only [World.alloc, World.drew, Array.size_push] at h4 ⊢); omega) HX.out.2⟩)
   case rest =>
   obtain ⟨g, ⟨pa, na, ca, pb, nb, cb, pc, nc, cc, tn, mr⟩, rfl, rfl, hx9⟩ := hcut
   obtain ⟨Wc, rfl⟩ : ∃ W, W = wc := ⟨_, rfl⟩
   have HX := Lib.hid hx9.out
   have hbc := hx9.out.below
   have HBWC : Hid (Below w.heap.size w Wc) := HBWB.out.trans (hbc.mono hww)
   have hsc := hbc.size
   have hgb := hx9.out.ge
   have hgc := hx9.out.at'.lt
   have s0 := bcs hbc hwb a0
   have s1 := bcs hbc hglb HE.out.1
   have s2 := bcs hbc hglb HE.out.2.1
   have s3 := bcs hbc hglb HE.out.2.2.1
   have s4 := bcs hbc hglb HE.out.2.2.2.1
   have s5 := bcs hbc hglb HE.out.2.2.2.2
   have s6 := hx9.out.at'.cell 0 rfl
   have s7 := hx9.out.at'.cell 1 rfl
   have s8 := hx9.out.at'.cell 2 rfl
   have s9 := hx9.out.at'.cell 3 rfl
   have s10 := hx9.out.at'.cell 4 rfl
   dsimp only at s6 s7 s8 s9 s10
   have HZC := Lib.hid (HZB.out.under hbc (by omega))
   have HTC : Hid (TreeOf Wc B (argS t) ⟨r1k, r1n, r1s, r1pl, r1nl, r1cl, r1pm, r1nm, r1cm⟩) := HTB.out.under (hbc.mono (by omega)) (Nat.le_refl _)
   have hglc : gl < Wc.heap.size := Nat.lt_of_lt_of_le hglb hsc
   have hwc : w.heap.size < Wc.heap.size := by omega
   clear hx9 HZA hk0 hkA HSA HCH a0 a1 a2 a3 a4 a5 a6 a7 a8 a9 a10 a11 hbc HZB HTB HE HBWB f1 hAb
   cases hck : (seqI cd r1s).isSome && (chgN bd sn r2n).isSome with
   | false =>
     have hcases : bad = 100 \/ (bad = 0 /\ er = 190) := by
      have h1 := HSNB.out.2
      have h2 := HER.out.1
      cases hx : (seqI cd r1s).isSome with
      | false => rw [hx] at h1; exact .inl h1.symm
      | true =>
        rw [hx] at h1 hck
        rw [Bool.true_and] at hck
        rw [hck] at h2
        exact .inr ⟨h1.symm, h2.symm⟩
     have HCO2 : Hid (chgO bd cd (argS t).s (argX t).n = none) := by
      unfold Hid chgO
      rw [HSI.out.1, HSI.out.2]
      have h1 := HSNB.out.1
      cases hx : seqI cd r1s with
      | none => rfl
      | some v =>
        rw [hx] at h1 hck
        obtain rfl : v = sn := h1
        rw [Option.bind_some]
        simpa using hck
     clear hck s0 s1 s2 s3 s4 s5 s6 s7 s8 s9 s10
     have hz := HZC.out
     obtain ⟨z0, z1, z2, z3, z4⟩ := hz.cells5
     have y0 := hz.frozen 0
     have y1 := hz.frozen 1
     have y2 := hz.frozen 2
     have y3 := hz.frozen 3
     have y4 := hz.frozen 4
     dsimp only [RV.zero] at z0 z1 z2 z3 z4
     clear hz
     rcases hcases with rfl | ⟨rfl, rfl⟩
     all_goals
      go_wp2_with fail
      refine bodyPost_ret (v := .tuple #[RV.val RV.zero, .string ⟨#[99, 97, 110, 110, 111, 116, 67, 97, 108, 99, 117, 108, 97, 116, 101, 67, 104, 97, 110, 103, 101, 115]⟩]) (by simp [results, Tryz.results9, go_sem, RV.zero, z0, z1, z2, z3, z4]) rfl (ChgRetS.cannot HAR.out HCO2.out (Below.stored HBWC.out (by omega) RV.zero))
   | true =>
     rw [Bool.and_eq_true] at hck
     obtain ⟨hck1, hck2⟩ := hck
     obtain ⟨d, hch⟩ := Option.isSome_iff_exists.1 hck2
     obtain ⟨her, hdd⟩ := HER.out
     rw [hch] at her hdd
     obtain rfl : er = 0 := her.symm
     obtain rfl : d = dd := hdd
     have hbd := HSNB.out.2
     rw [hck1] at hbd
     obtain rfl : bad = 0 := hbd.symm
     have HCO2 : Hid (chgO bd cd (argS t).s (argX t).n = some d) := by
      unfold Hid chgO
      rw [HSI.out.1, HSI.out.2]
      have h1 := HSNB.out.1
      obtain ⟨v, hv⟩ := Option.isSome_iff_exists.1 hck1
      rw [hv] at h1 ⊢
      obtain rfl : v = sn := h1
      rw [Option.bind_some]
      exact hch
     obtain ⟨_, _, l1, l2, l3⟩ := chgN_safe HRB.out hch
     have hwt := chgN_wf HRB.out hch
     have htn : d.toN = tn := HX.out.new.toN
     have hmr : d.more = mr := HX.out.new.more
     rw [htn] at hwt
     have HL : Hid (d.made.length <= 1000 /\ d.chgd.length <= 1000 /\ d.gone.length <= 1000) := ⟨l1, l2, l3⟩
     obtain ⟨mi, hmi⟩ : ∃ i : Int, (if mr then 1 else 0) = i := ⟨_, rfl⟩
     obtain ⟨stx, hstx⟩ : ∃ s, stateB cd tn = s := ⟨_, rfl⟩
     have HST2 : Hid (∀ W, Calls Tryz.prog 44 #[.int .i64 kd, .int .i64 tn] W fun e w' => e = .returned (.string stx) /\ Below W.heap.size W w') := fun W => by rw [<- hstx]; exact HST.out tn W hwt
     have HEQ : Hid (a.id = ra.id /\ d.toN = tn /\ d.more = mr /\ (if mr then (1 : Int) else 0) = mi /\ stateB cd tn = stx) := ⟨HAI.out, htn, hmr, hmi, hstx⟩
     have HBWc : Hid (B <= Wc.heap.size) := Nat.le_trans hBw (by omega)
     have C1 : Hid (∀ W, Calls Tryz.prog 43 #[.string ra.id] W fun e w' => e = .returned (.agg #[.int .i64 4, .int .i64 0, .string ra.id, .slice none 0 0, .slice none 0 0]) /\ Below W.heap.size W w') := fun W => textV25_any ra.id W
     have C2 : Hid (∀ W, Calls Tryz.prog 43 #[.string stx] W fun e w' => e = .returned (.agg #[.int .i64 4, .int .i64 0, .string stx, .slice none 0 0, .slice none 0 0]) /\ Below W.heap.size W w') := fun W => textV25_any stx W
     have C6 : Hid (∀ W, Calls Tryz.prog 45 #[.bool mr] W fun e w' => e = .returned (.agg #[.int .i64 2, .int .i64 mi, .string ⟨#[]⟩, .slice none 0 0, .slice none 0 0]) /\ Below W.heap.size W w') := fun W => (truth26_any mr W).mono (fun e w' h => ⟨by rw [h.1, <- hmi]; rfl, h.2⟩)
     have L5 : Hid (∀ W, Below Wc.heap.size Wc W -> Calls Tryz.prog 24 #[.slice pa na ca] W fun e w' => ∃ pt nt ct, e = .returned (.agg #[.int .i64 5, .int .i64 0, .string ⟨#[]⟩, .slice pt nt ct, .slice none 0 0]) /\ TreeS w' (fun k => W.heap.size <= k /\ k < w'.heap.size) (listJ (d.made.map textJ)) ⟨5, 0, ⟨#[]⟩, pt, nt, ct, none, 0, 0⟩ /\ Below W.heap.size W w') := fun W hb =>
      (refTexts_any d.made pa na ca W ((HX.out.new.made.below hb (Nat.le_refl _)).rd codecS) (by have := HL.out; omega)).mono (fun e w' h => by
       obtain ⟨pt, nt, ct, he, ho, hb2⟩ := h
       exact ⟨pt, nt, ct, he, texts_tree ho, hb2⟩)
     have L6 : Hid (∀ W, Below Wc.heap.size Wc W -> Calls Tryz.prog 24 #[.slice pb nb cb] W fun e w' => ∃ pt nt ct, e = .returned (.agg #[.int .i64 5, .int .i64 0, .string ⟨#[]⟩, .slice pt nt ct, .slice none 0 0]) /\ TreeS w' (fun k => W.heap.size <= k /\ k < w'.heap.size) (listJ (d.chgd.map textJ)) ⟨5, 0, ⟨#[]⟩, pt, nt, ct, none, 0, 0⟩ /\ Below W.heap.size W w') := fun W hb =>
      (refTexts_any d.chgd pb nb cb W ((HX.out.new.chgd.below hb (Nat.le_refl _)).rd codecS) (by have := HL.out; omega)).mono (fun e w' h => by
       obtain ⟨pt, nt, ct, he, ho, hb2⟩ := h
       exact ⟨pt, nt, ct, he, texts_tree ho, hb2⟩)
     have L7 : Hid (∀ W, Below Wc.heap.size Wc W -> Calls Tryz.prog 24 #[.slice pc nc cc] W fun e w' => ∃ pt nt ct, e = .returned (.agg #[.int .i64 5, .int .i64 0, .string ⟨#[]⟩, .slice pt nt ct, .slice none 0 0]) /\ TreeS w' (fun k => W.heap.size <= k /\ k < w'.heap.size) (listJ (d.gone.map textJ)) ⟨5, 0, ⟨#[]⟩, pt, nt, ct, none, 0, 0⟩ /\ Below W.heap.size W w') := fun W hb =>
      (refTexts_any d.gone pc nc cc W ((HX.out.new.gone.below hb (Nat.le_refl _)).rd codecS) (by have := HL.out; omega)).mono (fun e w' h => by
       obtain ⟨pt, nt, ct, he, ho, hb2⟩ := h
       exact ⟨pt, nt, ct, he, texts_tree ho, hb2⟩)
     have A1 : Hid (∀ W, Calls Tryz.prog 18 #[.agg #[.int .i64 0, .int .i64 0, .string ⟨#[]⟩, .slice none 0 0, .slice none 0 0], .string ⟨#[97, 99, 99, 111, 117, 110, 116, 73, 100]⟩, .agg #[.int .i64 4, .int .i64 0, .string ra.id, .slice none 0 0, .slice none 0 0]] W fun e w' => ∃ p n c, e = .returned (.agg #[.int .i64 6, .int .i64 0, .string ⟨#[]⟩, .slice none 0 0, .slice p n c]) /\ Own w' W.heap.size 81 encM 6 (.slice p n c) [⟨accIdN, textR ra.id⟩] /\ Below W.heap.size W w') := fun W =>
      addV_any 0 0 ⟨#[]⟩ none 0 0 none 0 0 [] accIdN (textR ra.id) W (Rd.nil _ _) (by simp)
     have A2 : Hid (∀ (W : World) (p1 : Option Addr) (n1 c1 base : Nat), Own W base 81 encM 6 (.slice p1 n1 c1) [⟨accIdN, textR ra.id⟩] -> Calls Tryz.prog 18 #[.agg #[.int .i64 6, .int .i64 0, .string ⟨#[]⟩, .slice none 0 0, .slice p1 n1 c1], .string ⟨#[111, 108, 100, 83, 116, 97, 116, 101]⟩, .agg #[.int .i64 r1k, .int .i64 r1n, .string r1s, .slice r1pl r1nl r1cl, .slice r1pm r1nm r1cm]] W fun e w' => ∃ p n c, e = .returned (.agg #[.int .i64 6, .int .i64 0, .string ⟨#[]⟩, .slice none 0 0, .slice p n c]) /\ Own w' W.heap.size 81 encM 6 (.slice p n c) ([⟨accIdN, textR ra.id⟩] ++ [⟨oldN, ⟨r1k, r1n, r1s, r1pl, r1nl, r1cl, r1pm, r1nm, r1cm⟩⟩]) /\ Below W.heap.size W w') := fun W p1 n1 c1 base ho =>
      addV_any 6 0 ⟨#[]⟩ none 0 0 p1 n1 c1 [⟨accIdN, textR ra.id⟩] oldN ⟨r1k, r1n, r1s, r1pl, r1nl, r1cl, r1pm, r1nm, r1cm⟩ W (ho.rd codecM) (by simp)
     have A3 : Hid (∀ (W : World) (p1 : Option Addr) (n1 c1 base : Nat), Own W base 81 encM 6 (.slice p1 n1 c1) [⟨accIdN, textR ra.id⟩, ⟨oldN, ⟨r1k, r1n, r1s, r1pl, r1nl, r1cl, r1pm, r1nm, r1cm⟩⟩] -> Calls Tryz.prog 18 #[.agg #[.int .i64 6, .int .i64 0, .string ⟨#[]⟩, .slice none 0 0, .slice p1 n1 c1], .string ⟨#[110, 101, 119, 83, 116, 97, 116, 101]⟩, .agg #[.int .i64 4, .int .i64 0, .string stx, .slice none 0 0, .slice none 0 0]] W fun e w' => ∃ p n c, e = .returned (.agg #[.int .i64 6, .int .i64 0, .string ⟨#[]⟩, .slice none 0 0, .slice p n c]) /\ Own w' W.heap.size 81 encM 6 (.slice p n c) ([⟨accIdN, textR ra.id⟩, ⟨oldN, ⟨r1k, r1n, r1s, r1pl, r1nl, r1cl, r1pm, r1nm, r1cm⟩⟩] ++ [⟨newN, textR stx⟩]) /\ Below W.heap.size W w') := fun W p1 n1 c1 base ho =>
      addV_any 6 0 ⟨#[]⟩ none 0 0 p1 n1 c1 [⟨accIdN, textR ra.id⟩, ⟨oldN, ⟨r1k, r1n, r1s, r1pl, r1nl, r1cl, r1pm, r1nm, r1cm⟩⟩] newN (textR stx) W (ho.rd codecM) (by simp)
     have A4 : Hid (∀ (W : World) (p1 : Option Addr) (n1 c1 base : Nat), Own W base 81 encM 6 (.slice p1 n1 c1) [⟨accIdN, textR ra.id⟩, ⟨oldN, ⟨r1k, r1n, r1s, r1pl, r1nl, r1cl, r1pm, r1nm, r1cm⟩⟩, ⟨newN, textR stx⟩] -> Calls Tryz.prog 18 #[.agg #[.int .i64 6, .int .i64 0, .string ⟨#[]⟩, .slice none 0 0, .slice p1 n1 c1], .string ⟨#[104, 97, 115, 77, 111, 114, 101, 67, 104, 97, 110, 103, 101, 115]⟩, .agg #[.int .i64 2, .int .i64 mi, .string ⟨#[]⟩, .slice none 0 0, .slice none 0 0]] W fun e w' => ∃ p n c, e = .returned (.agg #[.int .i64 6, .int .i64 0, .string ⟨#[]⟩, .slice none 0 0, .slice p n c]) /\ Own w' W.heap.size 81 encM 6 (.slice p n c) ([⟨accIdN, textR ra.id⟩, ⟨oldN, ⟨r1k, r1n, r1s, r1pl, r1nl, r1cl, r1pm, r1nm, r1cm⟩⟩, ⟨newN, textR stx⟩] ++ [⟨moreN, ⟨2, mi, ⟨#[]⟩, none, 0, 0, none, 0, 0⟩⟩]) /\ Below W.heap.size W w') := fun W p1 n1 c1 base ho =>
      addV_any 6 0 ⟨#[]⟩ none 0 0 p1 n1 c1 [⟨accIdN, textR ra.id⟩, ⟨oldN, ⟨r1k, r1n, r1s, r1pl, r1nl, r1cl, r1pm, r1nm, r1cm⟩⟩, ⟨newN, textR stx⟩] moreN ⟨2, mi, ⟨#[]⟩, none, 0, 0, none, 0, 0⟩ W (ho.rd codecM) (by simp)
     have A5 : Hid (∀ (W : World) (p1 : Option Addr) (n1 c1 base : Nat) (q5 : Option Addr) (m5 k5 : Nat), Own W base 81 encM 6 (.slice p1 n1 c1) [⟨accIdN, textR ra.id⟩, ⟨oldN, ⟨r1k, r1n, r1s, r1pl, r1nl, r1cl, r1pm, r1nm, r1cm⟩⟩, ⟨newN, textR stx⟩, ⟨moreN, ⟨2, mi, ⟨#[]⟩, none, 0, 0, none, 0, 0⟩⟩] -> Calls Tryz.prog 18 #[.agg #[.int .i64 6, .int .i64 0, .string ⟨#[]⟩, .slice none 0 0, .slice p1 n1 c1], .string ⟨#[99, 114, 101, 97, 116, 101, 100]⟩, .agg #[.int .i64 5, .int .i64 0, .string ⟨#[]⟩, .slice q5 m5 k5, .slice none 0 0]] W fun e w' => ∃ p n c, e = .returned (.agg #[.int .i64 6, .int .i64 0, .string ⟨#[]⟩, .slice none 0 0, .slice p n c]) /\ Own w' W.heap.size 81 encM 6 (.slice p n c) ([⟨accIdN, textR ra.id⟩, ⟨oldN, ⟨r1k, r1n, r1s, r1pl, r1nl, r1cl, r1pm, r1nm, r1cm⟩⟩, ⟨newN, textR stx⟩, ⟨moreN, ⟨2, mi, ⟨#[]⟩, none, 0, 0, none, 0, 0⟩⟩] ++ [⟨madeN, ⟨5, 0, ⟨#[]⟩, q5, m5, k5, none, 0, 0⟩⟩]) /\ Below W.heap.size W w') := fun W p1 n1 c1 base q5 m5 k5 ho =>
      addV_any 6 0 ⟨#[]⟩ none 0 0 p1 n1 c1 [⟨accIdN, textR ra.id⟩, ⟨oldN, ⟨r1k, r1n, r1s, r1pl, r1nl, r1cl, r1pm, r1nm, r1cm⟩⟩, ⟨newN, textR stx⟩, ⟨moreN, ⟨2, mi, ⟨#[]⟩, none, 0, 0, none, 0, 0⟩⟩] madeN ⟨5, 0, ⟨#[]⟩, q5, m5, k5, none, 0, 0⟩ W (ho.rd codecM) (by simp)
     have HTW : Hid (TreeOf Wc B (argS t) ⟨r1k, r1n, r1s, r1pl, r1nl, r1cl, r1pm, r1nm, r1cm⟩) := HTC.out
     have HM1 : Hid (truthJ mr = .mk 2 mi ⟨#[]⟩ [] []) := by unfold Hid truthJ; rw [hmi]
     clear hck1 hck2 hch hbd l1 l2 l3 hwt htn hmr hmi hstx HST
     go_upto_region 9 with (first
      | (go_at_call 43; refine (C1.out _).mono ?_; rintro e w21 ⟨rfl, hb21⟩)
      | (go_at_call 18; refine (A1.out _).mono ?_; rintro e w22 ⟨p1, n1, c1, rfl, ho1, hb22⟩))
     have hs1 := AddS.start (t := textJ ra.id) HBWc.out (hb21.trans (hb22.mono hb21.size)) ho1 hb21.size (textR_of _ _ _)
     obtain ⟨h, hh⟩ : ∃ g, w22.heap.size = g := ⟨_, rfl⟩
     obtain ⟨W1, hW1⟩ : ∃ W, w22.alloc (.cells #[.int .i64 6, .int .i64 0, .string ⟨#[]⟩, .slice none 0 0, .slice p1 n1 c1] 31) = W := ⟨_, rfl⟩
     rw [hW1, hh] at hs1
     try rw [hW1]
     try rw [hh]
     clear hW1 hh hb21 hb22 ho1
     have HS1 := Lib.hid hs1
     clear hs1
     have hgh : h < W1.heap.size := HS1.out.at'.lt
     go_upto_region 9 with fail
     have hbc2 := HS1.out.below
     have s1' := bcs hbc2 hglc s1
     have s2' := bcs hbc2 hglc s2
     have s3' := bcs hbc2 hglc s3
     have s4' := bcs hbc2 hglc s4
     have s5' := bcs hbc2 hglc s5
     have hS2 : (fun w' : World => w'.cell? ⟨h, 0, none⟩ = some (.int .i64 6) /\ w'.cell? ⟨h, 1, none⟩ = some (.int .i64 0) /\ w'.cell? ⟨h, 2, none⟩ = some (.string ⟨#[]⟩) /\ w'.cell? ⟨h, 3, none⟩ = some (.slice none 0 0) /\ w'.cell? ⟨h, 4, none⟩ = some (.slice p1 n1 c1) /\ w'.cell? ⟨gl, 5, none⟩ = some (.int .i64 r1k) /\ w'.cell? ⟨gl, 6, none⟩ = some (.int .i64 r1n) /\ w'.cell? ⟨gl, 7, none⟩ = some (.string r1s) /\ w'.cell? ⟨gl, 8, none⟩ = some (.slice r1pl r1nl r1cl) /\ w'.cell? ⟨gl, 9, none⟩ = some (.slice r1pm r1nm r1cm)) W1 := ⟨HS1.out.at'.cell 0 rfl, HS1.out.at'.cell 1 rfl, HS1.out.at'.cell 2 rfl, HS1.out.at'.cell 3 rfl, HS1.out.at'.cell 4 rfl, s1', s2', s3', s4', s5'⟩
     have HK2 : Hid (∀ W, Below W1.heap.size W1 W -> (fun w' : World => w'.cell? ⟨h, 0, none⟩ = some (.int .i64 6) /\ w'.cell? ⟨h, 1, none⟩ = some (.int .i64 0) /\ w'.cell? ⟨h, 2, none⟩ = some (.string ⟨#[]⟩) /\ w'.cell? ⟨h, 3, none⟩ = some (.slice none 0 0) /\ w'.cell? ⟨h, 4, none⟩ = some (.slice p1 n1 c1) /\ w'.cell? ⟨gl, 5, none⟩ = some (.int .i64 r1k) /\ w'.cell? ⟨gl, 6, none⟩ = some (.int .i64 r1n) /\ w'.cell? ⟨gl, 7, none⟩ = some (.string r1s) /\ w'.cell? ⟨gl, 8, none⟩ = some (.slice r1pl r1nl r1cl) /\ w'.cell? ⟨gl, 9, none⟩ = some (.slice r1pm r1nm r1cm)) W) := fun W hb => ⟨bcs hb hgh hS2.1, bcs hb hgh hS2.2.1, bcs hb hgh hS2.2.2.1, bcs hb hgh hS2.2.2.2.1, bcs hb hgh hS2.2.2.2.2.1, bcs hb (Nat.lt_of_lt_of_le hglc hbc2.size) hS2.2.2.2.2.2.1, bcs hb (Nat.lt_of_lt_of_le hglc hbc2.size) hS2.2.2.2.2.2.2.1, bcs hb (Nat.lt_of_lt_of_le hglc hbc2.size) hS2.2.2.2.2.2.2.2.1, bcs hb (Nat.lt_of_lt_of_le hglc hbc2.size) hS2.2.2.2.2.2.2.2.2.1, bcs hb (Nat.lt_of_lt_of_le hglc hbc2.size) hS2.2.2.2.2.2.2.2.2.2⟩
     have hSd2 : (fun w' : World => w'.cell? ⟨h, 0, none⟩ = some (.int .i64 6) /\ w'.cell? ⟨h, 1, none⟩ = some (.int .i64 0) /\ w'.cell? ⟨h, 2, none⟩ = some (.string ⟨#[]⟩) /\ w'.cell? ⟨h, 3, none⟩ = some (.slice none 0 0) /\ w'.cell? ⟨h, 4, none⟩ = some (.slice p1 n1 c1) /\ w'.cell? ⟨gl, 5, none⟩ = some (.int .i64 r1k) /\ w'.cell? ⟨gl, 6, none⟩ = some (.int .i64 r1n) /\ w'.cell? ⟨gl, 7, none⟩ = some (.string r1s) /\ w'.cell? ⟨gl, 8, none⟩ = some (.slice r1pl r1nl r1cl) /\ w'.cell? ⟨gl, 9, none⟩ = some (.slice r1pm r1nm r1cm)) W1.drew := hS2
     refine wp_region_K 5 (fun w' : World => w'.cell? ⟨h, 0, none⟩ = some (.int .i64 6) /\ w'.cell? ⟨h, 1, none⟩ = some (.int .i64 0) /\ w'.cell? ⟨h, 2, none⟩ = some (.string ⟨#[]⟩) /\ w'.cell? ⟨h, 3, none⟩ = some (.slice none 0 0) /\ w'.cell? ⟨h, 4, none⟩ = some (.slice p1 n1 c1) /\ w'.cell? ⟨gl, 5, none⟩ = some (.int .i64 r1k) /\ w'.cell? ⟨gl, 6, none⟩ = some (.int .i64 r1n) /\ w'.cell? ⟨gl, 7, none⟩ = some (.string r1s) /\ w'.cell? ⟨gl, 8, none⟩ = some (.slice r1pl r1nl r1cl) /\ w'.cell? ⟨gl, 9, none⟩ = some (.slice r1pm r1nm r1cm)) (by kernel_rfl) hSd2 ?_
     intro hHeld
     clear hS2 hSd2 hbc2 s1' s2' s3' s4' s5'
     refine wpAnyK_take (v := ?vv1) 0 rfl (by kernel_rfl) (by kernel_rfl) (by kernel_rfl) (by kernel_rfl) (by kernel_rfl) (fun _ _ _ h => h) (by assumption) (Or.inl ⟨by rfl, ?hy1⟩) ?rest1
     case hy1 => (intro w' hSw; (try dsimp only at hSw); first | (go_simp; done) | (go_simp; with_reducible rfl))
     try simp only [Act.put, List.setIfInBounds_toArray, List.set_cons_zero, List.set_cons_succ]
     refine wpAnyK_take (v := ?vv2) 1 rfl (by kernel_rfl) (by kernel_rfl) (by kernel_rfl) (by kernel_rfl) (by kernel_rfl) (fun _ _ _ h => h) (by assumption) (Or.inl ⟨by rfl, ?hy2⟩) ?rest2
     case hy2 => (intro w' hSw; (try dsimp only at hSw); first | (go_simp; done) | (go_simp; with_reducible rfl))
     try simp only [Act.put, List.setIfInBounds_toArray, List.set_cons_zero, List.set_cons_succ]
     refine wpAnyK_take (v := ?vv3) 2 rfl (by kernel_rfl) (by kernel_rfl) (by kernel_rfl) (by kernel_rfl) (by kernel_rfl) (fun _ _ _ h => h) (by assumption) (Or.inl ⟨by rfl, ?hy3⟩) ?rest3
     case hy3 => (intro w' hSw; (try dsimp only at hSw); first | (go_simp; done) | (go_simp; with_reducible rfl))
     try simp only [Act.put, List.setIfInBounds_toArray, List.set_cons_zero, List.set_cons_succ]
     refine wpAnyK_take (v := ?vv4) 3 rfl (by kernel_rfl) (by kernel_rfl) (by kernel_rfl) (by kernel_rfl) (by kernel_rfl) (fun _ _ _ h => h) (by assumption) (Or.inl ⟨by rfl, ?hy4⟩) ?rest4
     case hy4 => (intro w' hSw; (try dsimp only at hSw); first | (go_simp; done) | (go_simp; with_reducible rfl))
     try simp only [Act.put, List.setIfInBounds_toArray, List.set_cons_zero, List.set_cons_succ]
     refine wpAnyK_eff 4 rfl (by kernel_rfl) (fun K hK => ?_)
     go_simp
     go_at_call 18
     refine (A2.out _ _ _ _ _ (HS1.out.own.below (Below.refl _ _).drew (Nat.le_refl _))).mono ?_
     rintro e w29 ⟨p2, n2, c2, rfl, ho2, hb29'⟩
     have hb29 : Below W1.heap.size W1 w29 := (Below.refl _ _).drew.trans hb29'
     refine hK.out _ _ (HK2.out _ hb29) (fun hHeld => ?_)
     clear hK K
     try simp only [Act.put, List.setIfInBounds_toArray, List.set_cons_zero, List.set_cons_succ]
     have hv2 := HS1.out.at'.under hb29 hgh
     obtain ⟨z0, z1, z2, z3, z4⟩ := hv2.cells5
     have y0 := hv2.frozen 0
     have y1 := hv2.frozen 1
     have y2 := hv2.frozen 2
     have y3 := hv2.frozen 3
     have y4 := hv2.frozen 4
     dsimp only at z0 z1 z2 z3 z4
     refine wpAnyK_last rfl (by kernel_rfl) (by kernel_rfl) (fun K hK => ?_)
     go_simp
     refine hK.out _ _ ?_
     have hs2 := HS1.out.next (t := argS t) hb29 ho2 (by have := hb29.size; simp only [World.drew] at *; omega) (((HTW.out.under ((HS1.out.below.trans (hb29.mono HS1.out.below.size)).mono HBWc.out) (Nat.le_refl _)).treeS).mono (fun k e => ⟨by have := HBWc.out; have := HS1.out.below.size; have := hb29.size; omega, by have := HBWc.out; have := HS1.out.ge; omega, .inl e⟩))
     clear hK K hHeld z0 z1 z2 z3 z4 y0 y1 y2 y3 y4 hv2 HK2 hb29 hb29' ho2
     obtain ⟨W2, hW2⟩ : ∃ W, ((((w29.setCell ⟨h, 0, none⟩ (.int .i64 6)).setCell ⟨h, 1, none⟩ (.int .i64 0)).setCell ⟨h, 2, none⟩ (.string ⟨#[]⟩)).setCell ⟨h, 3, none⟩ (.slice none 0 0)).setCell ⟨h, 4, none⟩ (.slice p2 n2 c2) = W := ⟨_, rfl⟩
     dsimp only at hs2
     rw [hW2] at hs2
     try rw [hW2]
     clear hW2
     have HS2 := Lib.hid hs2
     clear hs2
     have hgh : h < W2.heap.size := HS2.out.at'.lt
     go_upto_region 10 with fail
     have hbc3 := HS2.out.below
     have s9' := bcs hbc3 hgc s9
     have hS3 : (fun w' : World => w'.cell? ⟨h, 0, none⟩ = some (.int .i64 6) /\ w'.cell? ⟨h, 1, none⟩ = some (.int .i64 0) /\ w'.cell? ⟨h, 2, none⟩ = some (.string ⟨#[]⟩) /\ w'.cell? ⟨h, 3, none⟩ = some (.slice none 0 0) /\ w'.cell? ⟨h, 4, none⟩ = some (.slice p2 n2 c2) /\ w'.cell? ⟨g, 3, none⟩ = some (.int .i64 tn)) W2 := ⟨HS2.out.at'.cell 0 rfl, HS2.out.at'.cell 1 rfl, HS2.out.at'.cell 2 rfl, HS2.out.at'.cell 3 rfl, HS2.out.at'.cell 4 rfl, s9'⟩
     have HK3 : Hid (∀ W, Below W2.heap.size W2 W -> (fun w' : World => w'.cell? ⟨h, 0, none⟩ = some (.int .i64 6) /\ w'.cell? ⟨h, 1, none⟩ = some (.int .i64 0) /\ w'.cell? ⟨h, 2, none⟩ = some (.string ⟨#[]⟩) /\ w'.cell? ⟨h, 3, none⟩ = some (.slice none 0 0) /\ w'.cell? ⟨h, 4, none⟩ = some (.slice p2 n2 c2) /\ w'.cell? ⟨g, 3, none⟩ = some (.int .i64 tn)) W) := fun W hb => ⟨bcs hb hgh hS3.1, bcs hb hgh hS3.2.1, bcs hb hgh hS3.2.2.1, bcs hb hgh hS3.2.2.2.1, bcs hb hgh hS3.2.2.2.2.1, bcs hb (Nat.lt_of_lt_of_le hgc hbc3.size) hS3.2.2.2.2.2⟩
     have hSd3 : (fun w' : World => w'.cell? ⟨h, 0, none⟩ = some (.int .i64 6) /\ w'.cell? ⟨h, 1, none⟩ = some (.int .i64 0) /\ w'.cell? ⟨h, 2, none⟩ = some (.string ⟨#[]⟩) /\ w'.cell? ⟨h, 3, none⟩ = some (.slice none 0 0) /\ w'.cell? ⟨h, 4, none⟩ = some (.slice p2 n2 c2) /\ w'.cell? ⟨g, 3, none⟩ = some (.int .i64 tn)) W2.drew := hS3
     refine wp_region_K 7 (fun w' : World => w'.cell? ⟨h, 0, none⟩ = some (.int .i64 6) /\ w'.cell? ⟨h, 1, none⟩ = some (.int .i64 0) /\ w'.cell? ⟨h, 2, none⟩ = some (.string ⟨#[]⟩) /\ w'.cell? ⟨h, 3, none⟩ = some (.slice none 0 0) /\ w'.cell? ⟨h, 4, none⟩ = some (.slice p2 n2 c2) /\ w'.cell? ⟨g, 3, none⟩ = some (.int .i64 tn)) (by kernel_rfl) hSd3 ?_
     intro hHeld
     clear hS3 hSd3 hbc3 s9'
     refine wpAnyK_take (v := ?vv5) 0 rfl (by kernel_rfl) (by kernel_rfl) (by kernel_rfl) (by kernel_rfl) (by kernel_rfl) (fun _ _ _ h => h) (by assumption) (Or.inl ⟨by rfl, ?hy5⟩) ?rest5
     case hy5 => (intro w' hSw; (try dsimp only at hSw); first | (go_simp; done) | (go_simp; with_reducible rfl))
     try simp only [Act.put, List.setIfInBounds_toArray, List.set_cons_zero, List.set_cons_succ]
     refine wpAnyK_take (v := ?vv6) 1 rfl (by kernel_rfl) (by kernel_rfl) (by kernel_rfl) (by kernel_rfl) (by kernel_rfl) (fun _ _ _ h => h) (by assumption) (Or.inl ⟨by rfl, ?hy6⟩) ?rest6
     case hy6 => (intro w' hSw; (try dsimp only at hSw); first | (go_simp; done) | (go_simp; with_reducible rfl))
     try simp only [Act.put, List.setIfInBounds_toArray, List.set_cons_zero, List.set_cons_succ]
     refine wpAnyK_take (v := ?vv7) 2 rfl (by kernel_rfl) (by kernel_rfl) (by kernel_rfl) (by kernel_rfl) (by kernel_rfl) (fun _ _ _ h => h) (by assumption) (Or.inl ⟨by rfl, ?hy7⟩) ?rest7
     case hy7 => (intro w' hSw; (try dsimp only at hSw); first | (go_simp; done) | (go_simp; with_reducible rfl))
     try simp only [Act.put, List.setIfInBounds_toArray, List.set_cons_zero, List.set_cons_succ]
     refine wpAnyK_take (v := ?vv8) 3 rfl (by kernel_rfl) (by kernel_rfl) (by kernel_rfl) (by kernel_rfl) (by kernel_rfl) (fun _ _ _ h => h) (by assumption) (Or.inl ⟨by rfl, ?hy8⟩) ?rest8
     case hy8 => (intro w' hSw; (try dsimp only at hSw); first | (go_simp; done) | (go_simp; with_reducible rfl))
     try simp only [Act.put, List.setIfInBounds_toArray, List.set_cons_zero, List.set_cons_succ]
     refine wpAnyK_eff 4 rfl (by kernel_rfl) (fun K hK => ?_)
     go_simp
     go_at_call 44
     refine (HST2.out _).mono ?_
     rintro e w31 ⟨rfl, hb31'⟩
     have hb31 : Below W2.heap.size W2 w31 := (Below.refl _ _).drew.trans hb31'
     refine hK.out _ _ (HK3.out _ hb31) (fun hHeld => ?_)
     clear hK K
     try simp only [Act.put, List.setIfInBounds_toArray, List.set_cons_zero, List.set_cons_succ]
     refine wpAnyK_eff 5 rfl (by kernel_rfl) (fun K hK => ?_)
     go_simp
     go_at_call 43
     refine (C2.out _).mono ?_
     rintro e w32 ⟨rfl, hb32'⟩
     have hb32 : Below W2.heap.size W2 w32 := hb31.trans (hb32'.mono hb31.size)
     refine hK.out _ _ (HK3.out _ hb32) (fun hHeld => ?_)
     clear hK K
     try simp only [Act.put, List.setIfInBounds_toArray, List.set_cons_zero, List.set_cons_succ]
     refine wpAnyK_eff 6 rfl (by kernel_rfl) (fun K hK => ?_)
     go_simp
     go_at_call 18
     refine (A3.out _ _ _ _ _ (HS2.out.own.below hb32 (Nat.le_refl _))).mono ?_
     rintro e w39 ⟨p3, n3, c3, rfl, ho3, hb39'⟩
     have hb39 : Below W2.heap.size W2 w39 := hb32.trans (hb39'.mono hb32.size)
     refine hK.out _ _ (HK3.out _ hb39) (fun hHeld => ?_)
     clear hK K
     try simp only [Act.put, List.setIfInBounds_toArray, List.set_cons_zero, List.set_cons_succ]
     have hv3 := HS2.out.at'.under hb39 hgh
     obtain ⟨z0, z1, z2, z3, z4⟩ := hv3.cells5
     have y0 := hv3.frozen 0
     have y1 := hv3.frozen 1
     have y2 := hv3.frozen 2
     have y3 := hv3.frozen 3
     have y4 := hv3.frozen 4
     dsimp only at z0 z1 z2 z3 z4
     refine wpAnyK_last rfl (by kernel_rfl) (by kernel_rfl) (fun K hK => ?_)
     go_simp
     refine hK.out _ _ ?_
     have hs3 := HS2.out.next (t := textJ stx) hb39 ho3 (by have := hb32.size;  omega) (textR_of _ _ _)
     clear hK K hHeld z0 z1 z2 z3 z4 y0 y1 y2 y3 y4 hv3 HK3 hb31 hb31' hb32 hb32' hb39 hb39' ho3
     obtain ⟨W3, hW3⟩ : ∃ W, ((((w39.setCell ⟨h, 0, none⟩ (.int .i64 6)).setCell ⟨h, 1, none⟩ (.int .i64 0)).setCell ⟨h, 2, none⟩ (.string ⟨#[]⟩)).setCell ⟨h, 3, none⟩ (.slice none 0 0)).setCell ⟨h, 4, none⟩ (.slice p3 n3 c3) = W := ⟨_, rfl⟩
     dsimp only at hs3
     rw [hW3] at hs3
     try rw [hW3]
     clear hW3
     have HS3 := Lib.hid hs3
     clear hs3
     have hgh : h < W3.heap.size := HS3.out.at'.lt
     go_upto_region 11 with fail
     have hbc4 := HS3.out.below
     have s10' := bcs hbc4 hgc s10
     have hS4 : (fun w' : World => w'.cell? ⟨h, 0, none⟩ = some (.int .i64 6) /\ w'.cell? ⟨h, 1, none⟩ = some (.int .i64 0) /\ w'.cell? ⟨h, 2, none⟩ = some (.string ⟨#[]⟩) /\ w'.cell? ⟨h, 3, none⟩ = some (.slice none 0 0) /\ w'.cell? ⟨h, 4, none⟩ = some (.slice p3 n3 c3) /\ w'.cell? ⟨g, 4, none⟩ = some (.bool mr)) W3 := ⟨HS3.out.at'.cell 0 rfl, HS3.out.at'.cell 1 rfl, HS3.out.at'.cell 2 rfl, HS3.out.at'.cell 3 rfl, HS3.out.at'.cell 4 rfl, s10'⟩
     have HK4 : Hid (∀ W, Below W3.heap.size W3 W -> (fun w' : World => w'.cell? ⟨h, 0, none⟩ = some (.int .i64 6) /\ w'.cell? ⟨h, 1, none⟩ = some (.int .i64 0) /\ w'.cell? ⟨h, 2, none⟩ = some (.string ⟨#[]⟩) /\ w'.cell? ⟨h, 3, none⟩ = some (.slice none 0 0) /\ w'.cell? ⟨h, 4, none⟩ = some (.slice p3 n3 c3) /\ w'.cell? ⟨g, 4, none⟩ = some (.bool mr)) W) := fun W hb => ⟨bcs hb hgh hS4.1, bcs hb hgh hS4.2.1, bcs hb hgh hS4.2.2.1, bcs hb hgh hS4.2.2.2.1, bcs hb hgh hS4.2.2.2.2.1, bcs hb (Nat.lt_of_lt_of_le hgc hbc4.size) hS4.2.2.2.2.2⟩
     have hSd4 : (fun w' : World => w'.cell? ⟨h, 0, none⟩ = some (.int .i64 6) /\ w'.cell? ⟨h, 1, none⟩ = some (.int .i64 0) /\ w'.cell? ⟨h, 2, none⟩ = some (.string ⟨#[]⟩) /\ w'.cell? ⟨h, 3, none⟩ = some (.slice none 0 0) /\ w'.cell? ⟨h, 4, none⟩ = some (.slice p3 n3 c3) /\ w'.cell? ⟨g, 4, none⟩ = some (.bool mr)) W3.drew := hS4
     refine wp_region_K 5 (fun w' : World => w'.cell? ⟨h, 0, none⟩ = some (.int .i64 6) /\ w'.cell? ⟨h, 1, none⟩ = some (.int .i64 0) /\ w'.cell? ⟨h, 2, none⟩ = some (.string ⟨#[]⟩) /\ w'.cell? ⟨h, 3, none⟩ = some (.slice none 0 0) /\ w'.cell? ⟨h, 4, none⟩ = some (.slice p3 n3 c3) /\ w'.cell? ⟨g, 4, none⟩ = some (.bool mr)) (by kernel_rfl) hSd4 ?_
     intro hHeld
     clear hS4 hSd4 hbc4 s10'
     refine wpAnyK_take (v := ?vv9) 0 rfl (by kernel_rfl) (by kernel_rfl) (by kernel_rfl) (by kernel_rfl) (by kernel_rfl) (fun _ _ _ h => h) (by assumption) (Or.inl ⟨by rfl, ?hy9⟩) ?rest9
     case hy9 => (intro w' hSw; (try dsimp only at hSw); first | (go_simp; done) | (go_simp; with_reducible rfl))
     try simp only [Act.put, List.setIfInBounds_toArray, List.set_cons_zero, List.set_cons_succ]
     refine wpAnyK_take (v := ?vv10) 1 rfl (by kernel_rfl) (by kernel_rfl) (by kernel_rfl) (by kernel_rfl) (by kernel_rfl) (fun _ _ _ h => h) (by assumption) (Or.inl ⟨by rfl, ?hy10⟩) ?rest10
     case hy10 => (intro w' hSw; (try dsimp only at hSw); first | (go_simp; done) | (go_simp; with_reducible rfl))
     try simp only [Act.put, List.setIfInBounds_toArray, List.set_cons_zero, List.set_cons_succ]
     refine wpAnyK_take (v := ?vv11) 2 rfl (by kernel_rfl) (by kernel_rfl) (by kernel_rfl) (by kernel_rfl) (by kernel_rfl) (fun _ _ _ h => h) (by assumption) (Or.inl ⟨by rfl, ?hy11⟩) ?rest11
     case hy11 => (intro w' hSw; (try dsimp only at hSw); first | (go_simp; done) | (go_simp; with_reducible rfl))
     try simp only [Act.put, List.setIfInBounds_toArray, List.set_cons_zero, List.set_cons_succ]
     refine wpAnyK_eff 3 rfl (by kernel_rfl) (fun K hK => ?_)
     go_simp
     go_at_call 45
     refine (C6.out _).mono ?_
     rintro e w41 ⟨rfl, hb41'⟩
     have hb41 : Below W3.heap.size W3 w41 := (Below.refl _ _).drew.trans hb41'
     refine hK.out _ _ (HK4.out _ hb41) (fun hHeld => ?_)
     clear hK K
     try simp only [Act.put, List.setIfInBounds_toArray, List.set_cons_zero, List.set_cons_succ]
     refine wpAnyK_eff 4 rfl (by kernel_rfl) (fun K hK => ?_)
     go_simp
     go_at_call 18
     refine (A4.out _ _ _ _ _ (HS3.out.own.below hb41 (Nat.le_refl _))).mono ?_
     rintro e w49 ⟨p4, n4, c4, rfl, ho4, hb49'⟩
     have hb49 : Below W3.heap.size W3 w49 := hb41.trans (hb49'.mono hb41.size)
     refine hK.out _ _ (HK4.out _ hb49) (fun hHeld => ?_)
     clear hK K
     try simp only [Act.put, List.setIfInBounds_toArray, List.set_cons_zero, List.set_cons_succ]
     have hv4 := HS3.out.at'.under hb49 hgh
     obtain ⟨z0, z1, z2, z3, z4⟩ := hv4.cells5
     have y0 := hv4.frozen 0
     have y1 := hv4.frozen 1
     have y2 := hv4.frozen 2
     have y3 := hv4.frozen 3
     have y4 := hv4.frozen 4
     dsimp only at z0 z1 z2 z3 z4
     refine wpAnyK_last rfl (by kernel_rfl) (by kernel_rfl) (fun K hK => ?_)
     go_simp
     refine hK.out _ _ ?_
     have hs4 := HS3.out.next (t := truthJ mr) hb49 ho4 (by have := hb41.size;  omega) (by rw [HM1.out]; exact TreeS.leaf _ _ 2 mi ⟨#[]⟩)
     clear hK K hHeld z0 z1 z2 z3 z4 y0 y1 y2 y3 y4 hv4 HK4 hb41 hb41' hb49 hb49' ho4
     obtain ⟨W4, hW4⟩ : ∃ W, ((((w49.setCell ⟨h, 0, none⟩ (.int .i64 6)).setCell ⟨h, 1, none⟩ (.int .i64 0)).setCell ⟨h, 2, none⟩ (.string ⟨#[]⟩)).setCell ⟨h, 3, none⟩ (.slice none 0 0)).setCell ⟨h, 4, none⟩ (.slice p4 n4 c4) = W := ⟨_, rfl⟩
     dsimp only at hs4
     rw [hW4] at hs4
     try rw [hW4]
     clear hW4
     have HS4 := Lib.hid hs4
     clear hs4
     have hgh : h < W4.heap.size := HS4.out.at'.lt
     go_upto_region 12 with fail
     have hbc5 := HS4.out.below
     have s6' := bcs hbc5 hgc s6
     have hS5 : (fun w' : World => w'.cell? ⟨h, 0, none⟩ = some (.int .i64 6) /\ w'.cell? ⟨h, 1, none⟩ = some (.int .i64 0) /\ w'.cell? ⟨h, 2, none⟩ = some (.string ⟨#[]⟩) /\ w'.cell? ⟨h, 3, none⟩ = some (.slice none 0 0) /\ w'.cell? ⟨h, 4, none⟩ = some (.slice p4 n4 c4) /\ w'.cell? ⟨g, 0, none⟩ = some (.slice pa na ca)) W4 := ⟨HS4.out.at'.cell 0 rfl, HS4.out.at'.cell 1 rfl, HS4.out.at'.cell 2 rfl, HS4.out.at'.cell 3 rfl, HS4.out.at'.cell 4 rfl, s6'⟩
     have HK5 : Hid (∀ W, Below W4.heap.size W4 W -> (fun w' : World => w'.cell? ⟨h, 0, none⟩ = some (.int .i64 6) /\ w'.cell? ⟨h, 1, none⟩ = some (.int .i64 0) /\ w'.cell? ⟨h, 2, none⟩ = some (.string ⟨#[]⟩) /\ w'.cell? ⟨h, 3, none⟩ = some (.slice none 0 0) /\ w'.cell? ⟨h, 4, none⟩ = some (.slice p4 n4 c4) /\ w'.cell? ⟨g, 0, none⟩ = some (.slice pa na ca)) W) := fun W hb => ⟨bcs hb hgh hS5.1, bcs hb hgh hS5.2.1, bcs hb hgh hS5.2.2.1, bcs hb hgh hS5.2.2.2.1, bcs hb hgh hS5.2.2.2.2.1, bcs hb (Nat.lt_of_lt_of_le hgc hbc5.size) hS5.2.2.2.2.2⟩
     have hSd5 : (fun w' : World => w'.cell? ⟨h, 0, none⟩ = some (.int .i64 6) /\ w'.cell? ⟨h, 1, none⟩ = some (.int .i64 0) /\ w'.cell? ⟨h, 2, none⟩ = some (.string ⟨#[]⟩) /\ w'.cell? ⟨h, 3, none⟩ = some (.slice none 0 0) /\ w'.cell? ⟨h, 4, none⟩ = some (.slice p4 n4 c4) /\ w'.cell? ⟨g, 0, none⟩ = some (.slice pa na ca)) W4.drew := hS5
     refine wp_region_K 5 (fun w' : World => w'.cell? ⟨h, 0, none⟩ = some (.int .i64 6) /\ w'.cell? ⟨h, 1, none⟩ = some (.int .i64 0) /\ w'.cell? ⟨h, 2, none⟩ = some (.string ⟨#[]⟩) /\ w'.cell? ⟨h, 3, none⟩ = some (.slice none 0 0) /\ w'.cell? ⟨h, 4, none⟩ = some (.slice p4 n4 c4) /\ w'.cell? ⟨g, 0, none⟩ = some (.slice pa na ca)) (by kernel_rfl) hSd5 ?_
     intro hHeld
     clear hS5 hSd5 hbc5 s6'
     refine wpAnyK_take (v := ?vv12) 0 rfl (by kernel_rfl) (by kernel_rfl) (by kernel_rfl) (by kernel_rfl) (by kernel_rfl) (fun _ _ _ h => h) (by assumption) (Or.inl ⟨by rfl, ?hy12⟩) ?rest12
     case hy12 => (intro w' hSw; (try dsimp only at hSw); first | (go_simp; done) | (go_simp; with_reducible rfl))
     try simp only [Act.put, List.setIfInBounds_toArray, List.set_cons_zero, List.set_cons_succ]
     refine wpAnyK_take (v := ?vv13) 1 rfl (by kernel_rfl) (by kernel_rfl) (by kernel_rfl) (by kernel_rfl) (by kernel_rfl) (fun _ _ _ h => h) (by assumption) (Or.inl ⟨by rfl, ?hy13⟩) ?rest13
     case hy13 => (intro w' hSw; (try dsimp only at hSw); first | (go_simp; done) | (go_simp; with_reducible rfl))
     try simp only [Act.put, List.setIfInBounds_toArray, List.set_cons_zero, List.set_cons_succ]
     refine wpAnyK_take (v := ?vv14) 2 rfl (by kernel_rfl) (by kernel_rfl) (by kernel_rfl) (by kernel_rfl) (by kernel_rfl) (fun _ _ _ h => h) (by assumption) (Or.inl ⟨by rfl, ?hy14⟩) ?rest14
     case hy14 => (intro w' hSw; (try dsimp only at hSw); first | (go_simp; done) | (go_simp; with_reducible rfl))
     try simp only [Act.put, List.setIfInBounds_toArray, List.set_cons_zero, List.set_cons_succ]
     refine wpAnyK_eff 3 rfl (by kernel_rfl) (fun K hK => ?_)
     go_simp
     go_at_call 24
     refine (L5.out _ (HS4.out.below.trans ((Below.refl _ _).drew.mono HS4.out.below.size))).mono ?_
     rintro e w51 ⟨q5, m5, k5, rfl, hT5, hb51'⟩
     have hb51 : Below W4.heap.size W4 w51 := (Below.refl _ _).drew.trans hb51'
     refine hK.out _ _ (HK5.out _ hb51) (fun hHeld => ?_)
     clear hK K
     try simp only [Act.put, List.setIfInBounds_toArray, List.set_cons_zero, List.set_cons_succ]
     refine wpAnyK_eff 4 rfl (by kernel_rfl) (fun K hK => ?_)
     go_simp
     go_at_call 18
     refine (A5.out _ _ _ _ _ _ _ _ (HS4.out.own.below hb51 (Nat.le_refl _))).mono ?_
     rintro e w59 ⟨p5, n5, c5, rfl, ho5, hb59'⟩
     have hb59 : Below W4.heap.size W4 w59 := hb51.trans (hb59'.mono hb51.size)
     refine hK.out _ _ (HK5.out _ hb59) (fun hHeld => ?_)
     clear hK K
     try simp only [Act.put, List.setIfInBounds_toArray, List.set_cons_zero, List.set_cons_succ]
     have hv5 := HS4.out.at'.under hb59 hgh
     obtain ⟨z0, z1, z2, z3, z4⟩ := hv5.cells5
     have y0 := hv5.frozen 0
     have y1 := hv5.frozen 1
     have y2 := hv5.frozen 2
     have y3 := hv5.frozen 3
     have y4 := hv5.frozen 4
     dsimp only at z0 z1 z2 z3 z4
     refine wpAnyK_last rfl (by kernel_rfl) (by kernel_rfl) (fun K hK => ?_)
     go_simp
     refine hK.out _ _ ?_
     have hs5 := HS4.out.next (t := listJ (d.made.map textJ)) hb59 ho5 (by have := hb51.size;  omega) ((hT5.same (fun k e => hb59'.block k e.2)).mono (fun k e => ⟨by have := hb59'.size; omega, by have h1 : W4.heap.size <= k := e.1; omega, .inr (by have h1 : W4.heap.size <= k := e.1; have := HS4.out.below.size; omega)⟩))
     clear hK K hHeld z0 z1 z2 z3 z4 y0 y1 y2 y3 y4 hv5 HK5 hb51 hb51' hb59 hb59' ho5
     obtain ⟨W5, hW5⟩ : ∃ W, ((((w59.setCell ⟨h, 0, none⟩ (.int .i64 6)).setCell ⟨h, 1, none⟩ (.int .i64 0)).setCell ⟨h, 2, none⟩ (.string ⟨#[]⟩)).setCell ⟨h, 3, none⟩ (.slice none 0 0)).setCell ⟨h, 4, none⟩ (.slice p5 n5 c5) = W := ⟨_, rfl⟩
     dsimp only at hs5
     rw [hW5] at hs5
     try rw [hW5]
     clear hW5
     have HS5 := Lib.hid hs5
     clear hs5
     have hgh : h < W5.heap.size := HS5.out.at'.lt
     have A6 : Hid (∀ (W : World) (p1 : Option Addr) (n1 c1 base : Nat) (q6 : Option Addr) (m6 k6 : Nat), Own W base 81 encM 6 (.slice p1 n1 c1) [⟨accIdN, textR ra.id⟩, ⟨oldN, ⟨r1k, r1n, r1s, r1pl, r1nl, r1cl, r1pm, r1nm, r1cm⟩⟩, ⟨newN, textR stx⟩, ⟨moreN, ⟨2, mi, ⟨#[]⟩, none, 0, 0, none, 0, 0⟩⟩, ⟨madeN, ⟨5, 0, ⟨#[]⟩, q5, m5, k5, none, 0, 0⟩⟩] -> Calls Tryz.prog 18 #[.agg #[.int .i64 6, .int .i64 0, .string ⟨#[]⟩, .slice none 0 0, .slice p1 n1 c1], .string ⟨#[117, 112, 100, 97, 116, 101, 100]⟩, .agg #[.int .i64 5, .int .i64 0, .string ⟨#[]⟩, .slice q6 m6 k6, .slice none 0 0]] W fun e w' => ∃ p n c, e = .returned (.agg #[.int .i64 6, .int .i64 0, .string ⟨#[]⟩, .slice none 0 0, .slice p n c]) /\ Own w' W.heap.size 81 encM 6 (.slice p n c) ([⟨accIdN, textR ra.id⟩, ⟨oldN, ⟨r1k, r1n, r1s, r1pl, r1nl, r1cl, r1pm, r1nm, r1cm⟩⟩, ⟨newN, textR stx⟩, ⟨moreN, ⟨2, mi, ⟨#[]⟩, none, 0, 0, none, 0, 0⟩⟩, ⟨madeN, ⟨5, 0, ⟨#[]⟩, q5, m5, k5, none, 0, 0⟩⟩] ++ [⟨chgdN, ⟨5, 0, ⟨#[]⟩, q6, m6, k6, none, 0, 0⟩⟩]) /\ Below W.heap.size W w') := fun W p1 n1 c1 base q6 m6 k6 ho =>
      addV_any 6 0 ⟨#[]⟩ none 0 0 p1 n1 c1 [⟨accIdN, textR ra.id⟩, ⟨oldN, ⟨r1k, r1n, r1s, r1pl, r1nl, r1cl, r1pm, r1nm, r1cm⟩⟩, ⟨newN, textR stx⟩, ⟨moreN, ⟨2, mi, ⟨#[]⟩, none, 0, 0, none, 0, 0⟩⟩, ⟨madeN, ⟨5, 0, ⟨#[]⟩, q5, m5, k5, none, 0, 0⟩⟩] chgdN ⟨5, 0, ⟨#[]⟩, q6, m6, k6, none, 0, 0⟩ W (ho.rd codecM) (by simp)
     go_upto_region 13 with fail
     have hbc6 := HS5.out.below
     have s7' := bcs hbc6 hgc s7
     have hS6 : (fun w' : World => w'.cell? ⟨h, 0, none⟩ = some (.int .i64 6) /\ w'.cell? ⟨h, 1, none⟩ = some (.int .i64 0) /\ w'.cell? ⟨h, 2, none⟩ = some (.string ⟨#[]⟩) /\ w'.cell? ⟨h, 3, none⟩ = some (.slice none 0 0) /\ w'.cell? ⟨h, 4, none⟩ = some (.slice p5 n5 c5) /\ w'.cell? ⟨g, 1, none⟩ = some (.slice pb nb cb)) W5 := ⟨HS5.out.at'.cell 0 rfl, HS5.out.at'.cell 1 rfl, HS5.out.at'.cell 2 rfl, HS5.out.at'.cell 3 rfl, HS5.out.at'.cell 4 rfl, s7'⟩
     have HK6 : Hid (∀ W, Below W5.heap.size W5 W -> (fun w' : World => w'.cell? ⟨h, 0, none⟩ = some (.int .i64 6) /\ w'.cell? ⟨h, 1, none⟩ = some (.int .i64 0) /\ w'.cell? ⟨h, 2, none⟩ = some (.string ⟨#[]⟩) /\ w'.cell? ⟨h, 3, none⟩ = some (.slice none 0 0) /\ w'.cell? ⟨h, 4, none⟩ = some (.slice p5 n5 c5) /\ w'.cell? ⟨g, 1, none⟩ = some (.slice pb nb cb)) W) := fun W hb => ⟨bcs hb hgh hS6.1, bcs hb hgh hS6.2.1, bcs hb hgh hS6.2.2.1, bcs hb hgh hS6.2.2.2.1, bcs hb hgh hS6.2.2.2.2.1, bcs hb (Nat.lt_of_lt_of_le hgc hbc6.size) hS6.2.2.2.2.2⟩
     have hSd6 : (fun w' : World => w'.cell? ⟨h, 0, none⟩ = some (.int .i64 6) /\ w'.cell? ⟨h, 1, none⟩ = some (.int .i64 0) /\ w'.cell? ⟨h, 2, none⟩ = some (.string ⟨#[]⟩) /\ w'.cell? ⟨h, 3, none⟩ = some (.slice none 0 0) /\ w'.cell? ⟨h, 4, none⟩ = some (.slice p5 n5 c5) /\ w'.cell? ⟨g, 1, none⟩ = some (.slice pb nb cb)) W5.drew := hS6
     refine wp_region_K 5 (fun w' : World => w'.cell? ⟨h, 0, none⟩ = some (.int .i64 6) /\ w'.cell? ⟨h, 1, none⟩ = some (.int .i64 0) /\ w'.cell? ⟨h, 2, none⟩ = some (.string ⟨#[]⟩) /\ w'.cell? ⟨h, 3, none⟩ = some (.slice none 0 0) /\ w'.cell? ⟨h, 4, none⟩ = some (.slice p5 n5 c5) /\ w'.cell? ⟨g, 1, none⟩ = some (.slice pb nb cb)) (by kernel_rfl) hSd6 ?_
     intro hHeld
     clear hS6 hSd6 hbc6 s7'
     refine wpAnyK_take (v := ?vv15) 0 rfl (by kernel_rfl) (by kernel_rfl) (by kernel_rfl) (by kernel_rfl) (by kernel_rfl) (fun _ _ _ h => h) (by assumption) (Or.inl ⟨by rfl, ?hy15⟩) ?rest15
     case hy15 => (intro w' hSw; (try dsimp only at hSw); first | (go_simp; done) | (go_simp; with_reducible rfl))
     try simp only [Act.put, List.setIfInBounds_toArray, List.set_cons_zero, List.set_cons_succ]
     refine wpAnyK_take (v := ?vv16) 1 rfl (by kernel_rfl) (by kernel_rfl) (by kernel_rfl) (by kernel_rfl) (by kernel_rfl) (fun _ _ _ h => h) (by assumption) (Or.inl ⟨by rfl, ?hy16⟩) ?rest16
     case hy16 => (intro w' hSw; (try dsimp only at hSw); first | (go_simp; done) | (go_simp; with_reducible rfl))
     try simp only [Act.put, List.setIfInBounds_toArray, List.set_cons_zero, List.set_cons_succ]
     refine wpAnyK_take (v := ?vv17) 2 rfl (by kernel_rfl) (by kernel_rfl) (by kernel_rfl) (by kernel_rfl) (by kernel_rfl) (fun _ _ _ h => h) (by assumption) (Or.inl ⟨by rfl, ?hy17⟩) ?rest17
     case hy17 => (intro w' hSw; (try dsimp only at hSw); first | (go_simp; done) | (go_simp; with_reducible rfl))
     try simp only [Act.put, List.setIfInBounds_toArray, List.set_cons_zero, List.set_cons_succ]
     refine wpAnyK_eff 3 rfl (by kernel_rfl) (fun K hK => ?_)
     go_simp
     go_at_call 24
     refine (L6.out _ (HS5.out.below.trans ((Below.refl _ _).drew.mono HS5.out.below.size))).mono ?_
     rintro e w61 ⟨q6, m6, k6, rfl, hT6, hb61'⟩
     have hb61 : Below W5.heap.size W5 w61 := (Below.refl _ _).drew.trans hb61'
     refine hK.out _ _ (HK6.out _ hb61) (fun hHeld => ?_)
     clear hK K
     try simp only [Act.put, List.setIfInBounds_toArray, List.set_cons_zero, List.set_cons_succ]
     refine wpAnyK_eff 4 rfl (by kernel_rfl) (fun K hK => ?_)
     go_simp
     go_at_call 18
     refine (A6.out _ _ _ _ _ _ _ _ (HS5.out.own.below hb61 (Nat.le_refl _))).mono ?_
     rintro e w69 ⟨p6, n6, c6, rfl, ho6, hb69'⟩
     have hb69 : Below W5.heap.size W5 w69 := hb61.trans (hb69'.mono hb61.size)
     refine hK.out _ _ (HK6.out _ hb69) (fun hHeld => ?_)
     clear hK K
     try simp only [Act.put, List.setIfInBounds_toArray, List.set_cons_zero, List.set_cons_succ]
     have hv6 := HS5.out.at'.under hb69 hgh
     obtain ⟨z0, z1, z2, z3, z4⟩ := hv6.cells5
     have y0 := hv6.frozen 0
     have y1 := hv6.frozen 1
     have y2 := hv6.frozen 2
     have y3 := hv6.frozen 3
     have y4 := hv6.frozen 4
     dsimp only at z0 z1 z2 z3 z4
     refine wpAnyK_last rfl (by kernel_rfl) (by kernel_rfl) (fun K hK => ?_)
     go_simp
     refine hK.out _ _ ?_
     have hs6 := HS5.out.next (t := listJ (d.chgd.map textJ)) hb69 ho6 (by have := hb61.size;  omega) ((hT6.same (fun k e => hb69'.block k e.2)).mono (fun k e => ⟨by have := hb69'.size; omega, by have h1 : W5.heap.size <= k := e.1; omega, .inr (by have h1 : W5.heap.size <= k := e.1; have := HS5.out.below.size; omega)⟩))
     clear hK K hHeld z0 z1 z2 z3 z4 y0 y1 y2 y3 y4 hv6 HK6 hb61 hb61' hb69 hb69' ho6
     obtain ⟨W6, hW6⟩ : ∃ W, ((((w69.setCell ⟨h, 0, none⟩ (.int .i64 6)).setCell ⟨h, 1, none⟩ (.int .i64 0)).setCell ⟨h, 2, none⟩ (.string ⟨#[]⟩)).setCell ⟨h, 3, none⟩ (.slice none 0 0)).setCell ⟨h, 4, none⟩ (.slice p6 n6 c6) = W := ⟨_, rfl⟩
     dsimp only at hs6
     rw [hW6] at hs6
     try rw [hW6]
     clear hW6
     have HS6 := Lib.hid hs6
     clear hs6
     have hgh : h < W6.heap.size := HS6.out.at'.lt
     have A7 : Hid (∀ (W : World) (p1 : Option Addr) (n1 c1 base : Nat) (q7 : Option Addr) (m7 k7 : Nat), Own W base 81 encM 6 (.slice p1 n1 c1) [⟨accIdN, textR ra.id⟩, ⟨oldN, ⟨r1k, r1n, r1s, r1pl, r1nl, r1cl, r1pm, r1nm, r1cm⟩⟩, ⟨newN, textR stx⟩, ⟨moreN, ⟨2, mi, ⟨#[]⟩, none, 0, 0, none, 0, 0⟩⟩, ⟨madeN, ⟨5, 0, ⟨#[]⟩, q5, m5, k5, none, 0, 0⟩⟩, ⟨chgdN, ⟨5, 0, ⟨#[]⟩, q6, m6, k6, none, 0, 0⟩⟩] -> Calls Tryz.prog 18 #[.agg #[.int .i64 6, .int .i64 0, .string ⟨#[]⟩, .slice none 0 0, .slice p1 n1 c1], .string ⟨#[100, 101, 115, 116, 114, 111, 121, 101, 100]⟩, .agg #[.int .i64 5, .int .i64 0, .string ⟨#[]⟩, .slice q7 m7 k7, .slice none 0 0]] W fun e w' => ∃ p n c, e = .returned (.agg #[.int .i64 6, .int .i64 0, .string ⟨#[]⟩, .slice none 0 0, .slice p n c]) /\ Own w' W.heap.size 81 encM 6 (.slice p n c) ([⟨accIdN, textR ra.id⟩, ⟨oldN, ⟨r1k, r1n, r1s, r1pl, r1nl, r1cl, r1pm, r1nm, r1cm⟩⟩, ⟨newN, textR stx⟩, ⟨moreN, ⟨2, mi, ⟨#[]⟩, none, 0, 0, none, 0, 0⟩⟩, ⟨madeN, ⟨5, 0, ⟨#[]⟩, q5, m5, k5, none, 0, 0⟩⟩, ⟨chgdN, ⟨5, 0, ⟨#[]⟩, q6, m6, k6, none, 0, 0⟩⟩] ++ [⟨goneN, ⟨5, 0, ⟨#[]⟩, q7, m7, k7, none, 0, 0⟩⟩]) /\ Below W.heap.size W w') := fun W p1 n1 c1 base q7 m7 k7 ho =>
      addV_any 6 0 ⟨#[]⟩ none 0 0 p1 n1 c1 [⟨accIdN, textR ra.id⟩, ⟨oldN, ⟨r1k, r1n, r1s, r1pl, r1nl, r1cl, r1pm, r1nm, r1cm⟩⟩, ⟨newN, textR stx⟩, ⟨moreN, ⟨2, mi, ⟨#[]⟩, none, 0, 0, none, 0, 0⟩⟩, ⟨madeN, ⟨5, 0, ⟨#[]⟩, q5, m5, k5, none, 0, 0⟩⟩, ⟨chgdN, ⟨5, 0, ⟨#[]⟩, q6, m6, k6, none, 0, 0⟩⟩] goneN ⟨5, 0, ⟨#[]⟩, q7, m7, k7, none, 0, 0⟩ W (ho.rd codecM) (by simp)
     go_upto_region 14 with fail
     have hbc7 := HS6.out.below
     have s8' := bcs hbc7 hgc s8
     have hS7 : (fun w' : World => w'.cell? ⟨h, 0, none⟩ = some (.int .i64 6) /\ w'.cell? ⟨h, 1, none⟩ = some (.int .i64 0) /\ w'.cell? ⟨h, 2, none⟩ = some (.string ⟨#[]⟩) /\ w'.cell? ⟨h, 3, none⟩ = some (.slice none 0 0) /\ w'.cell? ⟨h, 4, none⟩ = some (.slice p6 n6 c6) /\ w'.cell? ⟨g, 2, none⟩ = some (.slice pc nc cc)) W6 := ⟨HS6.out.at'.cell 0 rfl, HS6.out.at'.cell 1 rfl, HS6.out.at'.cell 2 rfl, HS6.out.at'.cell 3 rfl, HS6.out.at'.cell 4 rfl, s8'⟩
     have HSW : Hid (∀ W, Below W6.heap.size W6 W -> (fun w' : World => w'.cell? ⟨h, 0, none⟩ = some (.int .i64 6) /\ w'.cell? ⟨h, 1, none⟩ = some (.int .i64 0) /\ w'.cell? ⟨h, 2, none⟩ = some (.string ⟨#[]⟩) /\ w'.cell? ⟨h, 3, none⟩ = some (.slice none 0 0) /\ w'.cell? ⟨h, 4, none⟩ = some (.slice p6 n6 c6) /\ w'.cell? ⟨g, 2, none⟩ = some (.slice pc nc cc)) W) := fun W hb => ⟨bcs hb hgh hS7.1, bcs hb hgh hS7.2.1, bcs hb hgh hS7.2.2.1, bcs hb hgh hS7.2.2.2.1, bcs hb hgh hS7.2.2.2.2.1, bcs hb (Nat.lt_of_lt_of_le hgc hbc7.size) hS7.2.2.2.2.2⟩
     have hgeh := HS6.out.ge
     have HSS : Hid (∀ W (q : RV), Below W6.heap.size W6 W -> (fun w' : World => w'.cell? ⟨h, 0, none⟩ = some (.int .i64 6) /\ w'.cell? ⟨h, 1, none⟩ = some (.int .i64 0) /\ w'.cell? ⟨h, 2, none⟩ = some (.string ⟨#[]⟩) /\ w'.cell? ⟨h, 3, none⟩ = some (.slice none 0 0) /\ w'.cell? ⟨h, 4, none⟩ = some (.slice p6 n6 c6) /\ w'.cell? ⟨g, 2, none⟩ = some (.slice pc nc cc)) (((((W.setCell ⟨(w.heap.size + 1 + 1), 0, none⟩ (.int .i64 q.k)).setCell ⟨(w.heap.size + 1 + 1), 1, none⟩ (.int .i64 q.n)).setCell ⟨(w.heap.size + 1 + 1), 2, none⟩ (.string q.s)).setCell ⟨(w.heap.size + 1 + 1), 3, none⟩ (.slice q.pl q.nl q.cl)).setCell ⟨(w.heap.size + 1 + 1), 4, none⟩ (.slice q.pm q.nm q.cm))) := fun W q hb => by
      have key : ∀ b o' v, b ≠ w.heap.size + 1 + 1 -> W.cell? ⟨b, o', none⟩ = some v -> (((((W.setCell ⟨(w.heap.size + 1 + 1), 0, none⟩ (.int .i64 q.k)).setCell ⟨(w.heap.size + 1 + 1), 1, none⟩ (.int .i64 q.n)).setCell ⟨(w.heap.size + 1 + 1), 2, none⟩ (.string q.s)).setCell ⟨(w.heap.size + 1 + 1), 3, none⟩ (.slice q.pl q.nl q.cl)).setCell ⟨(w.heap.size + 1 + 1), 4, none⟩ (.slice q.pm q.nm q.cm)).cell? ⟨b, o', none⟩ = some v := fun b o' v hne h =>
       (World.cell?_of_block (a := ⟨b, o', none⟩) ((grownBy_set5 W (w.heap.size + 1 + 1) q).block b (cell_some h).2 (fun e => hne (by injection e)))).trans h
      obtain ⟨t0, t1, t2, t3, t4, t5⟩ := HSW.out W hb
      exact ⟨key _ _ _ (by omega) t0, key _ _ _ (by omega) t1, key _ _ _ (by omega) t2, key _ _ _ (by omega) t3, key _ _ _ (by omega) t4, key _ _ _ (by omega) t5⟩
     have L7' : Hid (∀ W, Below W6.heap.size W6 W -> Calls Tryz.prog 24 #[.slice pc nc cc] W fun e w' => ∃ pt nt ct, e = .returned (.agg #[.int .i64 5, .int .i64 0, .string ⟨#[]⟩, .slice pt nt ct, .slice none 0 0]) /\ TreeS w' (fun k => W.heap.size <= k /\ k < w'.heap.size) (listJ (d.gone.map textJ)) ⟨5, 0, ⟨#[]⟩, pt, nt, ct, none, 0, 0⟩ /\ Below W.heap.size W w') := fun W hb => L7.out W (HS6.out.below.trans (hb.mono HS6.out.below.size))
     have A7' : Hid (∀ (W W' : World) (pt : Option Addr) (nt ct : Nat), TreeS W' (fun k => W.heap.size <= k /\ k < W'.heap.size) (listJ (d.gone.map textJ)) ⟨5, 0, ⟨#[]⟩, pt, nt, ct, none, 0, 0⟩ -> Below W6.heap.size W6 W -> Below W6.heap.size W6 W' ->
      Calls Tryz.prog 18 #[.agg #[.int .i64 6, .int .i64 0, .string ⟨#[]⟩, .slice none 0 0, .slice p6 n6 c6], .string ⟨#[100, 101, 115, 116, 114, 111, 121, 101, 100]⟩, .agg #[.int .i64 5, .int .i64 0, .string ⟨#[]⟩, .slice pt nt ct, .slice none 0 0]] W' fun e w' => ∃ p7 n7 c7, e = .returned (.agg #[.int .i64 6, .int .i64 0, .string ⟨#[]⟩, .slice none 0 0, .slice p7 n7 c7]) /\ TreeS w' (fun k => k < w'.heap.size /\ (k < B \/ Wc.heap.size <= k)) (chgJ a.id cd (argS t) d) ⟨6, 0, ⟨#[]⟩, none, 0, 0, p7, n7, c7⟩ /\ Below W'.heap.size W' w') := fun W W' pt nt ct h1 hb hb' =>
      (A7.out W' p6 n6 c6 _ pt nt ct (HS6.out.own.below hb' (Nat.le_refl _))).mono (fun e w' h => by
       obtain ⟨p7, n7, c7, he, ho, hb7⟩ := h
       refine ⟨p7, n7, c7, he, ?_, hb7⟩
       have hf := HS6.out.fin (t := listJ (d.gone.map textJ)) (hb'.trans (hb7.mono hb'.size)) ho hb'.size ((h1.same (fun k e => hb7.block k e.2)).mono (fun k e => ⟨by have := hb7.size; omega, .inr (by have := e.1; have := hb.size; have := HS6.out.below.size; omega)⟩))
       unfold chgJ
       rw [HEQ.out.1, HEQ.out.2.1, HEQ.out.2.2.1, HEQ.out.2.2.2.2]
       exact hf)
     have hk0 := KB.drew W6
     have HBW6 : Hid (Below w.heap.size w W6) := HBWC.out.trans (HS6.out.below.mono HBWC.out.size)
     have HZ6 := Lib.hid (HZC.out.under HS6.out.below (by omega))
     have hzw6 : w.heap.size + 1 + 1 < W6.heap.size := HZ6.out.lt
     have hwc6 := HS6.out.below.size
     obtain ⟨z0, z1, z2, z3, z4, s8''⟩ := hS7
     clear hbc7 s8' C1 C2 C6 A1 A2 A3 A4 A5 A6 A7 L5 L6 L7
     go_region_held3 (fun w' : World => w'.cell? ⟨h, 0, none⟩ = some (.int .i64 6) /\ w'.cell? ⟨h, 1, none⟩ = some (.int .i64 0) /\ w'.cell? ⟨h, 2, none⟩ = some (.string ⟨#[]⟩) /\ w'.cell? ⟨h, 3, none⟩ = some (.slice none 0 0) /\ w'.cell? ⟨h, 4, none⟩ = some (.slice p6 n6 c6) /\ w'.cell? ⟨g, 2, none⟩ = some (.slice pc nc cc))
      (first | with_reducible exact HSW.out _ (kb1 hk0) | with_reducible exact HSS.out _ ⟨6, 0, ⟨#[]⟩, none, 0, 0, p7, n7, c7⟩ (kb1 hbk) | with_reducible exact HSW.out _ (kb1 hbk))
      (first
       | (go_at_call 24; (with_reducible refine (L7'.out _ (kb1 hk0)).mono ?_); rintro e w71 ⟨qt, nq, cq, rfl, hT71, hb71⟩; (have hbk := KB.step (W := W6) (by assumption) hb71); (have hbk71 := (kb1 hbk)))
       | (go_at_call 18; (with_reducible refine (A7'.out _ w71 qt nq cq hT71 (kb1 hk0) hbk71).mono ?_); rintro e w79 ⟨p7, n7, c7, rfl, hT79, hb79⟩; (have hbk := KB.step (W := W6) (by assumption) hb79); (have hbo : Below w.heap.size w w79 := HBW6.out.trans ((kb1 hbk).mono HBW6.out.size)); (have hzo := HZ6.out.under (kb1 hbk) hzw6); (obtain ⟨z0, z1, z2, z3, z4⟩ := hzo.cells5); (have y0 := hzo.frozen 0); (have y1 := hzo.frozen 1); (have y2 := hzo.frozen 2); (have y3 := hzo.frozen 3); (have y4 := hzo.frozen 4); dsimp only [RV.zero] at z0 z1 z2 z3 z4)
       | fail)
     go_wp2_with fail
     refine bodyPost_ret (v := .tuple #[RV.val ⟨6, 0, ⟨#[]⟩, none, 0, 0, p7, n7, c7⟩, .string ⟨#[]⟩]) (by simp [results, Tryz.results9, go_sem, z0, z1, z2, z3, z4]) rfl (ChgRetS.ok HAR.out HCO2.out ?_ (Below.stored hbo (by omega) ⟨6, 0, ⟨#[]⟩, none, 0, 0, p7, n7, c7⟩))
     have hgs := grownBy_set5 w79 (w.heap.size + 1 + 1) ⟨6, 0, ⟨#[]⟩, none, 0, 0, p7, n7, c7⟩
     exact (hT79.same (fun k e => hgs.block k e.1 (fun e2 => by injection e2 with e2; rcases e.2 with h | h <;> omega))).mono (fun k e => ⟨Nat.lt_of_lt_of_le e.1 hgs.size, e.2.imp id (fun h => by omega)⟩)
end
end Go.Proofs.YtfgjimpmpckgpaaGreatDoor
