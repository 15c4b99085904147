import Derived.Test.YtfgjimpmpckgpaaGreatDoorSg17
import Derived.Test.YtfgjimpmpckgpaaGreatDoorSg30
set_option linter.unusedSimpArgs false
set_option linter.unusedVariables false
set_option maxRecDepth 200000
set_option maxHeartbeats 8000000
namespace Go.Proofs.YtfgjimpmpckgpaaGreatDoor
section
open Go Go.RowKit Go.OpenShut
theorem ok_n {t : JV} (h : t.Ok) : (Lit.int .i64 t.n).wf = true := by
 cases h with | mk _ h _ _ _ _ _ _ => exact h
theorem fchgB_any (a : AcD) (ra : RAc) (known book : Bool) (t : JV) (r : RV) (w : World) (B : Nat) (hBw : B <= w.heap.size) (hV : Vars w) (ha : AcOf w B a ra) (oc : a.cards.Ok) (ob : a.books.Ok) (hright : RightBx (a.box book)) (ht : TreeOf w B t r) (ot : t.Ok) :
 Calls Tryz.prog 7 #[RAc.val ra, .bool known, .int .i64 (kindB book), RV.val r] w (ChgRetS w B a.id known (!book) (a.box book) t) := by
 obtain ⟨W0, hW0⟩ : ∃ W0, ((w.alloc (RAc.obj ra)).alloc r.obj).alloc (.cells #[.int .i64 0, .int .i64 0, .string ⟨#[]⟩, .slice none 0 0, .slice none 0 0] 31) = W0 := ⟨_, rfl⟩
 have hA0 : W0.heap[w.heap.size]? = some (RAc.obj ra) := by rw [<- hW0]; exact heap_alloc_lt (by simp; omega) (heap_alloc_lt (by simp) (heap_alloc_at rfl))
 have hT0 : VAt W0 (w.heap.size + 1) r := by rw [<- hW0]; exact heap_alloc_lt (by simp) (heap_alloc_at (by simp))
 have hZ0 : VAt W0 (w.heap.size + 1 + 1) RV.zero := by rw [<- hW0]; exact heap_alloc_at (by simp)
 have hB0 : Below w.heap.size w W0 := by rw [<- hW0]; exact (below2 w _ _).alloc (by simp; omega) _
 have hz0 := hZ0.lt
 have HBG : Hid (Calls Tryz.prog 30 #[.bool known, r.val, .string kindsC] W0 (BeginRet W0 B known t ksC)) := begin_any W0 B known kindsC ksC t r kindsC_ok (hV.below hB0) (Nat.le_trans hBw hB0.size) (ht.under (hB0.mono hBw) (Nat.le_refl _)) ot
 have HBX : Hid (∀ W, Calls Tryz.prog 33 #[RAc.val ra, .int .i64 (kindB book)] W fun e w' => e = .returned (RB.val (ra.box book)) /\ Below W.heap.size W w') := fun W => boxOf_any ra book W
 have hkb : kindB book = kindI (!book) := by cases book <;> rfl
 have HST : Hid (∀ (n : Int) W, (Lit.int .i64 n).wf = true -> Calls Tryz.prog 13 #[.int .i64 (kindB book), .int .i64 n] W fun e w' => e = .returned (.string (stateB (!book) n)) /\ Below W.heap.size W w') := fun n W h => by
  rw [hkb]
  exact stateI_any (!book) _ W h
 have HSE : Hid (∀ (s : ByteArray) W, s.size <= maxLen -> Calls Tryz.prog 31 #[.int .i64 (kindB book), .string s] W fun e w' => e = .returned (seqRet (seqI (!book) s)) /\ Below W.heap.size W w') := fun s W h => by
  rw [hkb]
  exact seq_any (!book) s W h
 obtain ⟨kd, hkd⟩ : ∃ k, kindB book = k := ⟨_, rfl⟩
 rw [hkd] at HBX HST HSE
 have HAB := Lib.hid (ha.box book)
 have HOB : Hid (a.box book).Ok := by unfold Hid; cases book; exact oc; exact ob
 have HRB := Lib.hid hright
 have HAI := Lib.hid ha.id
 obtain ⟨bd, hbd⟩ : ∃ b, a.box book = b := ⟨_, rfl⟩
 obtain ⟨⟨po, no, co, pt, nt, ct, sq, fl, kp⟩, hrb⟩ : ∃ b, ra.box book = b := ⟨_, rfl⟩
 obtain ⟨cd, hcd⟩ : ∃ b, (!book) = b := ⟨_, rfl⟩
 rw [hbd, hrb] at HAB
 rw [hbd] at HOB HRB
 rw [hcd] at HST HSE
 rw [hrb] at HBX
 rw [hbd, hcd]
 rw [hkd]
 obtain ⟨tk, tn, ts, tpl, tnl, tcl, tpm, tnm, tcm⟩ := r
 dsimp only [RV.val, RV.obj, RB.val] at *
 have hsq : bd.seq = sq := HAB.out.seq
 have hno : bd.objs.length = no := HAB.out.objs.nlen
 have HNO := Lib.hid hno
 have HSQ := Lib.hid hsq
 clear hsq hno
 have HW := Lib.hid hW0
 have HA0 := Lib.hid hA0
 have HT0 := Lib.hid hT0
 have HZ0 := Lib.hid hZ0
 have HB0 := Lib.hid hB0
 have HOT := Lib.hid ot
 clear hW0 hA0 hZ0 hB0 hV ha oc ob hright ht ot hkb hkd hbd hrb hcd
 unfold BeginRet whyB at HBG
 obtain ⟨q0, q1, q2, q3, q4⟩ := hT0.cells5
 dsimp only at q0 q1 q2 q3 q4
 clear hT0
 cases hab : argsB t ksC
 ·rw [hab] at HBG
  simp only [Bool.false_eq_true, if_false, Bool.false_and] at HBG
  unfold badN at HBG
  have HAR := Lib.hid hab
  clear hab
  go_enter Tryz.func7, Tryz.ntmps7
  go_upto_region 1 with fail
  rw [HW.out]
  clear HW
  go_upto_region 2 with (go_at_call 30; refine HBG.out.mono ?_; rintro e w1 ⟨pl, nl, cl, rfl, hb1, _⟩; (have hz := HZ0.out.under hb1 hz0); (obtain ⟨z0, z1, z2, z3, z4⟩ := hz.cells5); (have y0 := hz.frozen 0); (have y1 := hz.frozen 1); (have y2 := hz.frozen 2); (have y3 := hz.frozen 3); (have y4 := hz.frozen 4); dsimp only [RV.zero] at z0 z1 z2 z3 z4; (have HZ := Lib.hid hz); (have HB1 := Lib.hid hb1); clear hz hb1)
  go_wp2_with fail
  refine bodyPost_ret (v := .tuple #[RV.val RV.zero, .string ⟨#[105, 110, 118, 97, 108, 105, 100, 65, 114, 103, 117, 109, 101, 110, 116, 115]⟩]) (by simp [results, Tryz.results7, go_sem, RV.zero, z0, z1, z2, z3, z4]) rfl (ChgRetS.bad HAR.out (Below.stored (HB0.out.trans (HB1.out.mono HB0.out.size)) (by omega) RV.zero))
 ·cases known
  ·rw [hab] at HBG
   simp only [Bool.false_eq_true, if_true, if_false, Bool.and_false] at HBG
   unfold noAccN at HBG
   have HAR := Lib.hid hab
   clear hab
   go_enter Tryz.func7, Tryz.ntmps7
   go_upto_region 1 with fail
   rw [HW.out]
   clear HW
   go_upto_region 2 with (go_at_call 30; refine HBG.out.mono ?_; rintro e w1 ⟨pl, nl, cl, rfl, hb1, _⟩; (have hz := HZ0.out.under hb1 hz0); (obtain ⟨z0, z1, z2, z3, z4⟩ := hz.cells5); (have y0 := hz.frozen 0); (have y1 := hz.frozen 1); (have y2 := hz.frozen 2); (have y3 := hz.frozen 3); (have y4 := hz.frozen 4); dsimp only [RV.zero] at z0 z1 z2 z3 z4; (have HZ := Lib.hid hz); (have HB1 := Lib.hid hb1); clear hz hb1)
   go_wp2_with fail
   refine bodyPost_ret (v := .tuple #[RV.val RV.zero, .string ⟨#[97, 99, 99, 111, 117, 110, 116, 78, 111, 116, 70, 111, 117, 110, 100]⟩]) (by simp [results, Tryz.results7, go_sem, RV.zero, z0, z1, z2, z3, z4]) rfl (ChgRetS.noAcc HAR.out (Below.stored (HB0.out.trans (HB1.out.mono HB0.out.size)) (by omega) RV.zero))
  ·rw [hab] at HBG
   simp only [if_true, Bool.and_true, if_true] at HBG
   have HAR := Lib.hid hab
   clear hab
   have hA0 := HA0.out
   go_enter Tryz.func7, Tryz.ntmps7
   go_upto_region 1 with fail
   rw [HW.out]
   clear HW
   go_upto_region 2 with (go_at_call 30; refine HBG.out.mono ?_; rintro e w1 ⟨pl, nl, cl, rfl, hb1, hargs'⟩; (have hz := HZ0.out.under hb1 hz0); (obtain ⟨z0, z1, z2, z3, z4⟩ := hz.cells5); (have y0 := hz.frozen 0); (have y1 := hz.frozen 1); (have y2 := hz.frozen 2); (have y3 := hz.frozen 3); (have y4 := hz.frozen 4); dsimp only [RV.zero] at z0 z1 z2 z3 z4; (have HZ := Lib.hid hz); (have HB1 := Lib.hid hb1); clear hz hb1)
   obtain ⟨rs, hO1, hl1, ht1⟩ := hargs' trivial trivial
   obtain ⟨r0, r1, r2, rfl⟩ : ∃ a b c, rs = [a, b, c] := by
    match rs, hl1 with
    | [a, b, c], _ => exact ⟨a, b, c, rfl⟩
   have HT1 : Hid (TreeOf w1 B (argS t) r1) := ht1 1 _ r1 rfl rfl
   have HT2 : Hid (TreeOf w1 B (argX t) r2) := ht1 2 _ r2 rfl rfl
   obtain ⟨gl, rfl, hnl, hgl0, hgl1, hc1, _⟩ := hO1.at codecV (k := 1) (x := r1) rfl
   obtain ⟨gl', he, _, _, _, hc2, _⟩ := hO1.at codecV (k := 2) (x := r2) rfl
   obtain rfl : gl = gl' := by injection he with he; injection he
   simp only [List.length_cons, List.length_nil, Nat.zero_add, Nat.reduceAdd] at hnl
   subst hnl
   obtain ⟨_, _, i1⟩ := HT1.out.head
   obtain ⟨_, i2, _⟩ := HT2.out.head
   obtain ⟨r1k, r1n, r1s, r1pl, r1nl, r1cl, r1pm, r1nm, r1cm⟩ := r1
   obtain ⟨r2k, r2n, r2s, r2pl, r2nl, r2cl, r2pm, r2nm, r2cm⟩ := r2
   have e0 := hc1 0 _ rfl
   have e1 := hc1 1 _ rfl
   have e2 := hc1 2 _ rfl
   have e3 := hc1 3 _ rfl
   have e4 := hc1 4 _ rfl
   have f1 := hc2 1 _ rfl
   simp only [Nat.reduceMul, Nat.reduceAdd, Nat.add_zero] at e0 e1 e2 e3 e4 f1
   dsimp only at i1 i2
   have hsz1 : r1s.size <= maxLen := by
    rw [<- i1]
    have h := ok_s (argG_ok HOT.out (sinceN, 115))
    exact Nat.le_trans h (by decide)
   have hwm : (Lit.int .i64 r2n).wf = true := by
    rw [<- i2]
    exact ok_n (argG_ok HOT.out (maxN, 112))
   have HSI : Hid ((argS t).s = r1s /\ (argX t).n = r2n) := ⟨i1, i2⟩
   clear i1 i2
   clear hc1 hc2 hargs' hO1 hl1 ht1 he
   have hA1 : w1.heap[w.heap.size]? = some (RAc.obj ra) := (HB1.out.block _ (by omega)).trans HA0.out
   obtain ⟨a0, a1, a2, a3, a4, a5, a6, a7, a8, a9, a10, a11⟩ := RAc.cells12 hA1
   have hz1 : W0.heap.size <= w1.heap.size := HB1.out.size
   have HBW1 : Hid (Below w.heap.size w w1) := HB0.out.trans (HB1.out.mono HB0.out.size)
   have HSE1 := Lib.hid (fun W => HSE.out r1s W hsz1)
   clear HSE hsz1
   cases hsn : seqI cd r1s with
   | none =>
     have HCO : Hid (chgO bd cd (argS t).s (argX t).n = none) := by unfold Hid chgO; rw [HSI.out.1, hsn]; rfl
     rw [hsn] at HSE1
     simp only [seqRet] at HSE1
     clear hsn a0 a1 a2 a3 a4 a5 a6 a7 a8 a9 a10 a11 hA1 hA0 z0 z1 z2 z3 z4 y0 y1 y2 y3 y4
     go_upto_region 5 with (go_at_call 31; refine (HSE1.out _).mono ?_; rintro e w2 ⟨rfl, hb2⟩; (have hz := HZ.out.under hb2 (by omega)); (obtain ⟨z0, z1, z2, z3, z4⟩ := hz.cells5); (have y0 := hz.frozen 0); (have y1 := hz.frozen 1); (have y2 := hz.frozen 2); (have y3 := hz.frozen 3); (have y4 := hz.frozen 4); dsimp only [RV.zero] at z0 z1 z2 z3 z4; (have HB2 := Lib.hid hb2); clear hz hb2)
     go_wp2_with fail
     refine bodyPost_ret (v := .tuple #[RV.val RV.zero, .string ⟨#[99, 97, 110, 110, 111, 116, 67, 97, 108, 99, 117, 108, 97, 116, 101, 67, 104, 97, 110, 103, 101, 115]⟩]) (by simp [results, Tryz.results7, go_sem, RV.zero, z0, z1, z2, z3, z4]) rfl (ChgRetS.cannot HAR.out HCO.out (Below.stored (HBW1.out.trans (HB2.out.mono HBW1.out.size)) (by omega) RV.zero))
   | some sn =>
     have HCO : Hid (chgO bd cd (argS t).s (argX t).n = chgN bd sn r2n) := by unfold Hid chgO; rw [HSI.out.1, HSI.out.2, hsn]; rfl
     rw [hsn] at HSE1
     simp only [seqRet] at HSE1
     have hA1' := Lib.hid hA1
     clear hsn a0 a1 a2 a3 a4 a5 a6 a7 a8 a9 a10 a11 hA1 hA0 z0 z1 z2 z3 z4 y0 y1 y2 y3 y4
     go_upto_region 5 with (go_at_call 31; refine (HSE1.out _).mono ?_; rintro e w2 ⟨rfl, hb2⟩)
     obtain ⟨Wb, rfl⟩ : ∃ W, W = w2 := ⟨_, rfl⟩
     have HBWB : Hid (Below w.heap.size w Wb) := HBW1.out.trans (hb2.mono HBW1.out.size)
     have hsb := hb2.size
     have hAb : Wb.heap[w.heap.size]? = some (RAc.obj ra) := (hb2.block _ (by omega)).trans hA1'.out
     obtain ⟨a0, a1, a2, a3, a4, a5, a6, a7, a8, a9, a10, a11⟩ := RAc.cells12 hAb
     have f1 := bcs hb2 hgl1 f1
     have HE : Hid (Wb.cell? ⟨gl, 5, none⟩ = some (.int .i64 r1k) /\ Wb.cell? ⟨gl, 6, none⟩ = some (.int .i64 r1n) /\ Wb.cell? ⟨gl, 7, none⟩ = some (.string r1s) /\ Wb.cell? ⟨gl, 8, none⟩ = some (.slice r1pl r1nl r1cl) /\ Wb.cell? ⟨gl, 9, none⟩ = some (.slice r1pm r1nm r1cm)) := ⟨bcs hb2 hgl1 e0, bcs hb2 hgl1 e1, bcs hb2 hgl1 e2, bcs hb2 hgl1 e3, bcs hb2 hgl1 e4⟩
     have HTB : Hid (TreeOf Wb B (argS t) ⟨r1k, r1n, r1s, r1pl, r1nl, r1cl, r1pm, r1nm, r1cm⟩) := HT1.out.under (hb2.mono (by omega)) (Nat.le_refl _)
     have HZB := Lib.hid (HZ.out.under hb2 (by omega))
     have hglb : gl < Wb.heap.size := Nat.lt_of_lt_of_le hgl1 hsb
     have hwb : w.heap.size < Wb.heap.size := by omega
     have hww : w.heap.size <= Wb.heap.size := by omega
     obtain ⟨er, her⟩ : ∃ e : Int, (if (chgN bd sn r2n).isSome then 0 else 190) = e := ⟨_, rfl⟩
     obtain ⟨dd, hdd⟩ : ∃ d, (chgN bd sn r2n).getD ChD.zero = d := ⟨_, rfl⟩
     have HCH : Hid (∀ W, Below w.heap.size w W -> Calls Tryz.prog 32 #[.agg #[.slice po no co, .slice pt nt ct, .int .i64 sq, .int .i64 fl, .int .i64 kp], .int .i64 sn, .int .i64 r2n] W fun e w' => ∃ pa na ca pb nb cb pc nc cc tn mr, e = .returned (.tuple #[.agg #[.slice pa na ca, .slice pb nb cb, .slice pc nc cc, .int .i64 tn, .bool mr], .int .i64 er]) /\ Hid (NewChg w' W.heap.size dd ⟨pa, na, ca, pb, nb, cb, pc, nc, cc, tn, mr⟩) /\ Below W.heap.size W w') := fun W hb =>
      (changes_any bd ⟨po, no, co, pt, nt, ct, sq, fl, kp⟩ sn r2n W (HAB.out.under (hb.mono hBw) (Nat.le_trans hBw hb.size)) HOB.out hwm).mono (fun e w' h => by
       obtain ⟨⟨pa, na, ca, pb, nb, cb, pc, nc, cc, tn, mr⟩, h1, h2, h3⟩ := sncRet_fix h
       rw [her] at h1
       rw [hdd] at h2
       exact ⟨_, _, _, _, _, _, _, _, _, _, _, h1, h2, h3⟩)
     have HER : Hid ((if (chgN bd sn r2n).isSome then 0 else 190) = er /\ (chgN bd sn r2n).getD ChD.zero = dd) := ⟨her, hdd⟩
     clear her hdd e0 e1 e2 e3 e4 hwm hb2 hsb HSE1 hA1' HBW1 HZ
     have HZA : Hid (ChAt (Wb.alloc (.cells #[.slice none 0 0, .slice none 0 0, .slice none 0 0, .int .i64 0, .bool false] 75)).drew Wb.heap.size RC.zero) := heap_alloc_at rfl
     have hk0 := KB.drew Wb
     have hkA : KB Wb.heap.size Wb (Wb.alloc (.cells #[.slice none 0 0, .slice none 0 0, .slice none 0 0, .int .i64 0, .bool false] 75)).drew := kt_da Wb _
     have HSA : Hid (Wb.heap.size < (Wb.alloc (.cells #[.slice none 0 0, .slice none 0 0, .slice none 0 0, .int .i64 0, .bool false] 75)).drew.heap.size) := by unfold Hid; simp [World.drew]
     go_upto_region 7 with fail
     go_cut [13, 14] from 37 to 48 (fun v p wr => ∃ (g : Nat) (rc : RC), v = .int .i64 er /\ p = .pointer (some ⟨g, 0, none⟩) /\ Hid (CgR Wb dd g rc wr))
     case first =>
      go_region_held3 (fun w' => Below Wb.heap.size Wb w' /\ ∀ b o, b < Wb.heap.size -> w'.cell? ⟨b, o, none⟩ = Wb.cell? ⟨b, o, none⟩)
       (first | with_reducible exact kt_drew Wb | with_reducible exact kt_same hbk | with_reducible exact kt_alloc hbk _ | with_reducible exact kt_da Wb _ | with_reducible exact kt_setC hbk _ ⟨pa, na, ca, pb, nb, cb, pc, nc, cc, tn, mr⟩ (Nat.le_refl _) | with_reducible exact kt_setC hbk _ ⟨pa, na, ca, pb, nb, cb, pc, nc, cc, tn, mr⟩ hs8)
       (first
        | (go_at_call 32; refine (HCH.out _ (KB.fin (by assumption) HBWB.out hww)).mono ?_; rintro e w9 ⟨pa, na, ca, pb, nb, cb, pc, nc, cc, tn, mr, rfl, hT9, hb9⟩; (have hbk := KB.step (W := Wb) (by assumption) hb9); (have HX := Lib.hid (And.intro hT9.out hbk.1)); (have hsw9 := hb9.size); (first | ((have HZ9 := Lib.hid (HZ8.out.under hb9 HZ8.out.lt)); (have HS9 := HS8.out); (obtain ⟨z0, z1, z2, z3, z4⟩ := HZ9.out.cells5); (have y0 := HZ9.out.frozen 0); (have y1 := HZ9.out.frozen 1); (have y2 := HZ9.out.frozen 2); (have y3 := HZ9.out.frozen 3); (have y4 := HZ9.out.frozen 4); dsimp only [RC.zero] at z0 z1 z2 z3 z4) | ((have HZ8' : ChAt (w8.alloc (.cells #[.slice none 0 0, .slice none 0 0, .slice none 0 0, .int .i64 0, .bool false] 75)) w8.heap.size RC.zero := heap_alloc_at rfl); (have HZ9 := Lib.hid (HZ8'.under hb9 (by simp))); (obtain ⟨z0, z1, z2, z3, z4⟩ := HZ9.out.cells5); (have y0 := HZ9.out.frozen 0); (have y1 := HZ9.out.frozen 1); (have y2 := HZ9.out.frozen 2); (have y3 := HZ9.out.frozen 3); (have y4 := HZ9.out.frozen 4); dsimp only [RC.zero] at z0 z1 z2 z3 z4) | skip))
        | (go_at_call 33; refine (HBX.out _).mono ?_; rintro e w8 ⟨rfl, hb8⟩; (have hbk := KB.step (W := Wb) (by assumption) hb8); (have hs8 := hbk.1.size); (first | ((have HZ8 := Lib.hid (HZA.out.under hb8 HZA.out.lt)); (have HS8 : Hid (Wb.heap.size < w8.heap.size) := Nat.lt_of_lt_of_le HSA.out hb8.size)) | skip))
        | fail)
      all_goals (
       go_wp2_with fail
       go_meet
       first
        | (have hz := HZ9
           exact ⟨_, ⟨pa, na, ca, pb, nb, cb, pc, nc, cc, tn, mr⟩, rfl, rfl, CgR.stored HX.out.1 (by have h4 := hs8; (try (have h5 := HS8.out)); (try simp only [World.alloc, World.drew, Array.size_push] at h4 ⊢); omega) (by have h4 := hs8; (try simp only [World.alloc, World.drew, Array.size_push] at h4 ⊢); omega) hz.out HX.out.2⟩)
        | exact ⟨_, ⟨pa, na, ca, pb, nb, cb, pc, nc, cc, tn, mr⟩, rfl, rfl, CgR.fresh HX.out.1 (by have h4 := hs8; (try simp only [World.alloc, World.drew, Array.size_push] at h4 ⊢); omega) HX.out.2⟩)
     case rest =>
     obtain ⟨g, ⟨pa, na, ca, pb, nb, cb, pc, nc, cc, tn, mr⟩, rfl, rfl, hx9⟩ := hcut
     obtain ⟨Wc, rfl⟩ : ∃ W, W = wc := ⟨_, rfl⟩
     have HX := Lib.hid hx9.out
     have hbc := hx9.out.below
     have HBWC : Hid (Below w.heap.size w Wc) := HBWB.out.trans (hbc.mono hww)
     have hsc := hbc.size
     have hgb := hx9.out.ge
     have hgc := hx9.out.at'.lt
     have s0 := bcs hbc hwb a0
     have s1 := bcs hbc hglb HE.out.1
     have s2 := bcs hbc hglb HE.out.2.1
     have s3 := bcs hbc hglb HE.out.2.2.1
     have s4 := bcs hbc hglb HE.out.2.2.2.1
     have s5 := bcs hbc hglb HE.out.2.2.2.2
     have s6 := hx9.out.at'.cell 0 rfl
     have s7 := hx9.out.at'.cell 1 rfl
     have s8 := hx9.out.at'.cell 2 rfl
     have s9 := hx9.out.at'.cell 3 rfl
     have s10 := hx9.out.at'.cell 4 rfl
     dsimp only at s6 s7 s8 s9 s10
     have HZC := Lib.hid (HZB.out.under hbc (by omega))
     have HTC : Hid (TreeOf Wc B (argS t) ⟨r1k, r1n, r1s, r1pl, r1nl, r1cl, r1pm, r1nm, r1cm⟩) := HTB.out.under (hbc.mono (by omega)) (Nat.le_refl _)
     have hglc : gl < Wc.heap.size := Nat.lt_of_lt_of_le hglb hsc
     have hwc : w.heap.size < Wc.heap.size := by omega
     clear hx9 HZA hk0 hkA HSA HCH a0 a1 a2 a3 a4 a5 a6 a7 a8 a9 a10 a11 hbc HZB HTB HE HBWB f1 hAb
     cases hch : chgN bd sn r2n with
     | none =>
       have her := HER.out.1
       rw [hch] at her
       obtain rfl : er = 190 := her.symm
       have HCO2 : Hid (chgO bd cd (argS t).s (argX t).n = none) := HCO.out.trans hch
       clear her hch s0 s1 s2 s3 s4 s5 s6 s7 s8 s9 s10
       have hz := HZC.out
       obtain ⟨z0, z1, z2, z3, z4⟩ := hz.cells5
       have y0 := hz.frozen 0
       have y1 := hz.frozen 1
       have y2 := hz.frozen 2
       have y3 := hz.frozen 3
       have y4 := hz.frozen 4
       dsimp only [RV.zero] at z0 z1 z2 z3 z4
       clear hz
       go_wp2_with fail
       refine bodyPost_ret (v := .tuple #[RV.val RV.zero, .string ⟨#[99, 97, 110, 110, 111, 116, 67, 97, 108, 99, 117, 108, 97, 116, 101, 67, 104, 97, 110, 103, 101, 115]⟩]) (by simp [results, Tryz.results7, go_sem, RV.zero, z0, z1, z2, z3, z4]) rfl (ChgRetS.cannot HAR.out HCO2.out (Below.stored HBWC.out (by omega) RV.zero))
     | some d =>
       obtain ⟨her, hdd⟩ := HER.out
       rw [hch] at her hdd
       obtain rfl : er = 0 := her.symm
       obtain rfl : d = dd := hdd
       have HCO2 : Hid (chgO bd cd (argS t).s (argX t).n = some d) := HCO.out.trans hch
       obtain ⟨_, _, l1, l2, l3⟩ := chgN_safe HRB.out hch
       have hwt := chgN_wf HRB.out hch
       have htn : d.toN = tn := HX.out.new.toN
       have hmr : d.more = mr := HX.out.new.more
       rw [htn] at hwt
       have HL : Hid (d.made.length <= 1000 /\ d.chgd.length <= 1000 /\ d.gone.length <= 1000) := ⟨l1, l2, l3⟩
       obtain ⟨mi, hmi⟩ : ∃ i : Int, (if mr then 1 else 0) = i := ⟨_, rfl⟩
       obtain ⟨stx, hstx⟩ : ∃ s, stateB cd tn = s := ⟨_, rfl⟩
       have HST2 : Hid (∀ W, Calls Tryz.prog 13 #[.int .i64 kd, .int .i64 tn] W fun e w' => e = .returned (.string stx) /\ Below W.heap.size W w') := fun W => by rw [<- hstx]; exact HST.out tn W hwt
       have HEQ : Hid (a.id = ra.id /\ d.toN = tn /\ d.more = mr /\ (if mr then (1 : Int) else 0) = mi /\ stateB cd tn = stx) := ⟨HAI.out, htn, hmr, hmi, hstx⟩
       have C1 : Hid (∀ W, Calls Tryz.prog 36 #[.string ra.id] W fun e w' => e = .returned (.agg #[.int .i64 4, .int .i64 0, .string ra.id, .slice none 0 0, .slice none 0 0]) /\ Below W.heap.size W w') := fun W => textV_any ra.id W
       have C2 : Hid (∀ W, Calls Tryz.prog 36 #[.string stx] W fun e w' => e = .returned (.agg #[.int .i64 4, .int .i64 0, .string stx, .slice none 0 0, .slice none 0 0]) /\ Below W.heap.size W w') := fun W => textV_any stx W
       have C3 : Hid (∀ W, Calls Tryz.prog 35 #[.string ⟨#[97, 99, 99, 111, 117, 110, 116, 73, 100]⟩, .agg #[.int .i64 4, .int .i64 0, .string ra.id, .slice none 0 0, .slice none 0 0]] W fun e w' => e = .returned (.agg #[.string ⟨#[97, 99, 99, 111, 117, 110, 116, 73, 100]⟩, .int .i64 4, .int .i64 0, .string ra.id, .slice none 0 0, .slice none 0 0]) /\ Below W.heap.size W w') := fun W => member_any ⟨#[97, 99, 99, 111, 117, 110, 116, 73, 100]⟩ (textR ra.id) W
       have C4 : Hid (∀ W, Calls Tryz.prog 35 #[.string ⟨#[111, 108, 100, 83, 116, 97, 116, 101]⟩, .agg #[.int .i64 r1k, .int .i64 r1n, .string r1s, .slice r1pl r1nl r1cl, .slice r1pm r1nm r1cm]] W fun e w' => e = .returned (.agg #[.string ⟨#[111, 108, 100, 83, 116, 97, 116, 101]⟩, .int .i64 r1k, .int .i64 r1n, .string r1s, .slice r1pl r1nl r1cl, .slice r1pm r1nm r1cm]) /\ Below W.heap.size W w') := fun W => member_any ⟨#[111, 108, 100, 83, 116, 97, 116, 101]⟩ ⟨r1k, r1n, r1s, r1pl, r1nl, r1cl, r1pm, r1nm, r1cm⟩ W
       have C5 : Hid (∀ W, Calls Tryz.prog 35 #[.string ⟨#[110, 101, 119, 83, 116, 97, 116, 101]⟩, .agg #[.int .i64 4, .int .i64 0, .string stx, .slice none 0 0, .slice none 0 0]] W fun e w' => e = .returned (.agg #[.string ⟨#[110, 101, 119, 83, 116, 97, 116, 101]⟩, .int .i64 4, .int .i64 0, .string stx, .slice none 0 0, .slice none 0 0]) /\ Below W.heap.size W w') := fun W => member_any ⟨#[110, 101, 119, 83, 116, 97, 116, 101]⟩ (textR stx) W
       have C6 : Hid (∀ W, Calls Tryz.prog 37 #[.bool mr] W fun e w' => e = .returned (.agg #[.int .i64 2, .int .i64 mi, .string ⟨#[]⟩, .slice none 0 0, .slice none 0 0]) /\ Below W.heap.size W w') := fun W => (truth_any mr W).mono (fun e w' h => ⟨by rw [h.1, <- hmi]; rfl, h.2⟩)
       have C7 : Hid (∀ W, Calls Tryz.prog 35 #[.string ⟨#[104, 97, 115, 77, 111, 114, 101, 67, 104, 97, 110, 103, 101, 115]⟩, .agg #[.int .i64 2, .int .i64 mi, .string ⟨#[]⟩, .slice none 0 0, .slice none 0 0]] W fun e w' => e = .returned (.agg #[.string ⟨#[104, 97, 115, 77, 111, 114, 101, 67, 104, 97, 110, 103, 101, 115]⟩, .int .i64 2, .int .i64 mi, .string ⟨#[]⟩, .slice none 0 0, .slice none 0 0]) /\ Below W.heap.size W w') := fun W => member_any ⟨#[104, 97, 115, 77, 111, 114, 101, 67, 104, 97, 110, 103, 101, 115]⟩ ⟨2, mi, ⟨#[]⟩, none, 0, 0, none, 0, 0⟩ W
       have L1 : Hid (∀ W, Below Wc.heap.size Wc W -> Calls Tryz.prog 38 #[.slice pa na ca] W fun e w' => ∃ pt nt ct, e = .returned (.agg #[.int .i64 5, .int .i64 0, .string ⟨#[]⟩, .slice pt nt ct, .slice none 0 0]) /\ TreeS w' (fun k => Wc.heap.size <= k /\ k < w'.heap.size) (listJ (d.made.map textJ)) ⟨5, 0, ⟨#[]⟩, pt, nt, ct, none, 0, 0⟩ /\ Below W.heap.size W w') := fun W hb =>
        (texts_any d.made pa na ca W ((HX.out.new.made.below hb (Nat.le_refl _)).rd codecS) (by have := HL.out; omega)).mono (fun e w' h => by
         obtain ⟨pt, nt, ct, he, ho, hb2⟩ := h
         exact ⟨pt, nt, ct, he, (texts_tree ho).mono (fun k e => ⟨Nat.le_trans hb.size e.1, e.2⟩), hb2⟩)
       have M1 : Hid (∀ W pt nt ct, Calls Tryz.prog 35 #[.string ⟨#[99, 114, 101, 97, 116, 101, 100]⟩, .agg #[.int .i64 5, .int .i64 0, .string ⟨#[]⟩, .slice pt nt ct, .slice none 0 0]] W fun e w' => e = .returned (.agg #[.string ⟨#[99, 114, 101, 97, 116, 101, 100]⟩, .int .i64 5, .int .i64 0, .string ⟨#[]⟩, .slice pt nt ct, .slice none 0 0]) /\ Below W.heap.size W w') := fun W pt nt ct => member_any ⟨#[99, 114, 101, 97, 116, 101, 100]⟩ ⟨5, 0, ⟨#[]⟩, pt, nt, ct, none, 0, 0⟩ W
       have L2 : Hid (∀ W, Below Wc.heap.size Wc W -> Calls Tryz.prog 38 #[.slice pb nb cb] W fun e w' => ∃ pt nt ct, e = .returned (.agg #[.int .i64 5, .int .i64 0, .string ⟨#[]⟩, .slice pt nt ct, .slice none 0 0]) /\ TreeS w' (fun k => Wc.heap.size <= k /\ k < w'.heap.size) (listJ (d.chgd.map textJ)) ⟨5, 0, ⟨#[]⟩, pt, nt, ct, none, 0, 0⟩ /\ Below W.heap.size W w') := fun W hb =>
        (texts_any d.chgd pb nb cb W ((HX.out.new.chgd.below hb (Nat.le_refl _)).rd codecS) (by have := HL.out; omega)).mono (fun e w' h => by
         obtain ⟨pt, nt, ct, he, ho, hb2⟩ := h
         exact ⟨pt, nt, ct, he, (texts_tree ho).mono (fun k e => ⟨Nat.le_trans hb.size e.1, e.2⟩), hb2⟩)
       have M2 : Hid (∀ W pt nt ct, Calls Tryz.prog 35 #[.string ⟨#[117, 112, 100, 97, 116, 101, 100]⟩, .agg #[.int .i64 5, .int .i64 0, .string ⟨#[]⟩, .slice pt nt ct, .slice none 0 0]] W fun e w' => e = .returned (.agg #[.string ⟨#[117, 112, 100, 97, 116, 101, 100]⟩, .int .i64 5, .int .i64 0, .string ⟨#[]⟩, .slice pt nt ct, .slice none 0 0]) /\ Below W.heap.size W w') := fun W pt nt ct => member_any ⟨#[117, 112, 100, 97, 116, 101, 100]⟩ ⟨5, 0, ⟨#[]⟩, pt, nt, ct, none, 0, 0⟩ W
       have L3 : Hid (∀ W, Below Wc.heap.size Wc W -> Calls Tryz.prog 38 #[.slice pc nc cc] W fun e w' => ∃ pt nt ct, e = .returned (.agg #[.int .i64 5, .int .i64 0, .string ⟨#[]⟩, .slice pt nt ct, .slice none 0 0]) /\ TreeS w' (fun k => Wc.heap.size <= k /\ k < w'.heap.size) (listJ (d.gone.map textJ)) ⟨5, 0, ⟨#[]⟩, pt, nt, ct, none, 0, 0⟩ /\ Below W.heap.size W w') := fun W hb =>
        (texts_any d.gone pc nc cc W ((HX.out.new.gone.below hb (Nat.le_refl _)).rd codecS) (by have := HL.out; omega)).mono (fun e w' h => by
         obtain ⟨pt, nt, ct, he, ho, hb2⟩ := h
         exact ⟨pt, nt, ct, he, (texts_tree ho).mono (fun k e => ⟨Nat.le_trans hb.size e.1, e.2⟩), hb2⟩)
       have M3 : Hid (∀ W pt nt ct, Calls Tryz.prog 35 #[.string ⟨#[100, 101, 115, 116, 114, 111, 121, 101, 100]⟩, .agg #[.int .i64 5, .int .i64 0, .string ⟨#[]⟩, .slice pt nt ct, .slice none 0 0]] W fun e w' => e = .returned (.agg #[.string ⟨#[100, 101, 115, 116, 114, 111, 121, 101, 100]⟩, .int .i64 5, .int .i64 0, .string ⟨#[]⟩, .slice pt nt ct, .slice none 0 0]) /\ Below W.heap.size W w') := fun W pt nt ct => member_any ⟨#[100, 101, 115, 116, 114, 111, 121, 101, 100]⟩ ⟨5, 0, ⟨#[]⟩, pt, nt, ct, none, 0, 0⟩ W
       have C10 : Hid (∀ (W W1 W2 W3 : World) (p1 : Option Addr) (n1 c1 : Nat) (p2 : Option Addr) (n2 c2 : Nat) (p3 : Option Addr) (n3 c3 : Nat), TreeS W1 (fun k => Wc.heap.size <= k /\ k < W1.heap.size) (listJ (d.made.map textJ)) ⟨5, 0, ⟨#[]⟩, p1, n1, c1, none, 0, 0⟩ -> Below Wc.heap.size Wc W1 -> TreeS W2 (fun k => Wc.heap.size <= k /\ k < W2.heap.size) (listJ (d.chgd.map textJ)) ⟨5, 0, ⟨#[]⟩, p2, n2, c2, none, 0, 0⟩ -> Below W1.heap.size W1 W2 -> TreeS W3 (fun k => Wc.heap.size <= k /\ k < W3.heap.size) (listJ (d.gone.map textJ)) ⟨5, 0, ⟨#[]⟩, p3, n3, c3, none, 0, 0⟩ -> Below W2.heap.size W2 W3 -> Below W3.heap.size W3 W ->
        Calls Tryz.prog 34 #[.slice (some ⟨W.heap.size, 0, none⟩) 7 7] (W.alloc (.cells #[.string ⟨#[97, 99, 99, 111, 117, 110, 116, 73, 100]⟩, .int .i64 4, .int .i64 0, .string ra.id, .slice none 0 0, .slice none 0 0, .string ⟨#[111, 108, 100, 83, 116, 97, 116, 101]⟩, .int .i64 r1k, .int .i64 r1n, .string r1s, .slice r1pl r1nl r1cl, .slice r1pm r1nm r1cm, .string ⟨#[110, 101, 119, 83, 116, 97, 116, 101]⟩, .int .i64 4, .int .i64 0, .string stx, .slice none 0 0, .slice none 0 0, .string ⟨#[104, 97, 115, 77, 111, 114, 101, 67, 104, 97, 110, 103, 101, 115]⟩, .int .i64 2, .int .i64 mi, .string ⟨#[]⟩, .slice none 0 0, .slice none 0 0, .string ⟨#[99, 114, 101, 97, 116, 101, 100]⟩, .int .i64 5, .int .i64 0, .string ⟨#[]⟩, .slice p1 n1 c1, .slice none 0 0, .string ⟨#[117, 112, 100, 97, 116, 101, 100]⟩, .int .i64 5, .int .i64 0, .string ⟨#[]⟩, .slice p2 n2 c2, .slice none 0 0, .string ⟨#[100, 101, 115, 116, 114, 111, 121, 101, 100]⟩, .int .i64 5, .int .i64 0, .string ⟨#[]⟩, .slice p3 n3 c3, .slice none 0 0] 81)) fun e w' => ∃ p6 n6 c6, e = .returned (.agg #[.int .i64 6, .int .i64 0, .string ⟨#[]⟩, .slice none 0 0, .slice p6 n6 c6]) /\ TreeS w' (fun k => k < w'.heap.size /\ (k < B \/ Wc.heap.size <= k)) (chgJ a.id cd (argS t) d) ⟨6, 0, ⟨#[]⟩, none, 0, 0, p6, n6, c6⟩ /\ Below Wc.heap.size Wc w') := fun W W1 W2 W3 p1 n1 c1 p2 n2 c2 p3 n3 c3 h1 b1 h2 b2 h3 b3 b4 =>
        (object_any [⟨accIdN, textR ra.id⟩, ⟨oldN, ⟨r1k, r1n, r1s, r1pl, r1nl, r1cl, r1pm, r1nm, r1cm⟩⟩, ⟨newN, textR stx⟩, ⟨moreN, ⟨2, mi, ⟨#[]⟩, none, 0, 0, none, 0, 0⟩⟩, ⟨madeN, ⟨5, 0, ⟨#[]⟩, p1, n1, c1, none, 0, 0⟩⟩, ⟨chgdN, ⟨5, 0, ⟨#[]⟩, p2, n2, c2, none, 0, 0⟩⟩, ⟨goneN, ⟨5, 0, ⟨#[]⟩, p3, n3, c3, none, 0, 0⟩⟩] _ 7 7 _ (Rd.block (xs := [⟨accIdN, textR ra.id⟩, ⟨oldN, ⟨r1k, r1n, r1s, r1pl, r1nl, r1cl, r1pm, r1nm, r1cm⟩⟩, ⟨newN, textR stx⟩, ⟨moreN, ⟨2, mi, ⟨#[]⟩, none, 0, 0, none, 0, 0⟩⟩, ⟨madeN, ⟨5, 0, ⟨#[]⟩, p1, n1, c1, none, 0, 0⟩⟩, ⟨chgdN, ⟨5, 0, ⟨#[]⟩, p2, n2, c2, none, 0, 0⟩⟩, ⟨goneN, ⟨5, 0, ⟨#[]⟩, p3, n3, c3, none, 0, 0⟩⟩]) codecM (heap_alloc_new _ _) rfl (by simp) (show 7 <= maxLen by decide)) (by simp)).mono (fun e w' h => by
         obtain ⟨p6, n6, c6, he, ho, hb6⟩ := h
         have hb4z : Below W3.heap.size W3 w' := (b4.alloc b4.size _).trans (hb6.mono (by have := b4.size; simp; omega))
         have hb3z : Below W2.heap.size W2 w' := b3.trans (hb4z.mono b3.size)
         have hb2z : Below W1.heap.size W1 w' := b2.trans (hb3z.mono b2.size)
         have hbw : Below Wc.heap.size Wc w' := b1.trans (hb2z.mono b1.size)
         have z1 := b1.size
         have z2 := hb2z.size
         have z3 := hb3z.size
         have z4 := hb4z.size
         have z5 := b4.size
         have z6 := b2.size
         have z7 := b3.size
         refine ⟨p6, n6, c6, he, ?_, hbw⟩
         unfold chgJ truthJ
         rw [HEQ.out.1, HEQ.out.2.1, HEQ.out.2.2.1, HEQ.out.2.2.2.1, HEQ.out.2.2.2.2]
         refine seven_tree ho (fun k h1 h2 => ⟨h2, .inr (by simp at h1; omega)⟩) (textR_of _ _ _) ?_ (textR_of _ _ _) (TreeS.leaf _ _ 2 mi ⟨#[]⟩) ?_ ?_ ?_
         ·exact ((HTC.out.under (hbw.mono (by omega)) (Nat.le_refl _)).treeS).mono (fun k e => ⟨by omega, .inl e⟩)
         ·exact (h1.same (fun k e => hb2z.block k e.2)).mono (fun k e => ⟨by have := e.2; omega, .inr (by have := e.1; omega)⟩)
         ·exact (h2.same (fun k e => hb3z.block k e.2)).mono (fun k e => ⟨by have := e.2; omega, .inr (by have := e.1; omega)⟩)
         ·exact (h3.same (fun k e => hb4z.block k e.2)).mono (fun k e => ⟨by have := e.2; omega, .inr (by have := e.1; omega)⟩))
       have HS7 : Hid (∀ W, Below Wc.heap.size Wc W -> (fun w' : World => w'.cell? ⟨w.heap.size, 0, none⟩ = some (.string ra.id) /\ w'.cell? ⟨gl, 5, none⟩ = some (.int .i64 r1k) /\ w'.cell? ⟨gl, 6, none⟩ = some (.int .i64 r1n) /\ w'.cell? ⟨gl, 7, none⟩ = some (.string r1s) /\ w'.cell? ⟨gl, 8, none⟩ = some (.slice r1pl r1nl r1cl) /\ w'.cell? ⟨gl, 9, none⟩ = some (.slice r1pm r1nm r1cm) /\ w'.cell? ⟨g, 0, none⟩ = some (.slice pa na ca) /\ w'.cell? ⟨g, 1, none⟩ = some (.slice pb nb cb) /\ w'.cell? ⟨g, 2, none⟩ = some (.slice pc nc cc) /\ w'.cell? ⟨g, 3, none⟩ = some (.int .i64 tn) /\ w'.cell? ⟨g, 4, none⟩ = some (.bool mr)) W) := fun W hb => ⟨bcs hb hwc s0, bcs hb hglc s1, bcs hb hglc s2, bcs hb hglc s3, bcs hb hglc s4, bcs hb hglc s5, bcs hb hgc s6, bcs hb hgc s7, bcs hb hgc s8, bcs hb hgc s9, bcs hb hgc s10⟩
       have HS7S : Hid (∀ W (q : RV), Below Wc.heap.size Wc W -> (fun w' : World => w'.cell? ⟨w.heap.size, 0, none⟩ = some (.string ra.id) /\ w'.cell? ⟨gl, 5, none⟩ = some (.int .i64 r1k) /\ w'.cell? ⟨gl, 6, none⟩ = some (.int .i64 r1n) /\ w'.cell? ⟨gl, 7, none⟩ = some (.string r1s) /\ w'.cell? ⟨gl, 8, none⟩ = some (.slice r1pl r1nl r1cl) /\ w'.cell? ⟨gl, 9, none⟩ = some (.slice r1pm r1nm r1cm) /\ w'.cell? ⟨g, 0, none⟩ = some (.slice pa na ca) /\ w'.cell? ⟨g, 1, none⟩ = some (.slice pb nb cb) /\ w'.cell? ⟨g, 2, none⟩ = some (.slice pc nc cc) /\ w'.cell? ⟨g, 3, none⟩ = some (.int .i64 tn) /\ w'.cell? ⟨g, 4, none⟩ = some (.bool mr)) (((((W.setCell ⟨(w.heap.size + 1 + 1), 0, none⟩ (.int .i64 q.k)).setCell ⟨(w.heap.size + 1 + 1), 1, none⟩ (.int .i64 q.n)).setCell ⟨(w.heap.size + 1 + 1), 2, none⟩ (.string q.s)).setCell ⟨(w.heap.size + 1 + 1), 3, none⟩ (.slice q.pl q.nl q.cl)).setCell ⟨(w.heap.size + 1 + 1), 4, none⟩ (.slice q.pm q.nm q.cm))) := fun W q hb => by
        have key : ∀ b o' v, b ≠ w.heap.size + 1 + 1 -> W.cell? ⟨b, o', none⟩ = some v -> (((((W.setCell ⟨(w.heap.size + 1 + 1), 0, none⟩ (.int .i64 q.k)).setCell ⟨(w.heap.size + 1 + 1), 1, none⟩ (.int .i64 q.n)).setCell ⟨(w.heap.size + 1 + 1), 2, none⟩ (.string q.s)).setCell ⟨(w.heap.size + 1 + 1), 3, none⟩ (.slice q.pl q.nl q.cl)).setCell ⟨(w.heap.size + 1 + 1), 4, none⟩ (.slice q.pm q.nm q.cm)).cell? ⟨b, o', none⟩ = some v := fun b o' v hne h =>
         (World.cell?_of_block (a := ⟨b, o', none⟩) ((grownBy_set5 W (w.heap.size + 1 + 1) q).block b (cell_some h).2 (fun e => hne (by injection e)))).trans h
        obtain ⟨t0, t1, t2, t3, t4, t5, t6, t7, t8, t9, t10⟩ := HS7.out W hb
        exact ⟨key _ _ _ (by omega) t0, key _ _ _ (by omega) t1, key _ _ _ (by omega) t2, key _ _ _ (by omega) t3, key _ _ _ (by omega) t4, key _ _ _ (by omega) t5, key _ _ _ (by omega) t6, key _ _ _ (by omega) t7, key _ _ _ (by omega) t8, key _ _ _ (by omega) t9, key _ _ _ (by omega) t10⟩
       have hk0 := KB.drew Wc
       clear hch l1 l2 l3 hwt htn hmr hmi hstx HX HST HCO HTC HER HEQ HL
       go_upto_region 10 with fail
       go_region_held3 (fun w' => w'.cell? ⟨w.heap.size, 0, none⟩ = some (.string ra.id) /\ w'.cell? ⟨gl, 5, none⟩ = some (.int .i64 r1k) /\ w'.cell? ⟨gl, 6, none⟩ = some (.int .i64 r1n) /\ w'.cell? ⟨gl, 7, none⟩ = some (.string r1s) /\ w'.cell? ⟨gl, 8, none⟩ = some (.slice r1pl r1nl r1cl) /\ w'.cell? ⟨gl, 9, none⟩ = some (.slice r1pm r1nm r1cm) /\ w'.cell? ⟨g, 0, none⟩ = some (.slice pa na ca) /\ w'.cell? ⟨g, 1, none⟩ = some (.slice pb nb cb) /\ w'.cell? ⟨g, 2, none⟩ = some (.slice pc nc cc) /\ w'.cell? ⟨g, 3, none⟩ = some (.int .i64 tn) /\ w'.cell? ⟨g, 4, none⟩ = some (.bool mr))
        (first | with_reducible exact HS7.out _ (kb1 hk0) | with_reducible exact HS7.out _ hbo | with_reducible exact HS7S.out _ ⟨6, 0, ⟨#[]⟩, none, 0, 0, p6, n6, c6⟩ hbo | with_reducible exact HS7.out _ (kb1 hbk) | with_reducible exact HS7.out _ ((kb1 hbk).alloc (kb1 hbk).size _))
        (first
         | (go_at_call 36; (with_reducible refine (C1.out _).mono ?_); rintro e w21 ⟨rfl, hb21⟩; (have hbk := KB.step (W := Wc) (by assumption) hb21))
         | (go_at_call 36; (with_reducible refine (C2.out _).mono ?_); rintro e w25 ⟨rfl, hb25⟩; (have hbk := KB.step (W := Wc) (by assumption) hb25))
         | (go_at_call 13; (with_reducible refine (HST2.out _).mono ?_); rintro e w24 ⟨rfl, hb24⟩; (have hbk := KB.step (W := Wc) (by assumption) hb24))
         | (go_at_call 37; (with_reducible refine (C6.out _).mono ?_); rintro e w27 ⟨rfl, hb27⟩; (have hbk := KB.step (W := Wc) (by assumption) hb27))
         | (go_at_call 35; (with_reducible refine (C3.out _).mono ?_); rintro e w22 ⟨rfl, hb22⟩; (have hbk := KB.step (W := Wc) (by assumption) hb22))
         | (go_at_call 35; (with_reducible refine (C4.out _).mono ?_); rintro e w23 ⟨rfl, hb23⟩; (have hbk := KB.step (W := Wc) (by assumption) hb23))
         | (go_at_call 35; (with_reducible refine (C5.out _).mono ?_); rintro e w26 ⟨rfl, hb26⟩; (have hbk := KB.step (W := Wc) (by assumption) hb26))
         | (go_at_call 35; (with_reducible refine (C7.out _).mono ?_); rintro e w28 ⟨rfl, hb28⟩; (have hbk := KB.step (W := Wc) (by assumption) hb28))
         | (go_at_call 38; (with_reducible refine (L1.out _ (kb1 hbk)).mono ?_); rintro e w31 ⟨p1, n1, c1, rfl, hT31, hb31⟩; (have hbk := KB.step (W := Wc) (by assumption) hb31); (have hbk31 := (kb1 hbk)))
         | (go_at_call 38; (with_reducible refine (L2.out _ (kb1 hbk)).mono ?_); rintro e w33 ⟨p2, n2, c2, rfl, hT33, hb33⟩; (have hbk := KB.step (W := Wc) (by assumption) hb33))
         | (go_at_call 38; (with_reducible refine (L3.out _ (kb1 hbk)).mono ?_); rintro e w35 ⟨p3, n3, c3, rfl, hT35, hb35⟩; (have hbk := KB.step (W := Wc) (by assumption) hb35))
         | (go_at_call 35; (with_reducible refine (M3.out _ p3 n3 c3).mono ?_); rintro e w36 ⟨rfl, hb36⟩; (have hbk := KB.step (W := Wc) (by assumption) hb36))
         | (go_at_call 35; (with_reducible refine (M2.out _ p2 n2 c2).mono ?_); rintro e w34 ⟨rfl, hb34⟩; (have hbk := KB.step (W := Wc) (by assumption) hb34))
         | (go_at_call 35; (with_reducible refine (M1.out _ p1 n1 c1).mono ?_); rintro e w32 ⟨rfl, hb32⟩; (have hbk := KB.step (W := Wc) (by assumption) hb32))
         | (go_at_call 34; (with_reducible refine (C10.out w36 w31 w33 w35 p1 n1 c1 p2 n2 c2 p3 n3 c3 hT31 hbk31 hT33 (hb32.trans (hb33.mono hb32.size)) hT35 (hb34.trans (hb35.mono hb34.size)) hb36).mono ?_); rintro e w37 ⟨p6, n6, c6, rfl, hT37, hbo⟩; (have hzo := HZC.out.under hbo (by omega)); (obtain ⟨z0, z1, z2, z3, z4⟩ := hzo.cells5); (have y0 := hzo.frozen 0); (have y1 := hzo.frozen 1); (have y2 := hzo.frozen 2); (have y3 := hzo.frozen 3); (have y4 := hzo.frozen 4); dsimp only [RV.zero] at z0 z1 z2 z3 z4)
         | fail)
       go_wp2_with fail
       refine bodyPost_ret (v := .tuple #[RV.val ⟨6, 0, ⟨#[]⟩, none, 0, 0, p6, n6, c6⟩, .string ⟨#[]⟩]) (by simp [results, Tryz.results7, go_sem, z0, z1, z2, z3, z4]) rfl (ChgRetS.ok HAR.out HCO2.out ?_ (Below.stored (HBWC.out.trans (hbo.mono HBWC.out.size)) (by omega) ⟨6, 0, ⟨#[]⟩, none, 0, 0, p6, n6, c6⟩))
       have hgs := grownBy_set5 w37 (w.heap.size + 1 + 1) ⟨6, 0, ⟨#[]⟩, none, 0, 0, p6, n6, c6⟩
       exact (hT37.same (fun k e => hgs.block k e.1 (fun e2 => by injection e2 with e2; rcases e.2 with h | h <;> omega))).mono (fun k e => ⟨Nat.lt_of_lt_of_le e.1 hgs.size, e.2.imp id (fun h => by omega)⟩)
end
end Go.Proofs.YtfgjimpmpckgpaaGreatDoor
