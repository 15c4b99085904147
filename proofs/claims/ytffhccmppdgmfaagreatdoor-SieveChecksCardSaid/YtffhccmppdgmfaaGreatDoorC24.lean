import Derived.Test.YtffhccmppdgmfaaGreatDoorC23
set_option linter.unusedSimpArgs false
set_option linter.unusedVariables false
set_option maxRecDepth 200000
set_option maxHeartbeats 8000000
namespace Go.Proofs.YtffhccmppdgmfaaGreatDoor
section
open Go Go.RowKit Go.OpenShut
theorem getD_ok {t : JV} {n : ByteArray} (h : t.Ok) : ((t.get n).getD JV.zero).Ok := by
 cases hx : t.get n with
 | none => exact .mk (by decide) (by decide) (by decide) (by decide) (by decide) (fun i x h => by simp at h) (fun i p h => by simp at h) (fun i p h => by simp at h)
 | some x => exact h.get hx
theorem condsL_ok {t : JV} (h : t.Ok) : (condsL t).length <= 1759218604390 /\ ∀ (i : Nat) x, (condsL t)[i]? = some x -> x.Ok := by
 have := getD_ok (n := svConds) h
 unfold condsL
 generalize (t.get svConds).getD JV.zero = z at this
 cases this with
 | mk _ _ _ b _ c _ _ => exact ⟨b, c⟩
theorem m_ok {t : JV} (h : t.Ok) : t.m.length <= 1466015503658 /\ (∀ (i : Nat) p, t.m[i]? = some p -> p.1.size <= 140737488351232) /\ ∀ (i : Nat) p, t.m[i]? = some p -> p.2.Ok := by
 cases h with
 | mk _ _ _ _ b _ c d => exact ⟨b, c, d⟩
theorem Ok_s {t : JV} (h : t.Ok) : t.s.size <= maxLen := by
 have := h.s_le.1
 unfold maxLen
 omega
theorem opr_any (t : JV) (r : RV) (w : World) (B : Nat) (hBw : B <= w.heap.size) (ht : TreeOf w B t r) (ot : t.Ok) :
 Calls Tryz.prog 88 #[r.val] w fun e w' => ∃ v, e = .returned (.tuple #[.string ((t.get svOper).getD JV.zero).s, v, .bool (opOk t)]) /\ TlOf w' B v (condsL t) /\ Below w.heap.size w w' := by
 obtain ⟨W0, hW0⟩ : ∃ W0, w.alloc r.obj = W0 := ⟨_, rfl⟩
 have hA0 : VAt W0 w.heap.size r := by rw [<- hW0]; exact heap_alloc_at rfl
 have hB0 : Below w.heap.size w W0 := by rw [<- hW0]; exact (Below.refl _ _).alloc (Nat.le_refl _) _
 have hw0 := hB0.size
 have hBw0 : B <= W0.heap.size := Nat.le_trans hBw hw0
 have HTR : Hid (∀ W, Below W0.heap.size W0 W -> TreeOf W B t r) := fun W hW => (ht.under (hB0.mono hBw) (Nat.le_refl _)).under (hW.mono hBw0) (Nat.le_refl _)
 have HC : Hid (Calls Tryz.prog 15 #[r.val, .string svOper] W0 (GetRetB W0 B (t.get svOper))) := getB_any t r svOper W0 B hBw0 (HTR.out W0 (Below.refl _ _)) ot
 have HD : Hid (∀ W, Below W0.heap.size W0 W -> Calls Tryz.prog 15 #[r.val, .string svConds] W (GetRetB W B (t.get svConds))) := fun W hW => getB_any t r svConds W B (Nat.le_trans hBw0 hW.size) (HTR.out W hW) ot
 have hml : t.m.length = r.nm := by
  obtain ⟨rms, h1, h2, _⟩ := ht.ml
  have := rd_nlen h1
  omega
 have HOP : Hid (opOk t = (decide (r.nm = 2) && (decide (((t.get svOper).getD JV.zero).k = 4) && ((decide (((t.get svOper).getD JV.zero).s = svAnd) || (decide (((t.get svOper).getD JV.zero).s = svOr) || decide (((t.get svOper).getD JV.zero).s = svNot))) && decide (((t.get svConds).getD JV.zero).k = 5))))) := by
  unfold Hid opOk
  rw [hml]
 have HCL : Hid (condsL t = ((t.get svConds).getD JV.zero).l) := rfl
 obtain ⟨OK, hOK⟩ : ∃ b, opOk t = b := ⟨_, rfl⟩
 obtain ⟨CL, hCL⟩ : ∃ b, condsL t = b := ⟨_, rfl⟩
 rw [hOK] at HOP
 rw [hCL] at HCL
 rw [hOK, hCL]
 obtain ⟨X, hX⟩ : ∃ X, t.get svOper = X := ⟨_, rfl⟩
 obtain ⟨Y, hY⟩ : ∃ X, t.get svConds = X := ⟨_, rfl⟩
 rw [hX] at HC HOP
 rw [hY] at HD HOP HCL
 rw [hX]
 unfold svOper at HC
 unfold svConds at HD
 obtain ⟨k, n, s, pl, nl, cl, pm, nm, cm⟩ := r
 dsimp only [RV.val, RV.obj] at *
 have HB0 := Lib.hid hB0
 clear hB0 ht ot hOK hCL hX hY hml
 go_enter Tryz.func88, Tryz.ntmps88
 go_upto_region 1 with fail
 try rw [hW0]
 clear hW0
 obtain ⟨a0, a1, a2, a3, a4⟩ := hA0.cells5
 have hz0 := hA0.lt
 clear hA0
 go_upto_region 2 with (go_at_call 15; refine HC.out.mono ?_; rintro e w1 ⟨rv, bb, rfl, hbb, ht1, hb1⟩; obtain ⟨rk, rn, rS, rpl, rnl, rcl, rpm, rnm, rcm⟩ := rv)
 have hxx := ht1.kk
 dsimp only at hxx
 have hb2 : Below W0.heap.size W0 (w1.alloc (.cells #[.int .i64 rk, .int .i64 rn, .string rS, .slice rpl rnl rcl, .slice rpm rnm rcm] 25)) := hb1.alloc hb1.size _
 have hv2 : VAt (w1.alloc (.cells #[.int .i64 rk, .int .i64 rn, .string rS, .slice rpl rnl rcl, .slice rpm rnm rcm] 25)) w1.heap.size ⟨rk, rn, rS, rpl, rnl, rcl, rpm, rnm, rcm⟩ := heap_alloc_at rfl
 obtain ⟨g, hg⟩ : ∃ g, w1.heap.size = g := ⟨_, rfl⟩
 obtain ⟨W2, hW2⟩ : ∃ W, w1.alloc (.cells #[.int .i64 rk, .int .i64 rn, .string rS, .slice rpl rnl rcl, .slice rpm rnm rcm] 25) = W := ⟨_, rfl⟩
 rw [hW2] at hb2 hv2
 rw [hg] at hv2
 try rw [hW2]
 try rw [hg]
 have b0 := bcs hb2 hz0 a0
 have b1 := bcs hb2 hz0 a1
 have b2 := bcs hb2 hz0 a2
 have b3 := bcs hb2 hz0 a3
 have b4 := bcs hb2 hz0 a4
 have HB2 := Lib.hid hb2
 have HV2 := Lib.hid hv2
 have HXX := Lib.hid hxx
 have hz2 := Nat.lt_of_lt_of_le hz0 hb2.size
 have HDC := Lib.hid (HD.out W2 hb2)
 clear hW2 hg hb1 ht1 hb2 hv2 hxx a0 a1 a2 a3 a4 hbb HD HC
 go_upto_region 3 with (go_at_call 15; refine HDC.out.mono ?_; rintro e w3 ⟨rv, b3', rfl, hbb, ht1, hb1⟩; obtain ⟨qk, qn, qS, qpl, qnl, qcl, qpm, qnm, qcm⟩ := rv)
 have hyy := ht1.kk
 dsimp only at hyy
 have hb3 : Below W2.heap.size W2 (w3.alloc (.cells #[.int .i64 qk, .int .i64 qn, .string qS, .slice qpl qnl qcl, .slice qpm qnm qcm] 25)) := hb1.alloc hb1.size _
 have hv3 : VAt (w3.alloc (.cells #[.int .i64 qk, .int .i64 qn, .string qS, .slice qpl qnl qcl, .slice qpm qnm qcm] 25)) w3.heap.size ⟨qk, qn, qS, qpl, qnl, qcl, qpm, qnm, qcm⟩ := heap_alloc_at rfl
 have ht3 := (ht1.tl).under ((Below.refl B w3).alloc (Nat.le_trans (Nat.le_trans hBw0 HB2.out.size) hb1.size) (.cells #[.int .i64 qk, .int .i64 qn, .string qS, .slice qpl qnl qcl, .slice qpm qnm qcm] 25)) (Nat.le_refl _)
 have hv23 := HV2.out.under hb3 HV2.out.lt
 dsimp only at ht3
 obtain ⟨g3, hg3⟩ : ∃ g, w3.heap.size = g := ⟨_, rfl⟩
 obtain ⟨W3, hW3⟩ : ∃ W, w3.alloc (.cells #[.int .i64 qk, .int .i64 qn, .string qS, .slice qpl qnl qcl, .slice qpm qnm qcm] 25) = W := ⟨_, rfl⟩
 rw [hW3] at hb3 hv3 ht3 hv23
 rw [hg3] at hv3
 try rw [hW3]
 try rw [hg3]
 have c4 := bcs hb3 hz2 b4
 have x0 := hv23.cell 0 rfl
 have x2 := hv23.cell 2 rfl
 have y0 := hv3.cell 0 rfl
 have y3 := hv3.cell 3 rfl
 dsimp only at x0 x2 y0 y3
 have HB3 : Hid (Below w.heap.size w W3) := HB0.out.trans ((HB2.out.trans (hb3.mono HB2.out.size)).mono hw0)
 have HYY := Lib.hid hyy
 have HTL : Hid (TlOf W3 B (.slice qpl qnl qcl) CL) := by
  unfold Hid
  rw [HCL.out]
  exact ht3
 clear hW3 hg3 hb1 ht1 hb3 hv3 ht3 hv23 hyy b0 b1 b2 b3 b4 hbb HDC hz2 hz0
 have HO2 : Hid (OK = (decide (nm = 2) && (decide (rk = 4) && ((decide (rS = svAnd) || (decide (rS = svOr) || decide (rS = svNot))) && decide (qk = 5))))) := by
  unfold Hid
  rw [HOP.out, HXX.out.1, HXX.out.2, HYY.out.1]
 clear HOP HYY
 have nm0 : (0 : Int) <= (nm : Int) := Int.natCast_nonneg _
 obtain ⟨e1, h1⟩ : ∃ b, (rS.toList == [65, 78, 68]) = b := ⟨_, rfl⟩
 obtain ⟨e2, h2⟩ : ∃ b, (rS.toList == [79, 82]) = b := ⟨_, rfl⟩
 obtain ⟨e3, h3⟩ : ∃ b, (rS.toList == [78, 79, 84]) = b := ⟨_, rfl⟩
 obtain ⟨b2, g2⟩ : ∃ b, decide (nm = 2) = b := ⟨_, rfl⟩
 obtain ⟨b4, g4⟩ : ∃ b, decide (rk = 4) = b := ⟨_, rfl⟩
 obtain ⟨b5, g5⟩ : ∃ b, decide (qk = 5) = b := ⟨_, rfl⟩
 have HO3 : Hid (OK = (b2 && (b4 && ((e1 || (e2 || e3)) && b5)))) := by
  unfold Hid
  rw [HO2.out, g2, g4, g5, <- h1, <- h2, <- h3, <- bytes_dec, <- bytes_dec, <- bytes_dec]
  rfl
 have q2 : ((nm : Int) == 2) = b2 := by rw [<- g2, Bool.eq_iff_iff]; simp; omega
 have q2' : (nm == 2) = b2 := by rw [<- g2]; rfl
 have q4 : (rk == 4) = b4 := by rw [<- g4]; rfl
 have q5 : (qk == 5) = b5 := by rw [<- g5]; rfl
 clear g2 g4 g5 HO2
 go_cut [9] from 20 to 48 (fun v wx => v = .bool OK /\ W3 = wx)
 case first =>
  cases b2 <;> cases b4 <;> cases b5 <;> cases e1 <;> cases e2 <;> cases e3
  all_goals
   go_wp2_with fail
   go_meet
   exact ⟨by rw [HO3.out]; rfl, rfl⟩
 case rest =>
 obtain ⟨rfl, rfl⟩ := hcut
 clear h1 h2 h3 q2 q2' q4 q5
 go_upto_region 4 with fail
 go_region
 all_goals go_wp2_with fail
 all_goals
  rw [<- HXX.out.2]
  refine bodyPost_ret (v := .tuple #[.string rS, .slice qpl qnl qcl, .bool OK]) (by simp [results, Tryz.results88, go_sem]) rfl ⟨_, rfl, ?_, ?_⟩
 all_goals first
  | exact HTL.out
  | exact HB3.out
  | exact HTL.out.under ((Below.refl _ _).drew) (Nat.le_refl _)
  | exact HB3.out.drew
end
end Go.Proofs.YtffhccmppdgmfaaGreatDoor
