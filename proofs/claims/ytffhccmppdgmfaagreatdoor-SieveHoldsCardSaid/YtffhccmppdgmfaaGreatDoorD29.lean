import Derived.Test.YtffhccmppdgmfaaGreatDoorD18
import Derived.Test.YtffhccmppdgmfaaGreatDoorD23
import Derived.Test.YtffhccmppdgmfaaGreatDoorD24
import Derived.Test.YtffhccmppdgmfaaGreatDoorD20
import Derived.Test.YtffhccmppdgmfaaGreatDoorD28
import Derived.StillTailTactics
set_option linter.unusedSimpArgs false
set_option linter.unusedVariables false
set_option maxRecDepth 200000
set_option maxHeartbeats 8000000
namespace Go.Proofs.YtffhccmppdgmfaaGreatDoor
section
open Go Go.RowKit Go.OpenShut
theorem secRet_form (o : Option Int) : ∃ n : Int, secRet o = .tuple #[.int .i64 n, .bool o.isSome] := by
 cases o with
 | none => exact ⟨0, rfl⟩
 | some n => exact ⟨n, rfl⟩
theorem c30_iff {c n : Nat} (h3 : c <= n) (h4 : c <= 30 -> c = n) : 30 < c ↔ 30 < n := by
 by_cases hc : c <= 30
 ·have := h4 hc
  omega
 ·omega
theorem sortN_few (n : ByteArray) : sortN n = 0 \/ sortN n = 1 \/ sortN n = 2 \/ sortN n = 3 \/ sortN n = 4 := by
 unfold sortN
 repeat' split
 all_goals decide
theorem condE_sort (n : ByteArray) (x : JV) : condE n x = if sortN n = 0 then 200 else if (decide (x.k = 4) && (decide (x.s.size <= 255) && ((!decide (sortN n = 1) || decide (x.s.size <= 64)) && ((!decide (sortN n = 2) || idB x.s) && (!decide (sortN n = 3) || (secF x.s.data.toList).isSome))))) then 0 else 1 := by
 unfold condE
 rw [rightC_sort]
 cases h : (askB n || isFieldB n) with
 | true => rw [if_pos rfl, if_neg (sortN_pos h)]
 | false => rw [if_neg (by decide), if_pos (sortN_zero h)]
theorem rchk_any (N : Nat) : ∀ (t : JV) (r : RV) (w : World) (B : Nat), SizeOf.sizeOf t <= N -> B <= w.heap.size -> TreeOf w B t r -> t.Ok ->
 Calls Tryz.prog 51 #[r.val] w fun e w' => e = .returned (.int .i64 (chkF t)) /\ Below w.heap.size w w' := by
 induction N with
 | zero => intro t r w B hN; cases t; simp at hN
 | succ N ih =>
   intro t r w B hN hBw ht ot
   obtain ⟨W0, hW0⟩ : ∃ W0, w.alloc r.obj = W0 := ⟨_, rfl⟩
   have hA0 : VAt W0 w.heap.size r := by rw [<- hW0]; exact heap_alloc_at rfl
   have hB0 : Below w.heap.size w W0 := by rw [<- hW0]; exact (Below.refl _ _).alloc (Nat.le_refl _) _
   have hw0 := hB0.size
   have hBw0 : B <= W0.heap.size := Nat.le_trans hBw hw0
   have HTR : Hid (∀ W, Below W0.heap.size W0 W -> TreeOf W B t r) := fun W hW => (ht.under (hB0.mono hBw) (Nat.le_refl _)).under (hW.mono hBw0) (Nat.le_refl _)
   have HC : Hid (Calls Tryz.prog 61 #[r.val, .string svOper] W0 (GetRetB W0 B (t.get svOper))) := refGetB_any t r svOper W0 B hBw0 (HTR.out W0 (Below.refl _ _)) ot
   have HD : Hid (∀ W, Below W0.heap.size W0 W -> Calls Tryz.prog 61 #[r.val, .string svConds] W (GetRetB W B (t.get svConds))) := fun W hW => refGetB_any t r svConds W B (Nat.le_trans hBw0 hW.size) (HTR.out W hW) ot
   have HIH : Hid (∀ (i : Nat) x (q : RV) (W : World), (condsL t)[i]? = some x -> Below W0.heap.size W0 W -> TreeOf W B x q -> Calls Tryz.prog 51 #[q.val] W fun e w' => e = .returned (.int .i64 (chkF x)) /\ Below W.heap.size W w') := fun i x q W hx hW hq => ih x q W B (by have := condsL_lt (List.mem_of_getElem? hx); omega) (Nat.le_trans hBw0 hW.size) hq ((condsL_ok ot).2 i x hx)
   obtain ⟨rms, hm, hml, hmt⟩ := ht.ml
   have hmo := m_ok ot
   have hrl : rms.length = r.nm := (rd_nlen hm).symm
   have HCM : Hid (∀ (i : Nat) p (q : RM), t.m[i]? = some p -> rms[i]? = some q -> p.1 = q.name /\ p.2.k = q.v.k /\ p.2.s = q.v.s /\ q.v.s.size <= maxLen) := fun i p q hp hq => by
    obtain ⟨h1, h2⟩ := hmt i p q hp hq
    have h3 := h2.kk
    exact ⟨h1, h3.1.symm, h3.2.symm, by rw [h3.2]; exact Ok_s (hmo.2.2 i p hp)⟩
   have HRD : Hid (Rd W0 B encM 6 (.slice r.pm r.nm r.cm) rms) := hm.below (hB0.mono hBw) (Nat.le_refl _)
   have HCF := Lib.hid (chkF_eq t)
   have HKK := Lib.hid ht.kk.1
   have HCO := Lib.hid (condsL_ok ot).1
   have hml2 : t.m.length = r.nm := by omega
   have HOP : Hid (opOk t = (decide (r.nm = 2) && (decide (((t.get svOper).getD JV.zero).k = 4) && ((decide (((t.get svOper).getD JV.zero).s = svAnd) || (decide (((t.get svOper).getD JV.zero).s = svOr) || decide (((t.get svOper).getD JV.zero).s = svNot))) && decide (((t.get svConds).getD JV.zero).k = 5))))) := by
    unfold Hid opOk
    rw [hml2]
   have HCL : Hid (condsL t = ((t.get svConds).getD JV.zero).l) := rfl
   obtain ⟨E, hE⟩ : ∃ E, chkF t = E := ⟨_, rfl⟩
   obtain ⟨X, hX⟩ : ∃ X, t.get svOper = X := ⟨_, rfl⟩
   obtain ⟨Y, hY⟩ : ∃ X, t.get svConds = X := ⟨_, rfl⟩
   obtain ⟨OK, hOK⟩ : ∃ b, opOk t = b := ⟨_, rfl⟩
   obtain ⟨CL, hCL⟩ : ∃ b, condsL t = b := ⟨_, rfl⟩
   obtain ⟨M, hM⟩ : ∃ b, t.m = b := ⟨_, rfl⟩
   obtain ⟨TK, hTK⟩ : ∃ b, t.k = b := ⟨_, rfl⟩
   rw [hE, hX, hOK, hCL, hM, hTK] at HCF
   rw [hE]
   rw [hX] at HC HOP
   rw [hY] at HD HOP HCL
   rw [hOK] at HOP
   rw [hCL] at HIH HCO HCL
   rw [hM] at HCM hml hmo
   rw [hTK] at HKK
   unfold svOper at HC
   unfold svConds at HD
   have hno : r.nm <= 1466015503658 := by have := hmo.1; omega
   have HN : Hid (M.length = r.nm) := by unfold Hid; omega
   obtain ⟨k, n, s, pl, nl, cl, pm, nm, cm⟩ := r
   dsimp only [RV.val, RV.obj] at *
   have HB0 := Lib.hid hB0
   have HRL := Lib.hid hrl
   clear hB0 ht ot hE hX hY hOK hCL hM hTK hm hml hml2 hmt hmo ih hrl hN
   go_enter Tryz.func51, Tryz.ntmps51
   go_upto_region 1 with fail
   try rw [hW0]
   clear hW0
   obtain ⟨a0, a1, a2, a3, a4⟩ := hA0.cells5
   have hz0 := hA0.lt
   clear hA0
   by_cases hk6 : k = 6
   ·have HCF2 : Hid (E = if X.isSome = true then (if OK = true then chkFL CL else 1) else condsE M) := by
     unfold Hid
     rw [HCF.out, <- HKK.out, if_pos hk6]
    subst hk6
    clear HCF HKK
    go_upto_region 4 with (go_at_call 61; refine HC.out.mono ?_; rintro e w1 ⟨rv, bb, rfl, hbb, ht1, hb1⟩; (have HBB := Lib.hid hbb); clear hbb; obtain ⟨rk, rn, rS, rpl, rnl, rcl, rpm, rnm, rcm⟩ := rv)
    have hxx := ht1.kk
    dsimp only at hxx
    have hb2 : Below W0.heap.size W0 (w1.alloc (.cells #[.int .i64 rk, .int .i64 rn, .string rS, .slice rpl rnl rcl, .slice rpm rnm rcm] 25)) := hb1.alloc hb1.size _
    have hv2 : VAt (w1.alloc (.cells #[.int .i64 rk, .int .i64 rn, .string rS, .slice rpl rnl rcl, .slice rpm rnm rcm] 25)) w1.heap.size ⟨rk, rn, rS, rpl, rnl, rcl, rpm, rnm, rcm⟩ := heap_alloc_at rfl
    obtain ⟨g, hg⟩ : ∃ g, w1.heap.size = g := ⟨_, rfl⟩
    obtain ⟨W2, hW2⟩ : ∃ W, w1.alloc (.cells #[.int .i64 rk, .int .i64 rn, .string rS, .slice rpl rnl rcl, .slice rpm rnm rcm] 25) = W := ⟨_, rfl⟩
    rw [hW2] at hb2 hv2
    rw [hg] at hv2
    try rw [hW2]
    try rw [hg]
    have b0 := bcs hb2 hz0 a0
    have b1 := bcs hb2 hz0 a1
    have b2 := bcs hb2 hz0 a2
    have b3 := bcs hb2 hz0 a3
    have b4 := bcs hb2 hz0 a4
    have HB2 := Lib.hid hb2
    have HV2 := Lib.hid hv2
    have HXX := Lib.hid hxx
    have hz2 := Nat.lt_of_lt_of_le hz0 hb2.size
    have hzz := hb2.size
    have HDC := Lib.hid (HD.out W2 hb2)
    clear hW2 hg hb1 ht1 hb2 hv2 hxx a0 a1 a2 a3 a4 HC HD
    cases X with
    | none =>
      obtain rfl : bb = false := HBB.out
      have HE2 : Hid (E = condsE M) := HCF2.out
      clear HCF2 HOP HIH HDC HCL HXX HV2
      go_wp2_with fail
      go_loopw [9] (fun i wr => ∃ j : Nat, j <= nm /\ i = .int .i64 (j : Int) /\ Hid (condsE (M.drop j) = E /\ Below W2.heap.size W2 wr)) (fun i _ => nm - (intOf i).toNat)
      case atStart => exact ⟨0, by omega, rfl, HE2.out.symm, Below.refl _ _⟩
      case round =>
       obtain ⟨j, hj, rfl, hH⟩ := hrel
       have HJ := Lib.hid hH.out.1
       have HBR2 := Lib.hid hH.out.2
       have HBR : Hid (Below W0.heap.size W0 wr) := HB2.out.trans (HBR2.out.mono hzz)
       have c4 := bcs HBR2.out hz2 b4
       clear hH
       have hj0 : (0 : Int) <= (j : Int) := Int.natCast_nonneg _
       have hbz := HBR.out.size
       by_cases hlt : j < nm
       ·obtain ⟨y, hy⟩ : ∃ y, M[j]? = some y := ⟨_, List.getElem?_eq_getElem (by have := HN.out; omega)⟩
        obtain ⟨⟨xname, ⟨xk, xn, xs, xpl, xnl, xcl, xpm, xnm, xcm⟩⟩, hx⟩ : ∃ x, rms[j]? = some x := ⟨_, List.getElem?_eq_getElem (by have := HRL.out; omega)⟩
        have hj1 : (j : Int) < (nm : Int) := by omega
        obtain ⟨b1', o1, rfl, hb1, hc1⟩ := rd_at' (HRD.out.below (HBR.out.mono hBw0) (Nat.le_refl _)) hx
        have f0 := hc1 0 _ rfl
        have f1 := hc1 1 _ rfl
        have f2 := hc1 2 _ rfl
        have f3 := hc1 3 _ rfl
        have f4 := hc1 4 _ rfl
        have f5 := hc1 5 _ rfl
        rw [Nat.add_zero] at f0
        dsimp only at f0 f1 f2 f3 f4 f5
        have hba : Below W0.heap.size W0 (wr.alloc (.cells #[.int .i64 xk, .int .i64 xn, .string xs, .slice xpl xnl xcl, .slice xpm xnm xcm] 25)) := HBR.out.alloc hbz _
        have hba2 : Below W2.heap.size W2 (wr.alloc (.cells #[.int .i64 xk, .int .i64 xn, .string xs, .slice xpl xnl xcl, .slice xpm xnm xcm] 25)) := HBR2.out.alloc HBR2.out.size _
        have hvx : VAt (wr.alloc (.cells #[.int .i64 xk, .int .i64 xn, .string xs, .slice xpl xnl xcl, .slice xpm xnm xcm] 25)) wr.heap.size ⟨xk, xn, xs, xpl, xnl, xcl, xpm, xnm, xcm⟩ := heap_alloc_at rfl
        have HBA := Lib.hid hba
        have HBA2 := Lib.hid hba2
        have HVX := Lib.hid hvx
        obtain ⟨h1, h2, h3, h4⟩ := HCM.out j y _ hy hx
        dsimp only at h1 h2 h3 h4
        have HJ2 := Lib.hid ((condsE_drop hy).symm.trans HJ.out)
        have hce := condE_sort y.1 y.2
        rw [h1, h2, h3] at hce
        rw [h1] at HJ2
        obtain ⟨CE, hCE⟩ : ∃ c, condE xname y.2 = c := ⟨_, rfl⟩
        rw [hCE] at HJ2 hce
        have hsf := sortN_few xname
        have HSO : Hid (∀ W, Calls Tryz.prog 89 #[.string xname] W fun e w' => e = .returned (.int .i64 (sortN xname)) /\ W = w') := fun W => rsort_any xname W
        have HID : Hid (∀ W, Calls Tryz.prog 90 #[.string xs] W fun e w' => e = .returned (.bool (idB xs)) /\ w' = W) := fun W => refIs_any xs W h4
        obtain ⟨sn, hsn⟩ := secRet_form (secF xs.data.toList)
        have HSE : Hid (∀ W, Calls Tryz.prog 45 #[.string xs] W fun e w' => e = .returned (.tuple #[.int .i64 sn, .bool (secF xs.data.toList).isSome]) /\ W = w') := fun W => by
         have := rsec_any xs W h4
         rw [secR_eq, hsn] at this
         exact this
        obtain ⟨K, hK⟩ : ∃ K, sortN xname = K := ⟨_, rfl⟩
        obtain ⟨I, hI⟩ : ∃ A, idB xs = A := ⟨_, rfl⟩
        obtain ⟨TT, hT⟩ : ∃ A, (secF xs.data.toList).isSome = A := ⟨_, rfl⟩
        rw [hK] at hce hsf HSO
        rw [hI] at hce HID
        rw [hT] at hce HSE
        obtain ⟨k4, hk4⟩ : ∃ b, decide (xk = 4) = b := ⟨_, rfl⟩
        obtain ⟨c255, h255⟩ : ∃ b, decide (xs.size <= 255) = b := ⟨_, rfl⟩
        obtain ⟨c64, h64⟩ : ∃ b, decide (xs.size <= 64) = b := ⟨_, rfl⟩
        rw [hk4, h255, h64] at hce
        have q4 : (xk == 4) = k4 := by rw [<- hk4]; rfl
        have q4' : (xk != 4) = !k4 := by unfold bne; rw [q4]
        have qa : decide ((255 : Int) < (xs.size : Int)) = !c255 := by rw [<- h255]; by_cases h : xs.size <= 255 <;> simp [h] <;> omega
        have qb : decide ((64 : Int) < (xs.size : Int)) = !c64 := by rw [<- h64]; by_cases h : xs.size <= 64 <;> simp [h] <;> omega
        have qa' : decide (255 < xs.size) = !c255 := by rw [<- h255]; by_cases h : xs.size <= 255 <;> simp [h] <;> omega
        have qb' : decide (64 < xs.size) = !c64 := by rw [<- h64]; by_cases h : xs.size <= 64 <;> simp [h] <;> omega
        have hsz : (0 : Int) <= (xs.size : Int) := Int.natCast_nonneg _
        have HCE := Lib.hid hce
        clear hy hx hc1 hba hba2 hvx hCE h1 h2 h3 h4 hsn hK hI hT hk4 h255 h64 hce HJ
        have fin0 : Hid (CE = 0 -> condsE (M.drop (j + 1)) = E) := fun h => by
         have := HJ2.out
         rw [if_pos h] at this
         exact this
        have fin1 : Hid (CE ≠ 0 -> CE = E) := fun h => by
         have := HJ2.out
         rw [if_neg h] at this
         exact this
        clear HJ2
        go_upto_region 20 with (first
         | (go_at_call 89; (with_reducible refine (HSO.out _).mono ?_); rintro e w3 ⟨rfl, rfl⟩)
         | fail)
        obtain ⟨gx, hgx⟩ : ∃ g, wr.heap.size = g := ⟨_, rfl⟩
        obtain ⟨WX, hWX⟩ : ∃ W, wr.alloc (.cells #[.int .i64 xk, .int .i64 xn, .string xs, .slice xpl xnl xcl, .slice xpm xnm xcm] 25) = W := ⟨_, rfl⟩
        rw [hWX] at HBA HBA2 HVX
        rw [hgx] at HVX
        try rw [hWX]
        try rw [hgx]
        have x0 := HVX.out.cell 0 rfl
        have x2 := HVX.out.cell 2 rfl
        dsimp only at x0 x2
        clear hWX hgx f0 f1 f2 f3 f4 f5 c4
        rcases hsf with rfl | rfl | rfl | rfl | rfl
        ·have hc1 : CE = 200 := by rw [HCE.out, if_pos rfl]
         have HC1 := Lib.hid hc1
         clear hc1 q4 q4' qa qb qa' qb'
         go_wp2_with fail
         go_ret
         exact ⟨ret_int (by rw [<- fin1.out (by rw [HC1.out]; decide), HC1.out]), HB0.out.trans (HBA.out.mono hw0)⟩
        ·cases k4 <;> cases c255 <;> cases c64
         all_goals
          go_wp2_with (first
           | (go_at_call 45; (with_reducible refine (HSE.out _).mono ?_); rintro e w3 ⟨rfl, rfl⟩)
           | (go_at_call 90; (with_reducible refine (HID.out _).mono ?_); rintro e w4 ⟨rfl, rfl⟩)
           | fail)
          first
           | (go_roundw
              case rel => exact ⟨j + 1, by omega, by go_num, fin0.out (by rw [HCE.out]; first | rfl | (cases c64 <;> cases I <;> cases TT <;> rfl)), HBA2.out⟩
              case measure => simp [intOf]; omega)
           | (go_ret
              have hc1 : CE = 1 := by rw [HCE.out]; first | rfl | (cases c64 <;> cases I <;> cases TT <;> rfl)
              exact ⟨ret_int (by rw [<- fin1.out (by rw [hc1]; decide), hc1]), HB0.out.trans (HBA.out.mono hw0)⟩)
        ·cases k4 <;> cases c255 <;> cases I
         all_goals
          go_wp2_with (first
           | (go_at_call 45; (with_reducible refine (HSE.out _).mono ?_); rintro e w3 ⟨rfl, rfl⟩)
           | (go_at_call 90; (with_reducible refine (HID.out _).mono ?_); rintro e w4 ⟨rfl, rfl⟩)
           | fail)
          first
           | (go_roundw
              case rel => exact ⟨j + 1, by omega, by go_num, fin0.out (by rw [HCE.out]; first | rfl | (cases c64 <;> cases I <;> cases TT <;> rfl)), HBA2.out⟩
              case measure => simp [intOf]; omega)
           | (go_ret
              have hc1 : CE = 1 := by rw [HCE.out]; first | rfl | (cases c64 <;> cases I <;> cases TT <;> rfl)
              exact ⟨ret_int (by rw [<- fin1.out (by rw [hc1]; decide), hc1]), HB0.out.trans (HBA.out.mono hw0)⟩)
        ·cases k4 <;> cases c255 <;> cases TT
         all_goals
          go_wp2_with (first
           | (go_at_call 45; (with_reducible refine (HSE.out _).mono ?_); rintro e w3 ⟨rfl, rfl⟩)
           | (go_at_call 90; (with_reducible refine (HID.out _).mono ?_); rintro e w4 ⟨rfl, rfl⟩)
           | fail)
          first
           | (go_roundw
              case rel => exact ⟨j + 1, by omega, by go_num, fin0.out (by rw [HCE.out]; first | rfl | (cases c64 <;> cases I <;> cases TT <;> rfl)), HBA2.out⟩
              case measure => simp [intOf]; omega)
           | (go_ret
              have hc1 : CE = 1 := by rw [HCE.out]; first | rfl | (cases c64 <;> cases I <;> cases TT <;> rfl)
              exact ⟨ret_int (by rw [<- fin1.out (by rw [hc1]; decide), hc1]), HB0.out.trans (HBA.out.mono hw0)⟩)
        ·cases k4 <;> cases c255
         all_goals
          go_wp2_with (first
           | (go_at_call 45; (with_reducible refine (HSE.out _).mono ?_); rintro e w3 ⟨rfl, rfl⟩)
           | (go_at_call 90; (with_reducible refine (HID.out _).mono ?_); rintro e w4 ⟨rfl, rfl⟩)
           | fail)
          first
           | (go_roundw
              case rel => exact ⟨j + 1, by omega, by go_num, fin0.out (by rw [HCE.out]; first | rfl | (cases c64 <;> cases I <;> cases TT <;> rfl)), HBA2.out⟩
              case measure => simp [intOf]; omega)
           | (go_ret
              have hc1 : CE = 1 := by rw [HCE.out]; first | rfl | (cases c64 <;> cases I <;> cases TT <;> rfl)
              exact ⟨ret_int (by rw [<- fin1.out (by rw [hc1]; decide), hc1]), HB0.out.trans (HBA.out.mono hw0)⟩)
       ·obtain rfl : j = nm := by omega
        have HJ3 : Hid (E = 0) := by
         have := HJ.out
         rw [List.drop_eq_nil_of_le (by have := HN.out; omega)] at this
         exact this.symm
        clear HJ
        go_wp2_with fail
        go_ret
        exact ⟨ret_int HJ3.out.symm, HB0.out.trans (HBR.out.mono hw0)⟩
    | some o =>
      obtain rfl : bb = true := HBB.out
      have HCF3 : Hid (E = if OK = true then chkFL CL else 1) := HCF2.out
      clear HCF2 HCM HRD HRL
      go_upto_region 6 with (go_at_call 61; refine HDC.out.mono ?_; rintro e w3 ⟨rv, b3', rfl, hbb, ht1, hb1⟩; (have HBY := Lib.hid hbb); clear hbb; obtain ⟨qk, qn, qS, qpl, qnl, qcl, qpm, qnm, qcm⟩ := rv)
      have hyy := ht1.kk
      dsimp only at hyy
      have hb3 : Below W2.heap.size W2 (w3.alloc (.cells #[.int .i64 qk, .int .i64 qn, .string qS, .slice qpl qnl qcl, .slice qpm qnm qcm] 25)) := hb1.alloc hb1.size _
      have hv3 : VAt (w3.alloc (.cells #[.int .i64 qk, .int .i64 qn, .string qS, .slice qpl qnl qcl, .slice qpm qnm qcm] 25)) w3.heap.size ⟨qk, qn, qS, qpl, qnl, qcl, qpm, qnm, qcm⟩ := heap_alloc_at rfl
      have ht3 := (ht1.tl).under ((Below.refl B w3).alloc (Nat.le_trans (Nat.le_trans hBw0 HB2.out.size) hb1.size) (.cells #[.int .i64 qk, .int .i64 qn, .string qS, .slice qpl qnl qcl, .slice qpm qnm qcm] 25)) (Nat.le_refl _)
      have hv23 := HV2.out.under hb3 HV2.out.lt
      dsimp only at ht3
      obtain ⟨g3, hg3⟩ : ∃ g, w3.heap.size = g := ⟨_, rfl⟩
      obtain ⟨W3, hW3⟩ : ∃ W, w3.alloc (.cells #[.int .i64 qk, .int .i64 qn, .string qS, .slice qpl qnl qcl, .slice qpm qnm qcm] 25) = W := ⟨_, rfl⟩
      rw [hW3] at hb3 hv3 ht3 hv23
      rw [hg3] at hv3
      try rw [hW3]
      try rw [hg3]
      have c4 := bcs hb3 hz2 b4
      have x0 := hv23.cell 0 rfl
      have x2 := hv23.cell 2 rfl
      have y0 := hv3.cell 0 rfl
      have y3 := hv3.cell 3 rfl
      dsimp only at x0 x2 y0 y3
      have HB3 : Hid (Below W0.heap.size W0 W3) := HB2.out.trans (hb3.mono HB2.out.size)
      have HTL : Hid (TlOf W3 B (.slice qpl qnl qcl) CL) := by
       unfold Hid
       rw [HCL.out]
       exact ht3
      have HO2 : Hid (OK = (decide (nm = 2) && (decide (rk = 4) && ((decide (rS = svAnd) || (decide (rS = svOr) || decide (rS = svNot))) && decide (qk = 5))))) := by
       unfold Hid
       rw [HOP.out, HXX.out.1, HXX.out.2, hyy.1]
      have hz3 := hv3.lt
      clear hW3 hg3 hb1 ht1 hb3 hv3 ht3 hv23 hyy b0 b1 b2 b3 b4 HDC hz2 HOP HXX HV2 HCL
      have nm0 : (0 : Int) <= (nm : Int) := Int.natCast_nonneg _
      obtain ⟨e1, h1⟩ : ∃ b, (rS.toList == [65, 78, 68]) = b := ⟨_, rfl⟩
      obtain ⟨e2, h2⟩ : ∃ b, (rS.toList == [79, 82]) = b := ⟨_, rfl⟩
      obtain ⟨e3, h3⟩ : ∃ b, (rS.toList == [78, 79, 84]) = b := ⟨_, rfl⟩
      obtain ⟨b2, g2⟩ : ∃ b, decide (nm = 2) = b := ⟨_, rfl⟩
      obtain ⟨b4, g4⟩ : ∃ b, decide (rk = 4) = b := ⟨_, rfl⟩
      obtain ⟨b5, g5⟩ : ∃ b, decide (qk = 5) = b := ⟨_, rfl⟩
      have HO3 : Hid (OK = (b2 && (b4 && ((e1 || (e2 || e3)) && b5)))) := by
       unfold Hid
       rw [HO2.out, g2, g4, g5, <- h1, <- h2, <- h3, <- bytes_dec, <- bytes_dec, <- bytes_dec]
       rfl
      have q2 : ((nm : Int) == 2) = b2 := by rw [<- g2, Bool.eq_iff_iff]; simp; omega
      have q2' : (nm == 2) = b2 := by rw [<- g2]; rfl
      have q2n : ((nm : Int) != 2) = !b2 := by unfold bne; rw [q2]
      have q2n' : (nm != 2) = !b2 := by unfold bne; rw [q2']
      have q4 : (rk == 4) = b4 := by rw [<- g4]; rfl
      have q4n : (rk != 4) = !b4 := by unfold bne; rw [q4]
      have q5 : (qk == 5) = b5 := by rw [<- g5]; rfl
      have q5n : (qk != 5) = !b5 := by unfold bne; rw [q5]
      have n1 : (rS.toList != [65, 78, 68]) = !e1 := by unfold bne; rw [h1]
      have n2 : (rS.toList != [79, 82]) = !e2 := by unfold bne; rw [h2]
      have n3 : (rS.toList != [78, 79, 84]) = !e3 := by unfold bne; rw [h3]
      clear g2 g4 g5 HO2
      obtain ⟨NOK, hNOK⟩ : ∃ b, (!OK) = b := ⟨_, rfl⟩
      have HNO := Lib.hid hNOK
      clear hNOK
      go_cut [56] from 28 to 56 (fun v wx => v = .bool NOK /\ W3 = wx)
      case first =>
       cases b2 <;> cases b4 <;> cases b5 <;> cases e1 <;> cases e2 <;> cases e3
       all_goals
        go_wp2_with fail
        go_meet
        exact ⟨by rw [<- HNO.out, HO3.out]; rfl, rfl⟩
      case rest =>
      obtain ⟨rfl, rfl⟩ := hcut
      clear h1 h2 h3 q2 q2' q2n q2n' q4 q4n q5 q5n n1 n2 n3 HO3 x0 x2 y0 c4
      cases OK with
      | false =>
        obtain rfl : NOK = true := HNO.out.symm
        have HE2 : Hid (E = 1) := HCF3.out
        clear HCF3 HIH
        go_wp2_with fail
        go_ret
        exact ⟨ret_int HE2.out.symm, HB0.out.trans (HB3.out.mono hw0)⟩
      | true =>
        obtain rfl : NOK = false := HNO.out.symm
        have HE2 : Hid (E = chkFL CL) := HCF3.out
        clear HCF3
        obtain ⟨rs, hr, hlen, htt⟩ := HTL.out
        have hrl : rs.length = qnl := (rd_nlen hr).symm
        have HNL : Hid (CL.length = qnl) := by unfold Hid; omega
        have hn9 : qnl <= 1759218604390 := by have := HCO.out; have := HNL.out; omega
        have HRS := Lib.hid hr
        have HTT := Lib.hid htt
        have hBw3 : B <= W3.heap.size := Nat.le_trans hBw0 HB3.out.size
        have hzw := HB3.out.size
        clear hr hlen htt HTL
        go_wp2_with fail
        go_loopw [7] (fun i wr => ∃ j : Nat, j <= qnl /\ i = .int .i64 (j : Int) /\ Hid (chkFL (CL.drop j) = E /\ Below W3.heap.size W3 wr)) (fun i _ => qnl - (intOf i).toNat)
        case atStart => exact ⟨0, by omega, rfl, HE2.out.symm, Below.refl _ _⟩
        case round =>
         obtain ⟨j, hj, rfl, hH⟩ := hrel
         have HJ := Lib.hid hH.out.1
         have HBR := Lib.hid hH.out.2
         have y3r := bcs HBR.out hz3 y3
         clear hH
         have hj0 : (0 : Int) <= (j : Int) := Int.natCast_nonneg _
         have hbz := HBR.out.size
         by_cases hlt : j < qnl
         ·obtain ⟨y, hy⟩ : ∃ y, CL[j]? = some y := ⟨_, List.getElem?_eq_getElem (by have := HNL.out; omega)⟩
          obtain ⟨⟨xk, xn, xs, xpl, xnl, xcl, xpm, xnm, xcm⟩, hx⟩ : ∃ x, rs[j]? = some x := ⟨_, List.getElem?_eq_getElem (by omega)⟩
          have hj1 : (j : Int) < (qnl : Int) := by omega
          obtain ⟨b1', o1, rfl, hb1, hc1⟩ := rd_at' (HRS.out.below (HBR.out.mono hBw3) (Nat.le_refl _)) hx
          have f0 := hc1 0 _ rfl
          have f1 := hc1 1 _ rfl
          have f2 := hc1 2 _ rfl
          have f3 := hc1 3 _ rfl
          have f4 := hc1 4 _ rfl
          rw [Nat.add_zero] at f0
          dsimp only at f0 f1 f2 f3 f4
          have HCC := Lib.hid (HIH.out j y _ _ hy (HB3.out.trans (HBR.out.mono hzw)) ((HTT.out j y _ hy hx).under (HBR.out.mono hBw3) (Nat.le_refl _)))
          dsimp only [RV.val] at HCC
          have HJ2 := Lib.hid ((chkFL_drop hy).symm.trans HJ.out)
          obtain ⟨CE, hCE⟩ : ∃ c, chkF y = c := ⟨_, rfl⟩
          rw [hCE] at HCC HJ2
          clear hy hx hc1 hCE
          by_cases hce : CE = 0
          ·have HJ3 : Hid (chkFL (CL.drop (j + 1)) = E) := by
            have := HJ2.out
            rw [if_pos hce] at this
            exact this
           subst hce
           clear HJ2
           go_wp2_with (go_at_call 51; (with_reducible refine HCC.out.mono ?_); rintro e w4 ⟨rfl, hb4⟩)
           go_roundw
           case rel => exact ⟨j + 1, by omega, by go_num, HJ3.out, HBR.out.trans (hb4.mono hbz)⟩
           case measure => simp [intOf]; omega
          ·have HJ3 : Hid (CE = E) := by
            have := HJ2.out
            rw [if_neg hce] at this
            exact this
           have q1 : (CE != 0) = true := by simpa using hce
           have q2 : (CE == 0) = false := by simpa using hce
           clear HJ2 hce
           go_wp2_with (go_at_call 51; (with_reducible refine HCC.out.mono ?_); rintro e w4 ⟨rfl, hb4⟩)
           go_ret
           exact ⟨ret_int HJ3.out, HB0.out.trans ((HB3.out.trans ((HBR.out.trans (hb4.mono hbz)).mono hzw)).mono hw0)⟩
         ·obtain rfl : j = qnl := by omega
          have HJ3 : Hid (E = 0) := by
           have := HJ.out
           rw [List.drop_eq_nil_of_le (by have := HNL.out; omega)] at this
           have h0 : chkFL [] = 0 := by rw [chkFL]
           exact (h0.symm.trans this).symm
          clear HJ
          go_wp2_with fail
          go_ret
          exact ⟨ret_int HJ3.out.symm, HB0.out.trans ((HB3.out.trans (HBR.out.mono hzw)).mono hw0)⟩
   ·have HE2 : Hid (E = 1) := by
     unfold Hid
     rw [HCF.out, <- HKK.out, if_neg hk6]
    have q1 : (k != 6) = true := by simpa using hk6
    have q2 : (k == 6) = false := by simpa using hk6
    clear HCF HKK hk6 HIH HOP HCM HC HD
    go_wp2_with fail
    go_ret
    exact ⟨by rw [HE2.out]; rfl, HB0.out⟩
theorem rCheck_any (t : JV) (r : RV) (w : World) (B : Nat) (hBw : B <= w.heap.size) (ht : TreeOf w B t r) (ot : t.Ok) :
 Calls Tryz.prog 20 #[r.val] w fun e w' => e = .returned (.int .i64 (checkJ t)) /\ Below w.heap.size w w' := by
 obtain ⟨W0, hW0⟩ : ∃ W0, w.alloc r.obj = W0 := ⟨_, rfl⟩
 have hA0 : VAt W0 w.heap.size r := by rw [<- hW0]; exact heap_alloc_at rfl
 have hB0 : Below w.heap.size w W0 := by rw [<- hW0]; exact (Below.refl _ _).alloc (Nat.le_refl _) _
 have hw0 := hB0.size
 have hBw0 : B <= W0.heap.size := Nat.le_trans hBw hw0
 have hT0 : TreeOf W0 B t r := ht.under (hB0.mono hBw) (Nat.le_refl _)
 have HCN : Hid (Calls Tryz.prog 48 #[r.val, .int .i64 30] W0 fun e w' => ∃ c : Nat, e = .returned (.int .i64 (c : Int)) /\ Hid ((30 < c) ↔ 30 < countT t) /\ Below W0.heap.size W0 w') := (cnt7_any _ t r 30 W0 (Nat.le_refl _) (by decide) (hT0.mono hBw0) ot).mono fun e w' h => by
  obtain ⟨c, h1, ⟨h2, h3, h4⟩, h5⟩ := h
  exact ⟨c, h1, c30_iff h3 h4, h5⟩
 have HCK : Hid (∀ W, Below W0.heap.size W0 W -> Calls Tryz.prog 51 #[r.val] W fun e w' => e = .returned (.int .i64 (chkF t)) /\ Below W.heap.size W w') := fun W hW => rchk_any _ t r W B (Nat.le_refl _) (Nat.le_trans hBw0 hW.size) (hT0.under (hW.mono hBw0) (Nat.le_refl _)) ot
 have HCF : Hid (checkJ t = if r.k = 1 then 0 else if 30 < countT t then 200 else chkF t) := by
  unfold Hid checkJ
  rw [ht.kk.1]
 obtain ⟨E, hE⟩ : ∃ E, checkJ t = E := ⟨_, rfl⟩
 obtain ⟨C, hC⟩ : ∃ E, countT t = E := ⟨_, rfl⟩
 obtain ⟨F, hF⟩ : ∃ E, chkF t = E := ⟨_, rfl⟩
 rw [hE, hC, hF] at HCF
 rw [hE]
 rw [hC] at HCN
 rw [hF] at HCK
 obtain ⟨k, n, s, pl, nl, cl, pm, nm, cm⟩ := r
 dsimp only [RV.val, RV.obj] at *
 have HB0 := Lib.hid hB0
 clear hB0 ht ot hE hC hF hT0
 go_enter Tryz.func20, Tryz.ntmps20
 go_upto_region 1 with fail
 try rw [hW0]
 clear hW0
 obtain ⟨a0, a1, a2, a3, a4⟩ := hA0.cells5
 have hz0 := hA0.lt
 clear hA0
 by_cases hk1 : k = 1
 ·have HE2 : Hid (E = 0) := by unfold Hid; rw [HCF.out, if_pos hk1]
  subst hk1
  clear HCF HCN HCK
  go_wp2_with fail
  go_ret
  exact ⟨by rw [HE2.out]; rfl, HB0.out⟩
 have q1 : (k == 1) = false := by simpa using hk1
 go_upto_region 3 with fail
 go_wp2_with (first
  | (go_at_call 48; (with_reducible refine HCN.out.mono ?_); rintro e w1 ⟨c, rfl, HCC, hb1⟩; (have d0 := bcs hb1 hz0 a0); (have d1 := bcs hb1 hz0 a1); (have d2 := bcs hb1 hz0 a2); (have d3 := bcs hb1 hz0 a3); (have d4 := bcs hb1 hz0 a4); (have c0 : (0 : Int) <= (c : Int) := Int.natCast_nonneg _); (by_cases hcc : 30 < c); (have q2 : decide ((30 : Int) < (c : Int)) = true := decide_eq_true (by omega)); rotate_left; (have q2 : decide ((30 : Int) < (c : Int)) = false := decide_eq_false (by omega)))
  | (go_at_call 51; (with_reducible refine (HCK.out _ hb1).mono ?_); rintro e w2 ⟨rfl, hb2⟩)
  | fail)
 all_goals go_ret
 all_goals first
  | exact ⟨ret_int (show (200 : Int) = E by rw [HCF.out, if_neg hk1, if_pos (HCC.out.1 hcc)]), HB0.out.trans (hb1.mono hw0)⟩
  | exact ⟨ret_int (show F = E by rw [HCF.out, if_neg hk1, if_neg (fun h => hcc (HCC.out.2 h))]), HB0.out.trans ((hb1.trans (hb2.mono hb1.size)).mono hw0)⟩
theorem cell_dw {W : World} {a : Addr} {v : Value} (h : W.cell? a = some v) : ({ heap := W.heap, tape := W.tape, drawn := W.drawn + 1, os := W.os, output := W.output } : World).cell? a = some v := h
def cntT (bs : List Bool) : Nat := bs.count true
theorem cntT_all (bs : List Bool) : decide (cntT bs = bs.length) = bs.all id := by
 unfold cntT
 rw [Bool.eq_iff_iff, decide_eq_true_iff, List.count_eq_length, List.all_eq_true]
 exact ⟨fun h b hb => (h b hb).symm, fun h b hb => (h b hb).symm⟩
theorem cntT_any (bs : List Bool) : decide (0 < cntT bs) = bs.any id := by
 unfold cntT
 rw [Bool.eq_iff_iff, decide_eq_true_iff, List.count_pos_iff, List.any_eq_true]
 exact ⟨fun h => ⟨true, h, rfl⟩, fun ⟨b, hb, h⟩ => by cases b; cases h; exact hb⟩
theorem cntT_none (bs : List Bool) : decide (cntT bs = 0) = !bs.any id := by
 rw [<- cntT_any, Bool.eq_iff_iff, decide_eq_true_iff, Bool.not_eq_true', decide_eq_false_iff_not]
 omega
theorem cntT_snoc (bs : List Bool) (b : Bool) : cntT (bs ++ [b]) = cntT bs + if b then 1 else 0 := by
 unfold cntT
 rw [List.count_append]
 cases b <;> rfl
theorem cnt_take {α : Type} (p : α -> Bool) {l : List α} {j : Nat} {x : α} (h : l[j]? = some x) : cntT ((l.take (j + 1)).map p) = cntT ((l.take j).map p) + if p x then 1 else 0 := by
 rw [List.take_add_one, h, Option.toList_some, List.map_append, List.map_singleton, cntT_snoc]
theorem condE_known {n : ByteArray} {x : JV} (h : condE n x = 0) : (askB n || isFieldB n) = true := by
 unfold condE at h
 split at h
 ·assumption
 ·cases h
theorem rholds_any (v : JV) (rv : RV) (ov : v.Ok) (hct : countT v <= 100000) (hsz : sizeT v <= 4000000000) (N : Nat) : ∀ (t : JV) (r : RV) (w : World) (B : Nat), SizeOf.sizeOf t <= N -> B <= w.heap.size -> TreeOf w B t r -> TreeOf w B v rv -> t.Ok -> (chkF t = 0 \/ (t.k ≠ 6 /\ t.m = [])) ->
 Calls Tryz.prog 54 #[r.val, rv.val] w fun e w' => e = .returned (.bool (holF v t)) /\ Below w.heap.size w w' := by
 induction N with
 | zero => intro t r w B hN; cases t; simp at hN
 | succ N ih =>
   intro t r w B hN hBw ht htv ot hchk
   obtain ⟨W0, hW0⟩ : ∃ W0, (w.alloc r.obj).alloc rv.obj = W0 := ⟨_, rfl⟩
   have hA0 : VAt W0 w.heap.size r := by rw [<- hW0]; exact heap_alloc_lt (by simp) (heap_alloc_at rfl)
   have hK0 : VAt W0 (w.heap.size + 1) rv := by rw [<- hW0]; exact heap_alloc_at (by simp)
   have hB0 : Below w.heap.size w W0 := by rw [<- hW0]; exact ((Below.refl _ _).alloc (Nat.le_refl _) _).alloc (by simp) _
   have hw0 := hB0.size
   have hBw0 : B <= W0.heap.size := Nat.le_trans hBw hw0
   have HTR : Hid (∀ W, Below W0.heap.size W0 W -> TreeOf W B t r) := fun W hW => (ht.under (hB0.mono hBw) (Nat.le_refl _)).under (hW.mono hBw0) (Nat.le_refl _)
   have HTV : Hid (∀ W, Below W0.heap.size W0 W -> TreeOf W B v rv) := fun W hW => (htv.under (hB0.mono hBw) (Nat.le_refl _)).under (hW.mono hBw0) (Nat.le_refl _)
   have HC : Hid (Calls Tryz.prog 61 #[r.val, .string svOper] W0 (GetRetB W0 B (t.get svOper))) := refGetB_any t r svOper W0 B hBw0 (HTR.out W0 (Below.refl _ _)) ot
   have HD : Hid (∀ W, Below W0.heap.size W0 W -> Calls Tryz.prog 61 #[r.val, .string svConds] W (GetRetB W B (t.get svConds))) := fun W hW => refGetB_any t r svConds W B (Nat.le_trans hBw0 hW.size) (HTR.out W hW) ot
   have HOK : Hid ((t.get svOper).isSome = true -> opOk t = true /\ chkFL (condsL t) = 0) := by
    intro h
    rcases hchk with hchk | ⟨h6, _⟩
    ·have hck := (chkF_eq t).symm.trans hchk
     by_cases hk6 : t.k = 6
     ·rw [if_pos hk6, if_pos h] at hck
      by_cases h2 : opOk t = true
      ·rw [if_pos h2] at hck
       exact ⟨h2, hck⟩
      ·rw [if_neg h2] at hck
       cases hck
     ·rw [if_neg hk6] at hck
      cases hck
    ·rw [getS_not h6] at h
     cases h
   have HCE : Hid ((t.get svOper).isSome = false -> condsE t.m = 0) := by
    intro h
    rcases hchk with hchk | ⟨h6, h0⟩
    ·have hck := (chkF_eq t).symm.trans hchk
     by_cases hk6 : t.k = 6
     ·rw [if_pos hk6, if_neg (by rw [h]; decide)] at hck
      exact hck
     ·rw [if_neg hk6] at hck
      cases hck
    ·rw [h0]
     rfl
   have HIH : Hid (∀ (i : Nat) x (q : RV) (W : World), (condsL t)[i]? = some x -> chkF x = 0 -> Below W0.heap.size W0 W -> TreeOf W B x q -> Calls Tryz.prog 54 #[q.val, rv.val] W fun e w' => e = .returned (.bool (holF v x)) /\ Below W.heap.size W w') := fun i x q W hx hcx hW hq => ih x q W B (by have := condsL_lt (List.mem_of_getElem? hx); omega) (Nat.le_trans hBw0 hW.size) hq (HTV.out W hW) ((condsL_ok ot).2 i x hx) (.inl hcx)
   have HONE : Hid (∀ (nm s : ByteArray) (W : World), (askB nm || isFieldB nm) = true -> s.size <= 255 -> Below W0.heap.size W0 W -> Calls Tryz.prog 95 #[.string nm, .string s, rv.val] W fun e w' => e = .returned (.bool (condB v nm s)) /\ Below W.heap.size W w') := fun nm s W hk hs hW => ronec_any v rv nm s W B (Nat.le_trans hBw0 hW.size) (HTV.out W hW) ov hk hct hsz (by omega)
   obtain ⟨rms, hm, hml, hmt⟩ := ht.ml
   have hmo := m_ok ot
   have hrl : rms.length = r.nm := (rd_nlen hm).symm
   have HMT : Hid (∀ (i : Nat) p (q : RM), t.m[i]? = some p -> rms[i]? = some q -> p.1 = q.name /\ p.2.s = q.v.s) := by
    intro i p q hp hq
    obtain ⟨h1, h2⟩ := hmt i p q hp hq
    exact ⟨h1, h2.kk.2.symm⟩
   have HRD : Hid (Rd W0 B encM 6 (.slice r.pm r.nm r.cm) rms) := hm.below (hB0.mono hBw) (Nat.le_refl _)
   have HHF := Lib.hid (holF_eq v t)
   have HCO := Lib.hid (condsL_ok ot).1
   have hno : r.nm <= 1466015503658 := by have := hmo.1; omega
   have HCL : Hid (condsL t = ((t.get svConds).getD JV.zero).l) := rfl
   obtain ⟨E, hE⟩ : ∃ E, holF v t = E := ⟨_, rfl⟩
   obtain ⟨X, hX⟩ : ∃ X, t.get svOper = X := ⟨_, rfl⟩
   obtain ⟨Y, hY⟩ : ∃ X, t.get svConds = X := ⟨_, rfl⟩
   obtain ⟨OK, hOK⟩ : ∃ b, opOk t = b := ⟨_, rfl⟩
   obtain ⟨CL, hCL⟩ : ∃ b, condsL t = b := ⟨_, rfl⟩
   obtain ⟨M, hM⟩ : ∃ b, t.m = b := ⟨_, rfl⟩
   have HNM : Hid (OK = true -> (X.getD JV.zero).s = svAnd \/ (X.getD JV.zero).s = svOr \/ (X.getD JV.zero).s = svNot) := by
    intro h
    have := opOk_name (t := t) (hOK.trans h)
    rw [hX] at this
    exact this
   rw [hE, hX, hCL, hM] at HHF
   rw [hE]
   rw [hX] at HC HOK HCE
   rw [hY] at HD HCL
   rw [hOK, hCL] at HOK
   rw [hCL] at HIH HCO HCL
   rw [hM] at HMT hml HCE
   unfold svOper at HC
   unfold svConds at HD
   have HN : Hid (M.length = r.nm) := by unfold Hid; omega
   obtain ⟨k, n, s, pl, nl, cl, pm, nm, cm⟩ := r
   obtain ⟨vk, vn, vs, vpl, vnl, vcl, vpm, vnm, vcm⟩ := rv
   dsimp only [RV.val, RV.obj] at *
   have HB0 := Lib.hid hB0
   have HRL := Lib.hid hrl
   clear hB0 ht htv ot hE hX hY hOK hCL hM hm hml hmt hmo ih hrl hN hchk HTR HTV
   go_enter Tryz.func54, Tryz.ntmps54
   go_upto_region 1 with fail
   try rw [hW0]
   clear hW0
   obtain ⟨a0, a1, a2, a3, a4⟩ := hA0.cells5
   obtain ⟨q0, q1, q2, q3, q4⟩ := hK0.cells5
   dsimp only at q0 q1 q2 q3 q4
   have hz0 := hA0.lt
   have hzk := hK0.lt
   clear hA0 hK0
   go_upto_region 2 with (go_at_call 61; refine HC.out.mono ?_; rintro e w1 ⟨rv, bb, rfl, hbb, ht1, hb1⟩; (have HBB := Lib.hid hbb); clear hbb; obtain ⟨rk, rn, rS, rpl, rnl, rcl, rpm, rnm, rcm⟩ := rv)
   have hxx := ht1.kk
   dsimp only at hxx
   have hb2 : Below W0.heap.size W0 (w1.alloc (.cells #[.int .i64 rk, .int .i64 rn, .string rS, .slice rpl rnl rcl, .slice rpm rnm rcm] 25)) := hb1.alloc hb1.size _
   have hv2 : VAt (w1.alloc (.cells #[.int .i64 rk, .int .i64 rn, .string rS, .slice rpl rnl rcl, .slice rpm rnm rcm] 25)) w1.heap.size ⟨rk, rn, rS, rpl, rnl, rcl, rpm, rnm, rcm⟩ := heap_alloc_at rfl
   obtain ⟨g, hg⟩ : ∃ g, w1.heap.size = g := ⟨_, rfl⟩
   obtain ⟨W2, hW2⟩ : ∃ W, w1.alloc (.cells #[.int .i64 rk, .int .i64 rn, .string rS, .slice rpl rnl rcl, .slice rpm rnm rcm] 25) = W := ⟨_, rfl⟩
   rw [hW2] at hb2 hv2
   rw [hg] at hv2
   try rw [hW2]
   try rw [hg]
   have b0 := bcs hb2 hz0 a0
   have b1 := bcs hb2 hz0 a1
   have b2 := bcs hb2 hz0 a2
   have b3 := bcs hb2 hz0 a3
   have b4 := bcs hb2 hz0 a4
   have p0 := bcs hb2 hzk q0
   have p1 := bcs hb2 hzk q1
   have p2 := bcs hb2 hzk q2
   have p3 := bcs hb2 hzk q3
   have p4 := bcs hb2 hzk q4
   have HB2 := Lib.hid hb2
   have HXX := Lib.hid hxx
   have hz2 := Nat.lt_of_lt_of_le hz0 hb2.size
   have hzk2 := Nat.lt_of_lt_of_le hzk hb2.size
   have hzz := hb2.size
   have hgz := hv2.lt
   have x2 := hv2.cell 2 rfl
   dsimp only at x2
   have HDC := Lib.hid (HD.out W2 hb2)
   clear hW2 hg hb1 ht1 hb2 hv2 hxx a0 a1 a2 a3 a4 q0 q1 q2 q3 q4 HC HD
   cases X with
   | none =>
     obtain rfl : bb = false := HBB.out
     have HE2 : Hid (E = M.all (fun p => condB v p.1 p.2.s)) := HHF.out
     have HCZ : Hid (condsE M = 0) := HCE.out rfl
     clear HHF HIH HOK HCE HNM HCO HCL HDC HXX x2
     go_wp2_with fail
     go_loopw [7] (fun i wr => ∃ j : Nat, j <= nm /\ i = .int .i64 (j : Int) /\ Hid ((M.drop j).all (fun p => condB v p.1 p.2.s) = E /\ Below W2.heap.size W2 wr)) (fun i _ => nm - (intOf i).toNat)
     case atStart => exact ⟨0, by omega, rfl, HE2.out.symm, Below.refl _ _⟩
     case round =>
      obtain ⟨j, hj, rfl, hH⟩ := hrel
      have HJ := Lib.hid hH.out.1
      have HBR := Lib.hid hH.out.2
      have c4 := bcs HBR.out hz2 b4
      have r0 := bcs HBR.out hzk2 p0
      have r1 := bcs HBR.out hzk2 p1
      have r2 := bcs HBR.out hzk2 p2
      have r3 := bcs HBR.out hzk2 p3
      have r4 := bcs HBR.out hzk2 p4
      clear hH b0 b1 b2 b3 b4 p0 p1 p2 p3 p4
      have hj0 : (0 : Int) <= (j : Int) := Int.natCast_nonneg _
      by_cases hlt : j < nm
      ·obtain ⟨y, hy⟩ : ∃ y, M[j]? = some y := ⟨_, List.getElem?_eq_getElem (by have := HN.out; omega)⟩
       obtain ⟨⟨xname, ⟨xk, xn, xs, xpl, xnl, xcl, xpm, xnm, xcm⟩⟩, hx⟩ : ∃ x, rms[j]? = some x := ⟨_, List.getElem?_eq_getElem (by have := HRL.out; omega)⟩
       have hj1 : (j : Int) < (nm : Int) := by omega
       have hbr0 : Below W0.heap.size W0 wr := HB2.out.trans (HBR.out.mono hzz)
       obtain ⟨b1', o1, rfl, hb1, hc1⟩ := rd_at' (HRD.out.below (hbr0.mono hBw0) (Nat.le_refl _)) hx
       have f0 := hc1 0 _ rfl
       have f1 := hc1 1 _ rfl
       have f2 := hc1 2 _ rfl
       have f3 := hc1 3 _ rfl
       have f4 := hc1 4 _ rfl
       have f5 := hc1 5 _ rfl
       rw [Nat.add_zero] at f0
       dsimp only at f0 f1 f2 f3 f4 f5
       have HJ2 := Lib.hid ((all_drop hy).symm.trans HJ.out)
       obtain ⟨h1, h2⟩ := HMT.out j y _ hy hx
       dsimp only at h1 h2
       have hcz := condsE_zero.1 HCZ.out y (List.mem_of_getElem? hy)
       have hsm := condE_small hcz
       have hkn := condE_known hcz
       rw [h1, h2] at HJ2
       rw [h1] at hkn
       rw [h2] at hsm
       have HQ := Lib.hid (HONE.out xname xs wr.drew hkn hsm hbr0.drew)
       have HBR0 := Lib.hid hbr0
       obtain ⟨CB, hCB⟩ : ∃ b, condB v xname xs = b := ⟨_, rfl⟩
       rw [hCB] at HJ2 HQ
       clear hy hx hc1 h1 h2 hsm hkn hcz hCB hbr0 HJ f1 f2 f4 f5
       cases CB
       all_goals
        go_upto_region 6 with fail
        have F0 := cell_dw f0
        have F3 := cell_dw f3
        have C4 := cell_dw c4
        have R0 := cell_dw r0
        have R1 := cell_dw r1
        have R2 := cell_dw r2
        have R3 := cell_dw r3
        have R4 := cell_dw r4
        have HBD := Lib.hid HBR.out.drew
        have HBD0 := Lib.hid HBR0.out.drew
        go_still_tail 14, (by kernel_rfl)
        change wpList _ _ _ _ _ wr.drew
        generalize wr.drew = WD at HBD HBD0 HQ ⊢
        clear F0 F3 C4 R0 R1 R2 R3 R4 f0 f3 c4 r0 r1 r2 r3 r4
        go_wp2_with (go_at_call 95; (with_reducible refine HQ.out.mono ?_); rintro e w4 ⟨rfl, hb4⟩)
        first
         | (go_roundw
            case rel => exact ⟨j + 1, by omega, by go_num, by simpa using HJ2.out, HBD.out.trans (hb4.mono HBD.out.size)⟩
            case measure => simp [intOf]; omega)
         | (go_ret
            exact ⟨ret_boolI (by have := HJ2.out; simpa using this), HB0.out.trans ((HBD0.out.trans (hb4.mono HBD0.out.size)).mono hw0)⟩)
      ·obtain rfl : j = nm := by omega
       have HJ3 : Hid (true = E) := by
        have := HJ.out
        rw [List.drop_eq_nil_of_le (by have := HN.out; omega)] at this
        exact this
       go_wp2_with fail
       go_ret
       exact ⟨ret_boolI HJ3.out, HB0.out.trans ((HB2.out.trans (HBR.out.mono hzz)).mono hw0)⟩
   | some o =>
     obtain rfl : bb = true := HBB.out
     obtain ⟨hok, hck⟩ := HOK.out rfl
     have HE2 : Hid (E = combB o.s (CL.map (holF v))) := HHF.out
     have hrs : o.s = rS := HXX.out.2.symm
     have hnm2 := HNM.out hok
     rw [show ((some o).getD JV.zero).s = rS from hrs] at hnm2
     rw [hrs] at HE2
     have HCZ := Lib.hid hck
     have HNM2 := Lib.hid hnm2
     clear HHF HOK HCE HNM HONE HXX hrs hok hck hnm2 HRD HMT
     go_upto_region 10 with (go_at_call 61; refine HDC.out.mono ?_; rintro e w3 ⟨rv, bb, rfl, hbb, ht1, hb1⟩; clear hbb; obtain ⟨qk, qn, qS, qpl, qnl, qcl, qpm, qnm, qcm⟩ := rv)
     have hb3 : Below W2.heap.size W2 (w3.alloc (.cells #[.int .i64 qk, .int .i64 qn, .string qS, .slice qpl qnl qcl, .slice qpm qnm qcm] 25)) := hb1.alloc hb1.size _
     have hv3 : VAt (w3.alloc (.cells #[.int .i64 qk, .int .i64 qn, .string qS, .slice qpl qnl qcl, .slice qpm qnm qcm] 25)) w3.heap.size ⟨qk, qn, qS, qpl, qnl, qcl, qpm, qnm, qcm⟩ := heap_alloc_at rfl
     have hBw2 : B <= W2.heap.size := Nat.le_trans hBw0 hzz
     have ht3 := (ht1.under ((Below.refl B w3).alloc (Nat.le_trans hBw2 hb1.size) (.cells #[.int .i64 qk, .int .i64 qn, .string qS, .slice qpl qnl qcl, .slice qpm qnm qcm] 25)) (Nat.le_refl _)).tl
     obtain ⟨g3, hg3⟩ : ∃ g, w3.heap.size = g := ⟨_, rfl⟩
     obtain ⟨W3, hW3⟩ : ∃ W, w3.alloc (.cells #[.int .i64 qk, .int .i64 qn, .string qS, .slice qpl qnl qcl, .slice qpm qnm qcm] 25) = W := ⟨_, rfl⟩
     rw [hW3] at hb3 hv3 ht3
     rw [hg3] at hv3
     try rw [hW3]
     try rw [hg3]
     have y3 := hv3.cell 3 rfl
     have z2 := bcs hb3 hgz x2
     dsimp only at y3
     have d0 := bcs hb3 hzk2 p0
     have d1 := bcs hb3 hzk2 p1
     have d2 := bcs hb3 hzk2 p2
     have d3 := bcs hb3 hzk2 p3
     have d4 := bcs hb3 hzk2 p4
     have HB3 : Hid (Below W0.heap.size W0 W3) := HB2.out.trans (hb3.mono hzz)
     have HTL : Hid (TlOf W3 B (.slice qpl qnl qcl) CL) := by
      unfold Hid
      rw [HCL.out]
      exact ht3
     have hz3 := hv3.lt
     have hgz3 := Nat.lt_of_lt_of_le hgz hb3.size
     have hzk3 := Nat.lt_of_lt_of_le hzk2 hb3.size
     clear hW3 hg3 hb1 ht1 hb3 hv3 ht3 b0 b1 b2 b3 b4 p0 p1 p2 p3 p4 HDC hz2 HCL x2
     obtain ⟨rs, hr, hlen, htt⟩ := HTL.out
     have hrl : rs.length = qnl := (rd_nlen hr).symm
     have HNL : Hid (CL.length = qnl) := by unfold Hid; omega
     have hn9 : qnl <= 1759218604390 := by have := HCO.out; have := HNL.out; omega
     have HRS := Lib.hid hr
     have HTT := Lib.hid htt
     have hBw3 : B <= W3.heap.size := Nat.le_trans hBw0 HB3.out.size
     have hzw := HB3.out.size
     clear hr hlen htt HTL
     go_wp2_with fail
     go_loopw [10, 11] (fun u i wr => ∃ j c : Nat, j <= qnl /\ u = .int .i64 (c : Int) /\ i = .int .i64 (j : Int) /\ c <= j /\ Hid (c = cntT ((CL.take j).map (holF v)) /\ Below W3.heap.size W3 wr)) (fun _ i _ => qnl - (intOf i).toNat)
     case atStart => exact ⟨0, 0, by omega, rfl, rfl, Nat.le_refl _, rfl, Below.refl _ _⟩
     case round =>
      obtain ⟨j, c, hj, rfl, rfl, hcj, hH⟩ := hrel
      have HJ := Lib.hid hH.out.1
      have HBR := Lib.hid hH.out.2
      have y3r := bcs HBR.out hz3 y3
      have z2r := bcs HBR.out hgz3 z2
      have e0 := bcs HBR.out hzk3 d0
      have e1 := bcs HBR.out hzk3 d1
      have e2 := bcs HBR.out hzk3 d2
      have e3 := bcs HBR.out hzk3 d3
      have e4 := bcs HBR.out hzk3 d4
      clear hH d0 d1 d2 d3 d4 y3 z2
      have hj0 : (0 : Int) <= (j : Int) := Int.natCast_nonneg _
      have hc0 : (0 : Int) <= (c : Int) := Int.natCast_nonneg _
      have hq0 : (0 : Int) <= (qnl : Int) := Int.natCast_nonneg _
      have hbz := HBR.out.size
      by_cases hlt : j < qnl
      ·obtain ⟨y, hy⟩ : ∃ y, CL[j]? = some y := ⟨_, List.getElem?_eq_getElem (by have := HNL.out; omega)⟩
       obtain ⟨⟨xk, xn, xs, xpl, xnl, xcl, xpm, xnm, xcm⟩, hx⟩ : ∃ x, rs[j]? = some x := ⟨_, List.getElem?_eq_getElem (by omega)⟩
       have hj1 : (j : Int) < (qnl : Int) := by omega
       obtain ⟨b1', o1, rfl, hb1, hc1⟩ := rd_at' (HRS.out.below (HBR.out.mono hBw3) (Nat.le_refl _)) hx
       have f0 := hc1 0 _ rfl
       have f1 := hc1 1 _ rfl
       have f2 := hc1 2 _ rfl
       have f3 := hc1 3 _ rfl
       have f4 := hc1 4 _ rfl
       rw [Nat.add_zero] at f0
       dsimp only at f0 f1 f2 f3 f4
       have hcy : chkF y = 0 := chkFL_zero.1 HCZ.out y (List.mem_of_getElem? hy)
       have HCC := Lib.hid (HIH.out j y _ wr.drew hy hcy (HB3.out.trans (HBR.out.mono hzw)).drew ((HTT.out j y _ hy hx).under (HBR.out.drew.mono hBw3) (Nat.le_refl _)))
       dsimp only [RV.val] at HCC
       have HCT := Lib.hid (cnt_take (holF v) hy)
       obtain ⟨CE, hCE⟩ : ∃ c, holF v y = c := ⟨_, rfl⟩
       rw [hCE] at HCC HCT
       rw [<- HJ.out] at HCT
       clear hy hx hc1 hCE hcy z2r HJ
       cases CE
       all_goals
        go_upto_region 14 with fail
        have F0 := cell_dw f0
        have F1 := cell_dw f1
        have F2 := cell_dw f2
        have F3 := cell_dw f3
        have F4 := cell_dw f4
        have Y3 := cell_dw y3r
        have R0 := cell_dw e0
        have R1 := cell_dw e1
        have R2 := cell_dw e2
        have R3 := cell_dw e3
        have R4 := cell_dw e4
        have HBD := Lib.hid HBR.out.drew
        go_still_tail 6, (by kernel_rfl)
        change wpList _ _ _ _ _ wr.drew
        generalize wr.drew = WD at HBD HCC ⊢
        clear F0 F1 F2 F3 F4 Y3 R0 R1 R2 R3 R4 f0 f1 f2 f3 f4 y3r e0 e1 e2 e3 e4
        go_wp2_with (go_at_call 54; (with_reducible refine HCC.out.mono ?_); rintro e w4 ⟨rfl, hb4⟩)
        go_roundw
        case rel => first
         | exact ⟨j + 1, c, by omega, rfl, by go_num, by omega, HCT.out.symm, HBD.out.trans (hb4.mono HBD.out.size)⟩
         | exact ⟨j + 1, c + 1, by omega, by go_num, by go_num, by omega, HCT.out.symm, HBD.out.trans (hb4.mono HBD.out.size)⟩
        case measure => simp [intOf]; omega
      ·obtain rfl : j = qnl := by omega
       have HJ3 : Hid (c = cntT (CL.map (holF v))) := by
        have := HJ.out
        rw [List.take_of_length_le (by have := HNL.out; omega)] at this
        exact this
       have HLM : Hid ((CL.map (holF v)).length = j) := by unfold Hid; rw [List.length_map]; exact HNL.out
       obtain ⟨BS, hBS⟩ : ∃ b, CL.map (holF v) = b := ⟨_, rfl⟩
       rw [hBS] at HJ3 HLM HE2
       clear hBS HJ e0 e1 e2 e3 e4
       rcases HNM2.out with hn | hn | hn
       ·have t1 : (rS.toList == [65, 78, 68]) = true := by rw [hn, <- bytes_dec]; decide
        have hE3 : decide (c = j) = E := by
         have h1 := cntT_all BS
         rw [<- HJ3.out, HLM.out] at h1
         rw [h1, HE2.out, hn]
         rfl
        have HF := Lib.hid hE3
        clear hn hE3
        cases E with
        | true =>
          obtain rfl : c = j := of_decide_eq_true HF.out
          go_wp2_with fail
          go_ret
          exact ⟨by first | rfl | exact ret_boolI (by simp), HB0.out.trans ((HB3.out.trans (HBR.out.mono hzw)).mono hw0)⟩
        | false =>
          have hne : ¬ c = j := of_decide_eq_false HF.out
          have k1 : ((c : Int) == (j : Int)) = false := by simp; omega
          have k2 : decide ((c : Int) = (j : Int)) = false := decide_eq_false (by omega)
          have k3 : (c == j) = false := by simpa using hne
          go_wp2_with fail
          go_ret
          exact ⟨by first | rfl | exact ret_boolI k1 | exact ret_boolI k2, HB0.out.trans ((HB3.out.trans (HBR.out.mono hzw)).mono hw0)⟩
       ·have t1 : (rS.toList == [65, 78, 68]) = false := by rw [hn, <- bytes_dec]; decide
        have t2 : (rS.toList == [79, 82]) = true := by rw [hn, <- bytes_dec]; decide
        have hE3 : decide (0 < c) = E := by
         have h1 := cntT_any BS
         rw [<- HJ3.out] at h1
         rw [h1, HE2.out, hn]
         rfl
        have k2 : decide ((0 : Int) < (c : Int)) = E := by rw [<- hE3, decide_eq_decide]; omega
        have k3 : decide (0 < c) = E := hE3
        clear hn hE3
        cases E
        all_goals
         go_wp2_with fail
         go_ret
         exact ⟨by first | rfl | exact ret_boolI k2 | exact ret_boolI k3, HB0.out.trans ((HB3.out.trans (HBR.out.mono hzw)).mono hw0)⟩
       ·have t1 : (rS.toList == [65, 78, 68]) = false := by rw [hn, <- bytes_dec]; decide
        have t2 : (rS.toList == [79, 82]) = false := by rw [hn, <- bytes_dec]; decide
        have hE3 : decide (c = 0) = E := by
         have h1 := cntT_none BS
         rw [<- HJ3.out] at h1
         rw [h1, HE2.out, hn]
         rfl
        have HF := Lib.hid hE3
        clear hn hE3
        cases E with
        | true =>
          obtain rfl : c = 0 := of_decide_eq_true HF.out
          go_wp2_with fail
          go_ret
          exact ⟨by first | rfl | exact ret_boolI (by simp), HB0.out.trans ((HB3.out.trans (HBR.out.mono hzw)).mono hw0)⟩
        | false =>
          have hne : ¬ c = 0 := of_decide_eq_false HF.out
          have k1 : ((c : Int) == 0) = false := by simp; omega
          have k2 : decide ((c : Int) = 0) = false := decide_eq_false (by omega)
          go_wp2_with fail
          go_ret
          exact ⟨by first | rfl | exact ret_boolI k1 | exact ret_boolI k2, HB0.out.trans ((HB3.out.trans (HBR.out.mono hzw)).mono hw0)⟩
theorem rHolds_any (f v : JV) (rf rv : RV) (w : World) (B : Nat) (hBw : B <= w.heap.size) (htf : TreeOf w B f rf) (htv : TreeOf w B v rv) (of : f.Ok) (ov : v.Ok) (hct : countT v <= 100000) (hsz : sizeT v <= 4000000000) (hnull : f.k = 1 -> f.m = []) :
 Calls Tryz.prog 24 #[rf.val, rv.val] w fun e w' => e = .returned (.bool (holdsJ f v)) /\ Below w.heap.size w w' := by
 obtain ⟨W0, hW0⟩ : ∃ W0, (w.alloc rf.obj).alloc rv.obj = W0 := ⟨_, rfl⟩
 have hA0 : VAt W0 w.heap.size rf := by rw [<- hW0]; exact heap_alloc_lt (by simp) (heap_alloc_at rfl)
 have hK0 : VAt W0 (w.heap.size + 1) rv := by rw [<- hW0]; exact heap_alloc_at (by simp)
 have hB0 : Below w.heap.size w W0 := by rw [<- hW0]; exact ((Below.refl _ _).alloc (Nat.le_refl _) _).alloc (by simp) _
 have hw0 := hB0.size
 have hBw0 : B <= W0.heap.size := Nat.le_trans hBw hw0
 have HCK : Hid (Calls Tryz.prog 20 #[rf.val] W0 fun e w' => e = .returned (.int .i64 (checkJ f)) /\ Below W0.heap.size W0 w') := rCheck_any f rf W0 B hBw0 (htf.under (hB0.mono hBw) (Nat.le_refl _)) of
 have HHO : Hid (checkJ f = 0 -> ∀ W, Below W0.heap.size W0 W -> Calls Tryz.prog 54 #[rf.val, rv.val] W fun e w' => e = .returned (.bool (holF v f)) /\ Below W.heap.size W w') := fun hc W hW =>
  rholds_any v rv ov hct hsz _ f rf W B (Nat.le_refl _) (Nat.le_trans hBw0 hW.size) ((htf.under (hB0.mono hBw) (Nat.le_refl _)).under (hW.mono hBw0) (Nat.le_refl _)) ((htv.under (hB0.mono hBw) (Nat.le_refl _)).under (hW.mono hBw0) (Nat.le_refl _)) of (by
   unfold checkJ at hc
   by_cases h1 : f.k = 1
   ·exact .inr ⟨by omega, hnull h1⟩
   ·rw [if_neg h1] at hc
    by_cases h2 : 30 < countT f
    ·rw [if_pos h2] at hc
     cases hc
    ·rw [if_neg h2] at hc
     exact .inl hc)
 have HJ : Hid (holdsJ f v = (decide (rv.k = 6) && (decide (checkJ f = 0) && holF v f))) := by
  unfold Hid holdsJ
  rw [htv.kk.1]
 obtain ⟨R, hR⟩ : ∃ b, holdsJ f v = b := ⟨_, rfl⟩
 obtain ⟨CK, hCK⟩ : ∃ b, checkJ f = b := ⟨_, rfl⟩
 obtain ⟨HF, hHF⟩ : ∃ b, holF v f = b := ⟨_, rfl⟩
 rw [hR, hCK, hHF] at HJ
 rw [hCK] at HCK HHO
 rw [hHF] at HHO
 rw [hR]
 obtain ⟨k, n, s, pl, nl, cl, pm, nm, cm⟩ := rf
 obtain ⟨vk, vn, vs, vpl, vnl, vcl, vpm, vnm, vcm⟩ := rv
 dsimp only [RV.val, RV.obj] at *
 have HB0 := Lib.hid hB0
 clear hB0 htf htv hR hCK hHF hnull
 go_enter Tryz.func24, Tryz.ntmps24
 go_upto_region 1 with fail
 try rw [hW0]
 clear hW0
 obtain ⟨a0, a1, a2, a3, a4⟩ := hA0.cells5
 obtain ⟨q0, q1, q2, q3, q4⟩ := hK0.cells5
 dsimp only at q0 q1 q2 q3 q4
 have hz0 := hA0.lt
 have hzk := hK0.lt
 clear hA0 hK0
 by_cases hv6 : vk = 6
 ·subst hv6
  by_cases hc0 : CK = 0
  ·subst hc0
   have HH2 := Lib.hid (HHO.out rfl)
   have HR : Hid (HF = R) := by unfold Hid; rw [HJ.out]; simp
   clear HHO HJ
   go_wp2_with (first
    | (go_at_call 20; (with_reducible refine HCK.out.mono ?_); rintro e w1 ⟨rfl, hb1⟩; (have d0 := bcs hb1 hz0 a0); (have d1 := bcs hb1 hz0 a1); (have d2 := bcs hb1 hz0 a2); (have d3 := bcs hb1 hz0 a3); (have d4 := bcs hb1 hz0 a4); (have x0 := bcs hb1 hzk q0); (have x1 := bcs hb1 hzk q1); (have x2 := bcs hb1 hzk q2); (have x3 := bcs hb1 hzk q3); (have x4 := bcs hb1 hzk q4))
    | (go_at_call 54; (with_reducible refine (HH2.out _ hb1).mono ?_); rintro e w2 ⟨rfl, hb2⟩)
    | fail)
   go_ret
   exact ⟨ret_boolI HR.out, HB0.out.trans ((hb1.trans (hb2.mono hb1.size)).mono hw0)⟩
  ·have e1 : (CK == 0) = false := by simpa using hc0
   have HR : Hid (false = R) := by unfold Hid; rw [HJ.out]; simp [hc0]
   clear HHO HJ hc0
   go_wp2_with (first
    | (go_at_call 20; (with_reducible refine HCK.out.mono ?_); rintro e w1 ⟨rfl, hb1⟩)
    | fail)
   go_ret
   exact ⟨ret_boolI HR.out, HB0.out.trans (hb1.mono hw0)⟩
 ·have e1 : (vk == 6) = false := by simpa using hv6
  have HR : Hid (false = R) := by unfold Hid; rw [HJ.out]; simp [hv6]
  clear HHO HJ hv6 HCK
  go_wp2_with fail
  go_ret
  exact ⟨ret_boolI HR.out, HB0.out⟩
end
end Go.Proofs.YtffhccmppdgmfaaGreatDoor
