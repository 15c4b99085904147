import Derived.Test.YtffhccmppdgmfaaGreatDoorC15
import Derived.Test.YtffhccmppdgmfaaGreatDoorC12
set_option linter.unusedSimpArgs false
set_option linter.unusedVariables false
set_option maxRecDepth 200000
set_option maxHeartbeats 8000000
namespace Go.Proofs.YtffhccmppdgmfaaGreatDoor
section
open Go Go.RowKit Go.OpenShut
theorem whole_any (t : JV) (r : RV) (w : World) (B : Nat) (hBw : B <= w.heap.size) (ht : TreeOf w B t r) (ot : t.Ok) (hct : countT t <= 100000) :
 Calls Tryz.prog 55 #[r.val] w (OwnRet w 9 encS 1 (wholeJ t)) := by
 obtain ⟨W0, hW0⟩ : ∃ W0, w.alloc r.obj = W0 := ⟨_, rfl⟩
 have hA0 : VAt W0 w.heap.size r := by rw [<- hW0]; exact heap_alloc_at rfl
 have hB0 : Below w.heap.size w W0 := by rw [<- hW0]; exact (Below.refl _ _).alloc (Nat.le_refl _) _
 have hw0 := hB0.size
 have hBw0 : B <= W0.heap.size := Nat.le_trans hBw hw0
 have hTr : ∀ W, Below W0.heap.size W0 W -> TreeOf W B t r := fun W hW => (ht.under (hB0.mono hBw) (Nat.le_refl _)).under (hW.mono hBw0) (Nat.le_refl _)
 have HT : Hid (∀ W, Below W0.heap.size W0 W -> Calls Tryz.prog 59 #[r.val, .string svFull] W (fun e w' => ∃ u, e = .returned u /\ Own w' W0.heap.size 9 encS 1 u (textM t svFull) /\ Below W.heap.size W w')) := fun W hW => (text_any t r svFull W B (Nat.le_trans hBw0 hW.size) (hTr W hW) ot).mono fun e w' h => by
  obtain ⟨u, h1, h2, h3⟩ := h
  exact ⟨u, h1, h2.mono hW.size, h3⟩
 have HP : Hid (∀ W, Below W0.heap.size W0 W -> Calls Tryz.prog 56 #[r.val, .string ⟨#[]⟩] W (fun e w' => ∃ u, e = .returned u /\ Own w' W0.heap.size 9 encS 1 u (partsJ t ⟨#[]⟩) /\ Below W.heap.size W w')) := fun W hW => (parts_any t r ⟨#[]⟩ W B (Nat.le_trans hBw0 hW.size) (hTr W hW) ot (by decide)).mono fun e w' h => by
  obtain ⟨u, h1, h2, h3⟩ := h
  exact ⟨u, h1, h2.mono hW.size, h3⟩
 have hl1 := textM_len t svFull
 have hl2 := partsJ_count t ⟨#[]⟩
 unfold wholeJ
 obtain ⟨LT, hLT⟩ : ∃ L, textM t svFull = L := ⟨_, rfl⟩
 obtain ⟨LP, hLP⟩ : ∃ L, partsJ t ⟨#[]⟩ = L := ⟨_, rfl⟩
 rw [hLT] at HT hl1
 rw [hLP] at HP hl2
 rw [hLT, hLP]
 have HLN : Hid (LT.length + LP.length <= maxLen /\ (LT.length + LP.length) * 16 <= 140737488355328) := ⟨by unfold maxLen; omega, by omega⟩
 unfold svFull at HT
 obtain ⟨k, n, s, pl, nl, cl, pm, nm, cm⟩ := r
 dsimp only [RV.val, RV.obj] at *
 have HW := Lib.hid hW0
 have HB0 := Lib.hid hB0
 have hb00 : Below W0.heap.size W0 W0.drew := (Below.refl _ _).drew
 clear hW0 hB0 ht ot hLT hLP hl1 hl2 hct hTr
 go_enter Tryz.func55, Tryz.ntmps55
 go_upto_region 1 with fail
 rw [HW.out]
 clear HW
 obtain ⟨a0, a1, a2, a3, a4⟩ := hA0.cells5
 have hz0 := hA0.lt
 go_region_law
  (first
   | (go_simp; go_at_call 59
      (with_reducible refine (HT.out _ (by first | exact hbP | exact hb00)).mono ?_)
      rintro e wT ⟨uT, rfl, hoT, hbT'⟩
      have hbT : Below W0.heap.size W0 wT := (by first | exact hbP.trans (hbT'.mono hbP.size) | exact hb00.trans hbT')
      have d0 := bcs hbT hz0 a0
      have d1 := bcs hbT hz0 a1
      have d2 := bcs hbT hz0 a2
      have d3 := bcs hbT hz0 a3
      have d4 := bcs hbT hz0 a4)
   | (go_simp; go_at_call 56
      (with_reducible refine (HP.out _ (by first | exact hbT | exact hb00)).mono ?_)
      rintro e wP ⟨uP, rfl, hoP, hbP'⟩
      have hbP : Below W0.heap.size W0 wP := (by first | exact hbT.trans (hbP'.mono hbT.size) | exact hb00.trans hbP')
      have e0 := bcs hbP hz0 a0
      have e1 := bcs hbP hz0 a1
      have e2 := bcs hbP hz0 a2
      have e3 := bcs hbP hz0 a3
      have e4 := bcs hbP hz0 a4)
   | (have hoX := hoT.below hbP' (Nat.le_refl _)
      refine step_append_rd slS codecS wP (by rfl) (.tmp 4) (.tmp 6) (by rfl) (v := uT) (by rfl) (by rfl) hoX (hoP.rd codecS) HLN.out.1 HLN.out.2 hbP.size ?_
      intro v8 w8 ho8 hg8 hat8
      have hb8 := Below.appended hbP hg8 hoX hbP.size)
   | (have hrX := (hoP.rd codecS).below hbT' (Nat.le_refl _)
      refine step_append_rd slS codecS wT (by rfl) (.tmp 4) (.tmp 6) (by rfl) (v := uT) (by rfl) (by rfl) hoT hrX HLN.out.1 HLN.out.2 hbT.size ?_
      intro v8 w8 ho8 hg8 hat8
      have hb8 := Below.appended hbT hg8 hoT hbT.size)
   | fail)
 all_goals
  go_wp2_with fail
  go_ret
  exact ⟨v8, rfl, ho8.mono hw0, HB0.out.trans (hb8.mono hw0)⟩
theorem bytes_dec (p : ByteArray) (l : List UInt8) : decide (p = ⟨l.toArray⟩) = (p.toList == l) := by
 rw [ByteArray.toList_eq]
 by_cases h : p.data.toList = l
 ·rw [decide_eq_true (ByteArray.ext (Array.toList_inj.1 (by simpa using h)))]
  simpa using h
 ·rw [decide_eq_false (fun e => h (by rw [e]))]
  simpa using h
theorem dated_law (p : ByteArray) : datedB p = ((p.toList == [99, 114, 101, 97, 116, 101, 100]) || (p.toList == [117, 112, 100, 97, 116, 101, 100])) := by
 unfold datedB
 rw [<- bytes_dec, <- bytes_dec]
 rfl
theorem dated_any (p : ByteArray) (dn : Bool) (w : World) : Calls Tryz.prog 110 #[.agg #[.string p, .bool dn]] w fun e w' => e = .returned (.bool (datedB p)) /\ Below w.heap.size w w' := by
 rw [dated_law]
 obtain ⟨x, hx⟩ : ∃ b, (p.toList == [99, 114, 101, 97, 116, 101, 100]) = b := ⟨_, rfl⟩
 obtain ⟨y, hy⟩ : ∃ b, (p.toList == [117, 112, 100, 97, 116, 101, 100]) = b := ⟨_, rfl⟩
 have HB := Lib.hid ((Below.refl w.heap.size w).alloc (Nat.le_refl _) (.cells #[.string p, .bool dn] 119))
 obtain ⟨R, hR⟩ : ∃ R, ((p.toList == [99, 114, 101, 97, 116, 101, 100]) || (p.toList == [117, 112, 100, 97, 116, 101, 100])) = R := ⟨_, rfl⟩
 rw [hR]
 rw [hx, hy] at hR
 have c0 : (w.alloc (.cells #[.string p, .bool dn] 119)).cell? ⟨w.heap.size, 0, none⟩ = some (.string p) := (cell_of_row _ w.heap.size 0 _ _ _ (heap_alloc_at rfl)).trans rfl
 have HR := Lib.hid hR
 clear hR
 cases x <;> cases y
 all_goals
  go_enter Tryz.func110, Tryz.ntmps110
  go_wp2_with fail
  rw [<- HR.out]
  go_ret
  exact ⟨rfl, HB.out⟩
def keyK (t : JV) (p : ByteArray) : ByteArray := if datedB p then stampK t p else nameK t p
theorem stampK_of (t : JV) (p : ByteArray) : stampK t p = if ((t.get p).getD JV.zero).k = 4 then ((t.get p).getD JV.zero).s else ⟨#[]⟩ := by
 unfold stampK
 rw [textM_of]
 split <;> rfl
theorem key_any (p : ByteArray) (dn : Bool) (hp : datedB p = true \/ p = givenN \/ p = surN \/ p = sur2N) (t : JV) (r : RV) (w : World) (B : Nat) (hBw : B <= w.heap.size) (ht : TreeOf w B t r) (ot : t.Ok) :
 Calls Tryz.prog 112 #[.agg #[.string p, .bool dn], r.val] w fun e w' => e = .returned (.string (keyK t p)) /\ Below w.heap.size w w' := by
 obtain ⟨W0, hW0⟩ : ∃ W0, (w.alloc (.cells #[.string p, .bool dn] 119)).alloc r.obj = W0 := ⟨_, rfl⟩
 have hC0 : W0.heap[w.heap.size]? = some (.cells #[.string p, .bool dn] 119 (0, 0)) := by rw [<- hW0]; exact heap_alloc_lt (by simp) (heap_alloc_at rfl)
 have hA0 : VAt W0 (w.heap.size + 1) r := by rw [<- hW0]; exact heap_alloc_at (by simp)
 have hB0 : Below w.heap.size w W0 := by rw [<- hW0]; exact below2 w _ _
 have hc0 : W0.cell? ⟨w.heap.size, 0, none⟩ = some (.string p) := (cell_of_row _ w.heap.size 0 _ _ _ hC0).trans rfl
 have hc1 : W0.cell? ⟨w.heap.size, 1, none⟩ = some (.bool dn) := (cell_of_row _ w.heap.size 1 _ _ _ hC0).trans rfl
 have hl0 := hA0.lt
 have HDT : Hid (∀ W, Calls Tryz.prog 110 #[.agg #[.string p, .bool dn]] W fun e w' => e = .returned (.bool (datedB p)) /\ Below W.heap.size W w') := fun W => dated_any p dn W
 have ht0 : TreeOf W0 B t r := ht.under (hB0.mono hBw) (Nat.le_refl _)
 have hw0 := hB0.size
 have HC : Hid (∀ W, Below W0.heap.size W0 W -> Calls Tryz.prog 15 #[r.val, .string p] W (GetRetB W B (t.get p))) := fun W hW => getB_any t r p W B (Nat.le_trans (Nat.le_trans hBw hw0) hW.size) (ht0.under (hW.mono (Nat.le_trans hBw hw0)) (Nat.le_refl _)) ot
 have HT : Hid (datedB p = false -> ∀ W, Below W0.heap.size W0 W -> Calls Tryz.prog 26 #[r.val, .string p] W (OwnRet W 9 encS 1 (partsJ (nameV t) (p.extract 5 p.size)))) := fun hd W hW => ntexts_any t r p (by rcases hp with h | h; (rw [hd] at h; cases h); exact h) W B (Nat.le_trans (Nat.le_trans hBw hw0) hW.size) (ht0.under (hW.mono (Nat.le_trans hBw hw0)) (Nat.le_refl _)) ot
 have HK : Hid (keyK t p = if datedB p then (if ((t.get p).getD JV.zero).k = 4 then ((t.get p).getD JV.zero).s else ⟨#[]⟩) else (partsJ (nameV t) (p.extract 5 p.size)).headD ⟨#[]⟩) := by
  unfold Hid keyK
  rw [stampK_of]
  rfl
 obtain ⟨R, hR⟩ : ∃ R, keyK t p = R := ⟨_, rfl⟩
 rw [hR] at HK
 rw [hR]
 obtain ⟨L, hL⟩ : ∃ L, partsJ (nameV t) (p.extract 5 p.size) = L := ⟨_, rfl⟩
 rw [hL] at HT HK
 obtain ⟨k, n, s, pl, nl, cl, pm, nm, cm⟩ := r
 dsimp only [RV.val, RV.obj] at *
 have HW := Lib.hid hW0
 have HB0 := Lib.hid hB0
 clear hW0 hB0 ht ot hL hR hC0 hp ht0
 cases hd : datedB p with
 | true =>
   rw [hd] at HDT HK
   clear HT
   go_enter Tryz.func112, Tryz.ntmps112
   go_upto_region 1 with fail
   rw [HW.out]
   clear HW
   obtain ⟨a0, a1, a2, a3, a4⟩ := hA0.cells5
   go_upto_region 2 with (go_at_call 110; refine (HDT.out _).mono ?_; rintro e w1 ⟨rfl, hb1⟩)
   have hA1 := hA0.under hb1 hl0
   have hd0 := bcs hb1 (Nat.lt_of_succ_lt hl0) hc0
   have hd1 := bcs hb1 (Nat.lt_of_succ_lt hl0) hc1
   obtain ⟨d0, d1, d2, d3, d4⟩ := hA1.cells5
   have HC1 := Lib.hid (HC.out w1 hb1)
   have hz1 := hb1.size
   clear HC hA1 hA0 hc0 hc1
   go_upto_region 3 with (go_at_call 15; refine HC1.out.mono ?_; rintro e w2 ⟨rv, bb, rfl, hbb, ht1, hb2⟩; obtain ⟨rk, rn, rS, rpl, rnl, rcl, rpm, rnm, rcm⟩ := rv)
   obtain ⟨hkk, hss⟩ := ht1.kk
   dsimp only at hkk hss
   have hb12 := hb1.trans (hb2.mono hz1)
   have hz2 := hb12.size
   have hb3 : Below W0.heap.size W0 (w2.alloc (.cells #[.int .i64 rk, .int .i64 rn, .string rS, .slice rpl rnl rcl, .slice rpm rnm rcm] 25)) := hb12.alloc hz2 _
   have hv2 : VAt (w2.alloc (.cells #[.int .i64 rk, .int .i64 rn, .string rS, .slice rpl rnl rcl, .slice rpm rnm rcm] 25)) w2.heap.size ⟨rk, rn, rS, rpl, rnl, rcl, rpm, rnm, rcm⟩ := heap_alloc_at rfl
   obtain ⟨g, hg⟩ : ∃ g, w2.heap.size = g := ⟨_, rfl⟩
   obtain ⟨W2, hW2⟩ : ∃ W, w2.alloc (.cells #[.int .i64 rk, .int .i64 rn, .string rS, .slice rpl rnl rcl, .slice rpm rnm rcm] 25) = W := ⟨_, rfl⟩
   rw [hW2] at hb3 hv2
   rw [hg] at hv2
   try rw [hW2]
   try rw [hg]
   obtain ⟨v0, v1, v2, v3, v4⟩ := hv2.cells5
   dsimp only at v0 v1 v2 v3 v4
   have HX := Lib.hid (HB0.out.trans (hb3.mono hw0))
   clear hW2 hg hb1 ht1 hb2 hb3 hb12 hv2 hz1 hz2 HC1
   by_cases hk4 : rk = 4
   ·subst hk4
    have HR : Hid (R = rS) := by unfold Hid; rw [HK.out, if_pos trivial, <- hkk, if_pos rfl, hss]
    clear hkk hss
    go_wp2_with fail
    rw [HR.out]
    go_ret
    exact ⟨rfl, HX.out⟩
   ·have q1 : (rk == 4) = false := by simpa using hk4
    have HR : Hid (R = ⟨#[]⟩) := by unfold Hid; rw [HK.out, if_pos trivial, <- hkk, if_neg hk4]
    clear hkk hss
    go_wp2_with fail
    rw [HR.out]
    go_ret
    exact ⟨rfl, HX.out⟩
 | false =>
   rw [hd] at HDT HK
   clear HC
   go_enter Tryz.func112, Tryz.ntmps112
   go_upto_region 1 with fail
   rw [HW.out]
   clear HW
   obtain ⟨a0, a1, a2, a3, a4⟩ := hA0.cells5
   go_upto_region 6 with (go_at_call 110; refine (HDT.out _).mono ?_; rintro e w1 ⟨rfl, hb1⟩)
   have hA1 := hA0.under hb1 hl0
   have hd0 := bcs hb1 (Nat.lt_of_succ_lt hl0) hc0
   have hd1 := bcs hb1 (Nat.lt_of_succ_lt hl0) hc1
   obtain ⟨d0, d1, d2, d3, d4⟩ := hA1.cells5
   have HT1 := Lib.hid (HT.out hd w1 hb1)
   have hz1 := hb1.size
   clear HT hA1 hA0 hc0 hc1
   cases L with
   | nil =>
     have HR : Hid (R = ⟨#[]⟩) := by unfold Hid; rw [HK.out]; rfl
     go_wp2_with (go_at_call 26; refine HT1.out.mono ?_; rintro e w2 ⟨u2, rfl, ho2, hb2⟩; (obtain ⟨p2, n2, c2, rfl⟩ : ∃ p n c, u2 = Value.slice p n c := by (obtain ⟨p, c, hv, _, _⟩ := ho2.len; exact ⟨p, _, c, hv⟩)); (obtain rfl : n2 = 0 := rd_nlen (ho2.rd codecS)))
     rw [HR.out]
     go_ret
     exact ⟨rfl, HB0.out.trans ((hb1.trans (hb2.mono hz1)).mono hw0)⟩
   | cons x rest =>
     have HR : Hid (R = x) := by unfold Hid; rw [HK.out]; rfl
     go_wp2_with (go_at_call 26; refine HT1.out.mono ?_; rintro e w2 ⟨u2, rfl, ho2, hb2⟩; (obtain ⟨p2, n2, c2, rfl⟩ : ∃ p n c, u2 = Value.slice p n c := by (obtain ⟨p, c, hv, _, _⟩ := ho2.len; exact ⟨p, _, c, hv⟩)); (have hn2 : n2 = rest.length + 1 := rd_nlen (ho2.rd codecS)); (have hn3 : (0 : Int) < (n2 : Int) := by omega); (obtain ⟨b2, o2, rfl, _, hc2⟩ := rd_at' (k := 0) (x := x) (ho2.rd codecS) rfl); (have hcl : w2.cell? ⟨b2, o2, none⟩ = some (.string x) := by simpa using hc2 0 _ rfl); clear hn2)
     rw [HR.out]
     go_ret
     exact ⟨rfl, HB0.out.trans ((hb1.trans (hb2.mono hz1)).mono hw0)⟩
theorem stx_name (t : JV) (r : RV) (w : World) (B : Nat) (hBw : B <= w.heap.size) (ht : TreeOf w B t r) (ot : t.Ok) (hct : countT t <= 100000) :
 Calls Tryz.prog 26 #[r.val, .string nameN] w (OwnRet w 9 encS 1 (wholeJ (nameV t))) := by
 obtain ⟨W0, hW0⟩ : ∃ W0, w.alloc r.obj = W0 := ⟨_, rfl⟩
 have hA0 : VAt W0 w.heap.size r := by rw [<- hW0]; exact heap_alloc_at rfl
 have hB0 : Below w.heap.size w W0 := by rw [<- hW0]; exact (Below.refl _ _).alloc (Nat.le_refl _) _
 have HC : Hid (Calls Tryz.prog 15 #[r.val, .string nameN] W0 (GetRetB W0 B (t.get nameN))) := getB_any t r nameN W0 B (Nat.le_trans hBw hB0.size) (ht.under (hB0.mono hBw) (Nat.le_refl _)) ot
 have hw0 := hB0.size
 have HTR : Hid (∀ W, Below w.heap.size w W -> TreeOf W B t r) := fun W hW => ht.under (hW.mono hBw) (Nat.le_refl _)
 have hcn : countT (nameV t) <= 100000 := Nat.le_trans (count_name t) hct
 have HWH : Hid (∀ (q : RV) (W : World), B <= W.heap.size -> TreeOf W B (nameV t) q -> Calls Tryz.prog 55 #[q.val] W (OwnRet W 9 encS 1 (wholeJ (nameV t)))) := fun q W hB hq => whole_any (nameV t) q W B hB hq (nameV_ok ot) hcn
 have HNV : Hid ((t.get nameN).getD JV.zero = nameV t) := rfl
 obtain ⟨L, hL⟩ : ∃ L, wholeJ (nameV t) = L := ⟨_, rfl⟩
 rw [hL] at HWH
 rw [hL]
 clear hL hcn
 obtain ⟨k, n, s, pl, nl, cl, pm, nm, cm⟩ := r
 dsimp only [RV.val, RV.obj] at *
 have HW := Lib.hid hW0
 have HB0 := Lib.hid hB0
 unfold nameN at HC
 try unfold nameN
 clear hW0 hB0 ht
 go_enter Tryz.func26, Tryz.ntmps26
 go_upto_region 1 with fail
 rw [HW.out]
 clear HW
 obtain ⟨a0, a1, a2, a3, a4⟩ := hA0.cells5
 have hz0 := hA0.lt
 go_upto_region 3 with (go_at_call 15; refine HC.out.mono ?_; rintro e w1 ⟨rv, bb, rfl, hbb, ht1, hb1⟩; obtain ⟨rk, rn, rS, rpl, rnl, rcl, rpm, rnm, rcm⟩ := rv)
 have hz1 := hb1.size
 have hb2 : Below W0.heap.size W0 (w1.alloc (.cells #[.int .i64 rk, .int .i64 rn, .string rS, .slice rpl rnl rcl, .slice rpm rnm rcm] 25)) := hb1.alloc hz1 _
 have hv2 : VAt (w1.alloc (.cells #[.int .i64 rk, .int .i64 rn, .string rS, .slice rpl rnl rcl, .slice rpm rnm rcm] 25)) w1.heap.size ⟨rk, rn, rS, rpl, rnl, rcl, rpm, rnm, rcm⟩ := heap_alloc_at rfl
 have ht2 := ht1.under ((Below.refl B w1).alloc (Nat.le_trans (Nat.le_trans hBw hw0) hz1) (.cells #[.int .i64 rk, .int .i64 rn, .string rS, .slice rpl rnl rcl, .slice rpm rnm rcm] 25)) (Nat.le_refl _)
 obtain ⟨g, hg⟩ : ∃ g, w1.heap.size = g := ⟨_, rfl⟩
 obtain ⟨W2, hW2⟩ : ∃ W, w1.alloc (.cells #[.int .i64 rk, .int .i64 rn, .string rS, .slice rpl rnl rcl, .slice rpm rnm rcm] 25) = W := ⟨_, rfl⟩
 rw [hW2] at hb2 hv2 ht2
 rw [hg] at hv2
 try rw [hW2]
 try rw [hg]
 obtain ⟨v0, v1, v2, v3, v4⟩ := hv2.cells5
 dsimp only at v0 v1 v2 v3 v4
 have b0 := bcs hb2 hz0 a0
 have b1 := bcs hb2 hz0 a1
 have b2 := bcs hb2 hz0 a2
 have b3 := bcs hb2 hz0 a3
 have b4 := bcs hb2 hz0 a4
 have hbw := HB0.out.trans (hb2.mono hw0)
 have HX := Lib.hid hbw
 have hw2 := hbw.size
 have hBw2 : B <= W2.heap.size := Nat.le_trans hBw hw2
 have HT2 := Lib.hid ht2
 clear hW2 hg hb1 ht1 hb2 hv2 hz1 hbw ht2 a0 a1 a2 a3 a4 hbb
 have HTN : TreeOf W2 B (nameV t) ⟨rk, rn, rS, rpl, rnl, rcl, rpm, rnm, rcm⟩ := HT2.out
 have HWC := Lib.hid (HWH.out _ W2 hBw2 HTN)
 clear HTN
 dsimp only [RV.val] at HWC
 go_wp2_with (go_at_call 55; (with_reducible refine HWC.out.mono ?_); rintro e w3 ⟨u3, rfl, ho3, hb3⟩)
 go_ret
 exact ⟨u3, rfl, ho3.mono hw2, HX.out.trans (hb3.mono hw2)⟩
theorem stx_nick (t : JV) (r : RV) (w : World) (B : Nat) (hBw : B <= w.heap.size) (ht : TreeOf w B t r) (ot : t.Ok) (hct : countT t <= 100000) :
 Calls Tryz.prog 26 #[r.val, .string svNick] w (OwnRet w 9 encS 1 (namedJ t svNicks [nameN])) := by
 obtain ⟨W0, hW0⟩ : ∃ W0, w.alloc r.obj = W0 := ⟨_, rfl⟩
 have hA0 : VAt W0 w.heap.size r := by rw [<- hW0]; exact heap_alloc_at rfl
 have hB0 : Below w.heap.size w W0 := by rw [<- hW0]; exact (Below.refl _ _).alloc (Nat.le_refl _) _
 have HC : Hid (Calls Tryz.prog 15 #[r.val, .string nameN] W0 (GetRetB W0 B (t.get nameN))) := getB_any t r nameN W0 B (Nat.le_trans hBw hB0.size) (ht.under (hB0.mono hBw) (Nat.le_refl _)) ot
 have hw0 := hB0.size
 have HTR : Hid (∀ W, Below w.heap.size w W -> TreeOf W B t r) := fun W hW => ht.under (hW.mono hBw) (Nat.le_refl _)
 have HNM : Hid (∀ W, Below w.heap.size w W -> ∀ p n c, Rd W W.heap.size encS 1 (.slice p n c) [nameN] -> Calls Tryz.prog 57 #[r.val, .string svNicks, .slice p n c] W (OwnRet W 9 encS 1 (namedJ t svNicks [nameN]))) := fun W hW p n c hr => named_any t r svNicks [nameN] p n c W B (Nat.le_trans hBw hW.size) (HTR.out W hW) ot hct hr (by simp)
 obtain ⟨L, hL⟩ : ∃ L, namedJ t svNicks [nameN] = L := ⟨_, rfl⟩
 rw [hL] at HNM
 rw [hL]
 clear hL
 obtain ⟨k, n, s, pl, nl, cl, pm, nm, cm⟩ := r
 dsimp only [RV.val, RV.obj] at *
 have HW := Lib.hid hW0
 have HB0 := Lib.hid hB0
 unfold nameN at HC
 try unfold nameN at *
 try unfold svNick at *
 try unfold svNicks at *
 clear hW0 hB0 ht
 go_enter Tryz.func26, Tryz.ntmps26
 go_upto_region 1 with fail
 rw [HW.out]
 clear HW
 obtain ⟨a0, a1, a2, a3, a4⟩ := hA0.cells5
 have hz0 := hA0.lt
 go_upto_region 3 with (go_at_call 15; refine HC.out.mono ?_; rintro e w1 ⟨rv, bb, rfl, hbb, ht1, hb1⟩; obtain ⟨rk, rn, rS, rpl, rnl, rcl, rpm, rnm, rcm⟩ := rv)
 have hz1 := hb1.size
 have hb2 : Below W0.heap.size W0 (w1.alloc (.cells #[.int .i64 rk, .int .i64 rn, .string rS, .slice rpl rnl rcl, .slice rpm rnm rcm] 25)) := hb1.alloc hz1 _
 have hv2 : VAt (w1.alloc (.cells #[.int .i64 rk, .int .i64 rn, .string rS, .slice rpl rnl rcl, .slice rpm rnm rcm] 25)) w1.heap.size ⟨rk, rn, rS, rpl, rnl, rcl, rpm, rnm, rcm⟩ := heap_alloc_at rfl
 have ht2 := ht1.under ((Below.refl B w1).alloc (Nat.le_trans (Nat.le_trans hBw hw0) hz1) (.cells #[.int .i64 rk, .int .i64 rn, .string rS, .slice rpl rnl rcl, .slice rpm rnm rcm] 25)) (Nat.le_refl _)
 obtain ⟨g, hg⟩ : ∃ g, w1.heap.size = g := ⟨_, rfl⟩
 obtain ⟨W2, hW2⟩ : ∃ W, w1.alloc (.cells #[.int .i64 rk, .int .i64 rn, .string rS, .slice rpl rnl rcl, .slice rpm rnm rcm] 25) = W := ⟨_, rfl⟩
 rw [hW2] at hb2 hv2 ht2
 rw [hg] at hv2
 try rw [hW2]
 try rw [hg]
 obtain ⟨v0, v1, v2, v3, v4⟩ := hv2.cells5
 dsimp only at v0 v1 v2 v3 v4
 have b0 := bcs hb2 hz0 a0
 have b1 := bcs hb2 hz0 a1
 have b2 := bcs hb2 hz0 a2
 have b3 := bcs hb2 hz0 a3
 have b4 := bcs hb2 hz0 a4
 have hbw := HB0.out.trans (hb2.mono hw0)
 have HX := Lib.hid hbw
 have hw2 := hbw.size
 have hBw2 : B <= W2.heap.size := Nat.le_trans hBw hw2
 have HT2 := Lib.hid ht2
 clear hW2 hg hb1 ht1 hb2 hv2 hz1 hbw ht2 a0 a1 a2 a3 a4 hbb
 have HR3 : Hid (Rd (W2.alloc (.cells #[.string nameN] 9)) (W2.alloc (.cells #[.string nameN] 9)).heap.size encS 1 (.slice (some ⟨W2.heap.size, 0, none⟩) 1 1) [nameN]) := (Own.block (xs := [nameN]) (base := W2.heap.size) codecS (heap_alloc_at rfl) rfl rfl (Nat.le_refl _) (by decide)).rd codecS
 have HB3 := Lib.hid (HX.out.alloc hw2 (.cells #[.string nameN] 9))
 have HNC := Lib.hid (HNM.out _ HB3.out _ _ _ HR3.out)
 try unfold nameN at HR3 HB3 HNC
 try unfold svNick at HR3 HB3 HNC
 try unfold svNicks at HR3 HB3 HNC
 go_wp2_with (go_at_call 57; (with_reducible refine HNC.out.mono ?_); rintro e w3 ⟨u3, rfl, ho3, hb3⟩)
 go_ret
 exact ⟨u3, rfl, ho3.mono HB3.out.size, HB3.out.trans (hb3.mono HB3.out.size)⟩
theorem stx_email (t : JV) (r : RV) (w : World) (B : Nat) (hBw : B <= w.heap.size) (ht : TreeOf w B t r) (ot : t.Ok) (hct : countT t <= 100000) :
 Calls Tryz.prog 26 #[r.val, .string svEmail] w (OwnRet w 9 encS 1 (namedJ t svEmails [svAddr])) := by
 obtain ⟨W0, hW0⟩ : ∃ W0, w.alloc r.obj = W0 := ⟨_, rfl⟩
 have hA0 : VAt W0 w.heap.size r := by rw [<- hW0]; exact heap_alloc_at rfl
 have hB0 : Below w.heap.size w W0 := by rw [<- hW0]; exact (Below.refl _ _).alloc (Nat.le_refl _) _
 have HC : Hid (Calls Tryz.prog 15 #[r.val, .string nameN] W0 (GetRetB W0 B (t.get nameN))) := getB_any t r nameN W0 B (Nat.le_trans hBw hB0.size) (ht.under (hB0.mono hBw) (Nat.le_refl _)) ot
 have hw0 := hB0.size
 have HTR : Hid (∀ W, Below w.heap.size w W -> TreeOf W B t r) := fun W hW => ht.under (hW.mono hBw) (Nat.le_refl _)
 have HNM : Hid (∀ W, Below w.heap.size w W -> ∀ p n c, Rd W W.heap.size encS 1 (.slice p n c) [svAddr] -> Calls Tryz.prog 57 #[r.val, .string svEmails, .slice p n c] W (OwnRet W 9 encS 1 (namedJ t svEmails [svAddr]))) := fun W hW p n c hr => named_any t r svEmails [svAddr] p n c W B (Nat.le_trans hBw hW.size) (HTR.out W hW) ot hct hr (by simp)
 obtain ⟨L, hL⟩ : ∃ L, namedJ t svEmails [svAddr] = L := ⟨_, rfl⟩
 rw [hL] at HNM
 rw [hL]
 clear hL
 obtain ⟨k, n, s, pl, nl, cl, pm, nm, cm⟩ := r
 dsimp only [RV.val, RV.obj] at *
 have HW := Lib.hid hW0
 have HB0 := Lib.hid hB0
 unfold nameN at HC
 try unfold svAddr at *
 try unfold svEmail at *
 try unfold svEmails at *
 clear hW0 hB0 ht
 go_enter Tryz.func26, Tryz.ntmps26
 go_upto_region 1 with fail
 rw [HW.out]
 clear HW
 obtain ⟨a0, a1, a2, a3, a4⟩ := hA0.cells5
 have hz0 := hA0.lt
 go_upto_region 3 with (go_at_call 15; refine HC.out.mono ?_; rintro e w1 ⟨rv, bb, rfl, hbb, ht1, hb1⟩; obtain ⟨rk, rn, rS, rpl, rnl, rcl, rpm, rnm, rcm⟩ := rv)
 have hz1 := hb1.size
 have hb2 : Below W0.heap.size W0 (w1.alloc (.cells #[.int .i64 rk, .int .i64 rn, .string rS, .slice rpl rnl rcl, .slice rpm rnm rcm] 25)) := hb1.alloc hz1 _
 have hv2 : VAt (w1.alloc (.cells #[.int .i64 rk, .int .i64 rn, .string rS, .slice rpl rnl rcl, .slice rpm rnm rcm] 25)) w1.heap.size ⟨rk, rn, rS, rpl, rnl, rcl, rpm, rnm, rcm⟩ := heap_alloc_at rfl
 have ht2 := ht1.under ((Below.refl B w1).alloc (Nat.le_trans (Nat.le_trans hBw hw0) hz1) (.cells #[.int .i64 rk, .int .i64 rn, .string rS, .slice rpl rnl rcl, .slice rpm rnm rcm] 25)) (Nat.le_refl _)
 obtain ⟨g, hg⟩ : ∃ g, w1.heap.size = g := ⟨_, rfl⟩
 obtain ⟨W2, hW2⟩ : ∃ W, w1.alloc (.cells #[.int .i64 rk, .int .i64 rn, .string rS, .slice rpl rnl rcl, .slice rpm rnm rcm] 25) = W := ⟨_, rfl⟩
 rw [hW2] at hb2 hv2 ht2
 rw [hg] at hv2
 try rw [hW2]
 try rw [hg]
 obtain ⟨v0, v1, v2, v3, v4⟩ := hv2.cells5
 dsimp only at v0 v1 v2 v3 v4
 have b0 := bcs hb2 hz0 a0
 have b1 := bcs hb2 hz0 a1
 have b2 := bcs hb2 hz0 a2
 have b3 := bcs hb2 hz0 a3
 have b4 := bcs hb2 hz0 a4
 have hbw := HB0.out.trans (hb2.mono hw0)
 have HX := Lib.hid hbw
 have hw2 := hbw.size
 have hBw2 : B <= W2.heap.size := Nat.le_trans hBw hw2
 have HT2 := Lib.hid ht2
 clear hW2 hg hb1 ht1 hb2 hv2 hz1 hbw ht2 a0 a1 a2 a3 a4 hbb
 have HR3 : Hid (Rd (W2.alloc (.cells #[.string svAddr] 9)) (W2.alloc (.cells #[.string svAddr] 9)).heap.size encS 1 (.slice (some ⟨W2.heap.size, 0, none⟩) 1 1) [svAddr]) := (Own.block (xs := [svAddr]) (base := W2.heap.size) codecS (heap_alloc_at rfl) rfl rfl (Nat.le_refl _) (by decide)).rd codecS
 have HB3 := Lib.hid (HX.out.alloc hw2 (.cells #[.string svAddr] 9))
 have HNC := Lib.hid (HNM.out _ HB3.out _ _ _ HR3.out)
 try unfold svAddr at HR3 HB3 HNC
 try unfold svEmail at HR3 HB3 HNC
 try unfold svEmails at HR3 HB3 HNC
 go_wp2_with (go_at_call 57; (with_reducible refine HNC.out.mono ?_); rintro e w3 ⟨u3, rfl, ho3, hb3⟩)
 go_ret
 exact ⟨u3, rfl, ho3.mono HB3.out.size, HB3.out.trans (hb3.mono HB3.out.size)⟩
theorem stx_phone (t : JV) (r : RV) (w : World) (B : Nat) (hBw : B <= w.heap.size) (ht : TreeOf w B t r) (ot : t.Ok) (hct : countT t <= 100000) :
 Calls Tryz.prog 26 #[r.val, .string svPhone] w (OwnRet w 9 encS 1 (namedJ t svPhones [svNumber])) := by
 obtain ⟨W0, hW0⟩ : ∃ W0, w.alloc r.obj = W0 := ⟨_, rfl⟩
 have hA0 : VAt W0 w.heap.size r := by rw [<- hW0]; exact heap_alloc_at rfl
 have hB0 : Below w.heap.size w W0 := by rw [<- hW0]; exact (Below.refl _ _).alloc (Nat.le_refl _) _
 have HC : Hid (Calls Tryz.prog 15 #[r.val, .string nameN] W0 (GetRetB W0 B (t.get nameN))) := getB_any t r nameN W0 B (Nat.le_trans hBw hB0.size) (ht.under (hB0.mono hBw) (Nat.le_refl _)) ot
 have hw0 := hB0.size
 have HTR : Hid (∀ W, Below w.heap.size w W -> TreeOf W B t r) := fun W hW => ht.under (hW.mono hBw) (Nat.le_refl _)
 have HNM : Hid (∀ W, Below w.heap.size w W -> ∀ p n c, Rd W W.heap.size encS 1 (.slice p n c) [svNumber] -> Calls Tryz.prog 57 #[r.val, .string svPhones, .slice p n c] W (OwnRet W 9 encS 1 (namedJ t svPhones [svNumber]))) := fun W hW p n c hr => named_any t r svPhones [svNumber] p n c W B (Nat.le_trans hBw hW.size) (HTR.out W hW) ot hct hr (by simp)
 obtain ⟨L, hL⟩ : ∃ L, namedJ t svPhones [svNumber] = L := ⟨_, rfl⟩
 rw [hL] at HNM
 rw [hL]
 clear hL
 obtain ⟨k, n, s, pl, nl, cl, pm, nm, cm⟩ := r
 dsimp only [RV.val, RV.obj] at *
 have HW := Lib.hid hW0
 have HB0 := Lib.hid hB0
 unfold nameN at HC
 try unfold svNumber at *
 try unfold svPhone at *
 try unfold svPhones at *
 clear hW0 hB0 ht
 go_enter Tryz.func26, Tryz.ntmps26
 go_upto_region 1 with fail
 rw [HW.out]
 clear HW
 obtain ⟨a0, a1, a2, a3, a4⟩ := hA0.cells5
 have hz0 := hA0.lt
 go_upto_region 3 with (go_at_call 15; refine HC.out.mono ?_; rintro e w1 ⟨rv, bb, rfl, hbb, ht1, hb1⟩; obtain ⟨rk, rn, rS, rpl, rnl, rcl, rpm, rnm, rcm⟩ := rv)
 have hz1 := hb1.size
 have hb2 : Below W0.heap.size W0 (w1.alloc (.cells #[.int .i64 rk, .int .i64 rn, .string rS, .slice rpl rnl rcl, .slice rpm rnm rcm] 25)) := hb1.alloc hz1 _
 have hv2 : VAt (w1.alloc (.cells #[.int .i64 rk, .int .i64 rn, .string rS, .slice rpl rnl rcl, .slice rpm rnm rcm] 25)) w1.heap.size ⟨rk, rn, rS, rpl, rnl, rcl, rpm, rnm, rcm⟩ := heap_alloc_at rfl
 have ht2 := ht1.under ((Below.refl B w1).alloc (Nat.le_trans (Nat.le_trans hBw hw0) hz1) (.cells #[.int .i64 rk, .int .i64 rn, .string rS, .slice rpl rnl rcl, .slice rpm rnm rcm] 25)) (Nat.le_refl _)
 obtain ⟨g, hg⟩ : ∃ g, w1.heap.size = g := ⟨_, rfl⟩
 obtain ⟨W2, hW2⟩ : ∃ W, w1.alloc (.cells #[.int .i64 rk, .int .i64 rn, .string rS, .slice rpl rnl rcl, .slice rpm rnm rcm] 25) = W := ⟨_, rfl⟩
 rw [hW2] at hb2 hv2 ht2
 rw [hg] at hv2
 try rw [hW2]
 try rw [hg]
 obtain ⟨v0, v1, v2, v3, v4⟩ := hv2.cells5
 dsimp only at v0 v1 v2 v3 v4
 have b0 := bcs hb2 hz0 a0
 have b1 := bcs hb2 hz0 a1
 have b2 := bcs hb2 hz0 a2
 have b3 := bcs hb2 hz0 a3
 have b4 := bcs hb2 hz0 a4
 have hbw := HB0.out.trans (hb2.mono hw0)
 have HX := Lib.hid hbw
 have hw2 := hbw.size
 have hBw2 : B <= W2.heap.size := Nat.le_trans hBw hw2
 have HT2 := Lib.hid ht2
 clear hW2 hg hb1 ht1 hb2 hv2 hz1 hbw ht2 a0 a1 a2 a3 a4 hbb
 have HR3 : Hid (Rd (W2.alloc (.cells #[.string svNumber] 9)) (W2.alloc (.cells #[.string svNumber] 9)).heap.size encS 1 (.slice (some ⟨W2.heap.size, 0, none⟩) 1 1) [svNumber]) := (Own.block (xs := [svNumber]) (base := W2.heap.size) codecS (heap_alloc_at rfl) rfl rfl (Nat.le_refl _) (by decide)).rd codecS
 have HB3 := Lib.hid (HX.out.alloc hw2 (.cells #[.string svNumber] 9))
 have HNC := Lib.hid (HNM.out _ HB3.out _ _ _ HR3.out)
 try unfold svNumber at HR3 HB3 HNC
 try unfold svPhone at HR3 HB3 HNC
 try unfold svPhones at HR3 HB3 HNC
 go_wp2_with (go_at_call 57; (with_reducible refine HNC.out.mono ?_); rintro e w3 ⟨u3, rfl, ho3, hb3⟩)
 go_ret
 exact ⟨u3, rfl, ho3.mono HB3.out.size, HB3.out.trans (hb3.mono HB3.out.size)⟩
theorem stx_online (t : JV) (r : RV) (w : World) (B : Nat) (hBw : B <= w.heap.size) (ht : TreeOf w B t r) (ot : t.Ok) (hct : countT t <= 100000) :
 Calls Tryz.prog 26 #[r.val, .string svOnline] w (OwnRet w 9 encS 1 (namedJ t svOnlines [svService, svUri, svUser])) := by
 obtain ⟨W0, hW0⟩ : ∃ W0, w.alloc r.obj = W0 := ⟨_, rfl⟩
 have hA0 : VAt W0 w.heap.size r := by rw [<- hW0]; exact heap_alloc_at rfl
 have hB0 : Below w.heap.size w W0 := by rw [<- hW0]; exact (Below.refl _ _).alloc (Nat.le_refl _) _
 have HC : Hid (Calls Tryz.prog 15 #[r.val, .string nameN] W0 (GetRetB W0 B (t.get nameN))) := getB_any t r nameN W0 B (Nat.le_trans hBw hB0.size) (ht.under (hB0.mono hBw) (Nat.le_refl _)) ot
 have hw0 := hB0.size
 have HTR : Hid (∀ W, Below w.heap.size w W -> TreeOf W B t r) := fun W hW => ht.under (hW.mono hBw) (Nat.le_refl _)
 have HNM : Hid (∀ W, Below w.heap.size w W -> ∀ p n c, Rd W W.heap.size encS 1 (.slice p n c) [svService, svUri, svUser] -> Calls Tryz.prog 57 #[r.val, .string svOnlines, .slice p n c] W (OwnRet W 9 encS 1 (namedJ t svOnlines [svService, svUri, svUser]))) := fun W hW p n c hr => named_any t r svOnlines [svService, svUri, svUser] p n c W B (Nat.le_trans hBw hW.size) (HTR.out W hW) ot hct hr (by simp)
 obtain ⟨L, hL⟩ : ∃ L, namedJ t svOnlines [svService, svUri, svUser] = L := ⟨_, rfl⟩
 rw [hL] at HNM
 rw [hL]
 clear hL
 obtain ⟨k, n, s, pl, nl, cl, pm, nm, cm⟩ := r
 dsimp only [RV.val, RV.obj] at *
 have HW := Lib.hid hW0
 have HB0 := Lib.hid hB0
 unfold nameN at HC
 try unfold svOnline at *
 try unfold svOnlines at *
 try unfold svService at *
 try unfold svUri at *
 try unfold svUser at *
 clear hW0 hB0 ht
 go_enter Tryz.func26, Tryz.ntmps26
 go_upto_region 1 with fail
 rw [HW.out]
 clear HW
 obtain ⟨a0, a1, a2, a3, a4⟩ := hA0.cells5
 have hz0 := hA0.lt
 go_upto_region 3 with (go_at_call 15; refine HC.out.mono ?_; rintro e w1 ⟨rv, bb, rfl, hbb, ht1, hb1⟩; obtain ⟨rk, rn, rS, rpl, rnl, rcl, rpm, rnm, rcm⟩ := rv)
 have hz1 := hb1.size
 have hb2 : Below W0.heap.size W0 (w1.alloc (.cells #[.int .i64 rk, .int .i64 rn, .string rS, .slice rpl rnl rcl, .slice rpm rnm rcm] 25)) := hb1.alloc hz1 _
 have hv2 : VAt (w1.alloc (.cells #[.int .i64 rk, .int .i64 rn, .string rS, .slice rpl rnl rcl, .slice rpm rnm rcm] 25)) w1.heap.size ⟨rk, rn, rS, rpl, rnl, rcl, rpm, rnm, rcm⟩ := heap_alloc_at rfl
 have ht2 := ht1.under ((Below.refl B w1).alloc (Nat.le_trans (Nat.le_trans hBw hw0) hz1) (.cells #[.int .i64 rk, .int .i64 rn, .string rS, .slice rpl rnl rcl, .slice rpm rnm rcm] 25)) (Nat.le_refl _)
 obtain ⟨g, hg⟩ : ∃ g, w1.heap.size = g := ⟨_, rfl⟩
 obtain ⟨W2, hW2⟩ : ∃ W, w1.alloc (.cells #[.int .i64 rk, .int .i64 rn, .string rS, .slice rpl rnl rcl, .slice rpm rnm rcm] 25) = W := ⟨_, rfl⟩
 rw [hW2] at hb2 hv2 ht2
 rw [hg] at hv2
 try rw [hW2]
 try rw [hg]
 obtain ⟨v0, v1, v2, v3, v4⟩ := hv2.cells5
 dsimp only at v0 v1 v2 v3 v4
 have b0 := bcs hb2 hz0 a0
 have b1 := bcs hb2 hz0 a1
 have b2 := bcs hb2 hz0 a2
 have b3 := bcs hb2 hz0 a3
 have b4 := bcs hb2 hz0 a4
 have hbw := HB0.out.trans (hb2.mono hw0)
 have HX := Lib.hid hbw
 have hw2 := hbw.size
 have hBw2 : B <= W2.heap.size := Nat.le_trans hBw hw2
 have HT2 := Lib.hid ht2
 clear hW2 hg hb1 ht1 hb2 hv2 hz1 hbw ht2 a0 a1 a2 a3 a4 hbb
 have HR3 : Hid (Rd (W2.alloc (.cells #[.string svService, .string svUri, .string svUser] 9)) (W2.alloc (.cells #[.string svService, .string svUri, .string svUser] 9)).heap.size encS 1 (.slice (some ⟨W2.heap.size, 0, none⟩) 3 3) [svService, svUri, svUser]) := (Own.block (xs := [svService, svUri, svUser]) (base := W2.heap.size) codecS (heap_alloc_at rfl) rfl rfl (Nat.le_refl _) (by decide)).rd codecS
 have HB3 := Lib.hid (HX.out.alloc hw2 (.cells #[.string svService, .string svUri, .string svUser] 9))
 have HNC := Lib.hid (HNM.out _ HB3.out _ _ _ HR3.out)
 try unfold svOnline at HR3 HB3 HNC
 try unfold svOnlines at HR3 HB3 HNC
 try unfold svService at HR3 HB3 HNC
 try unfold svUri at HR3 HB3 HNC
 try unfold svUser at HR3 HB3 HNC
 go_wp2_with (go_at_call 57; (with_reducible refine HNC.out.mono ?_); rintro e w3 ⟨u3, rfl, ho3, hb3⟩)
 go_ret
 exact ⟨u3, rfl, ho3.mono HB3.out.size, HB3.out.trans (hb3.mono HB3.out.size)⟩
theorem stx_note (t : JV) (r : RV) (w : World) (B : Nat) (hBw : B <= w.heap.size) (ht : TreeOf w B t r) (ot : t.Ok) (hct : countT t <= 100000) :
 Calls Tryz.prog 26 #[r.val, .string svNote] w (OwnRet w 9 encS 1 (namedJ t svNotes [svNote])) := by
 obtain ⟨W0, hW0⟩ : ∃ W0, w.alloc r.obj = W0 := ⟨_, rfl⟩
 have hA0 : VAt W0 w.heap.size r := by rw [<- hW0]; exact heap_alloc_at rfl
 have hB0 : Below w.heap.size w W0 := by rw [<- hW0]; exact (Below.refl _ _).alloc (Nat.le_refl _) _
 have HC : Hid (Calls Tryz.prog 15 #[r.val, .string nameN] W0 (GetRetB W0 B (t.get nameN))) := getB_any t r nameN W0 B (Nat.le_trans hBw hB0.size) (ht.under (hB0.mono hBw) (Nat.le_refl _)) ot
 have hw0 := hB0.size
 have HTR : Hid (∀ W, Below w.heap.size w W -> TreeOf W B t r) := fun W hW => ht.under (hW.mono hBw) (Nat.le_refl _)
 have HNM : Hid (∀ W, Below w.heap.size w W -> ∀ p n c, Rd W W.heap.size encS 1 (.slice p n c) [svNote] -> Calls Tryz.prog 57 #[r.val, .string svNotes, .slice p n c] W (OwnRet W 9 encS 1 (namedJ t svNotes [svNote]))) := fun W hW p n c hr => named_any t r svNotes [svNote] p n c W B (Nat.le_trans hBw hW.size) (HTR.out W hW) ot hct hr (by simp)
 obtain ⟨L, hL⟩ : ∃ L, namedJ t svNotes [svNote] = L := ⟨_, rfl⟩
 rw [hL] at HNM
 rw [hL]
 clear hL
 obtain ⟨k, n, s, pl, nl, cl, pm, nm, cm⟩ := r
 dsimp only [RV.val, RV.obj] at *
 have HW := Lib.hid hW0
 have HB0 := Lib.hid hB0
 unfold nameN at HC
 try unfold svNote at *
 try unfold svNotes at *
 clear hW0 hB0 ht
 go_enter Tryz.func26, Tryz.ntmps26
 go_upto_region 1 with fail
 rw [HW.out]
 clear HW
 obtain ⟨a0, a1, a2, a3, a4⟩ := hA0.cells5
 have hz0 := hA0.lt
 go_upto_region 3 with (go_at_call 15; refine HC.out.mono ?_; rintro e w1 ⟨rv, bb, rfl, hbb, ht1, hb1⟩; obtain ⟨rk, rn, rS, rpl, rnl, rcl, rpm, rnm, rcm⟩ := rv)
 have hz1 := hb1.size
 have hb2 : Below W0.heap.size W0 (w1.alloc (.cells #[.int .i64 rk, .int .i64 rn, .string rS, .slice rpl rnl rcl, .slice rpm rnm rcm] 25)) := hb1.alloc hz1 _
 have hv2 : VAt (w1.alloc (.cells #[.int .i64 rk, .int .i64 rn, .string rS, .slice rpl rnl rcl, .slice rpm rnm rcm] 25)) w1.heap.size ⟨rk, rn, rS, rpl, rnl, rcl, rpm, rnm, rcm⟩ := heap_alloc_at rfl
 have ht2 := ht1.under ((Below.refl B w1).alloc (Nat.le_trans (Nat.le_trans hBw hw0) hz1) (.cells #[.int .i64 rk, .int .i64 rn, .string rS, .slice rpl rnl rcl, .slice rpm rnm rcm] 25)) (Nat.le_refl _)
 obtain ⟨g, hg⟩ : ∃ g, w1.heap.size = g := ⟨_, rfl⟩
 obtain ⟨W2, hW2⟩ : ∃ W, w1.alloc (.cells #[.int .i64 rk, .int .i64 rn, .string rS, .slice rpl rnl rcl, .slice rpm rnm rcm] 25) = W := ⟨_, rfl⟩
 rw [hW2] at hb2 hv2 ht2
 rw [hg] at hv2
 try rw [hW2]
 try rw [hg]
 obtain ⟨v0, v1, v2, v3, v4⟩ := hv2.cells5
 dsimp only at v0 v1 v2 v3 v4
 have b0 := bcs hb2 hz0 a0
 have b1 := bcs hb2 hz0 a1
 have b2 := bcs hb2 hz0 a2
 have b3 := bcs hb2 hz0 a3
 have b4 := bcs hb2 hz0 a4
 have hbw := HB0.out.trans (hb2.mono hw0)
 have HX := Lib.hid hbw
 have hw2 := hbw.size
 have hBw2 : B <= W2.heap.size := Nat.le_trans hBw hw2
 have HT2 := Lib.hid ht2
 clear hW2 hg hb1 ht1 hb2 hv2 hz1 hbw ht2 a0 a1 a2 a3 a4 hbb
 have HR3 : Hid (Rd (W2.alloc (.cells #[.string svNote] 9)) (W2.alloc (.cells #[.string svNote] 9)).heap.size encS 1 (.slice (some ⟨W2.heap.size, 0, none⟩) 1 1) [svNote]) := (Own.block (xs := [svNote]) (base := W2.heap.size) codecS (heap_alloc_at rfl) rfl rfl (Nat.le_refl _) (by decide)).rd codecS
 have HB3 := Lib.hid (HX.out.alloc hw2 (.cells #[.string svNote] 9))
 have HNC := Lib.hid (HNM.out _ HB3.out _ _ _ HR3.out)
 try unfold svNote at HR3 HB3 HNC
 try unfold svNotes at HR3 HB3 HNC
 go_wp2_with (go_at_call 57; (with_reducible refine HNC.out.mono ?_); rintro e w3 ⟨u3, rfl, ho3, hb3⟩)
 go_ret
 exact ⟨u3, rfl, ho3.mono HB3.out.size, HB3.out.trans (hb3.mono HB3.out.size)⟩
theorem stx_none (t : JV) (r : RV) (f : ByteArray) (w : World) (B : Nat) (hBw : B <= w.heap.size) (ht : TreeOf w B t r) (ot : t.Ok) (hct : countT t <= 100000) (n0 : f ≠ nameN) (n1 : f ≠ givenN) (n2 : f ≠ surN) (n3 : f ≠ sur2N) (n4 : f ≠ svNick) (n5 : f ≠ svOrg) (n6 : f ≠ svEmail) (n7 : f ≠ svPhone) (n8 : f ≠ svOnline) (n9 : f ≠ svAddr) (n10 : f ≠ svNote) (n11 : f ≠ svText) :
 Calls Tryz.prog 26 #[r.val, .string f] w (OwnRet w 9 encS 1 []) := by
 obtain ⟨W0, hW0⟩ : ∃ W0, w.alloc r.obj = W0 := ⟨_, rfl⟩
 have hA0 : VAt W0 w.heap.size r := by rw [<- hW0]; exact heap_alloc_at rfl
 have hB0 : Below w.heap.size w W0 := by rw [<- hW0]; exact (Below.refl _ _).alloc (Nat.le_refl _) _
 have HC : Hid (Calls Tryz.prog 15 #[r.val, .string nameN] W0 (GetRetB W0 B (t.get nameN))) := getB_any t r nameN W0 B (Nat.le_trans hBw hB0.size) (ht.under (hB0.mono hBw) (Nat.le_refl _)) ot
 have hw0 := hB0.size
 have HTR : Hid (∀ W, Below w.heap.size w W -> TreeOf W B t r) := fun W hW => ht.under (hW.mono hBw) (Nat.le_refl _)
 have qn0 : (f.toList == [110, 97, 109, 101]) = false := by rw [<- bytes_dec]; exact decide_eq_false n0
 have qn1 : (f.toList == [110, 97, 109, 101, 47, 103, 105, 118, 101, 110]) = false := by rw [<- bytes_dec]; exact decide_eq_false n1
 have qn2 : (f.toList == [110, 97, 109, 101, 47, 115, 117, 114, 110, 97, 109, 101]) = false := by rw [<- bytes_dec]; exact decide_eq_false n2
 have qn3 : (f.toList == [110, 97, 109, 101, 47, 115, 117, 114, 110, 97, 109, 101, 50]) = false := by rw [<- bytes_dec]; exact decide_eq_false n3
 have qn4 : (f.toList == [110, 105, 99, 107, 110, 97, 109, 101]) = false := by rw [<- bytes_dec]; exact decide_eq_false n4
 have qn5 : (f.toList == [111, 114, 103, 97, 110, 105, 122, 97, 116, 105, 111, 110]) = false := by rw [<- bytes_dec]; exact decide_eq_false n5
 have qn6 : (f.toList == [101, 109, 97, 105, 108]) = false := by rw [<- bytes_dec]; exact decide_eq_false n6
 have qn7 : (f.toList == [112, 104, 111, 110, 101]) = false := by rw [<- bytes_dec]; exact decide_eq_false n7
 have qn8 : (f.toList == [111, 110, 108, 105, 110, 101, 83, 101, 114, 118, 105, 99, 101]) = false := by rw [<- bytes_dec]; exact decide_eq_false n8
 have qn9 : (f.toList == [97, 100, 100, 114, 101, 115, 115]) = false := by rw [<- bytes_dec]; exact decide_eq_false n9
 have qn10 : (f.toList == [110, 111, 116, 101]) = false := by rw [<- bytes_dec]; exact decide_eq_false n10
 have qn11 : (f.toList == [116, 101, 120, 116]) = false := by rw [<- bytes_dec]; exact decide_eq_false n11
 obtain ⟨k, n, s, pl, nl, cl, pm, nm, cm⟩ := r
 dsimp only [RV.val, RV.obj] at *
 have HW := Lib.hid hW0
 have HB0 := Lib.hid hB0
 unfold nameN at HC
 clear n0 n1 n2 n3 n4 n5 n6 n7 n8 n9 n10 n11
 clear hW0 hB0 ht
 go_enter Tryz.func26, Tryz.ntmps26
 go_upto_region 1 with fail
 rw [HW.out]
 clear HW
 obtain ⟨a0, a1, a2, a3, a4⟩ := hA0.cells5
 have hz0 := hA0.lt
 go_upto_region 3 with (go_at_call 15; refine HC.out.mono ?_; rintro e w1 ⟨rv, bb, rfl, hbb, ht1, hb1⟩; obtain ⟨rk, rn, rS, rpl, rnl, rcl, rpm, rnm, rcm⟩ := rv)
 have hz1 := hb1.size
 have hb2 : Below W0.heap.size W0 (w1.alloc (.cells #[.int .i64 rk, .int .i64 rn, .string rS, .slice rpl rnl rcl, .slice rpm rnm rcm] 25)) := hb1.alloc hz1 _
 have hv2 : VAt (w1.alloc (.cells #[.int .i64 rk, .int .i64 rn, .string rS, .slice rpl rnl rcl, .slice rpm rnm rcm] 25)) w1.heap.size ⟨rk, rn, rS, rpl, rnl, rcl, rpm, rnm, rcm⟩ := heap_alloc_at rfl
 have ht2 := ht1.under ((Below.refl B w1).alloc (Nat.le_trans (Nat.le_trans hBw hw0) hz1) (.cells #[.int .i64 rk, .int .i64 rn, .string rS, .slice rpl rnl rcl, .slice rpm rnm rcm] 25)) (Nat.le_refl _)
 obtain ⟨g, hg⟩ : ∃ g, w1.heap.size = g := ⟨_, rfl⟩
 obtain ⟨W2, hW2⟩ : ∃ W, w1.alloc (.cells #[.int .i64 rk, .int .i64 rn, .string rS, .slice rpl rnl rcl, .slice rpm rnm rcm] 25) = W := ⟨_, rfl⟩
 rw [hW2] at hb2 hv2 ht2
 rw [hg] at hv2
 try rw [hW2]
 try rw [hg]
 obtain ⟨v0, v1, v2, v3, v4⟩ := hv2.cells5
 dsimp only at v0 v1 v2 v3 v4
 have b0 := bcs hb2 hz0 a0
 have b1 := bcs hb2 hz0 a1
 have b2 := bcs hb2 hz0 a2
 have b3 := bcs hb2 hz0 a3
 have b4 := bcs hb2 hz0 a4
 have hbw := HB0.out.trans (hb2.mono hw0)
 have HX := Lib.hid hbw
 have hw2 := hbw.size
 have hBw2 : B <= W2.heap.size := Nat.le_trans hBw hw2
 have HT2 := Lib.hid ht2
 clear hW2 hg hb1 ht1 hb2 hv2 hz1 hbw ht2 a0 a1 a2 a3 a4 hbb
 go_wp2_with fail
 go_ret
 exact ⟨_, rfl, Own.nil _ _ _, HX.out⟩
end
end Go.Proofs.YtffhccmppdgmfaaGreatDoor
