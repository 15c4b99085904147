import Derived.Test.YtjhginendpjimaaGreatDoorB19
set_option linter.unusedSimpArgs false
set_option linter.unusedVariables false
set_option maxRecDepth 200000
set_option maxHeartbeats 8000000
namespace Go.Proofs.YtjhginendpjimaaGreatDoor
section
open Go Go.RowKit Go.OpenShut
def nameV (t : JV) : JV := (t.get nameN).getD JV.zero
theorem nameV_ok {t : JV} (h : t.Ok) : (nameV t).Ok := by
 unfold nameV
 cases hx : t.get nameN with
 | none => exact .mk (by decide) (by decide) (by decide) (by decide) (by decide) (fun i x h => by simp at h) (fun i p h => by simp at h) (fun i p h => by simp at h)
 | some x => exact h.get hx
theorem ntexts_any (t : JV) (r : RV) (p : ByteArray) (hp : p = givenN \/ p = surN \/ p = sur2N) (w : World) (B : Nat) (hBw : B <= w.heap.size) (ht : TreeOf w B t r) (ot : t.Ok) :
 Calls Tryz.prog 94 #[r.val, .string p] w (OwnRet w 9 encS 1 (partsJ (nameV t) (p.extract 5 p.size))) := by
 obtain ⟨W0, hW0⟩ : ∃ W0, w.alloc r.obj = W0 := ⟨_, rfl⟩
 have hA0 : VAt W0 w.heap.size r := by rw [<- hW0]; exact heap_alloc_at rfl
 have hB0 : Below w.heap.size w W0 := by rw [<- hW0]; exact (Below.refl _ _).alloc (Nat.le_refl _) _
 have HC : Hid (Calls Tryz.prog 22 #[r.val, .string nameN] W0 (GetRetB W0 B (t.get nameN))) := getB_any t r nameN W0 B (Nat.le_trans hBw hB0.size) (ht.under (hB0.mono hBw) (Nat.le_refl _)) ot
 have hno : (nameV t).Ok := nameV_ok ot
 obtain ⟨L, hL⟩ : ∃ L, partsJ (nameV t) (p.extract 5 p.size) = L := ⟨_, rfl⟩
 have HP : Hid (∀ (q : RV) (W : World), B <= W.heap.size -> TreeOf W B (nameV t) q -> Calls Tryz.prog 111 #[q.val, .string (p.extract 5 p.size)] W (OwnRet W 9 encS 1 L)) := fun q W hB hq => by
  rw [<- hL]
  exact parts_any (nameV t) q _ W B hB hq hno (by rcases hp with rfl | rfl | rfl <;> decide +kernel)
 rw [hL]
 obtain ⟨k, n, s, pl, nl, cl, pm, nm, cm⟩ := r
 dsimp only [RV.val, RV.obj] at *
 have HW := Lib.hid hW0
 have HB0 := Lib.hid hB0
 have hw0 := hB0.size
 unfold nameN at HC
 clear hW0 hB0 ht ot hL hno
 rcases hp with rfl | rfl | rfl
 all_goals
  try unfold givenN at *
  try unfold surN at *
  try unfold sur2N at *
  go_enter Tryz.func94, Tryz.ntmps94
  go_upto_region 1 with fail
  rw [HW.out]
  clear HW
  obtain ⟨a0, a1, a2, a3, a4⟩ := hA0.cells5
  go_upto_region 3 with (go_at_call 22; refine HC.out.mono ?_; rintro e w1 ⟨rv, bb, rfl, hbb, ht1, hb1⟩; obtain ⟨rk, rn, rS, rpl, rnl, rcl, rpm, rnm, rcm⟩ := rv)
  have hz1 := hb1.size
  have hb2 : Below W0.heap.size W0 (w1.alloc (.cells #[.int .i64 rk, .int .i64 rn, .string rS, .slice rpl rnl rcl, .slice rpm rnm rcm] 25)) := hb1.alloc hz1 _
  have hv2 : VAt (w1.alloc (.cells #[.int .i64 rk, .int .i64 rn, .string rS, .slice rpl rnl rcl, .slice rpm rnm rcm] 25)) w1.heap.size ⟨rk, rn, rS, rpl, rnl, rcl, rpm, rnm, rcm⟩ := heap_alloc_at rfl
  have ht2 := ht1.under ((Below.refl B w1).alloc (Nat.le_trans (Nat.le_trans hBw hw0) hz1) (.cells #[.int .i64 rk, .int .i64 rn, .string rS, .slice rpl rnl rcl, .slice rpm rnm rcm] 25)) (Nat.le_refl _)
  obtain ⟨g, hg⟩ : ∃ g, w1.heap.size = g := ⟨_, rfl⟩
  obtain ⟨W2, hW2⟩ : ∃ W, w1.alloc (.cells #[.int .i64 rk, .int .i64 rn, .string rS, .slice rpl rnl rcl, .slice rpm rnm rcm] 25) = W := ⟨_, rfl⟩
  rw [hW2] at hb2 hv2 ht2
  rw [hg] at hv2
  try rw [hW2]
  try rw [hg]
  obtain ⟨v0, v1, v2, v3, v4⟩ := hv2.cells5
  dsimp only at v0 v1 v2 v3 v4
  have hbw := HB0.out.trans (hb2.mono hw0)
  have HX := Lib.hid hbw
  have hw2 := hbw.size
  have HP1 : Hid (∀ W : World, Below W2.heap.size W2 W -> Calls Tryz.prog 111 _ W (OwnRet W 9 encS 1 L)) := fun W hW => HP.out ⟨rk, rn, rS, rpl, rnl, rcl, rpm, rnm, rcm⟩ W (Nat.le_trans (Nat.le_trans hBw hw2) hW.size) (ht2.under (hW.mono (Nat.le_trans hBw hw2)) (Nat.le_refl _))
  dsimp only [RV.val] at HP1
  clear hW2 hg hb1 ht1 hb2 hv2 hz1 hbw ht2 HP
  go_upto_region 9 with fail
  go_region_with (first
   | (go_at_call 111; refine (HP1.out _ (by first | exact Below.refl _ _ | exact (Below.refl _ _).drew | exact bdn (Below.refl _ _) _)).mono ?_; rintro e w3 ⟨u3, rfl, ho3, hb3⟩)
   | fail)
  all_goals
   first
    | go_ret
    | (go_wp2_with fail; go_ret)
   first
    | exact ⟨u3, rfl, ho3.mono hw2, HX.out.drew.trans (hb3.mono hw2)⟩
    | exact ⟨u3, rfl, ho3.mono hw2, HX.out.trans (hb3.mono hw2)⟩
    | exact ⟨u3, rfl, ho3.mono hw2, (bdn HX.out _).trans (hb3.mono hw2)⟩
theorem bytes_dec (p : ByteArray) (l : List UInt8) : decide (p = ⟨l.toArray⟩) = (p.toList == l) := by
 rw [ByteArray.toList_eq]
 by_cases h : p.data.toList = l
 ·rw [decide_eq_true (ByteArray.ext (Array.toList_inj.1 (by simpa using h)))]
  simpa using h
 ·rw [decide_eq_false (fun e => h (by rw [e]))]
  simpa using h
theorem dated_law (p : ByteArray) : datedB p = ((p.toList == [99, 114, 101, 97, 116, 101, 100]) || (p.toList == [117, 112, 100, 97, 116, 101, 100])) := by
 unfold datedB
 rw [<- bytes_dec, <- bytes_dec]
 rfl
theorem dated_any (p : ByteArray) (dn : Bool) (w : World) : Calls Tryz.prog 73 #[.agg #[.string p, .bool dn]] w fun e w' => e = .returned (.bool (datedB p)) /\ Below w.heap.size w w' := by
 rw [dated_law]
 obtain ⟨x, hx⟩ : ∃ b, (p.toList == [99, 114, 101, 97, 116, 101, 100]) = b := ⟨_, rfl⟩
 obtain ⟨y, hy⟩ : ∃ b, (p.toList == [117, 112, 100, 97, 116, 101, 100]) = b := ⟨_, rfl⟩
 have HB := Lib.hid ((Below.refl w.heap.size w).alloc (Nat.le_refl _) (.cells #[.string p, .bool dn] 102))
 obtain ⟨R, hR⟩ : ∃ R, ((p.toList == [99, 114, 101, 97, 116, 101, 100]) || (p.toList == [117, 112, 100, 97, 116, 101, 100])) = R := ⟨_, rfl⟩
 rw [hR]
 rw [hx, hy] at hR
 have c0 : (w.alloc (.cells #[.string p, .bool dn] 102)).cell? ⟨w.heap.size, 0, none⟩ = some (.string p) := (cell_of_row _ w.heap.size 0 _ _ _ (heap_alloc_at rfl)).trans rfl
 have HR := Lib.hid hR
 clear hR
 cases x <;> cases y
 all_goals
  go_enter Tryz.func73, Tryz.ntmps73
  go_wp2_with fail
  rw [<- HR.out]
  go_ret
  exact ⟨rfl, HB.out⟩
def keyK (t : JV) (p : ByteArray) : ByteArray := if datedB p then stampK t p else nameK t p
theorem stampK_of (t : JV) (p : ByteArray) : stampK t p = if ((t.get p).getD JV.zero).k = 4 then ((t.get p).getD JV.zero).s else ⟨#[]⟩ := by
 unfold stampK
 rw [textM_of]
 split <;> rfl
theorem key_any (p : ByteArray) (dn : Bool) (hp : datedB p = true \/ p = givenN \/ p = surN \/ p = sur2N) (t : JV) (r : RV) (w : World) (B : Nat) (hBw : B <= w.heap.size) (ht : TreeOf w B t r) (ot : t.Ok) :
 Calls Tryz.prog 75 #[.agg #[.string p, .bool dn], r.val] w fun e w' => e = .returned (.string (keyK t p)) /\ Below w.heap.size w w' := by
 obtain ⟨W0, hW0⟩ : ∃ W0, (w.alloc (.cells #[.string p, .bool dn] 102)).alloc r.obj = W0 := ⟨_, rfl⟩
 have hC0 : W0.heap[w.heap.size]? = some (.cells #[.string p, .bool dn] 102 (0, 0)) := by rw [<- hW0]; exact heap_alloc_lt (by simp) (heap_alloc_at rfl)
 have hA0 : VAt W0 (w.heap.size + 1) r := by rw [<- hW0]; exact heap_alloc_at (by simp)
 have hB0 : Below w.heap.size w W0 := by rw [<- hW0]; exact below2 w _ _
 have hc0 : W0.cell? ⟨w.heap.size, 0, none⟩ = some (.string p) := (cell_of_row _ w.heap.size 0 _ _ _ hC0).trans rfl
 have hc1 : W0.cell? ⟨w.heap.size, 1, none⟩ = some (.bool dn) := (cell_of_row _ w.heap.size 1 _ _ _ hC0).trans rfl
 have hl0 := hA0.lt
 have HDT : Hid (∀ W, Calls Tryz.prog 73 #[.agg #[.string p, .bool dn]] W fun e w' => e = .returned (.bool (datedB p)) /\ Below W.heap.size W w') := fun W => dated_any p dn W
 have ht0 : TreeOf W0 B t r := ht.under (hB0.mono hBw) (Nat.le_refl _)
 have hw0 := hB0.size
 have HC : Hid (∀ W, Below W0.heap.size W0 W -> Calls Tryz.prog 22 #[r.val, .string p] W (GetRetB W B (t.get p))) := fun W hW => getB_any t r p W B (Nat.le_trans (Nat.le_trans hBw hw0) hW.size) (ht0.under (hW.mono (Nat.le_trans hBw hw0)) (Nat.le_refl _)) ot
 have HT : Hid (datedB p = false -> ∀ W, Below W0.heap.size W0 W -> Calls Tryz.prog 94 #[r.val, .string p] W (OwnRet W 9 encS 1 (partsJ (nameV t) (p.extract 5 p.size)))) := fun hd W hW => ntexts_any t r p (by rcases hp with h | h; (rw [hd] at h; cases h); exact h) W B (Nat.le_trans (Nat.le_trans hBw hw0) hW.size) (ht0.under (hW.mono (Nat.le_trans hBw hw0)) (Nat.le_refl _)) ot
 have HK : Hid (keyK t p = if datedB p then (if ((t.get p).getD JV.zero).k = 4 then ((t.get p).getD JV.zero).s else ⟨#[]⟩) else (partsJ (nameV t) (p.extract 5 p.size)).headD ⟨#[]⟩) := by
  unfold Hid keyK
  rw [stampK_of]
  rfl
 obtain ⟨R, hR⟩ : ∃ R, keyK t p = R := ⟨_, rfl⟩
 rw [hR] at HK
 rw [hR]
 obtain ⟨L, hL⟩ : ∃ L, partsJ (nameV t) (p.extract 5 p.size) = L := ⟨_, rfl⟩
 rw [hL] at HT HK
 obtain ⟨k, n, s, pl, nl, cl, pm, nm, cm⟩ := r
 dsimp only [RV.val, RV.obj] at *
 have HW := Lib.hid hW0
 have HB0 := Lib.hid hB0
 clear hW0 hB0 ht ot hL hR hC0 hp ht0
 cases hd : datedB p with
 | true =>
   rw [hd] at HDT HK
   clear HT
   go_enter Tryz.func75, Tryz.ntmps75
   go_upto_region 1 with fail
   rw [HW.out]
   clear HW
   obtain ⟨a0, a1, a2, a3, a4⟩ := hA0.cells5
   go_upto_region 2 with (go_at_call 73; refine (HDT.out _).mono ?_; rintro e w1 ⟨rfl, hb1⟩)
   have hA1 := hA0.under hb1 hl0
   have hd0 := bcs hb1 (Nat.lt_of_succ_lt hl0) hc0
   have hd1 := bcs hb1 (Nat.lt_of_succ_lt hl0) hc1
   obtain ⟨d0, d1, d2, d3, d4⟩ := hA1.cells5
   have HC1 := Lib.hid (HC.out w1 hb1)
   have hz1 := hb1.size
   clear HC hA1 hA0 hc0 hc1
   go_upto_region 3 with (go_at_call 22; refine HC1.out.mono ?_; rintro e w2 ⟨rv, bb, rfl, hbb, ht1, hb2⟩; obtain ⟨rk, rn, rS, rpl, rnl, rcl, rpm, rnm, rcm⟩ := rv)
   obtain ⟨hkk, hss⟩ := ht1.kk
   dsimp only at hkk hss
   have hb12 := hb1.trans (hb2.mono hz1)
   have hz2 := hb12.size
   have hb3 : Below W0.heap.size W0 (w2.alloc (.cells #[.int .i64 rk, .int .i64 rn, .string rS, .slice rpl rnl rcl, .slice rpm rnm rcm] 25)) := hb12.alloc hz2 _
   have hv2 : VAt (w2.alloc (.cells #[.int .i64 rk, .int .i64 rn, .string rS, .slice rpl rnl rcl, .slice rpm rnm rcm] 25)) w2.heap.size ⟨rk, rn, rS, rpl, rnl, rcl, rpm, rnm, rcm⟩ := heap_alloc_at rfl
   obtain ⟨g, hg⟩ : ∃ g, w2.heap.size = g := ⟨_, rfl⟩
   obtain ⟨W2, hW2⟩ : ∃ W, w2.alloc (.cells #[.int .i64 rk, .int .i64 rn, .string rS, .slice rpl rnl rcl, .slice rpm rnm rcm] 25) = W := ⟨_, rfl⟩
   rw [hW2] at hb3 hv2
   rw [hg] at hv2
   try rw [hW2]
   try rw [hg]
   obtain ⟨v0, v1, v2, v3, v4⟩ := hv2.cells5
   dsimp only at v0 v1 v2 v3 v4
   have HX := Lib.hid (HB0.out.trans (hb3.mono hw0))
   clear hW2 hg hb1 ht1 hb2 hb3 hb12 hv2 hz1 hz2 HC1
   by_cases hk4 : rk = 4
   ·subst hk4
    have HR : Hid (R = rS) := by unfold Hid; rw [HK.out, if_pos trivial, <- hkk, if_pos rfl, hss]
    clear hkk hss
    go_wp2_with fail
    rw [HR.out]
    go_ret
    exact ⟨rfl, HX.out⟩
   ·have q1 : (rk == 4) = false := by simpa using hk4
    have HR : Hid (R = ⟨#[]⟩) := by unfold Hid; rw [HK.out, if_pos trivial, <- hkk, if_neg hk4]
    clear hkk hss
    go_wp2_with fail
    rw [HR.out]
    go_ret
    exact ⟨rfl, HX.out⟩
 | false =>
   rw [hd] at HDT HK
   clear HC
   go_enter Tryz.func75, Tryz.ntmps75
   go_upto_region 1 with fail
   rw [HW.out]
   clear HW
   obtain ⟨a0, a1, a2, a3, a4⟩ := hA0.cells5
   go_upto_region 6 with (go_at_call 73; refine (HDT.out _).mono ?_; rintro e w1 ⟨rfl, hb1⟩)
   have hA1 := hA0.under hb1 hl0
   have hd0 := bcs hb1 (Nat.lt_of_succ_lt hl0) hc0
   have hd1 := bcs hb1 (Nat.lt_of_succ_lt hl0) hc1
   obtain ⟨d0, d1, d2, d3, d4⟩ := hA1.cells5
   have HT1 := Lib.hid (HT.out hd w1 hb1)
   have hz1 := hb1.size
   clear HT hA1 hA0 hc0 hc1
   cases L with
   | nil =>
     have HR : Hid (R = ⟨#[]⟩) := by unfold Hid; rw [HK.out]; rfl
     go_wp2_with (go_at_call 94; refine HT1.out.mono ?_; rintro e w2 ⟨u2, rfl, ho2, hb2⟩; (obtain ⟨p2, n2, c2, rfl⟩ : ∃ p n c, u2 = Value.slice p n c := by (obtain ⟨p, c, hv, _, _⟩ := ho2.len; exact ⟨p, _, c, hv⟩)); (obtain rfl : n2 = 0 := rd_nlen (ho2.rd codecS)))
     rw [HR.out]
     go_ret
     exact ⟨rfl, HB0.out.trans ((hb1.trans (hb2.mono hz1)).mono hw0)⟩
   | cons x rest =>
     have HR : Hid (R = x) := by unfold Hid; rw [HK.out]; rfl
     go_wp2_with (go_at_call 94; refine HT1.out.mono ?_; rintro e w2 ⟨u2, rfl, ho2, hb2⟩; (obtain ⟨p2, n2, c2, rfl⟩ : ∃ p n c, u2 = Value.slice p n c := by (obtain ⟨p, c, hv, _, _⟩ := ho2.len; exact ⟨p, _, c, hv⟩)); (have hn2 : n2 = rest.length + 1 := rd_nlen (ho2.rd codecS)); (have hn3 : (0 : Int) < (n2 : Int) := by omega); (obtain ⟨b2, o2, rfl, _, hc2⟩ := rd_at' (k := 0) (x := x) (ho2.rd codecS) rfl); (have hcl : w2.cell? ⟨b2, o2, none⟩ = some (.string x) := by simpa using hc2 0 _ rfl); clear hn2)
     rw [HR.out]
     go_ret
     exact ⟨rfl, HB0.out.trans ((hb1.trans (hb2.mono hz1)).mono hw0)⟩
end
end Go.Proofs.YtjhginendpjimaaGreatDoor
