import Derived.Test.YtffhccmppdgmfaaGreatDoorB16
import Derived.Test.YtffhccmppdgmfaaGreatDoorB08
import Derived.Sort.WalkB2
import Derived.Sort.WalkB12
import Derived.Deep.LoopGhost
import Derived.Lib.Hide
import Derived.Test.YtffhccmppdgmfaaGreatDoorB07
set_option linter.unusedSimpArgs false
set_option linter.unusedVariables false
set_option maxRecDepth 200000
set_option maxHeartbeats 8000000
namespace Go.Proofs.YtffhccmppdgmfaaGreatDoor
section
open Go Go.RowKit Go.OpenShut
theorem bytes_dec (p : ByteArray) (l : List UInt8) : decide (p = ⟨l.toArray⟩) = (p.toList == l) := by
 rw [ByteArray.toList_eq]
 by_cases h : p.data.toList = l
 ·rw [decide_eq_true (ByteArray.ext (Array.toList_inj.1 (by simpa using h)))]
  simpa using h
 ·rw [decide_eq_false (fun e => h (by rw [e]))]
  simpa using h
theorem dated_law (p : ByteArray) : datedB p = ((p.toList == [99, 114, 101, 97, 116, 101, 100]) || (p.toList == [117, 112, 100, 97, 116, 101, 100])) := by
 unfold datedB
 rw [<- bytes_dec, <- bytes_dec]
 rfl
theorem dated_any (p : ByteArray) (dn : Bool) (w : World) : Calls Tryz.prog 110 #[.agg #[.string p, .bool dn]] w fun e w' => e = .returned (.bool (datedB p)) /\ Below w.heap.size w w' := by
 rw [dated_law]
 obtain ⟨x, hx⟩ : ∃ b, (p.toList == [99, 114, 101, 97, 116, 101, 100]) = b := ⟨_, rfl⟩
 obtain ⟨y, hy⟩ : ∃ b, (p.toList == [117, 112, 100, 97, 116, 101, 100]) = b := ⟨_, rfl⟩
 have HB := Lib.hid ((Below.refl w.heap.size w).alloc (Nat.le_refl _) (.cells #[.string p, .bool dn] 119))
 obtain ⟨R, hR⟩ : ∃ R, ((p.toList == [99, 114, 101, 97, 116, 101, 100]) || (p.toList == [117, 112, 100, 97, 116, 101, 100])) = R := ⟨_, rfl⟩
 rw [hR]
 rw [hx, hy] at hR
 have c0 : (w.alloc (.cells #[.string p, .bool dn] 119)).cell? ⟨w.heap.size, 0, none⟩ = some (.string p) := (cell_of_row _ w.heap.size 0 _ _ _ (heap_alloc_at rfl)).trans rfl
 have HR := Lib.hid hR
 clear hR
 cases x <;> cases y
 all_goals
  go_enter Tryz.func110, Tryz.ntmps110
  go_wp2_with fail
  rw [<- HR.out]
  go_ret
  exact ⟨rfl, HB.out⟩
def keyK (t : JV) (p : ByteArray) : ByteArray := if datedB p then stampK t p else nameK t p
theorem stampK_of (t : JV) (p : ByteArray) : stampK t p = if ((t.get p).getD JV.zero).k = 4 then ((t.get p).getD JV.zero).s else ⟨#[]⟩ := by
 unfold stampK
 rw [textM_of]
 split <;> rfl
theorem key_any (p : ByteArray) (dn : Bool) (hp : datedB p = true \/ p = givenN \/ p = surN \/ p = sur2N) (t : JV) (r : RV) (w : World) (B : Nat) (hBw : B <= w.heap.size) (ht : TreeOf w B t r) (ot : t.Ok) :
 Calls Tryz.prog 112 #[.agg #[.string p, .bool dn], r.val] w fun e w' => e = .returned (.string (keyK t p)) /\ Below w.heap.size w w' := by
 obtain ⟨W0, hW0⟩ : ∃ W0, (w.alloc (.cells #[.string p, .bool dn] 119)).alloc r.obj = W0 := ⟨_, rfl⟩
 have hC0 : W0.heap[w.heap.size]? = some (.cells #[.string p, .bool dn] 119 (0, 0)) := by rw [<- hW0]; exact heap_alloc_lt (by simp) (heap_alloc_at rfl)
 have hA0 : VAt W0 (w.heap.size + 1) r := by rw [<- hW0]; exact heap_alloc_at (by simp)
 have hB0 : Below w.heap.size w W0 := by rw [<- hW0]; exact below2 w _ _
 have hc0 : W0.cell? ⟨w.heap.size, 0, none⟩ = some (.string p) := (cell_of_row _ w.heap.size 0 _ _ _ hC0).trans rfl
 have hc1 : W0.cell? ⟨w.heap.size, 1, none⟩ = some (.bool dn) := (cell_of_row _ w.heap.size 1 _ _ _ hC0).trans rfl
 have hl0 := hA0.lt
 have HDT : Hid (∀ W, Calls Tryz.prog 110 #[.agg #[.string p, .bool dn]] W fun e w' => e = .returned (.bool (datedB p)) /\ Below W.heap.size W w') := fun W => dated_any p dn W
 have ht0 : TreeOf W0 B t r := ht.under (hB0.mono hBw) (Nat.le_refl _)
 have hw0 := hB0.size
 have HC : Hid (∀ W, Below W0.heap.size W0 W -> Calls Tryz.prog 15 #[r.val, .string p] W (GetRetB W B (t.get p))) := fun W hW => getB_any t r p W B (Nat.le_trans (Nat.le_trans hBw hw0) hW.size) (ht0.under (hW.mono (Nat.le_trans hBw hw0)) (Nat.le_refl _)) ot
 have HT : Hid (datedB p = false -> ∀ W, Below W0.heap.size W0 W -> Calls Tryz.prog 26 #[r.val, .string p] W (OwnRet W 9 encS 1 (partsJ (nameV t) (p.extract 5 p.size)))) := fun hd W hW => ntexts_any t r p (by rcases hp with h | h; (rw [hd] at h; cases h); exact h) W B (Nat.le_trans (Nat.le_trans hBw hw0) hW.size) (ht0.under (hW.mono (Nat.le_trans hBw hw0)) (Nat.le_refl _)) ot
 have HK : Hid (keyK t p = if datedB p then (if ((t.get p).getD JV.zero).k = 4 then ((t.get p).getD JV.zero).s else ⟨#[]⟩) else (partsJ (nameV t) (p.extract 5 p.size)).headD ⟨#[]⟩) := by
  unfold Hid keyK
  rw [stampK_of]
  rfl
 obtain ⟨R, hR⟩ : ∃ R, keyK t p = R := ⟨_, rfl⟩
 rw [hR] at HK
 rw [hR]
 obtain ⟨L, hL⟩ : ∃ L, partsJ (nameV t) (p.extract 5 p.size) = L := ⟨_, rfl⟩
 rw [hL] at HT HK
 obtain ⟨k, n, s, pl, nl, cl, pm, nm, cm⟩ := r
 dsimp only [RV.val, RV.obj] at *
 have HW := Lib.hid hW0
 have HB0 := Lib.hid hB0
 clear hW0 hB0 ht ot hL hR hC0 hp ht0
 cases hd : datedB p with
 | true =>
   rw [hd] at HDT HK
   clear HT
   go_enter Tryz.func112, Tryz.ntmps112
   go_upto_region 1 with fail
   rw [HW.out]
   clear HW
   obtain ⟨a0, a1, a2, a3, a4⟩ := hA0.cells5
   go_upto_region 2 with (go_at_call 110; refine (HDT.out _).mono ?_; rintro e w1 ⟨rfl, hb1⟩)
   have hA1 := hA0.under hb1 hl0
   have hd0 := bcs hb1 (Nat.lt_of_succ_lt hl0) hc0
   have hd1 := bcs hb1 (Nat.lt_of_succ_lt hl0) hc1
   obtain ⟨d0, d1, d2, d3, d4⟩ := hA1.cells5
   have HC1 := Lib.hid (HC.out w1 hb1)
   have hz1 := hb1.size
   clear HC hA1 hA0 hc0 hc1
   go_upto_region 3 with (go_at_call 15; refine HC1.out.mono ?_; rintro e w2 ⟨rv, bb, rfl, hbb, ht1, hb2⟩; obtain ⟨rk, rn, rS, rpl, rnl, rcl, rpm, rnm, rcm⟩ := rv)
   obtain ⟨hkk, hss⟩ := ht1.kk
   dsimp only at hkk hss
   have hb12 := hb1.trans (hb2.mono hz1)
   have hz2 := hb12.size
   have hb3 : Below W0.heap.size W0 (w2.alloc (.cells #[.int .i64 rk, .int .i64 rn, .string rS, .slice rpl rnl rcl, .slice rpm rnm rcm] 25)) := hb12.alloc hz2 _
   have hv2 : VAt (w2.alloc (.cells #[.int .i64 rk, .int .i64 rn, .string rS, .slice rpl rnl rcl, .slice rpm rnm rcm] 25)) w2.heap.size ⟨rk, rn, rS, rpl, rnl, rcl, rpm, rnm, rcm⟩ := heap_alloc_at rfl
   obtain ⟨g, hg⟩ : ∃ g, w2.heap.size = g := ⟨_, rfl⟩
   obtain ⟨W2, hW2⟩ : ∃ W, w2.alloc (.cells #[.int .i64 rk, .int .i64 rn, .string rS, .slice rpl rnl rcl, .slice rpm rnm rcm] 25) = W := ⟨_, rfl⟩
   rw [hW2] at hb3 hv2
   rw [hg] at hv2
   try rw [hW2]
   try rw [hg]
   obtain ⟨v0, v1, v2, v3, v4⟩ := hv2.cells5
   dsimp only at v0 v1 v2 v3 v4
   have HX := Lib.hid (HB0.out.trans (hb3.mono hw0))
   clear hW2 hg hb1 ht1 hb2 hb3 hb12 hv2 hz1 hz2 HC1
   by_cases hk4 : rk = 4
   ·subst hk4
    have HR : Hid (R = rS) := by unfold Hid; rw [HK.out, if_pos trivial, <- hkk, if_pos rfl, hss]
    clear hkk hss
    go_wp2_with fail
    rw [HR.out]
    go_ret
    exact ⟨rfl, HX.out⟩
   ·have q1 : (rk == 4) = false := by simpa using hk4
    have HR : Hid (R = ⟨#[]⟩) := by unfold Hid; rw [HK.out, if_pos trivial, <- hkk, if_neg hk4]
    clear hkk hss
    go_wp2_with fail
    rw [HR.out]
    go_ret
    exact ⟨rfl, HX.out⟩
 | false =>
   rw [hd] at HDT HK
   clear HC
   go_enter Tryz.func112, Tryz.ntmps112
   go_upto_region 1 with fail
   rw [HW.out]
   clear HW
   obtain ⟨a0, a1, a2, a3, a4⟩ := hA0.cells5
   go_upto_region 6 with (go_at_call 110; refine (HDT.out _).mono ?_; rintro e w1 ⟨rfl, hb1⟩)
   have hA1 := hA0.under hb1 hl0
   have hd0 := bcs hb1 (Nat.lt_of_succ_lt hl0) hc0
   have hd1 := bcs hb1 (Nat.lt_of_succ_lt hl0) hc1
   obtain ⟨d0, d1, d2, d3, d4⟩ := hA1.cells5
   have HT1 := Lib.hid (HT.out hd w1 hb1)
   have hz1 := hb1.size
   clear HT hA1 hA0 hc0 hc1
   cases L with
   | nil =>
     have HR : Hid (R = ⟨#[]⟩) := by unfold Hid; rw [HK.out]; rfl
     go_wp2_with (go_at_call 26; refine HT1.out.mono ?_; rintro e w2 ⟨u2, rfl, ho2, hb2⟩; (obtain ⟨p2, n2, c2, rfl⟩ : ∃ p n c, u2 = Value.slice p n c := by (obtain ⟨p, c, hv, _, _⟩ := ho2.len; exact ⟨p, _, c, hv⟩)); (obtain rfl : n2 = 0 := rd_nlen (ho2.rd codecS)))
     rw [HR.out]
     go_ret
     exact ⟨rfl, HB0.out.trans ((hb1.trans (hb2.mono hz1)).mono hw0)⟩
   | cons x rest =>
     have HR : Hid (R = x) := by unfold Hid; rw [HK.out]; rfl
     go_wp2_with (go_at_call 26; refine HT1.out.mono ?_; rintro e w2 ⟨u2, rfl, ho2, hb2⟩; (obtain ⟨p2, n2, c2, rfl⟩ : ∃ p n c, u2 = Value.slice p n c := by (obtain ⟨p, c, hv, _, _⟩ := ho2.len; exact ⟨p, _, c, hv⟩)); (have hn2 : n2 = rest.length + 1 := rd_nlen (ho2.rd codecS)); (have hn3 : (0 : Int) < (n2 : Int) := by omega); (obtain ⟨b2, o2, rfl, _, hc2⟩ := rd_at' (k := 0) (x := x) (ho2.rd codecS) rfl); (have hcl : w2.cell? ⟨b2, o2, none⟩ = some (.string x) := by simpa using hc2 0 _ rfl); clear hn2)
     rw [HR.out]
     go_ret
     exact ⟨rfl, HB0.out.trans ((hb1.trans (hb2.mono hz1)).mono hw0)⟩
theorem cmpB_bound : ∀ a b : List UInt8, -1 <= Go.Lib.compareBytes a b /\ Go.Lib.compareBytes a b <= 1
 | [], [] => by decide
 | [], _ :: _ => ⟨show (-1 : Int) <= -1 by decide, show (-1 : Int) <= 1 by decide⟩
 | _ :: _, [] => ⟨show (-1 : Int) <= 1 by decide, show (1 : Int) <= 1 by decide⟩
 | x :: a, y :: b => by
   unfold Go.Lib.compareBytes
   split
   ·decide
   ·split
    ·decide
    ·exact cmpB_bound a b
theorem cmpS_bound (a b : List UInt8) : -1 <= cmpS a b /\ cmpS a b <= 1 := by
 unfold cmpS
 split
 ·exact cmpB_bound _ _
 ·decide
 ·decide
 ·split
  ·decide
  ·split
   ·decide
   ·exact cmpB_bound _ _
theorem textM_le {t : JV} (h : t.Ok) {name x : ByteArray} (hx : x ∈ textM t name) : x.size <= maxLen := by
 unfold textM at hx
 cases hg : t.get name with
 | none => rw [hg] at hx; cases hx
 | some v =>
   rw [hg] at hx
   dsimp only at hx
   have := (h.get hg).s_le.1
   split at hx
   ·rw [List.mem_singleton] at hx
    subst hx
    unfold maxLen
    omega
   ·cases hx
theorem headD_le {l : List ByteArray} (h : ∀ x ∈ l, x.size <= maxLen) : (l.headD ⟨#[]⟩).size <= maxLen := by
 cases l with
 | nil => exact Nat.zero_le _
 | cons a r => exact h a (List.mem_cons_self ..)
theorem keyK_le {t : JV} (h : t.Ok) (p : ByteArray) : (keyK t p).size <= maxLen := by
 unfold keyK
 split
 ·exact headD_le (fun x hx => textM_le h hx)
 ·refine headD_le (fun x hx => ?_)
  have hx : x ∈ partsJ (nameV t) (p.extract 5 p.size) := hx
  rw [partsJ_of] at hx
  unfold partsL at hx
  obtain ⟨c, hc, hxc⟩ := List.mem_flatMap.1 hx
  obtain ⟨i, hi⟩ := List.mem_iff_getElem?.1 (List.mem_filter.1 hc).1
  exact textM_le ((inJ_ok (nameV_ok h)).2 i c hi) hxc
theorem rkcomp_any (p : ByteArray) (dn : Bool) (hp : datedB p = true \/ p = givenN \/ p = surN \/ p = sur2N) (t u : JV) (r q : RV) (w : World) (B : Nat) (hBw : B <= w.heap.size) (ht : TreeOf w B t r) (ot : t.Ok) (hu : TreeOf w B u q) (ou : u.Ok) :
 Calls Tryz.prog 83 #[.agg #[.string p, .bool dn], r.val, q.val] w fun e w' => e = .returned (.int .i64 (cmpK ⟨p, dn⟩ t u)) /\ Below w.heap.size w w' := by
 obtain ⟨W0, hW0⟩ : ∃ W0, ((w.alloc (.cells #[.string p, .bool dn] 119)).alloc r.obj).alloc q.obj = W0 := ⟨_, rfl⟩
 have hC0 : W0.heap[w.heap.size]? = some (.cells #[.string p, .bool dn] 119 (0, 0)) := by rw [<- hW0]; exact heap_alloc_lt (by simp; omega) (heap_alloc_lt (by simp) (heap_alloc_at rfl))
 have hA0 : VAt W0 (w.heap.size + 1) r := by rw [<- hW0]; exact heap_alloc_lt (by simp) (heap_alloc_at (by simp))
 have hQ0 : VAt W0 (w.heap.size + 2) q := by rw [<- hW0]; exact heap_alloc_at (by simp)
 have hB0 : Below w.heap.size w W0 := by rw [<- hW0]; exact (below2 w _ _).alloc (by simp; omega) _
 have hc0 : W0.cell? ⟨w.heap.size, 0, none⟩ = some (.string p) := (cell_of_row _ w.heap.size 0 _ _ _ hC0).trans rfl
 have hc1 : W0.cell? ⟨w.heap.size, 1, none⟩ = some (.bool dn) := (cell_of_row _ w.heap.size 1 _ _ _ hC0).trans rfl
 have hl0 := hQ0.lt
 have HDT : Hid (∀ W, Calls Tryz.prog 110 #[.agg #[.string p, .bool dn]] W fun e w' => e = .returned (.bool (datedB p)) /\ Below W.heap.size W w') := fun W => dated_any p dn W
 have ht0 : TreeOf W0 B t r := ht.under (hB0.mono hBw) (Nat.le_refl _)
 have hu0 : TreeOf W0 B u q := hu.under (hB0.mono hBw) (Nat.le_refl _)
 have hw0 := hB0.size
 have HKA : Hid (∀ W, Below W0.heap.size W0 W -> Calls Tryz.prog 112 #[.agg #[.string p, .bool dn], r.val] W fun e w' => e = .returned (.string (keyK t p)) /\ Below W.heap.size W w') := fun W hW => key_any p dn hp t r W B (Nat.le_trans (Nat.le_trans hBw hw0) hW.size) (ht0.under (hW.mono (Nat.le_trans hBw hw0)) (Nat.le_refl _)) ot
 have HKB : Hid (∀ W, Below W0.heap.size W0 W -> Calls Tryz.prog 112 #[.agg #[.string p, .bool dn], q.val] W fun e w' => e = .returned (.string (keyK u p)) /\ Below W.heap.size W w') := fun W hW => key_any p dn hp u q W B (Nat.le_trans (Nat.le_trans hBw hw0) hW.size) (hu0.under (hW.mono (Nat.le_trans hBw hw0)) (Nat.le_refl _)) ou
 have HS : Hid (∀ W, Calls Tryz.prog 111 #[.string (keyK t p), .string (keyK u p)] W fun e w' => e = .returned (.int .i64 (cmpS (keyK t p).data.toList (keyK u p).data.toList)) /\ Below W.heap.size W w') := fun W => scomp_any _ _ W (keyK_le ot p) (keyK_le ou p)
 have HF : Hid (∀ W, Calls Tryz.prog 109 #[.string (keyK t p), .string (keyK u p)] W fun e w' => e = .returned (.int .i64 (Go.Lib.compareBytes (foldL (keyK t p).data.toList) (foldL (keyK u p).data.toList))) /\ Below W.heap.size W w') := fun W => fcomp_any _ _ W (keyK_le ot p) (keyK_le ou p)
 obtain ⟨nn, hnn⟩ : ∃ n, (if datedB p then cmpS (keyK t p).data.toList (keyK u p).data.toList else Go.Lib.compareBytes (foldL (keyK t p).data.toList) (foldL (keyK u p).data.toList)) = n := ⟨_, rfl⟩
 have hnb : -1 <= nn /\ nn <= 1 := by
  rw [<- hnn]
  split
  ·exact cmpS_bound _ _
  ·exact cmpB_bound _ _
 have HK : Hid (cmpK ⟨p, dn⟩ t u = if dn then -nn else nn) := by
  unfold Hid cmpK
  rw [<- hnn]
  unfold keyK
  cases datedB p <;> rfl
 obtain ⟨R, hR⟩ : ∃ R, cmpK ⟨p, dn⟩ t u = R := ⟨_, rfl⟩
 rw [hR] at HK
 rw [hR]
 obtain ⟨X, hX⟩ : ∃ X, keyK t p = X := ⟨_, rfl⟩
 obtain ⟨Y, hY⟩ : ∃ X, keyK u p = X := ⟨_, rfl⟩
 rw [hX] at HKA HS HF hnn
 rw [hY] at HKB HS HF hnn
 obtain ⟨k, n, s, pl, nl, cl, pm, nm, cm⟩ := r
 obtain ⟨qk, qn, qs, qpl, qnl, qcl, qpm, qnm, qcm⟩ := q
 dsimp only [RV.val, RV.obj] at *
 have HW := Lib.hid hW0
 have HB0 := Lib.hid hB0
 obtain ⟨n0, n1⟩ := hnb
 clear hW0 hB0 ht ot hu ou hR hC0 hp ht0 hu0 hX hY
 cases hd : datedB p with
 | true =>
   rw [hd] at HDT hnn
   rw [if_pos rfl] at hnn
   rw [hnn] at HS
   clear HF hnn hd
   have h00 : w.heap.size < W0.heap.size := by omega
   have hw1 : w.heap.size + 1 < W0.heap.size := by omega
   cases dn
   all_goals
    go_enter Tryz.func83, Tryz.ntmps83
    go_upto_region 2 with fail
    rw [HW.out]
    clear HW
    go_upto_region 5 with (go_at_call 110; refine (HDT.out _).mono ?_; rintro e w1 ⟨rfl, hb1⟩; (have d0 := bcs hb1 h00 hc0); (have d1 := bcs hb1 h00 hc1))
    have hA1 := hA0.under hb1 hw1
    have hQ1 := hQ0.under hb1 hl0
    obtain ⟨a0, a1, a2, a3, a4⟩ := hA1.cells5
    obtain ⟨b0, b1, b2, b3, b4⟩ := hQ1.cells5
    have hz1 := hb1.size
    have hlq : w.heap.size + 2 < w1.heap.size := hQ1.lt
    go_cut [9] from 14 to 21 (fun v wq => v = .int .i64 nn /\ Below w1.heap.size w1 wq)
    case first =>
     go_region_with (first
      | (go_at_call 112; (have HK1 := HKA.out w1.drew hb1.drew); (with_reducible refine HK1.mono ?_); rintro e w2 ⟨rfl, hb2⟩; (have hQ2 : VAt w2 (w.heap.size + 2) ⟨qk, qn, qs, qpl, qnl, qcl, qpm, qnm, qcm⟩ := VAt.under (W := w1.drew) hQ1 hb2 hlq); (obtain ⟨f0, f1, f2, f3, f4⟩ := hQ2.cells5); dsimp only at f0 f1 f2 f3 f4)
      | (go_at_call 112; (have HK1 := HKA.out w1 hb1); (with_reducible refine HK1.mono ?_); rintro e w2 ⟨rfl, hb2⟩)
      | (go_at_call 112; (have HK2 := HKB.out w2 (hb1.drew.trans (hb2.mono hz1))); (with_reducible refine HK2.mono ?_); rintro e w3 ⟨rfl, hb3⟩)
      | (go_at_call 111; (with_reducible refine (HS.out _).mono ?_); rintro e w4 ⟨rfl, hb4⟩)
      | fail)
     all_goals
      first
       | go_meet
       | (go_wp2_with fail; go_meet)
      have hz2 : w1.heap.size <= w2.heap.size := hb2.size
      have hz3 : w2.heap.size <= w3.heap.size := hb3.size
      have hbb : Below w1.heap.size w1 w2 := (Below.refl _ _).drew.trans hb2
      exact ⟨rfl, (hbb.trans (hb3.mono hz2)).trans (hb4.mono (Nat.le_trans hz2 hz3))⟩
    case rest =>
    obtain ⟨rfl, hbc⟩ := hcut
    have g1 := bcs hbc (by omega) d1
    go_wp2_with fail
    go_ret
    exact ⟨by rw [HK.out]; rfl, HB0.out.trans ((hb1.trans (hbc.mono hz1)).mono hw0)⟩
 | false =>
   rw [hd] at HDT hnn
   rw [if_neg (by decide)] at hnn
   rw [hnn] at HF
   clear HS hnn hd
   have h00 : w.heap.size < W0.heap.size := by omega
   have hw1 : w.heap.size + 1 < W0.heap.size := by omega
   cases dn
   all_goals
    go_enter Tryz.func83, Tryz.ntmps83
    go_upto_region 2 with fail
    rw [HW.out]
    clear HW
    go_upto_region 5 with (go_at_call 110; refine (HDT.out _).mono ?_; rintro e w1 ⟨rfl, hb1⟩; (have d0 := bcs hb1 h00 hc0); (have d1 := bcs hb1 h00 hc1))
    have hA1 := hA0.under hb1 hw1
    have hQ1 := hQ0.under hb1 hl0
    obtain ⟨a0, a1, a2, a3, a4⟩ := hA1.cells5
    obtain ⟨b0, b1, b2, b3, b4⟩ := hQ1.cells5
    have hz1 := hb1.size
    have hlq : w.heap.size + 2 < w1.heap.size := hQ1.lt
    go_cut [9] from 14 to 21 (fun v wq => v = .int .i64 nn /\ Below w1.heap.size w1 wq)
    case first =>
     go_region_with (first
      | (go_at_call 112; (have HK1 := HKA.out w1.drew hb1.drew); (with_reducible refine HK1.mono ?_); rintro e w2 ⟨rfl, hb2⟩; (have hQ2 : VAt w2 (w.heap.size + 2) ⟨qk, qn, qs, qpl, qnl, qcl, qpm, qnm, qcm⟩ := VAt.under (W := w1.drew) hQ1 hb2 hlq); (obtain ⟨f0, f1, f2, f3, f4⟩ := hQ2.cells5); dsimp only at f0 f1 f2 f3 f4)
      | (go_at_call 112; (have HK1 := HKA.out w1 hb1); (with_reducible refine HK1.mono ?_); rintro e w2 ⟨rfl, hb2⟩)
      | (go_at_call 112; (have HK2 := HKB.out w2 (hb1.drew.trans (hb2.mono hz1))); (with_reducible refine HK2.mono ?_); rintro e w3 ⟨rfl, hb3⟩)
      | (go_at_call 109; (with_reducible refine (HF.out _).mono ?_); rintro e w4 ⟨rfl, hb4⟩)
      | fail)
     all_goals
      first
       | go_meet
       | (go_wp2_with fail; go_meet)
      have hz2 : w1.heap.size <= w2.heap.size := hb2.size
      have hz3 : w2.heap.size <= w3.heap.size := hb3.size
      have hbb : Below w1.heap.size w1 w2 := (Below.refl _ _).drew.trans hb2
      exact ⟨rfl, (hbb.trans (hb3.mono hz2)).trans (hb4.mono (Nat.le_trans hz2 hz3))⟩
    case rest =>
    obtain ⟨rfl, hbc⟩ := hcut
    have g1 := bcs hbc (by omega) d1
    go_wp2_with fail
    go_ret
    exact ⟨by rw [HK.out]; rfl, HB0.out.trans ((hb1.trans (hbc.mono hz1)).mono hw0)⟩
def encC (c : CmpD) : List Value := [.string c.prop, .bool c.down]
theorem codecC : Codec encC 2 := ⟨fun _ => rfl, fun x u hu => by
 simp only [encC, List.mem_cons, List.not_mem_nil, or_false] at hu
 rcases hu with rfl | rfl <;> rfl, by decide⟩
def PropOk (p : ByteArray) : Prop := datedB p = true \/ p = givenN \/ p = surN \/ p = sur2N
abbrev RM.ooj (r : RM) : Obj := .cells #[.string r.name, .int .i64 r.v.k, .int .i64 r.v.n, .string r.v.s, .slice r.v.pl r.v.nl r.v.cl, .slice r.v.pm r.v.nm r.v.cm] 27
def OAt (W : World) (g : Nat) (r : RM) : Prop := W.heap[g]? = some (.cells #[.string r.name, .int .i64 r.v.k, .int .i64 r.v.n, .string r.v.s, .slice r.v.pl r.v.nl r.v.cl, .slice r.v.pm r.v.nm r.v.cm] 27 (0, 0))
theorem OAt.cell {W : World} {g : Nat} {r : RM} (h : OAt W g r) (j : Nat) {v : Value} (hv : (#[.string r.name, .int .i64 r.v.k, .int .i64 r.v.n, .string r.v.s, .slice r.v.pl r.v.nl r.v.cl, .slice r.v.pm r.v.nm r.v.cm] : Array Value)[j]? = some v) : W.cell? ⟨g, j, none⟩ = some v := (cell_of_row W g j _ _ _ h).trans hv
theorem OAt.cells6 {W : World} {g : Nat} {r : RM} (h : OAt W g r) : W.cell? ⟨g, 0, none⟩ = some (.string r.name) /\ W.cell? ⟨g, 1, none⟩ = some (.int .i64 r.v.k) /\ W.cell? ⟨g, 2, none⟩ = some (.int .i64 r.v.n) /\ W.cell? ⟨g, 3, none⟩ = some (.string r.v.s) /\ W.cell? ⟨g, 4, none⟩ = some (.slice r.v.pl r.v.nl r.v.cl) /\ W.cell? ⟨g, 5, none⟩ = some (.slice r.v.pm r.v.nm r.v.cm) := ⟨h.cell 0 rfl, h.cell 1 rfl, h.cell 2 rfl, h.cell 3 rfl, h.cell 4 rfl, h.cell 5 rfl⟩
theorem OAt.under {W W' : World} {g B : Nat} {r : RM} (h : OAt W g r) (hb : Below B W W') (hg : g < B) : OAt W' g r := (hb.block g hg).trans h
theorem OAt.lt {W : World} {g : Nat} {r : RM} (h : OAt W g r) : g < W.heap.size := (Array.getElem?_eq_some_iff.1 h).1
theorem bytesLess_cmp : ∀ a b : List UInt8, Op.bytesLess a b = decide (Go.Lib.compareBytes a b < 0)
 | [], [] => by decide
 | [], _ :: _ => by unfold Op.bytesLess; exact (decide_eq_true (show (-1 : Int) < 0 by decide)).symm
 | _ :: _, [] => by unfold Op.bytesLess; exact (decide_eq_false (show ¬ (1 : Int) < 0 by decide)).symm
 | x :: a, y :: b => by
   have ih := bytesLess_cmp a b
   unfold Op.bytesLess Go.Lib.compareBytes
   by_cases h : x < y
   ·rw [if_pos h, decide_eq_true h]
    rfl
   ·rw [if_neg h, decide_eq_false h]
    by_cases h2 : y < x
    ·have hne : x ≠ y := fun e => by rw [e] at h2; exact UInt8.lt_irrefl _ h2
     rw [if_pos h2]
     have : (x == y) = false := by simpa using hne
     rw [this]
     rfl
    ·have he : x = y := UInt8.le_antisymm (UInt8.not_lt.1 h2) (UInt8.not_lt.1 h)
     rw [if_neg h2]
     subst he
     rw [ih]
     simp
theorem ahead_any (cs : List CmpD) (hcs : ∀ (i : Nat) c, cs[i]? = some c -> PropOk c.prop) (hcn : cs.length <= 1000000000000) (pc : Option Addr) (nc cc : Nat) (a b : ByteArray × JV) (ra rb : RM) (w : World) (B : Nat) (hBw : B <= w.heap.size) (hr : Rd w B encC 2 (.slice pc nc cc) cs)
 (ha : ra.name = a.1 /\ TreeOf w B a.2 ra.v) (oa : a.2.Ok) (hb : rb.name = b.1 /\ TreeOf w B b.2 rb.v) (ob : b.2.Ok) :
 Calls Tryz.prog 43 #[.slice pc nc cc, ra.val, rb.val] w fun e w' => e = .returned (.bool (aheadJ cs a b)) /\ Below w.heap.size w w' := by
 obtain ⟨W0, hW0⟩ : ∃ W0, (w.alloc ra.ooj).alloc rb.ooj = W0 := ⟨_, rfl⟩
 have hA0 : OAt W0 w.heap.size ra := by rw [<- hW0]; exact heap_alloc_lt (by simp) (heap_alloc_at rfl)
 have hQ0 : OAt W0 (w.heap.size + 1) rb := by rw [<- hW0]; exact heap_alloc_at (by simp)
 have hB0 : Below w.heap.size w W0 := by rw [<- hW0]; exact below2 w _ _
 have hn := rd_nlen hr
 have HRD := Lib.hid (hr.below (hB0.mono hBw) (Nat.le_refl B))
 have hw0 := hB0.size
 have HTA := Lib.hid (ha.2.under (hB0.mono hBw) (Nat.le_refl B))
 have HTB := Lib.hid (hb.2.under (hB0.mono hBw) (Nat.le_refl B))
 have HNA := Lib.hid (And.intro ha.1 hb.1)
 have HOK := Lib.hid (And.intro oa ob)
 have HCS := Lib.hid hcs
 have HN : Hid (cs.length = nc) := hn.symm
 have hno : nc <= 1000000000000 := by omega
 obtain ⟨na, ⟨k, n, s, pl, nl, cl, pm, nm, cm⟩⟩ := ra
 obtain ⟨nb, ⟨qk, qn, qs, qpl, qnl, qcl, qpm, qnm, qcm⟩⟩ := rb
 dsimp only [RM.val, RM.ooj] at *
 have HW := Lib.hid hW0
 have HB0 := Lib.hid hB0
 clear hW0 hB0 ha hb oa ob hr hcs hcn hn
 have hq0 := hQ0.lt
 go_enter Tryz.func43, Tryz.ntmps43
 go_upto_region 1 with fail
 rw [HW.out]
 clear HW
 go_wp2_with fail
 go_loopw [12] (fun i wr => ∃ j : Nat, j <= nc /\ i = .int .i64 (j : Int) /\ Hid (cmpO cs a b = cmpO (cs.drop j) a b /\ Below W0.heap.size W0 wr)) (fun i _ => nc - (intOf i).toNat)
 case atStart => exact ⟨0, by omega, rfl, by rw [List.drop_zero], Below.refl _ _⟩
 case round =>
  obtain ⟨j, hj, rfl, hH⟩ := hrel
  obtain ⟨hcm, hbr⟩ := hH.out
  clear hH
  have hA1 := hA0.under hbr (Nat.lt_of_succ_lt hq0)
  have hQ1 := hQ0.under hbr hq0
  by_cases hlt : j < nc
  ·obtain ⟨⟨cp, cd⟩, hc⟩ : ∃ c, cs[j]? = some c := ⟨_, List.getElem?_eq_getElem (by have := HN.out; omega)⟩
   have hpo := HCS.out j _ hc
   dsimp only at hpo
   have hdr : cs.drop j = ⟨cp, cd⟩ :: cs.drop (j + 1) := by
    obtain ⟨h1, h2⟩ := List.getElem?_eq_some_iff.1 hc
    rw [List.drop_eq_getElem_cons h1, h2]
   rw [hdr] at hcm
   have HCM : Hid (cmpO cs a b = if cmpK ⟨cp, cd⟩ a.2 b.2 ≠ 0 then cmpK ⟨cp, cd⟩ a.2 b.2 else cmpO (cs.drop (j + 1)) a b) := hcm
   obtain ⟨b1, o1, rfl, hb1, hc1⟩ := rd_at' (HRD.out.below (hbr.mono (Nat.le_trans hBw hw0)) (Nat.le_refl _)) hc
   have f0 := hc1 0 _ rfl
   have f1 := hc1 1 _ rfl
   rw [Nat.add_zero] at f0
   dsimp only at f0 f1
   have hj0 : (0 : Int) <= (j : Int) := Int.natCast_nonneg _
   have hj1 : (j : Int) < (nc : Int) := by omega
   have hz1 := hbr.size
   have hbA : Below W0.heap.size W0 (wr.alloc (.cells #[.string cp, .bool cd] 119)) := hbr.alloc hz1 _
   have HCC := Lib.hid (rkcomp_any cp cd hpo a.2 b.2 ⟨k, n, s, pl, nl, cl, pm, nm, cm⟩ ⟨qk, qn, qs, qpl, qnl, qcl, qpm, qnm, qcm⟩ (wr.alloc (.cells #[.string cp, .bool cd] 119)) B (Nat.le_trans (Nat.le_trans hBw hw0) hbA.size) (HTA.out.under (hbA.mono (Nat.le_trans hBw hw0)) (Nat.le_refl _)) HOK.out.1 (HTB.out.under (hbA.mono (Nat.le_trans hBw hw0)) (Nat.le_refl _)) HOK.out.2)
   obtain ⟨x, hx⟩ : ∃ x, cmpK ⟨cp, cd⟩ a.2 b.2 = x := ⟨_, rfl⟩
   rw [hx] at HCC HCM
   have hA2 := hA1.under ((Below.refl _ _).alloc (Nat.le_refl _) (.cells #[.string cp, .bool cd] 119)) hA1.lt
   have hQ2 := hQ1.under ((Below.refl _ _).alloc (Nat.le_refl _) (.cells #[.string cp, .bool cd] 119)) hQ1.lt
   have HX := Lib.hid hbA
   have hcv : (wr.alloc (.cells #[.string cp, .bool cd] 119)).heap[wr.heap.size]? = some (.cells #[.string cp, .bool cd] 119 (0, 0)) := heap_alloc_at rfl
   go_upto_region 4 with fail
   obtain ⟨W1, hW1⟩ : ∃ W, wr.alloc (.cells #[.string cp, .bool cd] 119) = W := ⟨_, rfl⟩
   obtain ⟨g8, hg8⟩ : ∃ g, wr.heap.size = g := ⟨_, rfl⟩
   rw [hW1] at HCC HX hA2 hQ2 hcv
   rw [hg8] at hcv
   try rw [hW1]
   try rw [hg8]
   obtain ⟨a0, a1, a2, a3, a4, a5⟩ := hA2.cells6
   obtain ⟨q0, q1, q2, q3, q4, q5⟩ := hQ2.cells6
   dsimp only at a0 a1 a2 a3 a4 a5 q0 q1 q2 q3 q4 q5
   have v0 : W1.cell? ⟨g8, 0, none⟩ = some (.string cp) := (cell_of_row W1 g8 0 _ _ _ hcv).trans rfl
   have v1 : W1.cell? ⟨g8, 1, none⟩ = some (.bool cd) := (cell_of_row W1 g8 1 _ _ _ hcv).trans rfl
   have hz2 : W0.heap.size <= W1.heap.size := HX.out.size
   clear hW1 hg8 hbA hA1 hQ1 hA2 hQ2 hcv hbr hc1 hcm hx hc hdr hpo
   go_upto_region 5 with (go_at_call 83; (with_reducible refine HCC.out.mono ?_); rintro e w2 ⟨rfl, hb2⟩)
   by_cases hx0 : x = 0
   ·subst hx0
    have HC2 : Hid (cmpO cs a b = cmpO (cs.drop (j + 1)) a b) := HCM.out.trans (if_neg (by simp))
    go_wp2_with fail
    go_roundw
    case rel => exact ⟨j + 1, by omega, by go_num, HC2.out, HX.out.trans (hb2.mono hz2)⟩
    case measure => simp [intOf]; omega
   ·have r1 : (x == 0) = false := by simpa using hx0
    have r2 : (x != 0) = true := by simpa using hx0
    have HC2 : Hid (cmpO cs a b = x) := HCM.out.trans (if_pos hx0)
    go_wp2_with fail
    go_ret
    exact ⟨by unfold aheadJ; rw [HC2.out]; rfl, HB0.out.trans ((HX.out.trans (hb2.mono hz2)).mono hw0)⟩
  ·obtain rfl : j = nc := by omega
   have HE : Hid (cmpO cs a b = Go.Lib.compareBytes a.1.data.toList b.1.data.toList) := by
    unfold Hid
    rw [hcm, List.drop_eq_nil_of_le (by have := HN.out; omega)]
    rfl
   have HX := Lib.hid (HB0.out.trans (hbr.mono hw0))
   obtain ⟨a0, a1, a2, a3, a4, a5⟩ := hA1.cells6
   obtain ⟨q0, q1, q2, q3, q4, q5⟩ := hQ1.cells6
   dsimp only at a0 a1 a2 a3 a4 a5 q0 q1 q2 q3 q4 q5
   clear hbr hcm hA1 hQ1
   go_wp2_with fail
   go_ret
   refine ⟨?_, HX.out⟩
   unfold aheadJ
   rw [HE.out, <- bytesLess_cmp, ByteArray.toList_eq, ByteArray.toList_eq, <- HNA.out.1, <- HNA.out.2]
   rfl
def dRM : RM := ⟨⟨#[]⟩, ⟨0, 0, ⟨#[]⟩, none, 0, 0, none, 0, 0⟩⟩
def dO : ByteArray × JV := (⟨#[]⟩, zeroJ)
def encQ (rs : List RM) (i : Nat) : List Value := [.string (rs.getD i dRM).name, .int .i64 (rs.getD i dRM).v.k, .int .i64 (rs.getD i dRM).v.n, .string (rs.getD i dRM).v.s, .slice (rs.getD i dRM).v.pl (rs.getD i dRM).v.nl (rs.getD i dRM).v.cl, .slice (rs.getD i dRM).v.pm (rs.getD i dRM).v.nm (rs.getD i dRM).v.cm, .int .i64 (i : Int)]
theorem codecQ (rs : List RM) : Codec (encQ rs) 7 := ⟨fun _ => rfl, fun x u hu => by
 simp only [encQ, List.mem_cons, List.not_mem_nil, or_false] at hu
 rcases hu with rfl | rfl | rfl | rfl | rfl | rfl | rfl <;> rfl, by decide⟩
def cmpQ (cs : List CmpD) (os : List (ByteArray × JV)) (i j : Nat) : Int := if cmpO cs (os.getD i dO) (os.getD j dO) ≠ 0 then cmpO cs (os.getD i dO) (os.getD j dO) else (i : Int) - (j : Int)
def ltQ (cs : List CmpD) (os : List (ByteArray × JV)) (i j : Nat) : Bool := decide (cmpQ cs os i j < 0)
theorem cmpNat_ok : CmpOk (fun i j : Nat => (i : Int) - (j : Int)) := ⟨fun x => by omega, fun x y => by omega, fun x y z a b => by omega⟩
theorem cmpQ_ok (cs : List CmpD) (os : List (ByteArray × JV)) : CmpOk (cmpQ cs os) := ((cmpO_ok cs).on (fun i : Nat => os.getD i dO)).lex cmpNat_ok
theorem ltQ_ok (cs : List CmpD) (os : List (ByteArray × JV)) : LtOk (ltQ cs os) := (cmpQ_ok cs os).lt
theorem cmpQ_eq {cs : List CmpD} {os : List (ByteArray × JV)} {i j : Nat} (h1 : ltQ cs os i j = false) (h2 : ltQ cs os j i = false) : i = j := by
 have a := of_decide_eq_false h1
 have b := of_decide_eq_false h2
 have h3 := (cmpQ_ok cs os).anti i j
 have h0 : cmpQ cs os i j = 0 := by omega
 unfold cmpQ at h0
 split at h0
 ·contradiction
 ·omega
theorem ltQ_less (cs : List CmpD) (os : List (ByteArray × JV)) (i j : Nat) : ltQ cs os i j = (aheadJ cs (os.getD i dO) (os.getD j dO) || (!aheadJ cs (os.getD j dO) (os.getD i dO) && decide ((i : Int) < (j : Int)))) := by
 have h := (cmpO_ok cs).anti (os.getD i dO) (os.getD j dO)
 unfold ltQ cmpQ aheadJ
 rcases Int.lt_trichotomy (cmpO cs (os.getD i dO) (os.getD j dO)) 0 with h1 | h1 | h1
 ·rw [if_pos (by omega), decide_eq_true h1]; rfl
 ·rw [if_neg (by omega), h, h1]
  simp
  omega
 ·rw [if_pos (by omega), decide_eq_false (by omega), decide_eq_true (by omega)]; rfl
structure QEnv (w : World) (B : Nat) (cs : List CmpD) (os : List (ByteArray × JV)) (rs : List RM) (pc : Option Addr) (nc cc : Nat) : Prop where
 rd : Rd w B encC 2 (.slice pc nc cc) cs
 pok : ∀ (i : Nat) c, cs[i]? = some c -> PropOk c.prop
 few : cs.length <= 1000000000000
 len : rs.length = os.length
 obj : ∀ i, i < rs.length -> (rs.getD i dRM).name = (os.getD i dO).1 /\ TreeOf w B (os.getD i dO).2 (rs.getD i dRM).v /\ (os.getD i dO).2.Ok
theorem QEnv.below {w w' : World} {B : Nat} {cs : List CmpD} {os : List (ByteArray × JV)} {rs : List RM} {pc : Option Addr} {nc cc : Nat} (h : QEnv w B cs os rs pc nc cc) (hb : Below B w w') : QEnv w' B cs os rs pc nc cc :=
 ⟨h.rd.below hb (Nat.le_refl _), h.pok, h.few, h.len, fun i hi => ⟨(h.obj i hi).1, (h.obj i hi).2.1.under hb (Nat.le_refl _), (h.obj i hi).2.2⟩⟩
structure QAt (W : World) (base q g cap : Nat) (rs : List RM) (pc : Option Addr) (nc cc : Nat) (xs : List Nat) : Prop where
 cell : W.heap[q]? = some (.cells #[.slice (some ⟨g, 0, none⟩) xs.length cap, .slice pc nc cc] 95 (0, 0))
 own : Own W base 97 (encQ rs) 7 (.slice (some ⟨g, 0, none⟩) xs.length cap) xs
 ne : q ≠ g
 lo : base <= q
 bnd : ∀ x ∈ xs, x < rs.length
theorem QAt.grown {W W' : World} {base q g cap : Nat} {rs : List RM} {pc : Option Addr} {nc cc : Nat} {xs : List Nat} (h : QAt W base q g cap rs pc nc cc xs) (hg : Below W.heap.size W W') : QAt W' base q g cap rs pc nc cc xs :=
 ⟨(hg.block q (Array.getElem?_eq_some_iff.1 h.cell).1).trans h.cell, h.own.below hg (Nat.le_refl _), h.ne, h.lo, h.bnd⟩
theorem QAt.glo {W : World} {base q g cap : Nat} {rs : List RM} {pc : Option Addr} {nc cc : Nat} {xs : List Nat} (h : QAt W base q g cap rs pc nc cc xs) : base <= g /\ g < W.heap.size := h.own.lt g rfl
theorem QAt.turned {W W' : World} {base q g cap : Nat} {rs : List RM} {pc : Option Addr} {nc cc : Nat} {xs ys : List Nat} (h : QAt W base q g cap rs pc nc cc xs) (hg : W.grownBy W' (some g)) (hl : ys.length = xs.length) (ho : Own W' base 97 (encQ rs) 7 (.slice (some ⟨g, 0, none⟩) xs.length cap) ys) (hb : ∀ y ∈ ys, y < rs.length) : QAt W' base q g cap rs pc nc cc ys :=
 ⟨by rw [hl]; exact (hg.block q (Array.getElem?_eq_some_iff.1 h.cell).1 (fun e => h.ne (Option.some.inj e))).trans h.cell, by rw [hl]; exact ho, h.ne, h.lo, hb⟩
theorem QAt.q0 {W : World} {base q g cap : Nat} {rs : List RM} {pc : Option Addr} {nc cc : Nat} {xs : List Nat} (h : QAt W base q g cap rs pc nc cc xs) : W.cell? ⟨q, 0, none⟩ = some (.slice (some ⟨g, 0, none⟩) xs.length cap) := (cell_of_row _ q 0 _ _ _ h.cell).trans rfl
theorem QAt.q1 {W : World} {base q g cap : Nat} {rs : List RM} {pc : Option Addr} {nc cc : Nat} {xs : List Nat} (h : QAt W base q g cap rs pc nc cc xs) : W.cell? ⟨q, 1, none⟩ = some (.slice pc nc cc) := (cell_of_row _ q 1 _ _ _ h.cell).trans rfl
theorem QAt.xlen {W : World} {base q g cap : Nat} {rs : List RM} {pc : Option Addr} {nc cc : Nat} {xs : List Nat} (h : QAt W base q g cap rs pc nc cc xs) : xs.length <= cap /\ cap <= maxLen := by
 obtain ⟨p, c, hv, h1, h2⟩ := h.own.len
 simp only [Value.slice.injEq] at hv
 obtain ⟨_, _, rfl⟩ := hv
 exact ⟨h1, h2⟩
theorem QAt.keep {W W' : World} {base q g cap : Nat} {rs : List RM} {pc : Option Addr} {nc cc : Nat} {xs : List Nat} (h : QAt W base q g cap rs pc nc cc xs) (hg : W.grownBy W' (some g)) {B : Nat} (hB : B <= base) : Below B W W' :=
 (Below.refl B W).grown hg (Nat.le_trans hB (Nat.le_trans h.glo.1 (Nat.le_of_lt h.glo.2))) (fun k e => by cases e; exact Nat.le_trans hB h.glo.1)
theorem swapL_set (xs : List Nat) {i j : Nat} {x y : Nat} (hi : xs[i]? = some x) (hj : xs[j]? = some y) : (xs.set i y).set j x = swapL xs i j (List.getElem?_eq_some_iff.1 hi).1 (List.getElem?_eq_some_iff.1 hj).1 := by
 obtain ⟨a, b⟩ := List.getElem?_eq_some_iff.1 hi
 obtain ⟨c, d⟩ := List.getElem?_eq_some_iff.1 hj
 unfold swapL
 rw [b, d]
theorem mth_lenL (q : Nat) (w : World) : Sem.run Tryz.prog (method 359 91 (.pointer (some ⟨q, 0, none⟩)) "Len") w = Sem.run Tryz.prog (do
 let (xt, x) <- follow [⟨95, 0, true⟩] 91 (.val (.pointer (some ⟨q, 0, none⟩)))
 pure (72, <- receiverAt xt x false none)) w := by kernel_rfl
theorem mth_swapL (q : Nat) (w : World) : Sem.run Tryz.prog (method 359 91 (.pointer (some ⟨q, 0, none⟩)) "Swap") w = Sem.run Tryz.prog (do
 let (xt, x) <- follow [⟨95, 0, true⟩] 91 (.val (.pointer (some ⟨q, 0, none⟩)))
 pure (240, <- receiverAt xt x false none)) w := by kernel_rfl
theorem mth_len (q : Nat) (w : World) (v : Value) (h : w.cell? ⟨q, 0, none⟩ = some v) : Sem.run Tryz.prog (method 359 91 (.pointer (some ⟨q, 0, none⟩)) "Len") w = .ok (72, v) w := by
 have hadd : (⟨q, 0, none⟩ : Addr).add 0 = ⟨q, 0, none⟩ := rfl
 have u67 := fun w => run_underlying (w := w) Tryz.underlying95
 have u65 := fun w => run_underlying (w := w) Tryz.underlying93
 rw [mth_lenL]
 simp [follow, receiverAt, Place.get, u67, u65, fieldPlace, loadVar, h, hadd, Tryz.isAgg93, Tryz.sizeOf93, asAddr]
theorem mth_swap (q : Nat) (w : World) (v : Value) (h : w.cell? ⟨q, 0, none⟩ = some v) : Sem.run Tryz.prog (method 359 91 (.pointer (some ⟨q, 0, none⟩)) "Swap") w = .ok (240, v) w := by
 have hadd : (⟨q, 0, none⟩ : Addr).add 0 = ⟨q, 0, none⟩ := rfl
 have u67 := fun w => run_underlying (w := w) Tryz.underlying95
 have u65 := fun w => run_underlying (w := w) Tryz.underlying93
 rw [mth_swapL]
 simp [follow, receiverAt, Place.get, u67, u65, fieldPlace, loadVar, h, hadd, Tryz.isAgg93, Tryz.sizeOf93, asAddr]
theorem mth_less (q : Nat) (w : World) : Sem.run Tryz.prog (method 359 91 (.pointer (some ⟨q, 0, none⟩)) "Less") w = .ok (238, .pointer (some ⟨q, 0, none⟩)) w := by kernel_rfl
theorem mth_pop (q : Nat) (w : World) : Sem.run Tryz.prog (method 359 91 (.pointer (some ⟨q, 0, none⟩)) "Pop") w = .ok (239, .pointer (some ⟨q, 0, none⟩)) w := by kernel_rfl
theorem qlen_any (p : Option Addr) (n c : Nat) (w : World) : Calls Tryz.prog 72 #[.slice p n c] w fun e w' => e = .returned (.int .i64 (n : Int)) /\ w = w' := by
 go_enter Tryz.func72, Tryz.ntmps72
 go_wp2_with fail
 go_ret
 exact ⟨rfl, rfl⟩
theorem qswap_gen {P : Program} {α : Type} {enc : α -> List Value} {k : Nat} (C : Codec enc k) (mixed : P.follows .mixedOrders = true) (FG : P.funcs[240]? = some Tryz.f240) (aE : ∀ w, (isAgg 97).run P w = .ok true w) (zE : ∀ w, (Go.sizeOf 97).run P w = .ok k w)
 (t0 : P.underlying 0 = some (TypeDesc.tuple #[])) (a0 : ∀ w, (isAgg 0).run P w = .ok false w) (z0 : ∀ w, (Go.sizeOf 0).run P w = .ok 1 w) (v0 : ∀ w, (zeroValue 0).run P w = .ok (Value.tuple #[]) w)
 (t3 : P.underlying 3 = some (TypeDesc.int IntKind.i64)) (a3 : ∀ w, (isAgg 3).run P w = .ok false w) (z3 : ∀ w, (Go.sizeOf 3).run P w = .ok 1 w) (v3 : ∀ w, (zeroValue 3).run P w = .ok (Value.int IntKind.i64 0) w)
 (tS : P.underlying 93 = some (TypeDesc.slice 97)) (aS : ∀ w, (isAgg 93).run P w = .ok false w) (zS : ∀ w, (Go.sizeOf 93).run P w = .ok 1 w) (vS : ∀ w, (zeroValue 93).run P w = .ok (Value.slice none 0 0) w)
 (xs : List α) (base g cap i j : Nat) (x y : α) (w : World) (hO : Own w base 97 enc k (.slice (some ⟨g, 0, none⟩) xs.length cap) xs) (hi : xs[i]? = some x) (hj : xs[j]? = some y) (hl : xs.length <= 9223372036854775807) :
 Calls P 240 #[.slice (some ⟨g, 0, none⟩) xs.length cap, .int .i64 (i : Int), .int .i64 (j : Int)] w fun e w' => e = .returned (.tuple #[]) /\ Own w' base 97 enc k (.slice (some ⟨g, 0, none⟩) xs.length cap) ((xs.set i y).set j x) /\ w.grownBy w' (some g) := by
 obtain ⟨s1, s2, o2, g2⟩ := Own.swapped C P hO.drewO hi hj
 have l1 := Own.loadRow C P hO.drewO hi
 have l2 := Own.loadRow C P hO.drewO hj
 have n1 : (enc x).length = k := C.len x
 have n2 : (enc y).length = k := C.len y
 have hi1 := (List.getElem?_eq_some_iff.1 hi).1
 have hj1 := (List.getElem?_eq_some_iff.1 hj).1
 have HP : Hid (Own ((w.drew.setCells g (i * k) (enc y)).setCells g (j * k) (enc x)) base 97 enc k (.slice (some ⟨g, 0, none⟩) xs.length cap) ((xs.set i y).set j x) /\ w.grownBy ((w.drew.setCells g (i * k) (enc y)).setCells g (j * k) (enc x)) (some g)) := ⟨o2, ⟨g2.os, g2.tape, g2.output, g2.size, g2.block⟩⟩
 obtain ⟨n, hn⟩ : ∃ n, xs.length = n := ⟨_, rfl⟩
 rw [hn] at hl hi1 hj1
 have HN := Lib.hid hn
 rw [hn]
 have i0 : (0 : Int) <= (i : Int) := Int.natCast_nonneg _
 have j0 : (0 : Int) <= (j : Int) := Int.natCast_nonneg _
 have i1 : (i : Int) < (n : Int) := by omega
 have j1 : (j : Int) < (n : Int) := by omega
 have ti : ((i : Int)).toNat = i := by omega
 have tj : ((j : Int)).toNat = j := by omega
 generalize enc x = cx at *
 generalize enc y = cy at *
 clear hO o2 g2 hi hj hn
 go_enter FG, Tryz.ntmps240
 go_wp2_with fail
 go_big_region_o
 go_wp2_with fail
 go_end0
 have h := HP.out
 rw [HN.out] at h
 exact ⟨rfl, h⟩
theorem qswap_any {α : Type} {enc : α -> List Value} (C : Codec enc 7) (xs : List α) (base g cap i j : Nat) (x y : α) (w : World) (hO : Own w base 97 enc 7 (.slice (some ⟨g, 0, none⟩) xs.length cap) xs) (hi : xs[i]? = some x) (hj : xs[j]? = some y) (hl : xs.length <= 9223372036854775807) :
 Calls Tryz.prog 240 #[.slice (some ⟨g, 0, none⟩) xs.length cap, .int .i64 (i : Int), .int .i64 (j : Int)] w fun e w' => e = .returned (.tuple #[]) /\ Own w' base 97 enc 7 (.slice (some ⟨g, 0, none⟩) xs.length cap) ((xs.set i y).set j x) /\ w.grownBy w' (some g) :=
 qswap_gen C (by kernel_rfl) Tryz.func240 Tryz.isAgg97 Tryz.sizeOf97 Tryz.underlying0 Tryz.isAgg0 Tryz.sizeOf0 Tryz.zeroValue0 Tryz.underlying3 Tryz.isAgg3 Tryz.sizeOf3 Tryz.zeroValue3 Tryz.underlying93 Tryz.isAgg93 Tryz.sizeOf93 Tryz.zeroValue93 xs base g cap i j x y w hO hi hj hl
end
section
open Go.RowKit Go.OpenShut
theorem KB.setV {W W' : World} (h : KB W.heap.size W W') (g : Nat) (q : RV) (hg : W.heap.size <= g) : KB W.heap.size W (((((W'.setCell ⟨g, 0, none⟩ (.int .i64 q.k)).setCell ⟨g, 1, none⟩ (.int .i64 q.n)).setCell ⟨g, 2, none⟩ (.string q.s)).setCell ⟨g, 3, none⟩ (.slice q.pl q.nl q.cl)).setCell ⟨g, 4, none⟩ (.slice q.pm q.nm q.cm)) :=
 KB.mk (Below.stored h.1 hg q)
theorem kt_drew (W : World) : Below W.heap.size W W.drew /\ ∀ b o, b < W.heap.size -> World.cell? W.drew ⟨b, o, none⟩ = W.cell? ⟨b, o, none⟩ := KB.drew W
theorem kt_da (W : World) (x : Obj) : Below W.heap.size W (W.alloc x).drew /\ ∀ b o, b < W.heap.size -> World.cell? (W.alloc x).drew ⟨b, o, none⟩ = W.cell? ⟨b, o, none⟩ := (KB.mk ((Below.refl _ _).alloc (Nat.le_refl _) x).drew : KB W.heap.size W (W.alloc x).drew)
theorem kt_same {W W' : World} (h : KB W.heap.size W W') : Below W.heap.size W W' /\ ∀ b o, b < W.heap.size -> World.cell? W' ⟨b, o, none⟩ = W.cell? ⟨b, o, none⟩ := h
theorem kt_alloc {W W' : World} (h : KB W.heap.size W W') (x : Obj) : Below W.heap.size W (W'.alloc x) /\ ∀ b o, b < W.heap.size -> World.cell? (W'.alloc x) ⟨b, o, none⟩ = W.cell? ⟨b, o, none⟩ := h.step ((Below.refl _ _).alloc (Nat.le_refl _) _)
theorem kt_setV {W W' : World} (h : KB W.heap.size W W') (g : Nat) (q : RV) (hg : W.heap.size <= g) : Below W.heap.size W (((((W'.setCell ⟨g, 0, none⟩ (.int .i64 q.k)).setCell ⟨g, 1, none⟩ (.int .i64 q.n)).setCell ⟨g, 2, none⟩ (.string q.s)).setCell ⟨g, 3, none⟩ (.slice q.pl q.nl q.cl)).setCell ⟨g, 4, none⟩ (.slice q.pm q.nm q.cm)) /\ ∀ b o, b < W.heap.size -> World.cell? (((((W'.setCell ⟨g, 0, none⟩ (.int .i64 q.k)).setCell ⟨g, 1, none⟩ (.int .i64 q.n)).setCell ⟨g, 2, none⟩ (.string q.s)).setCell ⟨g, 3, none⟩ (.slice q.pl q.nl q.cl)).setCell ⟨g, 4, none⟩ (.slice q.pm q.nm q.cm)) ⟨b, o, none⟩ = W.cell? ⟨b, o, none⟩ := h.setV g q hg
end
end Go.Proofs.YtffhccmppdgmfaaGreatDoor
