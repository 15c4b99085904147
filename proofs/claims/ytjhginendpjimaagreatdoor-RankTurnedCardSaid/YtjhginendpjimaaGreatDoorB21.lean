import Derived.Test.YtjhginendpjimaaGreatDoorB20
set_option linter.unusedSimpArgs false
set_option linter.unusedVariables false
set_option maxRecDepth 200000
set_option maxHeartbeats 8000000
namespace Go.Proofs.YtjhginendpjimaaGreatDoor
section
open Go Go.RowKit Go.OpenShut
theorem cmpB_bound : ∀ a b : List UInt8, -1 <= Go.Lib.compareBytes a b /\ Go.Lib.compareBytes a b <= 1
 | [], [] => by decide
 | [], _ :: _ => ⟨show (-1 : Int) <= -1 by decide, show (-1 : Int) <= 1 by decide⟩
 | _ :: _, [] => ⟨show (-1 : Int) <= 1 by decide, show (1 : Int) <= 1 by decide⟩
 | x :: a, y :: b => by
   unfold Go.Lib.compareBytes
   split
   ·decide
   ·split
    ·decide
    ·exact cmpB_bound a b
theorem cmpS_bound (a b : List UInt8) : -1 <= cmpS a b /\ cmpS a b <= 1 := by
 unfold cmpS
 split
 ·exact cmpB_bound _ _
 ·decide
 ·decide
 ·split
  ·decide
  ·split
   ·decide
   ·exact cmpB_bound _ _
theorem textM_le {t : JV} (h : t.Ok) {name x : ByteArray} (hx : x ∈ textM t name) : x.size <= maxLen := by
 unfold textM at hx
 cases hg : t.get name with
 | none => rw [hg] at hx; cases hx
 | some v =>
   rw [hg] at hx
   dsimp only at hx
   have := (h.get hg).s_le.1
   split at hx
   ·rw [List.mem_singleton] at hx
    subst hx
    unfold maxLen
    omega
   ·cases hx
theorem headD_le {l : List ByteArray} (h : ∀ x ∈ l, x.size <= maxLen) : (l.headD ⟨#[]⟩).size <= maxLen := by
 cases l with
 | nil => exact Nat.zero_le _
 | cons a r => exact h a (List.mem_cons_self ..)
theorem keyK_le {t : JV} (h : t.Ok) (p : ByteArray) : (keyK t p).size <= maxLen := by
 unfold keyK
 split
 ·exact headD_le (fun x hx => textM_le h hx)
 ·refine headD_le (fun x hx => ?_)
  have hx : x ∈ partsJ (nameV t) (p.extract 5 p.size) := hx
  rw [partsJ_of] at hx
  unfold partsL at hx
  obtain ⟨c, hc, hxc⟩ := List.mem_flatMap.1 hx
  obtain ⟨i, hi⟩ := List.mem_iff_getElem?.1 (List.mem_filter.1 hc).1
  exact textM_le ((inJ_ok (nameV_ok h)).2 i c hi) hxc
theorem rkcomp_any (p : ByteArray) (dn : Bool) (hp : datedB p = true \/ p = givenN \/ p = surN \/ p = sur2N) (t u : JV) (r q : RV) (w : World) (B : Nat) (hBw : B <= w.heap.size) (ht : TreeOf w B t r) (ot : t.Ok) (hu : TreeOf w B u q) (ou : u.Ok) :
 Calls Tryz.prog 58 #[.agg #[.string p, .bool dn], r.val, q.val] w fun e w' => e = .returned (.int .i64 (cmpK ⟨p, dn⟩ t u)) /\ Below w.heap.size w w' := by
 obtain ⟨W0, hW0⟩ : ∃ W0, ((w.alloc (.cells #[.string p, .bool dn] 102)).alloc r.obj).alloc q.obj = W0 := ⟨_, rfl⟩
 have hC0 : W0.heap[w.heap.size]? = some (.cells #[.string p, .bool dn] 102 (0, 0)) := by rw [<- hW0]; exact heap_alloc_lt (by simp; omega) (heap_alloc_lt (by simp) (heap_alloc_at rfl))
 have hA0 : VAt W0 (w.heap.size + 1) r := by rw [<- hW0]; exact heap_alloc_lt (by simp) (heap_alloc_at (by simp))
 have hQ0 : VAt W0 (w.heap.size + 2) q := by rw [<- hW0]; exact heap_alloc_at (by simp)
 have hB0 : Below w.heap.size w W0 := by rw [<- hW0]; exact (below2 w _ _).alloc (by simp; omega) _
 have hc0 : W0.cell? ⟨w.heap.size, 0, none⟩ = some (.string p) := (cell_of_row _ w.heap.size 0 _ _ _ hC0).trans rfl
 have hc1 : W0.cell? ⟨w.heap.size, 1, none⟩ = some (.bool dn) := (cell_of_row _ w.heap.size 1 _ _ _ hC0).trans rfl
 have hl0 := hQ0.lt
 have HDT : Hid (∀ W, Calls Tryz.prog 73 #[.agg #[.string p, .bool dn]] W fun e w' => e = .returned (.bool (datedB p)) /\ Below W.heap.size W w') := fun W => dated_any p dn W
 have ht0 : TreeOf W0 B t r := ht.under (hB0.mono hBw) (Nat.le_refl _)
 have hu0 : TreeOf W0 B u q := hu.under (hB0.mono hBw) (Nat.le_refl _)
 have hw0 := hB0.size
 have HKA : Hid (∀ W, Below W0.heap.size W0 W -> Calls Tryz.prog 75 #[.agg #[.string p, .bool dn], r.val] W fun e w' => e = .returned (.string (keyK t p)) /\ Below W.heap.size W w') := fun W hW => key_any p dn hp t r W B (Nat.le_trans (Nat.le_trans hBw hw0) hW.size) (ht0.under (hW.mono (Nat.le_trans hBw hw0)) (Nat.le_refl _)) ot
 have HKB : Hid (∀ W, Below W0.heap.size W0 W -> Calls Tryz.prog 75 #[.agg #[.string p, .bool dn], q.val] W fun e w' => e = .returned (.string (keyK u p)) /\ Below W.heap.size W w') := fun W hW => key_any p dn hp u q W B (Nat.le_trans (Nat.le_trans hBw hw0) hW.size) (hu0.under (hW.mono (Nat.le_trans hBw hw0)) (Nat.le_refl _)) ou
 have HS : Hid (∀ W, Calls Tryz.prog 74 #[.string (keyK t p), .string (keyK u p)] W fun e w' => e = .returned (.int .i64 (cmpS (keyK t p).data.toList (keyK u p).data.toList)) /\ Below W.heap.size W w') := fun W => scomp_any _ _ W (keyK_le ot p) (keyK_le ou p)
 have HF : Hid (∀ W, Calls Tryz.prog 72 #[.string (keyK t p), .string (keyK u p)] W fun e w' => e = .returned (.int .i64 (Go.Lib.compareBytes (foldL (keyK t p).data.toList) (foldL (keyK u p).data.toList))) /\ Below W.heap.size W w') := fun W => fcomp_any _ _ W (keyK_le ot p) (keyK_le ou p)
 obtain ⟨nn, hnn⟩ : ∃ n, (if datedB p then cmpS (keyK t p).data.toList (keyK u p).data.toList else Go.Lib.compareBytes (foldL (keyK t p).data.toList) (foldL (keyK u p).data.toList)) = n := ⟨_, rfl⟩
 have hnb : -1 <= nn /\ nn <= 1 := by
  rw [<- hnn]
  split
  ·exact cmpS_bound _ _
  ·exact cmpB_bound _ _
 have HK : Hid (cmpK ⟨p, dn⟩ t u = if dn then -nn else nn) := by
  unfold Hid cmpK
  rw [<- hnn]
  unfold keyK
  cases datedB p <;> rfl
 obtain ⟨R, hR⟩ : ∃ R, cmpK ⟨p, dn⟩ t u = R := ⟨_, rfl⟩
 rw [hR] at HK
 rw [hR]
 obtain ⟨X, hX⟩ : ∃ X, keyK t p = X := ⟨_, rfl⟩
 obtain ⟨Y, hY⟩ : ∃ X, keyK u p = X := ⟨_, rfl⟩
 rw [hX] at HKA HS HF hnn
 rw [hY] at HKB HS HF hnn
 obtain ⟨k, n, s, pl, nl, cl, pm, nm, cm⟩ := r
 obtain ⟨qk, qn, qs, qpl, qnl, qcl, qpm, qnm, qcm⟩ := q
 dsimp only [RV.val, RV.obj] at *
 have HW := Lib.hid hW0
 have HB0 := Lib.hid hB0
 obtain ⟨n0, n1⟩ := hnb
 clear hW0 hB0 ht ot hu ou hR hC0 hp ht0 hu0 hX hY
 cases hd : datedB p with
 | true =>
   rw [hd] at HDT hnn
   rw [if_pos rfl] at hnn
   rw [hnn] at HS
   clear HF hnn hd
   have h00 : w.heap.size < W0.heap.size := by omega
   have hw1 : w.heap.size + 1 < W0.heap.size := by omega
   cases dn
   all_goals
    go_enter Tryz.func58, Tryz.ntmps58
    go_upto_region 2 with fail
    rw [HW.out]
    clear HW
    go_upto_region 5 with (go_at_call 73; refine (HDT.out _).mono ?_; rintro e w1 ⟨rfl, hb1⟩; (have d0 := bcs hb1 h00 hc0); (have d1 := bcs hb1 h00 hc1))
    have hA1 := hA0.under hb1 hw1
    have hQ1 := hQ0.under hb1 hl0
    obtain ⟨a0, a1, a2, a3, a4⟩ := hA1.cells5
    obtain ⟨b0, b1, b2, b3, b4⟩ := hQ1.cells5
    have hz1 := hb1.size
    have hlq : w.heap.size + 2 < w1.heap.size := hQ1.lt
    go_cut [9] from 14 to 21 (fun v wq => v = .int .i64 nn /\ Below w1.heap.size w1 wq)
    case first =>
     go_region_with (first
      | (go_at_call 75; (have HK1 := HKA.out w1.drew hb1.drew); (with_reducible refine HK1.mono ?_); rintro e w2 ⟨rfl, hb2⟩; (have hQ2 : VAt w2 (w.heap.size + 2) ⟨qk, qn, qs, qpl, qnl, qcl, qpm, qnm, qcm⟩ := VAt.under (W := w1.drew) hQ1 hb2 hlq); (obtain ⟨f0, f1, f2, f3, f4⟩ := hQ2.cells5); dsimp only at f0 f1 f2 f3 f4)
      | (go_at_call 75; (have HK1 := HKA.out w1 hb1); (with_reducible refine HK1.mono ?_); rintro e w2 ⟨rfl, hb2⟩)
      | (go_at_call 75; (have HK2 := HKB.out w2 (hb1.drew.trans (hb2.mono hz1))); (with_reducible refine HK2.mono ?_); rintro e w3 ⟨rfl, hb3⟩)
      | (go_at_call 74; (with_reducible refine (HS.out _).mono ?_); rintro e w4 ⟨rfl, hb4⟩)
      | fail)
     all_goals
      first
       | go_meet
       | (go_wp2_with fail; go_meet)
      have hz2 : w1.heap.size <= w2.heap.size := hb2.size
      have hz3 : w2.heap.size <= w3.heap.size := hb3.size
      have hbb : Below w1.heap.size w1 w2 := (Below.refl _ _).drew.trans hb2
      exact ⟨rfl, (hbb.trans (hb3.mono hz2)).trans (hb4.mono (Nat.le_trans hz2 hz3))⟩
    case rest =>
    obtain ⟨rfl, hbc⟩ := hcut
    have g1 := bcs hbc (by omega) d1
    go_wp2_with fail
    go_ret
    exact ⟨by rw [HK.out]; rfl, HB0.out.trans ((hb1.trans (hbc.mono hz1)).mono hw0)⟩
 | false =>
   rw [hd] at HDT hnn
   rw [if_neg (by decide)] at hnn
   rw [hnn] at HF
   clear HS hnn hd
   have h00 : w.heap.size < W0.heap.size := by omega
   have hw1 : w.heap.size + 1 < W0.heap.size := by omega
   cases dn
   all_goals
    go_enter Tryz.func58, Tryz.ntmps58
    go_upto_region 2 with fail
    rw [HW.out]
    clear HW
    go_upto_region 5 with (go_at_call 73; refine (HDT.out _).mono ?_; rintro e w1 ⟨rfl, hb1⟩; (have d0 := bcs hb1 h00 hc0); (have d1 := bcs hb1 h00 hc1))
    have hA1 := hA0.under hb1 hw1
    have hQ1 := hQ0.under hb1 hl0
    obtain ⟨a0, a1, a2, a3, a4⟩ := hA1.cells5
    obtain ⟨b0, b1, b2, b3, b4⟩ := hQ1.cells5
    have hz1 := hb1.size
    have hlq : w.heap.size + 2 < w1.heap.size := hQ1.lt
    go_cut [9] from 14 to 21 (fun v wq => v = .int .i64 nn /\ Below w1.heap.size w1 wq)
    case first =>
     go_region_with (first
      | (go_at_call 75; (have HK1 := HKA.out w1.drew hb1.drew); (with_reducible refine HK1.mono ?_); rintro e w2 ⟨rfl, hb2⟩; (have hQ2 : VAt w2 (w.heap.size + 2) ⟨qk, qn, qs, qpl, qnl, qcl, qpm, qnm, qcm⟩ := VAt.under (W := w1.drew) hQ1 hb2 hlq); (obtain ⟨f0, f1, f2, f3, f4⟩ := hQ2.cells5); dsimp only at f0 f1 f2 f3 f4)
      | (go_at_call 75; (have HK1 := HKA.out w1 hb1); (with_reducible refine HK1.mono ?_); rintro e w2 ⟨rfl, hb2⟩)
      | (go_at_call 75; (have HK2 := HKB.out w2 (hb1.drew.trans (hb2.mono hz1))); (with_reducible refine HK2.mono ?_); rintro e w3 ⟨rfl, hb3⟩)
      | (go_at_call 72; (with_reducible refine (HF.out _).mono ?_); rintro e w4 ⟨rfl, hb4⟩)
      | fail)
     all_goals
      first
       | go_meet
       | (go_wp2_with fail; go_meet)
      have hz2 : w1.heap.size <= w2.heap.size := hb2.size
      have hz3 : w2.heap.size <= w3.heap.size := hb3.size
      have hbb : Below w1.heap.size w1 w2 := (Below.refl _ _).drew.trans hb2
      exact ⟨rfl, (hbb.trans (hb3.mono hz2)).trans (hb4.mono (Nat.le_trans hz2 hz3))⟩
    case rest =>
    obtain ⟨rfl, hbc⟩ := hcut
    have g1 := bcs hbc (by omega) d1
    go_wp2_with fail
    go_ret
    exact ⟨by rw [HK.out]; rfl, HB0.out.trans ((hb1.trans (hbc.mono hz1)).mono hw0)⟩
end
end Go.Proofs.YtjhginendpjimaaGreatDoor
