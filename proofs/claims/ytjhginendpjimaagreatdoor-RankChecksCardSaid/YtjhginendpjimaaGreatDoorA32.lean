import Derived.Test.YtjhginendpjimaaGreatDoorA31
set_option linter.unusedSimpArgs false
set_option linter.unusedVariables false
set_option maxRecDepth 200000
set_option maxHeartbeats 8000000
namespace Go.Proofs.YtjhginendpjimaaGreatDoor
section
open Go Go.RowKit Go.OpenShut
theorem rcheck_any (t : JV) (r : RV) (w : World) (B : Nat) (hBw : B <= w.heap.size) (ht : TreeOf w B t r) (ot : t.Ok) :
 Calls Tryz.prog 12 #[r.val] w fun e w' => e = .returned (.int .i64 (sortE t)) /\ Below w.heap.size w w' := by
 obtain ⟨W0, hW0⟩ : ∃ W0, w.alloc r.obj = W0 := ⟨_, rfl⟩
 have hA0 : VAt W0 w.heap.size r := by rw [<- hW0]; exact heap_alloc_at rfl
 have hB0 : Below w.heap.size w W0 := by rw [<- hW0]; exact (Below.refl _ _).alloc (Nat.le_refl _) _
 cases ht with
 | @mk _ l m rs rms hl el hcl hm em hcn hcm =>
 obtain ⟨k, n, s, pl, nl, cl, pm, nm, cm⟩ := r
 dsimp only [RV.val, RV.obj] at *
 have HW := Lib.hid hW0
 have HB0 := Lib.hid hB0
 have HL := Lib.hid hl
 have hnl := rd_nlen hl
 have HCL := Lib.hid hcl
 have HOK : Hid (∀ (i : Nat) x, l[i]? = some x -> x.Ok) := fun i x hx => by cases ot with | mk _ _ _ _ _ c _ _ => exact c i x hx
 have hll : l.length = nl := by omega
 have HLL := Lib.hid hll
 obtain ⟨E, hE⟩ : ∃ E, sortE (JV.mk k n s l m) = E := ⟨_, rfl⟩
 have HE := Lib.hid hE
 rw [hE]
 have hw0 := hB0.size
 have hl0 := hA0.lt
 have hnl0 : (0 : Int) <= (nl : Int) := Int.natCast_nonneg _
 clear hW0 hB0 hE hl el hcl hm em hcn hcm hnl hll ot
 by_cases hk1 : k = 1
 ·have hs := sortE_null (t := JV.mk k n s l m) hk1
  subst hk1
  have HE1 : Hid (E = 0) := HE.out.symm.trans hs.1
  clear hs
  go_enter Tryz.func12, Tryz.ntmps12
  go_upto_region 1 with fail
  rw [HW.out]
  clear HW
  obtain ⟨a0, a1, a2, a3, a4⟩ := hA0.cells5
  go_wp2_with fail
  rw [HE1.out]
  go_ret
  exact ⟨rfl, HB0.out⟩
 ·have q1 : (k == 1) = false := by simpa using hk1
  by_cases hk5 : k = 5
  ·subst hk5
   have HK5 : Hid ((JV.mk 5 n s l m).k = 5 /\ (JV.mk 5 n s l m).l = l) := ⟨rfl, rfl⟩
   by_cases hmany : 4 < nl
   ·have hs := sortE_many (t := JV.mk 5 n s l m) rfl (by rw [HK5.out.2, HLL.out]; exact hmany)
    have HE1 : Hid (E = 210) := HE.out.symm.trans hs.1
    have q2 : decide ((4 : Int) < (nl : Int)) = true := decide_eq_true (by omega)
    have q2' : decide (4 < nl) = true := decide_eq_true hmany
    clear hs
    go_enter Tryz.func12, Tryz.ntmps12
    go_upto_region 1 with fail
    rw [HW.out]
    clear HW
    obtain ⟨a0, a1, a2, a3, a4⟩ := hA0.cells5
    go_wp2_with fail
    rw [HE1.out]
    go_ret
    exact ⟨rfl, HB0.out⟩
   ·have q2 : decide ((4 : Int) < (nl : Int)) = false := decide_eq_false (by omega)
    have q2' : decide (4 < nl) = false := decide_eq_false hmany
    have HEL : Hid (E = listE l) := HE.out.symm.trans (sortE_list (t := JV.mk 5 n s l m) rfl (by rw [HK5.out.2, HLL.out]; exact hmany))
    go_enter Tryz.func12, Tryz.ntmps12
    go_upto_region 1 with fail
    rw [HW.out]
    clear HW
    obtain ⟨a0, a1, a2, a3, a4⟩ := hA0.cells5
    go_wp2_with fail
    go_loopw [3] (fun i wr => ∃ j : Nat, j <= nl /\ i = .int .i64 (j : Int) /\ Hid (listE (l.drop j) = E /\ Below W0.heap.size W0 wr)) (fun i _ => nl - (intOf i).toNat)
    case atStart => exact ⟨0, by omega, rfl, HEL.out.symm, Below.refl _ _⟩
    case round =>
     obtain ⟨j, hj, rfl, hS⟩ := hrel
     have hj0 : (0 : Int) <= (j : Int) := Int.natCast_nonneg _
     have hbr := hS.out.2
     have hAr := hA0.under hbr hl0
     have c3 := hAr.cell 3 rfl
     dsimp only at c3
     have hbw := HB0.out.trans (hbr.mono hw0)
     have HBW := Lib.hid hbw
     have HBR2 := Lib.hid hbr
     have HLD := Lib.hid hS.out.1
     have hzw := hbw.size
     by_cases hlt : j < nl
     ·have hj1 : (j : Int) < (nl : Int) := by omega
      obtain ⟨x, hx⟩ : ∃ x, l[j]? = some x := ⟨_, List.getElem?_eq_getElem (by have := HLL.out; omega)⟩
      have hlr := HL.out.below (hbw.mono hBw) (Nat.le_refl _)
      obtain ⟨q, hq⟩ : ∃ q, rs[j]? = some q := ⟨_, List.getElem?_eq_getElem (by have := rd_nlen hlr; omega)⟩
      obtain ⟨b1, o1, rfl, hb1, hc1⟩ := rd_at' hlr hq
      have hxt := (HCL.out j x q hx hq).under (hbw.mono hBw) (Nat.le_refl _)
      have HRD := Lib.hid (rone_any x q wr B (Nat.le_trans hBw hzw) hxt (HOK.out j x hx))
      have HLD2 := Lib.hid ((listE_drop hx).symm.trans HLD.out)
      obtain ⟨vk, vn, vs, vpl, vnl, vcl, vpm, vnm, vcm⟩ := q
      dsimp only [RV.val] at HRD
      have f0 := hc1 0 _ rfl
      have f1 := hc1 1 _ rfl
      have f2 := hc1 2 _ rfl
      have f3 := hc1 3 _ rfl
      have f4 := hc1 4 _ rfl
      rw [Nat.add_zero] at f0
      dsimp only at f0 f1 f2 f3 f4
      obtain ⟨F, hF⟩ : ∃ F, oneE x = F := ⟨_, rfl⟩
      rw [hF] at HRD HLD2
      have hwf := oneE_wf x
      rw [hF] at hwf
      clear hF hlr hq hc1 hxt hx hb1 hS hAr hbr hbw
      by_cases hF0 : F = 0
      ·subst hF0
       have HL2 : Hid (listE (l.drop (j + 1)) = E) := by have h := HLD2.out; rw [if_neg (by simp)] at h; exact h
       go_wp2_with (go_at_call 33; (with_reducible refine HRD.out.mono ?_); rintro e w4 ⟨rfl, hb4⟩)
       go_roundw
       case rel => exact ⟨j + 1, by omega, by go_num, HL2.out, HBR2.out.trans (hb4.mono HBR2.out.size)⟩
       case measure => simp [intOf]; omega
      ·have q5 : (F != 0) = true := by simpa using hF0
       have q6 : (F == 0) = false := by simpa using hF0
       have HEF : Hid (E = F) := by have h := HLD2.out; rw [if_pos hF0] at h; exact h.symm
       go_wp2_with (go_at_call 33; (with_reducible refine HRD.out.mono ?_); rintro e w4 ⟨rfl, hb4⟩)
       rw [HEF.out]
       go_ret
       exact ⟨rfl, HBW.out.trans (hb4.mono hzw)⟩
     ·obtain rfl : j = nl := by omega
      have HEZ : Hid (E = 0) := by
       have h := HLD.out
       rw [List.drop_eq_nil_of_le (by have := HLL.out; omega)] at h
       exact h.symm
      clear hS hAr hbr hbw
      go_wp2_with fail
      rw [HEZ.out]
      go_ret
      exact ⟨rfl, HBW.out⟩
  ·have q2 : (k == 5) = false := by simpa using hk5
   have q3 : (k != 5) = true := by simpa using hk5
   have hs := sortE_kind (t := JV.mk k n s l m) hk1 hk5
   have HE1 : Hid (E = 1) := HE.out.symm.trans hs.1
   clear hs hk1 hk5
   go_enter Tryz.func12, Tryz.ntmps12
   go_upto_region 1 with fail
   rw [HW.out]
   clear HW
   obtain ⟨a0, a1, a2, a3, a4⟩ := hA0.cells5
   go_wp2_with fail
   rw [HE1.out]
   go_ret
   exact ⟨rfl, HB0.out⟩
end
end Go.Proofs.YtjhginendpjimaaGreatDoor
