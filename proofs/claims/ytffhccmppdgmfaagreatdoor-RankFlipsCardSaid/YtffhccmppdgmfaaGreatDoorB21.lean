import Derived.Test.YtffhccmppdgmfaaGreatDoorB20
import Derived.Test.YtffhccmppdgmfaaGreatDoorB10
import Derived.Test.YtffhccmppdgmfaaGreatDoorB15
import Derived.Test.YtffhccmppdgmfaaGreatDoorB07
import Derived.Test.YtffhccmppdgmfaaGreatDoorB12
import Derived.Deep.RegionLaw
set_option linter.unusedSimpArgs false
set_option linter.unusedVariables false
set_option maxRecDepth 200000
set_option maxHeartbeats 8000000
namespace Go.Proofs.YtffhccmppdgmfaaGreatDoor
section
open Go Go.RowKit Go.OpenShut
theorem infoCm : (Tryz.prog.info? 119).map (fun i => (i.zero, i.size, i.bytes)) = some (some (.agg #[.string ByteArray.empty, .bool false]), 2, 24) := by kernel_rfl
theorem slCm : SlT Tryz.prog 63 119 2 24 := SlT.mk Tryz.underlying63 infoCm rfl
theorem oneE_wf (v : JV) : oneE v = 0 \/ oneE v = 1 \/ oneE v = 210 := by
 unfold oneE
 repeat' split
 all_goals first | exact .inl rfl | exact .inr (.inl rfl) | exact .inr (.inr rfl)
theorem listE_drop {l : List JV} {j : Nat} {x : JV} (h : l[j]? = some x) : listE (l.drop j) = if oneE x ≠ 0 then oneE x else listE (l.drop (j + 1)) := by
 obtain ⟨h1, h2⟩ := List.getElem?_eq_some_iff.1 h
 rw [List.drop_eq_getElem_cons h1, h2]
 rfl
theorem sortE_null {t : JV} (h : t.k = 1) : sortE t = 0 /\ sortC t = [] := by
 unfold sortC sortE
 rw [if_pos h, if_neg (by rw [h]; decide)]
 exact ⟨rfl, rfl⟩
theorem sortE_kind {t : JV} (h1 : t.k ≠ 1) (h : t.k ≠ 5) : sortE t = 1 /\ sortC t = [] := by
 unfold sortC sortE
 rw [if_neg h1, if_pos h, if_neg (fun e => h e.1)]
 exact ⟨rfl, rfl⟩
theorem sortE_many {t : JV} (h : t.k = 5) (hl : 4 < t.l.length) : sortE t = 210 /\ sortC t = [] := by
 have h1 : sortE t = 210 := by
  unfold sortE
  rw [if_neg (by rw [h]; decide), if_neg (by simp [h]), if_pos hl]
 unfold sortC
 rw [h1, if_neg (by simp)]
 exact ⟨rfl, rfl⟩
theorem sortE_list {t : JV} (h : t.k = 5) (hl : ¬ 4 < t.l.length) : sortE t = listE t.l := by
 unfold sortE
 rw [if_neg (by rw [h]; decide), if_neg (by simp [h]), if_neg hl]
theorem sortC_list {t : JV} (h : t.k = 5) (he : sortE t = 0) : sortC t = t.l.map oneC := if_pos ⟨h, he⟩
theorem sortC_err {t : JV} (he : sortE t ≠ 0) : sortC t = [] := if_neg (fun e => he e.2)
def CsRet (w : World) (t : JV) (e : Ending) (w' : World) : Prop := ∃ u, e = .returned (.tuple #[u, .int .i64 (sortE t)]) /\ Own w' w.heap.size 119 encC 2 u (sortC t) /\ Below w.heap.size w w'
theorem rkcomps_any (t : JV) (r : RV) (w : World) (B : Nat) (hBw : B <= w.heap.size) (ht : TreeOf w B t r) (ot : t.Ok) :
 Calls Tryz.prog 42 #[r.val] w (CsRet w t) := by
 obtain ⟨W0, hW0⟩ : ∃ W0, w.alloc r.obj = W0 := ⟨_, rfl⟩
 have hA0 : VAt W0 w.heap.size r := by rw [<- hW0]; exact heap_alloc_at rfl
 have hB0 : Below w.heap.size w W0 := by rw [<- hW0]; exact (Below.refl _ _).alloc (Nat.le_refl _) _
 have hkk := ht.kk.1
 cases ht with
 | @mk _ l m rs rms hl el hcl hm em hcn hcm =>
 obtain ⟨k, n, s, pl, nl, cl, pm, nm, cm⟩ := r
 dsimp only [RV.val, RV.obj] at *
 have HW := Lib.hid hW0
 have HB0 := Lib.hid hB0
 have HL := Lib.hid hl
 have hnl := rd_nlen hl
 have HCL := Lib.hid hcl
 have HOK : Hid (∀ (i : Nat) x, l[i]? = some x -> x.Ok) := fun i x hx => by cases ot with | mk _ _ _ _ _ c _ _ => exact c i x hx
 have hll : l.length = nl := by omega
 have HLL := Lib.hid hll
 obtain ⟨E, hE⟩ : ∃ E, sortE (JV.mk k n s l m) = E := ⟨_, rfl⟩
 obtain ⟨C, hC⟩ : ∃ C, sortC (JV.mk k n s l m) = C := ⟨_, rfl⟩
 have HE := Lib.hid hE
 have HC := Lib.hid hC
 have HRT : Hid (∀ e w', (∃ u, e = .returned (.tuple #[u, .int .i64 E]) /\ Own w' w.heap.size 119 encC 2 u C /\ Below w.heap.size w w') -> CsRet w (JV.mk k n s l m) e w') := fun e w' h => by
  unfold CsRet
  rw [hE, hC]
  exact h
 have hw0 := hB0.size
 have hnl0 : (0 : Int) <= (nl : Int) := Int.natCast_nonneg _
 clear hW0 hB0 hE hC hl el hcl hm em hcn hcm hnl hll hkk ot
 by_cases hk1 : k = 1
 ·have hs := sortE_null (t := JV.mk k n s l m) hk1
  subst hk1
  have HE1 : Hid (E = 0 /\ C = []) := ⟨HE.out.symm.trans hs.1, HC.out.symm.trans hs.2⟩
  clear hs
  go_enter Tryz.func42, Tryz.ntmps42
  go_upto_region 1 with fail
  rw [HW.out]
  clear HW
  obtain ⟨a0, a1, a2, a3, a4⟩ := hA0.cells5
  go_wp2_with fail
  refine bodyPost_ret (v := .tuple #[.slice none 0 0, .int .i64 0]) (by simp [results, Tryz.results42, go_sem]) rfl (HRT.out _ _ ⟨.slice none 0 0, by rw [HE1.out.1], by rw [HE1.out.2]; exact Own.nil _ _ _, HB0.out⟩)
 ·have q1 : (k == 1) = false := by simpa using hk1
  by_cases hk5 : k = 5
  ·subst hk5
   have HK5 : Hid ((JV.mk 5 n s l m).k = 5 /\ (JV.mk 5 n s l m).l = l) := ⟨rfl, rfl⟩
   by_cases hmany : 4 < nl
   ·have hs := sortE_many (t := JV.mk 5 n s l m) rfl (by rw [HK5.out.2, HLL.out]; exact hmany)
    have HE1 : Hid (E = 210 /\ C = []) := ⟨HE.out.symm.trans hs.1, HC.out.symm.trans hs.2⟩
    have q2 : decide ((4 : Int) < (nl : Int)) = true := decide_eq_true (by omega)
    have q2' : decide (4 < nl) = true := decide_eq_true hmany
    clear hs
    go_enter Tryz.func42, Tryz.ntmps42
    go_upto_region 1 with fail
    rw [HW.out]
    clear HW
    obtain ⟨a0, a1, a2, a3, a4⟩ := hA0.cells5
    go_wp2_with fail
    refine bodyPost_ret (v := .tuple #[.slice none 0 0, .int .i64 210]) (by simp [results, Tryz.results42, go_sem]) rfl (HRT.out _ _ ⟨.slice none 0 0, by rw [HE1.out.1], by rw [HE1.out.2]; exact Own.nil _ _ _, HB0.out⟩)
   ·have q2 : decide ((4 : Int) < (nl : Int)) = false := decide_eq_false (by omega)
    have q2' : decide (4 < nl) = false := decide_eq_false hmany
    have hEL : E = listE l := HE.out.symm.trans (sortE_list (t := JV.mk 5 n s l m) rfl (by rw [HK5.out.2, HLL.out]; exact hmany))
    have HEL := Lib.hid hEL
    have HC0 : Hid (E = 0 -> C = l.map oneC) := fun h => HC.out.symm.trans (sortC_list (t := JV.mk 5 n s l m) rfl (HE.out.trans h))
    have HC1 : Hid (E ≠ 0 -> C = []) := fun h => HC.out.symm.trans (sortC_err (t := JV.mk 5 n s l m) (by rw [HE.out]; exact h))
    clear hEL
    go_enter Tryz.func42, Tryz.ntmps42
    go_upto_region 1 with fail
    rw [HW.out]
    clear HW
    obtain ⟨a0, a1, a2, a3, a4⟩ := hA0.cells5
    go_wp2_with fail
    go_loopw [4, 22] (fun u i wr => ∃ j : Nat, j <= nl /\ i = .int .i64 (j : Int) /\ Hid (Own wr w.heap.size 119 encC 2 u ((l.take j).map oneC) /\ listE (l.drop j) = E /\ Below w.heap.size w wr)) (fun _ i _ => nl - (intOf i).toNat)
    case atStart => exact ⟨0, by omega, rfl, Own.nil _ _ _, HEL.out.symm, HB0.out⟩
    case round =>
     obtain ⟨j, hj, rfl, hS⟩ := hrel
     have hj0 : (0 : Int) <= (j : Int) := Int.natCast_nonneg _
     by_cases hlt : j < nl
     ·have hj1 : (j : Int) < (nl : Int) := by omega
      obtain ⟨x, hx⟩ : ∃ x, l[j]? = some x := ⟨_, List.getElem?_eq_getElem (by have := HLL.out; omega)⟩
      have hbr := hS.out.2.2
      have hlr := HL.out.below (hbr.mono hBw) (Nat.le_refl _)
      obtain ⟨q, hq⟩ : ∃ q, rs[j]? = some q := ⟨_, List.getElem?_eq_getElem (by have := rd_nlen hlr; omega)⟩
      obtain ⟨b1, o1, rfl, hb1, hc1⟩ := rd_at' hlr hq
      have hxt := (HCL.out j x q hx hq).under (hbr.mono hBw) (Nat.le_refl _)
      obtain ⟨vk, vn, vs, vpl, vnl, vcl, vpm, vnm, vcm⟩ := q
      have f0 := hc1 0 _ rfl
      have f1 := hc1 1 _ rfl
      have f2 := hc1 2 _ rfl
      have f3 := hc1 3 _ rfl
      have f4 := hc1 4 _ rfl
      rw [Nat.add_zero] at f0
      dsimp only at f0 f1 f2 f3 f4
      have hwr := hbr.size
      have hbA : Below wr.heap.size wr (wr.alloc (.cells #[.int .i64 vk, .int .i64 vn, .string vs, .slice vpl vnl vcl, .slice vpm vnm vcm] 25)) := (Below.refl _ _).alloc (Nat.le_refl _) _
      have HRD := Lib.hid (rkread_any x ⟨vk, vn, vs, vpl, vnl, vcl, vpm, vnm, vcm⟩ (wr.alloc (.cells #[.int .i64 vk, .int .i64 vn, .string vs, .slice vpl vnl vcl, .slice vpm vnm vcm] 25)) B (by simp; omega) (hxt.under (hbA.mono (Nat.le_trans hBw hwr)) (Nat.le_refl _)) (HOK.out j x hx))
      have hvt : (wr.alloc (.cells #[.int .i64 vk, .int .i64 vn, .string vs, .slice vpl vnl vcl, .slice vpm vnm vcm] 25)).heap[wr.heap.size]? = some (.cells #[.int .i64 vk, .int .i64 vn, .string vs, .slice vpl vnl vcl, .slice vpm vnm vcm] 25) := heap_alloc_at rfl
      have HSA : Hid (Own (wr.alloc (.cells #[.int .i64 vk, .int .i64 vn, .string vs, .slice vpl vnl vcl, .slice vpm vnm vcm] 25)) w.heap.size 119 encC 2 u4 ((l.take j).map oneC)) := hS.out.1.alloc _
      have HX := Lib.hid hx
      have HLD := Lib.hid ((listE_drop hx).symm.trans hS.out.2.1)
      have HBA := Lib.hid (hbr.trans (hbA.mono hwr))
      go_upto_region 12 with fail
      obtain ⟨g6, hg6⟩ : ∃ g, wr.heap.size = g := ⟨_, rfl⟩
      obtain ⟨W3, hW3⟩ : ∃ W, wr.alloc (.cells #[.int .i64 vk, .int .i64 vn, .string vs, .slice vpl vnl vcl, .slice vpm vnm vcm] 25) = W := ⟨_, rfl⟩
      rw [hW3, hg6] at hvt
      rw [hW3] at HSA HRD HBA
      try rw [hW3]
      try rw [hg6]
      have a0' : W3.cell? ⟨g6, 0, none⟩ = some (.int .i64 vk) := (cell_of_row _ g6 0 _ _ _ hvt).trans rfl
      have a1' : W3.cell? ⟨g6, 1, none⟩ = some (.int .i64 vn) := (cell_of_row _ g6 1 _ _ _ hvt).trans rfl
      have a2' : W3.cell? ⟨g6, 2, none⟩ = some (.string vs) := (cell_of_row _ g6 2 _ _ _ hvt).trans rfl
      have a3' : W3.cell? ⟨g6, 3, none⟩ = some (.slice vpl vnl vcl) := (cell_of_row _ g6 3 _ _ _ hvt).trans rfl
      have a4' : W3.cell? ⟨g6, 4, none⟩ = some (.slice vpm vnm vcm) := (cell_of_row _ g6 4 _ _ _ hvt).trans rfl
      have hwf := oneE_wf x
      obtain ⟨F, hF⟩ : ∃ F, oneE x = F := ⟨_, rfl⟩
      have HRD2 : Hid (Calls Tryz.prog 82 #[.agg #[.int .i64 vk, .int .i64 vn, .string vs, .slice vpl vnl vcl, .slice vpm vnm vcm]] W3 fun e w' => ∃ p d, e = .returned (.tuple #[.agg #[.string p, .bool d], .int .i64 F]) /\ Hid (F = 0 -> oneC x = ⟨p, d⟩) /\ Below W3.heap.size W3 w') := by
       have h := HRD.out
       unfold RkRet at h
       rw [hF] at h
       exact h
      rw [hF] at hwf HLD
      clear hW3 hg6 hvt hlr hq hc1 hxt f0 f1 f2 f3 f4 hbA hx hb1 hS HRD hF hbr
      have hzz := HBA.out.size
      go_upto_region 13 with (go_at_call 82; (with_reducible refine HRD2.out.mono ?_); rintro e w4 ⟨p, d, rfl, hpd, hb4⟩)
      have hz4 := hb4.size
      have hc4 : CmpAt (w4.alloc (.cells #[.string p, .bool d] 119)) w4.heap.size p d := heap_alloc_at rfl
      have HB5 := Lib.hid (HBA.out.trans ((hb4.alloc hz4 (.cells #[.string p, .bool d] 119)).mono hzz))
      have HSB := Lib.hid ((HSA.out.below hb4 (Nat.le_refl _)).alloc (.cells #[.string p, .bool d] 119))
      obtain ⟨g7, hg7⟩ : ∃ g, w4.heap.size = g := ⟨_, rfl⟩
      obtain ⟨W5, hW5⟩ : ∃ W, w4.alloc (.cells #[.string p, .bool d] 119) = W := ⟨_, rfl⟩
      rw [hW5, hg7] at hc4
      rw [hW5] at HSB HB5
      try rw [hW5]
      try rw [hg7]
      have c0 := hc4.c0
      have c1 := hc4.c1
      clear hW5 hg7 hb4 hz4 hc4 a0' a1' a2' a3' a4' HSA HRD2
      by_cases hF0 : F = 0
      ·subst hF0
       have HPD : Hid (oneC x = ⟨p, d⟩) := hpd.out rfl
       have HL2 : Hid (listE (l.drop (j + 1)) = E) := by have h := HLD.out; rw [if_neg (by simp)] at h; exact h
       have hsz5 := HB5.out.size
       have HR5 : Hid (Rd (W5.alloc (.cells #[.string p, .bool d] 119)) (W5.heap.size + 1) encC 2 (.slice (some ⟨W5.heap.size, 0, none⟩) 1 1) [oneC x]) := by
        rw [HPD.out]
        exact Rd.one codecC (heap_alloc_at rfl) rfl (by omega)
       have HO5 := Lib.hid (HSB.out.alloc (.cells #[.string p, .bool d] 119))
       have hnl4 : nl <= 4 := by omega
       have HLN : Hid (((l.take j).map oneC).length + [oneC x].length <= maxLen /\ (((l.take j).map oneC).length + [oneC x].length) * 24 <= 140737488355328) := by
        simp only [List.length_singleton, List.length_map, List.length_take]
        exact ⟨by unfold maxLen; omega, by omega⟩
       clear hpd
       go_wp2_with (at_builtin; refine wpList_append_rd slCm codecC (W5.alloc (.cells #[.string p, .bool d] 119)) rfl (.tmp 34) (.tmp 36) rfl (v := u4) rfl rfl HO5.out HR5.out HLN.out.1 HLN.out.2 (by simp; omega) ?_; intro v8 w8 ho8 hg8 hat8)
       go_roundw
       case rel =>
        refine ⟨j + 1, by omega, by go_num, ?_, HL2.out, Below.appended (HB5.out.alloc hsz5 _) hg8 HO5.out (by simp; omega)⟩
        rw [take_snoc HX.out, List.map_append, List.map_singleton]
        exact ho8
       case measure => simp [intOf]; omega
      ·have q5 : (F != 0) = true := by simpa using hF0
       have q6 : (F == 0) = false := by simpa using hF0
       have HEF : Hid (E = F) := by have h := HLD.out; rw [if_pos hF0] at h; exact h.symm
       have HCE : Hid (C = []) := HC1.out (by rw [HEF.out]; exact hF0)
       go_wp2_with fail
       refine bodyPost_ret (v := .tuple #[.slice none 0 0, .int .i64 F]) (by simp [results, Tryz.results42, go_sem]) rfl (HRT.out _ _ ⟨.slice none 0 0, by rw [HEF.out], by rw [HCE.out]; exact Own.nil _ _ _, HB5.out⟩)
     ·obtain rfl : j = nl := by omega
      have HSS := Lib.hid hS.out.1
      have HEZ : Hid (E = 0) := by
       have h := hS.out.2.1
       rw [List.drop_eq_nil_of_le (by have := HLL.out; omega)] at h
       exact h.symm
      have HCC : Hid (C = (l.take j).map oneC) := by
       unfold Hid
       rw [HC0.out HEZ.out, List.take_of_length_le (by have := HLL.out; omega)]
      have HBR := Lib.hid hS.out.2.2
      clear hS
      go_wp2_with fail
      refine bodyPost_ret (v := .tuple #[u4, .int .i64 0]) (by simp [results, Tryz.results42, go_sem]) rfl (HRT.out _ _ ⟨u4, by rw [HEZ.out], by rw [HCC.out]; exact HSS.out, HBR.out⟩)
  ·have q2 : (k == 5) = false := by simpa using hk5
   have hs := sortE_kind (t := JV.mk k n s l m) hk1 hk5
   have HE1 : Hid (E = 1 /\ C = []) := ⟨HE.out.symm.trans hs.1, HC.out.symm.trans hs.2⟩
   clear hs hk1 hk5
   go_enter Tryz.func42, Tryz.ntmps42
   go_upto_region 1 with fail
   rw [HW.out]
   clear HW
   obtain ⟨a0, a1, a2, a3, a4⟩ := hA0.cells5
   go_wp2_with fail
   refine bodyPost_ret (v := .tuple #[.slice none 0 0, .int .i64 1]) (by simp [results, Tryz.results42, go_sem]) rfl (HRT.out _ _ ⟨.slice none 0 0, by rw [HE1.out.1], by rw [HE1.out.2]; exact Own.nil _ _ _, HB0.out⟩)
theorem listE_wf : ∀ l : List JV, listE l = 0 \/ listE l = 1 \/ listE l = 210
 | [] => .inl rfl
 | v :: l => by
   have h1 := oneE_wf v
   have h2 := listE_wf l
   unfold listE
   split
   ·exact h1
   ·exact h2
theorem rkcheck_any (t : JV) (r : RV) (w : World) (B : Nat) (hBw : B <= w.heap.size) (ht : TreeOf w B t r) (ot : t.Ok) :
 Calls Tryz.prog 40 #[r.val] w fun e w' => e = .returned (.int .i64 (sortE t)) /\ Below w.heap.size w w' := by
 obtain ⟨W0, hW0⟩ : ∃ W0, w.alloc r.obj = W0 := ⟨_, rfl⟩
 have hA0 : VAt W0 w.heap.size r := by rw [<- hW0]; exact heap_alloc_at rfl
 have hB0 : Below w.heap.size w W0 := by rw [<- hW0]; exact (Below.refl _ _).alloc (Nat.le_refl _) _
 have HC := Lib.hid (rkcomps_any t r W0 B (Nat.le_trans hBw hB0.size) (ht.under (hB0.mono hBw) (Nat.le_refl _)) ot)
 obtain ⟨k, n, s, pl, nl, cl, pm, nm, cm⟩ := r
 dsimp only [RV.val, RV.obj] at *
 have HW := Lib.hid hW0
 have HB0 := Lib.hid hB0
 have hw0 := hB0.size
 clear hW0 hB0 ht ot
 go_enter Tryz.func40, Tryz.ntmps40
 go_upto_region 1 with fail
 rw [HW.out]
 clear HW
 obtain ⟨a0, a1, a2, a3, a4⟩ := hA0.cells5
 go_wp2_with (go_at_call 42; (with_reducible refine HC.out.mono ?_); rintro e w1 ⟨u, rfl, ho, hb⟩)
 go_ret
 exact ⟨rfl, HB0.out.trans (hb.mono hw0)⟩
theorem sortC_ok (t : JV) : (∀ (i : Nat) c, (sortC t)[i]? = some c -> PropOk c.prop) /\ (sortC t).length <= 4 := by
 by_cases h : t.k = 5 /\ sortE t = 0
 ·rw [sortC_list h.1 h.2]
  have hl : t.l.length <= 4 /\ listE t.l = 0 := by
   by_cases hm : 4 < t.l.length
   ·have := (sortE_many h.1 hm).1
    rw [h.2] at this
    cases this
   ·exact ⟨by omega, (sortE_list h.1 hm).symm.trans h.2⟩
  have hall : ∀ (l : List JV), listE l = 0 -> ∀ x ∈ l, oneE x = 0 := by
   intro l
   induction l with
   | nil => intro _ x hx; cases hx
   | cons a r ih =>
     intro h0 x hx
     unfold listE at h0
     by_cases ha : oneE a = 0
     ·rw [if_neg (by simp [ha])] at h0
      rcases List.mem_cons.1 hx with rfl | hx
      ·exact ha
      ·exact ih h0 x hx
     ·rw [if_pos ha] at h0
      exact absurd h0 ha
  refine ⟨fun i c hc => ?_, by rw [List.length_map]; exact hl.1⟩
  rw [List.getElem?_map] at hc
  obtain ⟨x, hx, rfl⟩ := Option.map_eq_some_iff.1 hc
  have h0 := hall _ hl.2 x (List.mem_of_getElem? hx)
  unfold oneE at h0
  unfold oneC PropOk datedB
  split at h0
  ·cases h0
  ·split at h0
   ·cases h0
   ·split at h0
    ·cases h0
    ·rename_i p hp
     rw [hp]
     dsimp only
     have hpo : propOk p.s = true := by
      cases hpo : propOk p.s with
      | true => rfl
      | false => rw [hpo] at h0; simp at h0
     unfold propOk at hpo
     simp only [Bool.or_eq_true, decide_eq_true_eq] at hpo ⊢
     rcases hpo with h | h | h | h | h
     ·exact .inl (.inl h)
     ·exact .inl (.inr h)
     ·exact .inr (.inl h)
     ·exact .inr (.inr (.inl h))
     ·exact .inr (.inr (.inr h))
 ·have h0 : sortC t = [] := if_neg h
  rw [h0]
  exact ⟨fun i c hc => by simp at hc, Nat.zero_le _⟩
theorem rkAhead_any (t : JV) (r : RV) (a b : ByteArray × JV) (ra rb : RM) (w : World) (B : Nat) (hBw : B <= w.heap.size) (ht : TreeOf w B t r) (ot : t.Ok)
 (ha : ra.name = a.1 /\ TreeOf w B a.2 ra.v) (oa : a.2.Ok) (hb : rb.name = b.1 /\ TreeOf w B b.2 rb.v) (ob : b.2.Ok) :
 Calls Tryz.prog 14 #[r.val, ra.val, rb.val] w fun e w' => e = .returned (.bool (aheadJ (sortC t) a b)) /\ Below w.heap.size w w' := by
 obtain ⟨W0, hW0⟩ : ∃ W0, ((w.alloc r.obj).alloc ra.ooj).alloc rb.ooj = W0 := ⟨_, rfl⟩
 have hA0 : VAt W0 w.heap.size r := by rw [<- hW0]; exact heap_alloc_lt (by simp; omega) (heap_alloc_lt (by simp) (heap_alloc_at rfl))
 have hP0 : OAt W0 (w.heap.size + 1) ra := by rw [<- hW0]; exact heap_alloc_lt (by simp) (heap_alloc_at (by simp))
 have hQ0 : OAt W0 (w.heap.size + 2) rb := by rw [<- hW0]; exact heap_alloc_at (by simp)
 have hB0 : Below w.heap.size w W0 := by rw [<- hW0]; exact (below2 w _ _).alloc (by simp; omega) _
 have hw0 := hB0.size
 have HC := Lib.hid (rkcomps_any t r W0 B (Nat.le_trans hBw hw0) (ht.under (hB0.mono hBw) (Nat.le_refl _)) ot)
 have HAH : Hid (∀ (pc : Option Addr) (nc cc : Nat) (W : World), Below W0.heap.size W0 W -> Own W W0.heap.size 119 encC 2 (.slice pc nc cc) (sortC t) -> Calls Tryz.prog 43 #[.slice pc nc cc, ra.val, rb.val] W fun e w' => e = .returned (.bool (aheadJ (sortC t) a b)) /\ Below W.heap.size W w') := fun pc nc cc W hW ho => by
  have hbw := hB0.trans (hW.mono hw0)
  have hz := hbw.size
  exact ahead_any (sortC t) (sortC_ok t).1 (by have := (sortC_ok t).2; omega) pc nc cc a b ra rb W W.heap.size (Nat.le_refl _) (ho.rd codecC) ⟨ha.1, ha.2.under (hbw.mono hBw) (Nat.le_trans hBw hz)⟩ oa ⟨hb.1, hb.2.under (hbw.mono hBw) (Nat.le_trans hBw hz)⟩ ob
 obtain ⟨CS, hCS⟩ : ∃ C, sortC t = C := ⟨_, rfl⟩
 unfold CsRet at HC
 rw [hCS] at HC HAH
 rw [hCS]
 obtain ⟨k, n, s, pl, nl, cl, pm, nm, cm⟩ := r
 obtain ⟨na, ⟨ak, an, aS, apl, anl, acl, apm, anm, acm⟩⟩ := ra
 obtain ⟨nb, ⟨qk, qn, qs, qpl, qnl, qcl, qpm, qnm, qcm⟩⟩ := rb
 dsimp only [RV.val, RV.obj, RM.val, RM.ooj] at *
 have HW := Lib.hid hW0
 have HB0 := Lib.hid hB0
 have hl0 := hQ0.lt
 have hl1 := hP0.lt
 clear hW0 hB0 ht ot ha oa hb ob hCS
 go_enter Tryz.func14, Tryz.ntmps14
 go_upto_region 1 with fail
 rw [HW.out]
 clear HW
 obtain ⟨a0, a1, a2, a3, a4⟩ := hA0.cells5
 go_upto_region 2 with (go_at_call 42; (with_reducible refine HC.out.mono ?_); rintro e w1 ⟨u, rfl, ho, hb⟩; obtain ⟨pc, cc, hu, _, _⟩ := ho.len; subst hu; (have HA2 := Lib.hid (HAH.out _ _ _ w1 hb ho)))
 have hP1 := hP0.under hb hl1
 have hQ1 := hQ0.under hb hl0
 obtain ⟨p0, p1, p2, p3, p4, p5⟩ := hP1.cells6
 obtain ⟨q0, q1, q2, q3, q4, q5⟩ := hQ1.cells6
 dsimp only at p0 p1 p2 p3 p4 p5 q0 q1 q2 q3 q4 q5
 have HB1 := Lib.hid (HB0.out.trans (hb.mono hw0))
 have hz1 := HB1.out.size
 clear hA0 hP0 hQ0 hP1 hQ1 a0 a1 a2 a3 a4 ho hb
 go_wp2_with (go_at_call 43; (with_reducible refine HA2.out.mono ?_); rintro e w2 ⟨rfl, hb2⟩)
 go_ret
 exact ⟨rfl, HB1.out.trans (hb2.mono hz1)⟩
theorem infoIt : (Tryz.prog.info? 97).map (fun i => (i.zero, i.size, i.bytes)) = some (some (.agg #[.string ByteArray.empty, .int .i64 0, .int .i64 0, .string ByteArray.empty, .slice none 0 0, .slice none 0 0, .int .i64 0]), 7, 104) := by kernel_rfl
theorem slIt : SlT Tryz.prog 93 97 7 104 := SlT.mk Tryz.underlying93 infoIt rfl
theorem ta_item (V : Value) (w : World) : Sem.run Tryz.prog (Instr.typeAssert (.iface 97 V) 20 97 true) w = .ok (.tuple #[V, .bool true]) w := by kernel_rfl
def ordQ (cs : List CmpD) (os : List (ByteArray × JV)) : List Nat := (List.range os.length).mergeSort (fun a b => !ltQ cs os b a)
theorem ordQ_perm (cs : List CmpD) (os : List (ByteArray × JV)) : (ordQ cs os).Perm (List.range os.length) := List.mergeSort_perm _ _
theorem ordQ_sorted (cs : List CmpD) (os : List (ByteArray × JV)) : (ordQ cs os).Pairwise (fun a b => ltQ cs os b a = false) := by
 have L := ltQ_ok cs os
 have h := List.pairwise_mergeSort (le := fun a b => !ltQ cs os b a) (fun a b c h1 h2 => by
  simp only [Bool.not_eq_true'] at h1 h2 ⊢
  exact L.ntrans _ _ _ h1 h2) (fun a b => by
  cases h : ltQ cs os b a with
  | false => rfl
  | true => rw [L.asym _ _ h]; rfl) (List.range os.length)
 exact h.imp (fun h => by simpa using h)
theorem ordQ_unique {cs : List CmpD} {os : List (ByteArray × JV)} {out : List Nat} (hp : out.Perm (List.range os.length)) (hs : out.Pairwise (fun a b => ltQ cs os b a = false)) : out = ordQ cs os :=
 sorted_unique (lt := ltQ cs os) out (ordQ cs os) (fun x _ y _ h1 h2 => cmpQ_eq h1 h2) (hp.trans (ordQ_perm cs os).symm) hs (ordQ_sorted cs os)
theorem sclone_any (s : ByteArray) (w : World) (hlim : s.size <= 281474976710656) : Calls Tryz.prog 74 #[.string s] w fun e w' => e = .returned (.string s) /\ Below w.heap.size w w' := by
 have HC := Lib.hid (stringslite_Clone s w hlim)
 go_enter Tryz.func74, Tryz.ntmps74
 go_wp2_with (go_at_call 103; (with_reducible refine HC.out.mono ?_); rintro e w1 ⟨rfl, hb⟩)
 go_ret
 exact ⟨rfl, hb⟩
theorem Own.two {α : Type} {enc : α -> List Value} {sz : Nat} {w w' : World} {base q g : Nat} {e : TypeId} {v : Value} {xs : List α} (h : Own w base e enc sz v xs) (ht : Two q g w w') (hq : q < base) (hg : g < base) : Own w' base e enc sz v xs := by
 have hlt := h.lt
 obtain ⟨hl, h⟩ := h
 refine ⟨hl, ?_⟩
 rcases h with h | ⟨k, cap, cur, rfl, hk, hh, r⟩
 ·exact .inl h
 ·have h2 := hlt k rfl
  exact .inr ⟨k, cap, cur, rfl, hk, (ht.block k h2.2 (by omega) (by omega)).trans hh, r⟩
structure ObjL (w : World) (B : Nat) (os : List (ByteArray × JV)) (rs : List RM) (v : Value) : Prop where
 rd : Rd w B encM 6 v rs
 len : rs.length = os.length
 obj : ∀ i, i < rs.length -> (rs.getD i dRM).name = (os.getD i dO).1 /\ TreeOf w B (os.getD i dO).2 (rs.getD i dRM).v /\ (os.getD i dO).2.Ok
 ids : ∀ o ∈ os, o.1.size <= 140737488351232
theorem ObjL.under {w w' : World} {B B' : Nat} {os : List (ByteArray × JV)} {rs : List RM} {v : Value} (h : ObjL w B os rs v) (hb : Below B w w') (hB : B <= B') : ObjL w' B' os rs v :=
 ⟨h.rd.below hb hB, h.len, fun i hi => ⟨(h.obj i hi).1, (h.obj i hi).2.1.under hb hB, (h.obj i hi).2.2⟩, h.ids⟩
theorem getD_at {α : Type} {l : List α} {i : Nat} {x d : α} (h : l[i]? = some x) : l.getD i d = x := by rw [List.getD_eq_getElem?_getD, h]; rfl
def lenOf : Value -> Nat | .slice _ n _ => n | _ => 0
structure QGr (W : World) (q : Nat) (rs : List RM) (pc : Option Addr) (nc cc : Nat) (v : Value) (xs : List Nat) : Prop where
 cell : W.heap[q]? = some (.cells #[v, .slice pc nc cc] 95 (0, 0))
 own : Own W (q + 1) 97 (encQ rs) 7 v xs
theorem QGr.grown {W W' : World} {q : Nat} {rs : List RM} {pc : Option Addr} {nc cc : Nat} {v : Value} {xs : List Nat} (h : QGr W q rs pc nc cc v xs) (hb : Below W.heap.size W W') : QGr W' q rs pc nc cc v xs :=
 ⟨(hb.block q (Array.getElem?_eq_some_iff.1 h.cell).1).trans h.cell, h.own.below hb (Nat.le_refl _)⟩
theorem rkorder_any (t : JV) (r : RV) (os : List (ByteArray × JV)) (rs : List RM) (pv : Option Addr) (nv cv : Nat) (w : World) (B : Nat) (hBw : B <= w.heap.size) (ht : TreeOf w B t r) (ot : t.Ok) (hl : ObjL w B os rs (.slice pv nv cv)) (hn : os.length <= 1000000) :
 Calls Tryz.prog 35 #[r.val, .slice pv nv cv] w fun e w' => ∃ u, e = .returned u /\ Own w' w.heap.size 9 encS 1 u ((ordQ (sortC t) os).map (fun i => (os.getD i dO).1)) /\ Below w.heap.size w w' := by
 obtain ⟨W0, hW0⟩ : ∃ W0, w.alloc r.obj = W0 := ⟨_, rfl⟩
 have hA0 : VAt W0 w.heap.size r := by rw [<- hW0]; exact heap_alloc_at rfl
 have hB0 : Below w.heap.size w W0 := by rw [<- hW0]; exact (Below.refl _ _).alloc (Nat.le_refl _) _
 have hw0 := hB0.size
 have HC := Lib.hid (rkcomps_any t r W0 B (Nat.le_trans hBw hw0) (ht.under (hB0.mono hBw) (Nat.le_refl _)) ot)
 have HL := Lib.hid (hl.under (hB0.mono hBw) (Nat.le_refl _))
 have HSO := Lib.hid (sortC_ok t)
 obtain ⟨cs, hcs⟩ : ∃ C, sortC t = C := ⟨_, rfl⟩
 unfold CsRet at HC
 rw [hcs] at HC HSO
 rw [hcs]
 have hnv : nv = rs.length := rd_nlen hl.rd
 have hrl := hl.len
 have hnb : nv <= 1000000 := by omega
 have nb : (nv : Int) <= 1000000 := by omega
 have n0 : (0 : Int) <= (nv : Int) := Int.natCast_nonneg _
 have HN : Hid (nv = rs.length /\ nv = os.length) := ⟨hnv, by omega⟩
 obtain ⟨k, n, s, pl, nl, cl, pm, nm, cm⟩ := r
 dsimp only [RV.val, RV.obj] at *
 have HW := Lib.hid hW0
 have HB0 := Lib.hid hB0
 clear hW0 hB0 ht ot hl hcs hnv hrl hn
 have hta : ∀ (V : Value) (w : World), Sem.run Tryz.prog (Instr.typeAssert (.iface 97 V) 20 97 true) w = .ok (.tuple #[V, .bool true]) w := ta_item
 go_enter Tryz.func35, Tryz.ntmps35
 go_upto_region 1 with fail
 rw [HW.out]
 clear HW
 obtain ⟨a0, a1, a2, a3, a4⟩ := hA0.cells5
 go_upto_region 2 with (go_at_call 42; (with_reducible refine HC.out.mono ?_); rintro e w1 ⟨u, rfl, ho, hb⟩; obtain ⟨pc, cc, hu, _, _⟩ := ho.len; subst hu)
 obtain ⟨nc, hnc⟩ : ∃ n, cs.length = n := ⟨_, rfl⟩
 rw [hnc] at ho
 try rw [hnc]
 have hb01 := HB0.out.trans (hb.mono hw0)
 have hz1 := hb01.size
 have HL1 := Lib.hid (HL.out.under (hb.mono (Nat.le_trans hBw hw0)) (Nat.le_refl B))
 have HENV1 : Hid (QEnv w1 w1.heap.size cs os rs pc nc cc) := ⟨ho.rd codecC, HSO.out.1, by have := HSO.out.2; omega, HL1.out.len, fun i hi => ⟨(HL1.out.obj i hi).1, (HL1.out.obj i hi).2.1.under (Below.refl _ _) (Nat.le_trans hBw hz1), (HL1.out.obj i hi).2.2⟩⟩
 have HB1 := Lib.hid hb01
 have hq0 : (w1.alloc (.cells #[.slice none 0 0, .slice pc nc cc] 95)).heap[w1.heap.size]? = some (.cells #[.slice none 0 0, .slice pc nc cc] 95 (0, 0)) := heap_alloc_at rfl
 have HG0 : Hid (QGr (w1.alloc (.cells #[.slice none 0 0, .slice pc nc cc] 95)) w1.heap.size rs pc nc cc (.slice none 0 0) (List.range 0)) := ⟨hq0, Own.nil _ _ _⟩
 have HBB0 : Hid (Below w1.heap.size w1 (w1.alloc (.cells #[.slice none 0 0, .slice pc nc cc] 95))) := (Below.refl _ _).alloc (Nat.le_refl _) _
 have hz2 : (w1.alloc (.cells #[.slice none 0 0, .slice pc nc cc] 95)).heap.size = w1.heap.size + 1 := by simp
 clear ho hb hb01 hnc HC HL hA0 a0 a1 a2 a3 a4 hq0
 go_upto_region 3 with fail
 obtain ⟨q, hq⟩ : ∃ q, w1.heap.size = q := ⟨_, rfl⟩
 obtain ⟨W2, hW2⟩ : ∃ W, w1.alloc (.cells #[.slice none 0 0, .slice pc nc cc] 95) = W := ⟨_, rfl⟩
 rw [hW2, hq] at HG0 HBB0 hz2
 rw [hq] at HENV1 hz1
 try rw [hW2]
 try rw [hq]
 have HQ := Lib.hid hq
 clear hW2 hq
 go_wp2_with fail
 go_loopw [23] (fun i wr => ∃ (j : Nat) (v : Value), j <= nv /\ i = .int .i64 (j : Int) /\ Hid (QGr wr q rs pc nc cc v (List.range j) /\ Below q w1 wr /\ q + 1 <= wr.heap.size /\ (j = 0 -> v = .slice none 0 0))) (fun i _ => nv - (intOf i).toNat)
 case atStart => exact ⟨0, _, by omega, rfl, HG0.out, HBB0.out, by omega, fun _ => rfl⟩
 case round =>
  obtain ⟨j, v, hj, rfl, hS⟩ := hrel
  have hj0 : (0 : Int) <= (j : Int) := Int.natCast_nonneg _
  by_cases hlt : j < nv
  ·have hj1 : (j : Int) < (nv : Int) := by omega
   have hlr := HL1.out.rd.below (hS.out.2.1.mono (by have := hz1; omega)) (Nat.le_refl _)
   obtain ⟨x, hx⟩ : ∃ x, rs[j]? = some x := ⟨_, List.getElem?_eq_getElem (by have := HN.out; omega)⟩
   obtain ⟨b1, o1, rfl, hb1, hc1⟩ := rd_at' hlr hx
   have hgx : rs.getD j dRM = x := getD_at hx
   have HGX := Lib.hid hgx
   obtain ⟨nx, ⟨vk, vn, vs, vpl, vnl, vcl, vpm, vnm, vcm⟩⟩ := x
   have f0 := hc1 0 _ rfl
   have f1 := hc1 1 _ rfl
   have f2 := hc1 2 _ rfl
   have f3 := hc1 3 _ rfl
   have f4 := hc1 4 _ rfl
   have f5 := hc1 5 _ rfl
   rw [Nat.add_zero] at f0
   dsimp only at f0 f1 f2 f3 f4 f5
   have hot : OAt (wr.alloc (.cells #[.string nx, .int .i64 vk, .int .i64 vn, .string vs, .slice vpl vnl vcl, .slice vpm vnm vcm] 27)) wr.heap.size ⟨nx, ⟨vk, vn, vs, vpl, vnl, vcl, vpm, vnm, vcm⟩⟩ := heap_alloc_at rfl
   have hba := (Below.refl wr.heap.size wr).alloc (Nat.le_refl _) (.cells #[.string nx, .int .i64 vk, .int .i64 vn, .string vs, .slice vpl vnl vcl, .slice vpm vnm vcm] 27)
   have HGA := Lib.hid (hS.out.1.grown hba)
   have HBA := Lib.hid (hS.out.2.1.trans (hba.mono (by have := hS.out.2.2.1; omega)))
   have hqs := hS.out.2.2.1
   go_upto_region 6 with fail
   obtain ⟨g9, hg9⟩ : ∃ g, wr.heap.size = g := ⟨_, rfl⟩
   obtain ⟨W3, hW3⟩ : ∃ W, wr.alloc (.cells #[.string nx, .int .i64 vk, .int .i64 vn, .string vs, .slice vpl vnl vcl, .slice vpm vnm vcm] 27) = W := ⟨_, rfl⟩
   rw [hW3, hg9] at hot
   rw [hW3] at HGA HBA
   rw [hg9] at hqs
   try rw [hW3]
   try rw [hg9]
   have hz3 : q + 1 <= W3.heap.size := by rw [<- hW3]; simp; omega
   obtain ⟨a0, a1, a2, a3, a4, a5⟩ := hot.cells6
   dsimp only at a0 a1 a2 a3 a4 a5
   obtain ⟨pq, cq, hvq, _, _⟩ := HGA.out.own.len
   have hq0 : W3.cell? ⟨q, 0, none⟩ = some v := (cell_of_row _ q 0 _ _ _ HGA.out.cell).trans rfl
   have hfz : W3.frozen? ⟨q, 0, none⟩ = false := by simp [World.frozen?, HGA.out.cell]
   subst hvq
   have HRX : Hid (Rd (W3.alloc (.cells #[.string nx, .int .i64 vk, .int .i64 vn, .string vs, .slice vpl vnl vcl, .slice vpm vnm vcm, .int .i64 (j : Int)] 97)) (W3.heap.size + 1) (encQ rs) 7 (.slice (some ⟨W3.heap.size, 0, none⟩) 1 1) [j]) := Rd.one (codecQ rs) (heap_alloc_at rfl) (by unfold encQ; rw [HGX.out]) (by omega)
   have HOX := Lib.hid (HGA.out.own.alloc (.cells #[.string nx, .int .i64 vk, .int .i64 vn, .string vs, .slice vpl vnl vcl, .slice vpm vnm vcm, .int .i64 (j : Int)] 97))
   have hqx : (W3.alloc (.cells #[.string nx, .int .i64 vk, .int .i64 vn, .string vs, .slice vpl vnl vcl, .slice vpm vnm vcm, .int .i64 (j : Int)] 97)).heap[q]? = _ := heap_alloc_lt (by omega) HGA.out.cell
   have HQX := Lib.hid hqx
   have HLN : Hid ((List.range j).length + [j].length <= maxLen /\ ((List.range j).length + [j].length) * 104 <= 140737488355328) := by
    simp only [List.length_singleton, List.length_range]
    exact ⟨by unfold maxLen; omega, by omega⟩
   have hrj : (List.range j).length = j := List.length_range
   rw [hrj] at HOX HQX hq0
   have hq3 : q < W3.heap.size := by omega
   have hg3 : g9 < W3.heap.size := hot.lt
   clear hW3 hg9 hot hlr hx hc1 hgx f0 f1 f2 f3 f4 f5 hb1 hba hS hqx
   go_region_law
    (first
     | (refine step_append_rd slIt (codecQ rs) (W3.alloc (.cells #[.string nx, .int .i64 vk, .int .i64 vn, .string vs, .slice vpl vnl vcl, .slice vpm vnm vcm, .int .i64 (j : Int)] 97)).drew (by rfl) (.tmp 32) (.tmp 36) (by rfl) (v := .slice pq j cq) (by rfl) (by rfl) HOX.out HRX.out HLN.out.1 HLN.out.2 (by show q + 1 <= (W3.alloc _).heap.size; simp; omega) ?_
        intro v9 w9 ho9 hg9 hat9
        obtain ⟨p9, n9, c9, rfl⟩ : ∃ p n c, v9 = Value.slice p n c := (by obtain ⟨p, c, hv, h1, h2⟩ := ho9.len; exact ⟨p, _, c, hv⟩)
        have hq9 : w9.heap[q]? = _ := (hg9.block q (by show q < (W3.alloc _).heap.size; simp; omega) (fun e => by have := (HOX.out.lt _ e.symm).1; omega)).trans HQX.out
        have d0 : w9.cell? ⟨q, 0, none⟩ = some (.slice pq j cq) := (cell_of_row _ q 0 _ _ _ hq9).trans rfl
        have df : w9.frozen? ⟨q, 0, none⟩ = false := (by simp [World.frozen?, hq9]))
     | fail)
   all_goals
    have hgq : w9.grownBy (w9.setCell ⟨q, 0, none⟩ (.slice p9 n9 c9)) (some q) := ⟨rfl, rfl, rfl, by simp [World.setCell], fun k _ hk => heap_setCell_other w9 ⟨q, 0, none⟩ k _ (fun e => hk (by simp [e]))⟩
    have hnq : (Value.slice p9 n9 c9).ownBlock ≠ some q := fun e => by have := (ho9.lt _ e).1; omega
    have hz9 := hg9.size
    have HQ9 := Lib.hid (show QGr (w9.setCell ⟨q, 0, none⟩ (.slice p9 n9 c9)) q rs pc nc cc (.slice p9 n9 c9) (List.range (j + 1)) from ⟨heap_setCell_same w9 q 0 _ _ _ hq9, by rw [List.range_succ]; exact ho9.kept hgq (.inr hnq)⟩)
    have HB9 : Hid (Below q w1 (w9.setCell ⟨q, 0, none⟩ (.slice p9 n9 c9))) := ((HBA.out.alloc (by omega) (.cells #[.string nx, .int .i64 vk, .int .i64 vn, .string vs, .slice vpl vnl vcl, .slice vpm vnm vcm, .int .i64 (j : Int)] 97)).drew.grown hg9 (by show q <= (W3.alloc _).heap.size; simp; omega) (fun k e => by have := (HOX.out.lt k e).1; omega)).setCell (p := ⟨q, 0, none⟩) (Nat.le_refl _) _
    have hs9 : q + 1 <= (w9.setCell ⟨q, 0, none⟩ (.slice p9 n9 c9)).heap.size := by
     have h1 : (W3.alloc (.cells #[.string nx, .int .i64 vk, .int .i64 vn, .string vs, .slice vpl vnl vcl, .slice vpm vnm vcm, .int .i64 (j : Int)] 97)).drew.heap.size = W3.heap.size + 1 := by show (W3.alloc _).heap.size = _; simp
     simp [World.setCell]
     omega
    clear ho9 hg9 hat9 hq9 d0 df hgq hnq hz9
    go_wp2_with fail
    go_roundw
    case rel => exact ⟨j + 1, _, by omega, by go_num, HQ9.out, HB9.out, hs9, fun h => by omega⟩
    case measure => simp [intOf]; omega
  ·obtain rfl : j = nv := by omega
   have HQG := Lib.hid hS.out.1
   have HBR := Lib.hid hS.out.2.1
   have hsz := hS.out.2.2.1
   have HV0 := Lib.hid hS.out.2.2.2
   have HENV : Hid (∀ W, Below q w1 W -> QEnv W q cs os rs pc nc cc) := fun W hW => by
    exact HENV1.out.below hW
   have HFIN : Hid (∀ W, Below q w1 W -> Below w.heap.size w W) := fun W hW => HB1.out.trans (hW.mono hz1)
   clear hS HENV1
   by_cases hj00 : j = 0
   ·have hv := HV0.out hj00
    subst hv
    have hON : Hid (ordQ cs os = []) := by
     have := ordQ_perm cs os
     rw [<- HN.out.2, hj00] at this
     exact List.Perm.eq_nil this
    have hc := (cell_of_row wr q 0 _ _ _ HQG.out.cell).trans (show _ = some (Value.slice none 0 0) from rfl)
    have HI := Lib.hid (init_none q (.slice none 0 0) wr hc)
    have HLE := Lib.hid (qlen_any none 0 0 wr)
    have q5 : decide ((0 : Int) < 0) = false := by decide
    clear hj hj0 nb n0
    go_upto_region 9 with (go_at_call 71; (with_reducible refine HI.out.mono ?_); rintro e w2 ⟨rfl, rfl⟩)
    go_wp2_with fail
    go_loopw [10] (fun u w3 => u = .slice none 0 0 /\ w3 = wr) (fun _ _ => 0)
    case atStart => exact ⟨rfl, rfl⟩
    case round =>
     obtain ⟨rfl, rfl⟩ := hrel
     go_wp2_with (go_at_call 72; (with_reducible refine HLE.out.mono ?_); rintro e w2 ⟨rfl, rfl⟩)
     go_ret
     exact ⟨_, rfl, by rw [hON.out]; exact Own.nil _ _ _, HFIN.out _ HBR.out⟩
   ·obtain ⟨pq, cq, hvq, hc1, hc2⟩ := HQG.out.own.len
    rw [List.length_range] at hvq hc1
    subst hvq
    have hown := HQG.out.own
    obtain ⟨g, hpg, hzz, hg1, hg2, hca, hcf⟩ := Own.at (codecQ rs) hown (show (List.range j)[0]? = some 0 by rw [List.getElem?_range]; omega)
    subst hpg
    have hrl : (List.range j).length = j := List.length_range
    have HQA : Hid (QAt wr q q g cq rs pc nc cc (List.range j)) := ⟨by rw [hrl]; exact HQG.out.cell, by rw [hrl]; exact hown.mono (Nat.le_succ _), by omega, Nat.le_refl _, fun x hx => by rw [List.mem_range] at hx; have := HN.out.1; omega⟩
    have HI := Lib.hid (init_any cs os rs pc nc cc q q q g cq (List.range j) wr (HENV.out wr HBR.out) (Nat.le_refl _) (by rw [hrl]; omega) HQA.out)
    have hgw := HQA.out.glo
    clear hown hc1 hc2 hg1 hg2 HQG HV0 hrl hca hcf hzz
    go_upto_region 9 with (go_at_call 71; (with_reducible refine HI.out.mono ?_); rintro e w2 ⟨ys, rfl, hyl, hyp, hyh, hyq, hyg⟩)
    have hyn : ys.length = j := hyl.trans List.length_range
    have HB2 := Lib.hid (HBR.out.trans ((Below.refl wr.heap.size wr).mono (Nat.le_of_lt hsz) |>.trans (HQA.out.keep hyg (Nat.le_refl q))))
    have HP0 : Hid (PopI (ltQ cs os) 0 (List.range j) [] ys) := ⟨hyp, by rw [hyn]; rw [List.length_range] at hyh; exact hyh, List.Pairwise.nil, fun a ha => by cases ha⟩
    have HY := Lib.hid hyq
    have hg2' : g < w2.heap.size := Nat.lt_of_lt_of_le hgw.2 hyg.size
    have hq2' : q < w2.heap.size := Nat.lt_of_lt_of_le hsz hyg.size
    clear hyl hyp hyh hyq hyg hyn hgw HI
    go_wp2_with fail
    go_loopw [10] (fun u w3 => ∃ (out xs : List Nat), lenOf u = out.length /\ Hid (PopI (ltQ cs os) 0 (List.range j) out xs /\ QAt w3 q q g cq rs pc nc cc xs /\ Own w3 w2.heap.size 9 encS 1 u (out.map (fun i => (os.getD i dO).1)) /\ Two q g w2 w3 /\ Below q w1 w3)) (fun u _ => j - lenOf u)
    case atStart => exact ⟨[], ys, rfl, HP0.out, HY.out, Own.nil _ _ _, Two.refl _ _ _, HB2.out⟩
    case round =>
     obtain ⟨out, xs, hlo, hS⟩ := hrel
     have hpl : out.length + xs.length = j := by
      have h1 := hS.out.1.perm.length_eq
      rw [List.length_append, List.length_range] at h1
      exact h1
     have hxb : xs.length <= 1000000 := by omega
     have hq0 := hS.out.2.1.q0
     obtain ⟨M, hM⟩ : ∃ M, xs.length = M := ⟨_, rfl⟩
     rw [hM] at hq0
     have HLE := Lib.hid (qlen_any (some ⟨g, 0, none⟩) M cq wr)
     have HM := Lib.hid hM
     rw [hM] at hpl hxb
     have M0 : (0 : Int) <= (M : Int) := Int.natCast_nonneg _
     have Mb : (M : Int) <= 1000000 := by omega
     clear hM
     cases M with
     | zero =>
       have hxs : xs = [] := List.eq_nil_of_length_eq_zero HM.out
       subst hxs
       have HOQ : Hid (out = ordQ cs os) := ordQ_unique (by have h := hS.out.1.perm; rw [List.append_nil, HN.out.2] at h; exact h) hS.out.1.sorted
       have HSO2 := Lib.hid hS.out.2.2.1
       have HSB := Lib.hid hS.out.2.2.2.2
       have hw2w : w.heap.size <= w2.heap.size := by omega
       clear hS HP0 HY
       go_wp2_with (go_at_call 72; (with_reducible refine HLE.out.mono ?_); rintro e w3 ⟨rfl, rfl⟩)
       go_ret
       exact ⟨_, rfl, by rw [<- HOQ.out]; exact HSO2.out.mono hw2w, HFIN.out _ HSB.out⟩
     | succ m =>
       have hpop := pop_any cs os rs pc nc cc q q q g cq m xs wr (HENV.out wr hS.out.2.2.2.2) (Nat.le_refl _) (by rw [HM.out]; omega) HM.out hS.out.2.1 (by have h := hS.out.1.heap; rw [HM.out] at h; exact h)
       have hx0 : xs[0]? = some (fN xs 0) := fN_at (by rw [HM.out]; omega)
       obtain ⟨x0, hx0e⟩ : ∃ x, fN xs 0 = x := ⟨_, rfl⟩
       rw [hx0e] at hpop hx0
       have hxr : x0 < rs.length := hS.out.2.1.bnd x0 (List.mem_of_getElem? hx0)
       have hob := HL1.out.obj x0 hxr
       have hid : (os.getD x0 dO).1.size <= 140737488351232 := HL1.out.ids _ (by
        have : x0 < os.length := by have := HN.out; omega
        rw [List.getD_eq_getElem?_getD, List.getElem?_eq_getElem this]
        exact List.getElem_mem this)
       rw [<- hob.1] at hid
       have HNAME := Lib.hid hob.1
       unfold itmV at hpop
       obtain ⟨r0, hr0⟩ : ∃ r, rs.getD x0 dRM = r := ⟨_, rfl⟩
       rw [hr0] at hpop hid HNAME
       obtain ⟨nx, ⟨vk, vn, vs, vpl, vnl, vcl, vpm, vnm, vcm⟩⟩ := r0
       dsimp only at hpop hid HNAME
       have HPOP := Lib.hid hpop
       have HX0 := Lib.hid hx0
       have HID := Lib.hid hid
       have HSS := Lib.hid hS.out
       have hwp : decide ((0 : Int) < ((m + 1 : Nat) : Int)) = true := decide_eq_true (by omega)
       obtain ⟨po, no, co, hu⟩ : ∃ p n c, u10 = Value.slice p n c := by obtain ⟨p, c, hv, _, _⟩ := hS.out.2.2.1.len; exact ⟨p, _, c, hv⟩
       subst hu
       clear hpop hx0 hx0e hxr hob hid hr0 hS
       go_upto_region 12 with (first
        | (go_at_call 72; (with_reducible refine HLE.out.mono ?_); rintro e w3 ⟨rfl, rfl⟩)
        | (go_at_call 73; (with_reducible refine HPOP.out.mono ?_); rintro e w4 ⟨zs, rfl, hz1, hz2, hz3, hz4, hz5⟩)
        | fail)
       have HP2 := Lib.hid (HSS.out.1.pop (ltQ_ok cs os) HX0.out hz1 (by rw [hz2]; exact hz3))
       have HQ4 := Lib.hid (hz4.grown ((Below.refl w4.heap.size w4).alloc (Nat.le_refl _) (.cells #[.string nx, .int .i64 vk, .int .i64 vn, .string vs, .slice vpl vnl vcl, .slice vpm vnm vcm, .int .i64 (x0 : Int)] 97)))
       have HT4 := Lib.hid ((HSS.out.2.2.2.1.trans hz5).trans (Two.ofB ((Below.refl w4.heap.size w4).alloc (Nat.le_refl _) (.cells #[.string nx, .int .i64 vk, .int .i64 vn, .string vs, .slice vpl vnl vcl, .slice vpm vnm vcm, .int .i64 (x0 : Int)] 97))))
       have hsz4 := hz5.size
       have hszr := HSS.out.2.2.2.1.size
       have HO4 := Lib.hid ((HSS.out.2.2.1.two hz5 hq2' hg2').alloc (.cells #[.string nx, .int .i64 vk, .int .i64 vn, .string vs, .slice vpl vnl vcl, .slice vpm vnm vcm, .int .i64 (x0 : Int)] 97))
       have HB4 := Lib.hid ((HSS.out.2.2.2.2.trans (hz5.below (Nat.le_refl q) (by have := HSS.out.2.1.glo; omega) (by have := HSS.out.2.1.glo; omega))).alloc (by omega) (.cells #[.string nx, .int .i64 vk, .int .i64 vn, .string vs, .slice vpl vnl vcl, .slice vpm vnm vcm, .int .i64 (x0 : Int)] 97))
       have hit : (w4.alloc (.cells #[.string nx, .int .i64 vk, .int .i64 vn, .string vs, .slice vpl vnl vcl, .slice vpm vnm vcm, .int .i64 (x0 : Int)] 97)).heap[w4.heap.size]? = some (.cells #[.string nx, .int .i64 vk, .int .i64 vn, .string vs, .slice vpl vnl vcl, .slice vpm vnm vcm, .int .i64 (x0 : Int)] 97 (0, 0)) := heap_alloc_at rfl
       obtain ⟨g11, hg11⟩ : ∃ g, w4.heap.size = g := ⟨_, rfl⟩
       obtain ⟨W5, hW5⟩ : ∃ W, w4.alloc (.cells #[.string nx, .int .i64 vk, .int .i64 vn, .string vs, .slice vpl vnl vcl, .slice vpm vnm vcm, .int .i64 (x0 : Int)] 97) = W := ⟨_, rfl⟩
       have hs5 : W5.heap.size = g11 + 1 := by rw [<- hW5, <- hg11]; simp
       rw [hW5, hg11] at hit
       rw [hW5] at HQ4 HT4 HO4 HB4
       rw [hg11] at hsz4
       try rw [hW5]
       try rw [hg11]
       have t0 : W5.cell? ⟨g11, 0, none⟩ = some (.string nx) := (cell_of_row _ g11 0 _ _ _ hit).trans rfl
       have HCL := Lib.hid (sclone_any nx W5 (by have := HID.out; omega))
       have HLN : Hid ((out.map (fun i => (os.getD i dO).1)).length + [nx].length <= maxLen /\ ((out.map (fun i => (os.getD i dO).1)).length + [nx].length) * 16 <= 140737488355328) := by
        simp only [List.length_singleton, List.length_map]
        exact ⟨by unfold maxLen; omega, by omega⟩
       have hout1 : out.length + 1 <= j := by omega
       clear hz1 hz3 hz4 hz5 hW5 hg11 hit hq0 HLE HPOP hwp
       go_wp2_with (first
        | (go_at_call 74; (with_reducible refine HCL.out.mono ?_); rintro e w6 ⟨rfl, hb6⟩; (have HO6 := Lib.hid ((HO4.out.below hb6 (Nat.le_refl _)).alloc (.cells #[.string nx] 9))); (have HR6 : Hid (Rd (w6.alloc (.cells #[.string nx] 9)) (w6.heap.size + 1) encS 1 (.slice (some ⟨w6.heap.size, 0, none⟩) 1 1) [nx]) := Rd.one codecS (heap_alloc_at rfl) rfl (by omega)); (have hs6 := hb6.size))
        | (at_builtin; refine wpList_append_rd slS codecS (w6.alloc (.cells #[.string nx] 9)) rfl (.tmp 58) (.tmp 63) rfl (v := .slice po no co) rfl rfl HO6.out HR6.out HLN.out.1 HLN.out.2 (by simp; omega) ?_; intro v8 w8 ho8 hg8 hat8)
        | fail)
       have hb68 : Below W5.heap.size W5 (w6.alloc (.cells #[.string nx] 9)) := hb6.alloc hs6 _
       have hgx8 : ∀ k, k < w2.heap.size -> w8.heap[k]? = W5.heap[k]? := fun k hk => (hg8.block k (by simp; omega) (fun e => by have := (HO6.out.lt k e.symm).1; omega)).trans (hb68.block k (by omega))
       have hs8 := hg8.size
       have hs68 := hb68.size
       have HT8 : Hid (Two q g w2 w8) := ⟨hg8.os.trans (hb68.os.trans HT4.out.os), hg8.tape.trans (hb68.tape.trans HT4.out.tape), hg8.output.trans (hb68.output.trans HT4.out.output), Nat.le_trans HT4.out.size (Nat.le_trans hs68 hs8), fun k hk h1 h2 => (hgx8 k hk).trans (HT4.out.block k hk h1 h2)⟩
       have HQ8 : Hid (QAt w8 q q g cq rs pc nc cc zs) := by
        have h5 := HQ4.out.grown hb68
        refine ⟨(hg8.block q (by simp; omega) (fun e => by have := (HO6.out.lt q e.symm).1; omega)).trans h5.cell, h5.own.kept hg8 (.inr (fun e => ?_)), h5.ne, h5.lo, h5.bnd⟩
        have := (HO6.out.lt g e.symm).1
        omega
       have HB8 : Hid (Below q w1 w8) := (HB4.out.trans (hb68.mono (by omega))).grown hg8 (by simp; omega) (fun k e => by have := (HO6.out.lt k e).1; omega)
       obtain ⟨p8, n8, c8, hv8⟩ : ∃ p n c, v8 = Value.slice p n c := by obtain ⟨p, c, hv, _, _⟩ := ho8.len; exact ⟨p, _, c, hv⟩
       have hn8 : lenOf v8 = out.length + 1 := by
        obtain ⟨p, c, hv, _, _⟩ := ho8.len
        rw [hv]
        simp [lenOf]
       go_roundw
       case rel =>
        refine ⟨out ++ [x0], zs, by rw [hn8, List.length_append, List.length_singleton], HP2.out, HQ8.out, ?_, HT8.out, HB8.out⟩
        rw [List.map_append, List.map_singleton, <- HNAME.out]
        exact ho8
       case measure =>
        rw [hn8]
        have : lenOf (Value.slice po no co) = out.length := hlo
        simp only [this]
        omega
end
section
open Go
def txS : ByteArray := ⟨#[91, 123, 34, 112, 114, 111, 112, 101, 114, 116, 121, 34, 58, 34, 110, 97, 109, 101, 47, 103, 105, 118, 101, 110, 34, 44, 34, 105, 115, 65, 115, 99, 101, 110, 100, 105, 110, 103, 34, 58, 102, 97, 108, 115, 101, 125, 93]⟩
def txT : ByteArray := ⟨#[91, 123, 34, 112, 114, 111, 112, 101, 114, 116, 121, 34, 58, 34, 97, 103, 101, 34, 125, 93]⟩
def txU : ByteArray := ⟨#[91, 123, 125, 93]⟩
def adaN : ByteArray := ⟨#[97, 100, 97]⟩
def boN : ByteArray := ⟨#[66, 111]⟩
def gvN : ByteArray := ⟨#[103, 105, 118, 101, 110]⟩
def txA : ByteArray := ⟨#[123, 34, 110, 97, 109, 101, 34, 58, 123, 34, 99, 111, 109, 112, 111, 110, 101, 110, 116, 115, 34, 58, 91, 123, 34, 107, 105, 110, 100, 34, 58, 34, 103, 105, 118, 101, 110, 34, 44, 34, 118, 97, 108, 117, 101, 34, 58, 34, 97, 100, 97, 34, 125, 93, 125, 125]⟩
def txB : ByteArray := ⟨#[123, 34, 110, 97, 109, 101, 34, 58, 123, 34, 99, 111, 109, 112, 111, 110, 101, 110, 116, 115, 34, 58, 91, 123, 34, 107, 105, 110, 100, 34, 58, 34, 103, 105, 118, 101, 110, 34, 44, 34, 118, 97, 108, 117, 101, 34, 58, 34, 66, 111, 34, 125, 93, 125, 125]⟩
def mt : ByteArray := ⟨#[]⟩
def tJ (x : ByteArray) : JV := .mk 4 0 x [] []
def sJ : JV := .mk 5 0 mt [.mk 6 0 mt [] [(propN, tJ givenN), (ascN, .mk 2 0 mt [] [])]] []
def uT : JV := .mk 5 0 mt [.mk 6 0 mt [] [(propN, tJ (⟨#[97, 103, 101]⟩))]] []
def uU : JV := .mk 5 0 mt [.mk 6 0 mt [] []] []
def nmJ (x : ByteArray) : JV := .mk 6 0 mt [] [(nameN, .mk 6 0 mt [] [(compN, .mk 5 0 mt [.mk 6 0 mt [] [(kindN, tJ gvN), (valueN, tJ x)]] [])])]
theorem read_S : readF txS = some sJ := by kernel_rfl
theorem read_T : readF txT = some uT := by kernel_rfl
theorem read_U : readF txU = some uU := by kernel_rfl
theorem read_A : readF txA = some (nmJ adaN) := by kernel_rfl
theorem read_B : readF txB = some (nmJ boN) := by kernel_rfl
theorem sE : sortE sJ = 0 := by kernel_rfl
theorem tE : sortE uT = 210 := by kernel_rfl
theorem uE : sortE uU = 1 := by kernel_rfl
def id1 : ByteArray := ⟨#[49]⟩
def id2 : ByteArray := ⟨#[50]⟩
def id3 : ByteArray := ⟨#[51]⟩
def os3 : List (ByteArray × JV) := [(id1, .mk 6 0 mt [] []), (id2, nmJ adaN), (id3, nmJ boN)]
theorem ord3 : ordQ (sortC sJ) os3 = [2, 1, 0] := by
 refine (ordQ_unique ?_ ?_).symm
 ·show List.Perm [2, 1, 0] [0, 1, 2]
  decide
 ·have h1 : ltQ (sortC sJ) os3 1 2 = false := by kernel_rfl
  have h2 : ltQ (sortC sJ) os3 0 2 = false := by kernel_rfl
  have h3 : ltQ (sortC sJ) os3 0 1 = false := by kernel_rfl
  simp [h1, h2, h3]
theorem ids3 : (ordQ (sortC sJ) os3).map (fun i => (os3.getD i dO).1) = [id3, id2, id1] := by rw [ord3]; rfl
theorem ahead3 : aheadJ (sortC sJ) (id3, nmJ boN) (id2, nmJ adaN) = true := by kernel_rfl
theorem jvok0 {k : Int} (h : (Lit.int .i64 k).wf = true) {s : ByteArray} (hs : s.size <= 140737488351232) : (JV.mk k 0 s [] []).Ok := .mk h (by decide) hs (by simp) (by simp) (fun i x hx => by simp at hx) (fun i p hp => by simp at hp) (fun i p hp => by simp at hp)
theorem jvokL {l : List JV} (h : ∀ x ∈ l, x.Ok) (hl : l.length <= 1000) : (JV.mk 5 0 mt l []).Ok := .mk (by decide) (by decide) (by decide) (by omega) (by simp) (fun i x hx => h x (List.mem_of_getElem? hx)) (fun i p hp => by simp at hp) (fun i p hp => by simp at hp)
theorem jvokM {m : List (ByteArray × JV)} (h : ∀ p ∈ m, p.1.size <= 1000 /\ p.2.Ok) (hl : m.length <= 1000) : (JV.mk 6 0 mt [] m).Ok := .mk (by decide) (by decide) (by decide) (by simp) (by omega) (fun i x hx => by simp at hx) (fun i p hp => Nat.le_trans (h p (List.mem_of_getElem? hp)).1 (by omega)) (fun i p hp => (h p (List.mem_of_getElem? hp)).2)
theorem tJ_ok {x : ByteArray} (hs : x.size <= 1000) : (tJ x).Ok := jvok0 (by decide) (by omega)
theorem sJ_ok : sJ.Ok := jvokL (fun x hx => by
 rw [List.mem_singleton] at hx
 subst hx
 refine jvokM (fun p hp => ?_) (by decide)
 rcases List.mem_cons.1 hp with rfl | hp
 ·exact ⟨by decide, tJ_ok (by decide)⟩
 ·rw [List.mem_singleton] at hp
  subst hp
  exact ⟨by decide, jvok0 (by decide) (by decide)⟩) (by decide)
theorem uT_ok : uT.Ok := jvokL (fun x hx => by
 rw [List.mem_singleton] at hx
 subst hx
 refine jvokM (fun p hp => ?_) (by decide)
 rw [List.mem_singleton] at hp
 subst hp
 exact ⟨by decide, tJ_ok (by decide)⟩) (by decide)
theorem uU_ok : uU.Ok := jvokL (fun x hx => by
 rw [List.mem_singleton] at hx
 subst hx
 exact jvokM (fun p hp => by cases hp) (by decide)) (by decide)
theorem nmJ_ok {x : ByteArray} (hx : x.size <= 1000) : (nmJ x).Ok := by
 refine jvokM (fun p hp => ?_) (by simp)
 rw [List.mem_singleton] at hp
 subst hp
 refine ⟨show nameN.size <= 1000 by decide, jvokM (fun p hp => ?_) (by simp)⟩
 rw [List.mem_singleton] at hp
 subst hp
 refine ⟨show compN.size <= 1000 by decide, jvokL (fun y hy => ?_) (by simp)⟩
 rw [List.mem_singleton] at hy
 subst hy
 refine jvokM (fun p hp => ?_) (by simp)
 rcases List.mem_cons.1 hp with rfl | hp
 ·exact ⟨show kindN.size <= 1000 by decide, tJ_ok (by decide)⟩
 ·rw [List.mem_singleton] at hp
  subst hp
  exact ⟨show valueN.size <= 1000 by decide, tJ_ok hx⟩
theorem os3_ok : ∀ o ∈ os3, o.2.Ok /\ o.1.size <= 140737488351232 := by
 intro o ho
 rcases List.mem_cons.1 ho with rfl | ho
 ·exact ⟨jvok0 (by decide) (by decide), by decide⟩
 ·rcases List.mem_cons.1 ho with rfl | ho
  ·exact ⟨nmJ_ok (by decide), by decide⟩
  ·rw [List.mem_singleton] at ho
   subst ho
   exact ⟨nmJ_ok (by decide), by decide⟩
end
section
open Go.RowKit Go.OpenShut
theorem grownBy_setB (W : World) (g : Nat) (q : RB) :
 W.grownBy (((((W.setCell ⟨g, 0, none⟩ (.slice q.po q.no q.co)).setCell ⟨g, 1, none⟩ (.slice q.pt q.nt q.ct)).setCell ⟨g, 2, none⟩ (.int .i64 q.sq)).setCell ⟨g, 3, none⟩ (.int .i64 q.fl)).setCell ⟨g, 4, none⟩ (.int .i64 q.kp)) (some g) :=
 ((((grownBy_set W g 0 _).trans (grownBy_set _ g 1 _)).trans (grownBy_set _ g 2 _)).trans (grownBy_set _ g 3 _)).trans (grownBy_set _ g 4 _)
end
end Go.Proofs.YtffhccmppdgmfaaGreatDoor
