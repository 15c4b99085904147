import Derived.Test.YtjhginendpjimaaGreatDoorB38
set_option linter.unusedSimpArgs false
set_option linter.unusedVariables false
set_option maxRecDepth 200000
set_option maxHeartbeats 8000000
namespace Go.Proofs.YtjhginendpjimaaGreatDoor
section
open Go Go.RowKit Go.OpenShut
theorem oneE_get {x : JV} (h : oneE x = 0) : ∃ vp, x.get prpB = some vp /\ PropOk vp.s /\ oneC x = ⟨vp.s, downJ x⟩ := by
 have hk : x.k = 6 := by
  by_cases hk : x.k = 6
  ·exact hk
  ·rw [oneE_kind hk] at h; cases h
 have hb : firstBad x.m [] = false := by
  cases hb : firstBad x.m [] with
  | false => rfl
  | true => rw [oneE_bad hb] at h; cases h
 cases hp : mOf x.m propN with
 | none =>
   rw [oneE_has hk (by rw [hp]; rfl)] at h
   cases h
 | some vp =>
   rw [oneE_end hk hb hp] at h
   refine ⟨vp, (get_mOf hk prpB).trans hp, ?_, ?_⟩
   ·have hpo : propOk vp.s = true := by
     cases hpo : propOk vp.s with
     | true => rfl
     | false => rw [hpo] at h; simp at h
    unfold propOk at hpo
    simp only [Bool.or_eq_true, decide_eq_true_eq] at hpo
    unfold PropOk datedB
    simp only [Bool.or_eq_true, decide_eq_true_eq]
    rcases hpo with h | h | h | h | h
    ·exact .inl (.inl h)
    ·exact .inl (.inr h)
    ·exact .inr (.inl h)
    ·exact .inr (.inr (.inl h))
    ·exact .inr (.inr (.inr h))
   ·unfold oneC downJ
    rw [hp, get_mOf hk ascB]
    rfl
theorem listE_all {l : List JV} (h : listE l = 0) : ∀ x ∈ l, oneE x = 0 := by
 induction l with
 | nil => intro x hx; cases hx
 | cons a r ih =>
   intro x hx
   unfold listE at h
   by_cases ha : oneE a = 0
   ·rw [if_neg (by simp [ha])] at h
    rcases List.mem_cons.1 hx with rfl | hx
    ·exact ha
    ·exact ih h x hx
   ·rw [if_pos ha] at h
    exact absurd h ha
theorem rcheck_any (t : JV) (r : RV) (w : World) (B : Nat) (hBw : B <= w.heap.size) (ht : TreeOf w B t r) (ot : t.Ok) :
 Calls Tryz.prog 12 #[r.val] w fun e w' => e = .returned (.int .i64 (sortE t)) /\ Below w.heap.size w w' := by
 obtain ⟨W0, hW0⟩ : ∃ W0, w.alloc r.obj = W0 := ⟨_, rfl⟩
 have hA0 : VAt W0 w.heap.size r := by rw [<- hW0]; exact heap_alloc_at rfl
 have hB0 : Below w.heap.size w W0 := by rw [<- hW0]; exact (Below.refl _ _).alloc (Nat.le_refl _) _
 cases ht with
 | @mk _ l m rs rms hl el hcl hm em hcn hcm =>
 obtain ⟨k, n, s, pl, nl, cl, pm, nm, cm⟩ := r
 dsimp only [RV.val, RV.obj] at *
 have HW := Lib.hid hW0
 have HB0 := Lib.hid hB0
 have HL := Lib.hid hl
 have hnl := rd_nlen hl
 have HCL := Lib.hid hcl
 have HOK : Hid (∀ (i : Nat) x, l[i]? = some x -> x.Ok) := fun i x hx => by cases ot with | mk _ _ _ _ _ c _ _ => exact c i x hx
 have hll : l.length = nl := by omega
 have HLL := Lib.hid hll
 obtain ⟨E, hE⟩ : ∃ E, sortE (JV.mk k n s l m) = E := ⟨_, rfl⟩
 have HE := Lib.hid hE
 rw [hE]
 have hw0 := hB0.size
 have hl0 := hA0.lt
 have hnl0 : (0 : Int) <= (nl : Int) := Int.natCast_nonneg _
 clear hW0 hB0 hE hl el hcl hm em hcn hcm hnl hll ot
 by_cases hk1 : k = 1
 ·have hs := sortE_null (t := JV.mk k n s l m) hk1
  subst hk1
  have HE1 : Hid (E = 0) := HE.out.symm.trans hs.1
  clear hs
  go_enter Tryz.func12, Tryz.ntmps12
  go_upto_region 1 with fail
  rw [HW.out]
  clear HW
  obtain ⟨a0, a1, a2, a3, a4⟩ := hA0.cells5
  go_wp2_with fail
  rw [HE1.out]
  go_ret
  exact ⟨rfl, HB0.out⟩
 ·have q1 : (k == 1) = false := by simpa using hk1
  by_cases hk5 : k = 5
  ·subst hk5
   have HK5 : Hid ((JV.mk 5 n s l m).k = 5 /\ (JV.mk 5 n s l m).l = l) := ⟨rfl, rfl⟩
   by_cases hmany : 4 < nl
   ·have hs := sortE_many (t := JV.mk 5 n s l m) rfl (by rw [HK5.out.2, HLL.out]; exact hmany)
    have HE1 : Hid (E = 210) := HE.out.symm.trans hs.1
    have q2 : decide ((4 : Int) < (nl : Int)) = true := decide_eq_true (by omega)
    have q2' : decide (4 < nl) = true := decide_eq_true hmany
    clear hs
    go_enter Tryz.func12, Tryz.ntmps12
    go_upto_region 1 with fail
    rw [HW.out]
    clear HW
    obtain ⟨a0, a1, a2, a3, a4⟩ := hA0.cells5
    go_wp2_with fail
    rw [HE1.out]
    go_ret
    exact ⟨rfl, HB0.out⟩
   ·have q2 : decide ((4 : Int) < (nl : Int)) = false := decide_eq_false (by omega)
    have q2' : decide (4 < nl) = false := decide_eq_false hmany
    have HEL : Hid (E = listE l) := HE.out.symm.trans (sortE_list (t := JV.mk 5 n s l m) rfl (by rw [HK5.out.2, HLL.out]; exact hmany))
    go_enter Tryz.func12, Tryz.ntmps12
    go_upto_region 1 with fail
    rw [HW.out]
    clear HW
    obtain ⟨a0, a1, a2, a3, a4⟩ := hA0.cells5
    go_wp2_with fail
    go_loopw [3] (fun i wr => ∃ j : Nat, j <= nl /\ i = .int .i64 (j : Int) /\ Hid (listE (l.drop j) = E /\ Below W0.heap.size W0 wr)) (fun i _ => nl - (intOf i).toNat)
    case atStart => exact ⟨0, by omega, rfl, HEL.out.symm, Below.refl _ _⟩
    case round =>
     obtain ⟨j, hj, rfl, hS⟩ := hrel
     have hj0 : (0 : Int) <= (j : Int) := Int.natCast_nonneg _
     have hbr := hS.out.2
     have hAr := hA0.under hbr hl0
     have c3 := hAr.cell 3 rfl
     dsimp only at c3
     have hbw := HB0.out.trans (hbr.mono hw0)
     have HBW := Lib.hid hbw
     have HBR2 := Lib.hid hbr
     have HLD := Lib.hid hS.out.1
     have hzw := hbw.size
     by_cases hlt : j < nl
     ·have hj1 : (j : Int) < (nl : Int) := by omega
      obtain ⟨x, hx⟩ : ∃ x, l[j]? = some x := ⟨_, List.getElem?_eq_getElem (by have := HLL.out; omega)⟩
      have hlr := HL.out.below (hbw.mono hBw) (Nat.le_refl _)
      obtain ⟨q, hq⟩ : ∃ q, rs[j]? = some q := ⟨_, List.getElem?_eq_getElem (by have := rd_nlen hlr; omega)⟩
      obtain ⟨b1, o1, rfl, hb1, hc1⟩ := rd_at' hlr hq
      have hxt := (HCL.out j x q hx hq).under (hbw.mono hBw) (Nat.le_refl _)
      have HRD := Lib.hid (rone_any x q wr B (Nat.le_trans hBw hzw) hxt (HOK.out j x hx))
      have HLD2 := Lib.hid ((listE_drop hx).symm.trans HLD.out)
      obtain ⟨vk, vn, vs, vpl, vnl, vcl, vpm, vnm, vcm⟩ := q
      dsimp only [RV.val] at HRD
      have f0 := hc1 0 _ rfl
      have f1 := hc1 1 _ rfl
      have f2 := hc1 2 _ rfl
      have f3 := hc1 3 _ rfl
      have f4 := hc1 4 _ rfl
      rw [Nat.add_zero] at f0
      dsimp only at f0 f1 f2 f3 f4
      obtain ⟨F, hF⟩ : ∃ F, oneE x = F := ⟨_, rfl⟩
      rw [hF] at HRD HLD2
      have hwf := oneE_wf x
      rw [hF] at hwf
      clear hF hlr hq hc1 hxt hx hb1 hS hAr hbr hbw
      by_cases hF0 : F = 0
      ·subst hF0
       have HL2 : Hid (listE (l.drop (j + 1)) = E) := by have h := HLD2.out; rw [if_neg (by simp)] at h; exact h
       go_wp2_with (go_at_call 33; (with_reducible refine HRD.out.mono ?_); rintro e w4 ⟨rfl, hb4⟩)
       go_roundw
       case rel => exact ⟨j + 1, by omega, by go_num, HL2.out, HBR2.out.trans (hb4.mono HBR2.out.size)⟩
       case measure => simp [intOf]; omega
      ·have q5 : (F != 0) = true := by simpa using hF0
       have q6 : (F == 0) = false := by simpa using hF0
       have HEF : Hid (E = F) := by have h := HLD2.out; rw [if_pos hF0] at h; exact h.symm
       go_wp2_with (go_at_call 33; (with_reducible refine HRD.out.mono ?_); rintro e w4 ⟨rfl, hb4⟩)
       rw [HEF.out]
       go_ret
       exact ⟨rfl, HBW.out.trans (hb4.mono hzw)⟩
     ·obtain rfl : j = nl := by omega
      have HEZ : Hid (E = 0) := by
       have h := HLD.out
       rw [List.drop_eq_nil_of_le (by have := HLL.out; omega)] at h
       exact h.symm
      clear hS hAr hbr hbw
      go_wp2_with fail
      rw [HEZ.out]
      go_ret
      exact ⟨rfl, HBW.out⟩
  ·have q2 : (k == 5) = false := by simpa using hk5
   have q3 : (k != 5) = true := by simpa using hk5
   have hs := sortE_kind (t := JV.mk k n s l m) hk1 hk5
   have HE1 : Hid (E = 1) := HE.out.symm.trans hs.1
   clear hs hk1 hk5
   go_enter Tryz.func12, Tryz.ntmps12
   go_upto_region 1 with fail
   rw [HW.out]
   clear HW
   obtain ⟨a0, a1, a2, a3, a4⟩ := hA0.cells5
   go_wp2_with fail
   rw [HE1.out]
   go_ret
   exact ⟨rfl, HB0.out⟩
theorem sortC_all {t : JV} (hown : t.k ≠ 5 -> t.l = []) (h : sortE t = 0) : sortC t = t.l.map oneC /\ ∀ x ∈ t.l, oneE x = 0 := by
 by_cases hk : t.k = 5
 ·refine ⟨sortC_list hk h, ?_⟩
  by_cases hm : 4 < t.l.length
  ·rw [(sortE_many hk hm).1] at h; cases h
  ·rw [sortE_list hk hm] at h
   exact listE_all h
 ·rw [hown hk]
  exact ⟨if_neg (fun e => hk e.1), fun x hx => by cases hx⟩
theorem rAhead_any (t : JV) (r : RV) (a b : ByteArray × JV) (ra rb : RM) (w : World) (B : Nat) (hBw : B <= w.heap.size) (ht : TreeOf w B t r) (ot : t.Ok) (hown : t.k ≠ 5 -> t.l = [])
 (ha : ra.name = a.1 /\ TreeOf w B a.2 ra.v) (oa : a.2.Ok) (hb : rb.name = b.1 /\ TreeOf w B b.2 rb.v) (ob : b.2.Ok) :
 Calls Tryz.prog 15 #[r.val, ra.val, rb.val] w fun e w' => e = .returned (.bool (aheadJ (sortC t) a b)) /\ Below w.heap.size w w' := by
 obtain ⟨W0, hW0⟩ : ∃ W0, ((w.alloc r.obj).alloc ra.ooj).alloc rb.ooj = W0 := ⟨_, rfl⟩
 have hA0 : VAt W0 w.heap.size r := by rw [<- hW0]; exact heap_alloc_lt (by simp; omega) (heap_alloc_lt (by simp) (heap_alloc_at rfl))
 have hP0 : OAt W0 (w.heap.size + 1) ra := by rw [<- hW0]; exact heap_alloc_lt (by simp) (heap_alloc_at (by simp))
 have hQ0 : OAt W0 (w.heap.size + 2) rb := by rw [<- hW0]; exact heap_alloc_at (by simp)
 have hB0 : Below w.heap.size w W0 := by rw [<- hW0]; exact (below2 w _ _).alloc (by simp; omega) _
 have hw0 := hB0.size
 have HC := Lib.hid (rcheck_any t r W0 B (Nat.le_trans hBw hw0) (ht.under (hB0.mono hBw) (Nat.le_refl _)) ot)
 have HTA : Hid (∀ W, Below W0.heap.size W0 W -> TreeOf W B a.2 ra.v /\ TreeOf W B b.2 rb.v /\ B <= W.heap.size) := fun W hW => ⟨ha.2.under ((hB0.trans (hW.mono hw0)).mono hBw) (Nat.le_refl _), hb.2.under ((hB0.trans (hW.mono hw0)).mono hBw) (Nat.le_refl _), Nat.le_trans (Nat.le_trans hBw hw0) hW.size⟩
 have HOO := Lib.hid (And.intro oa ob)
 have HNA := Lib.hid (And.intro ha.1 hb.1)
 have HSC := Lib.hid (sortC_all hown)
 have HSN : Hid (sortE t ≠ 0 -> sortC t = []) := fun h => sortC_err h
 cases ht with
 | @mk _ l m rs rms hl el hcl hm em hcn hcm =>
 obtain ⟨E, hE⟩ : ∃ E, sortE (JV.mk r.k r.n r.s l m) = E := ⟨_, rfl⟩
 obtain ⟨C, hCC⟩ : ∃ C, sortC (JV.mk r.k r.n r.s l m) = C := ⟨_, rfl⟩
 rw [hE, hCC] at HSC HSN
 rw [hE] at HC
 rw [hCC]
 have HSC2 : Hid (E = 0 -> C = l.map oneC /\ ∀ x ∈ l, oneE x = 0) := HSC.out
 have HL : Hid (∀ W, Below W0.heap.size W0 W -> Rd W B encV 5 (.slice r.pl r.nl r.cl) rs) := fun W hW => hl.below ((hB0.trans (hW.mono hw0)).mono hBw) (Nat.le_refl _)
 have HCL : Hid (∀ W, Below W0.heap.size W0 W -> ∀ (i : Nat) x q, l[i]? = some x -> rs[i]? = some q -> TreeOf W B x q) := fun W hW i x q h1 h2 => (hcl i x q h1 h2).under ((hB0.trans (hW.mono hw0)).mono hBw) (Nat.le_refl _)
 have HOK : Hid (∀ (i : Nat) x, l[i]? = some x -> x.Ok) := fun i x hx => by cases ot with | mk _ _ _ _ _ c _ _ => exact c i x hx
 have hll : l.length = r.nl := by have := rd_nlen hl; omega
 have hnb : r.nl <= 1759218604390 := by
  cases ot with
  | mk _ _ _ hl9 _ _ _ _ => omega
 have HLL := Lib.hid hll
 obtain ⟨k, n, s, pl, nl, cl, pm, nm, cm⟩ := r
 obtain ⟨na, ⟨ak, an, aS, apl, anl, acl, apm, anm, acm⟩⟩ := ra
 obtain ⟨nb, ⟨qk, qn, qs, qpl, qnl, qcl, qpm, qnm, qcm⟩⟩ := rb
 dsimp only [RV.val, RV.obj, RM.val, RM.ooj] at *
 have hnl0 : (0 : Int) <= (nl : Int) := Int.natCast_nonneg _
 have hnb' : (nl : Int) <= 1759218604390 := by omega
 have HW := Lib.hid hW0
 have HB0 := Lib.hid hB0
 have hl0 := hA0.lt
 have hl1 := hP0.lt
 have hl2 := hQ0.lt
 have HID : Hid (∀ (x y : Bool), True -> Op.bytesLess na.toList nb.toList = decide (Go.Lib.compareBytes a.1.data.toList b.1.data.toList < 0)) := fun _ _ _ => by
  rw [bytesLess_cmp, ByteArray.toList_eq, ByteArray.toList_eq, HNA.out.1, HNA.out.2]
 have hless := HID.out true true trivial
 obtain ⟨lt, hlt0⟩ : ∃ z, decide (Go.Lib.compareBytes a.1.data.toList b.1.data.toList < 0) = z := ⟨_, rfl⟩
 rw [hlt0] at hless
 have HLT := Lib.hid hlt0
 clear hW0 hB0 ot ha oa hb ob hE hCC hl el hcl hm em hcn hcm hll hown HSC HID hlt0
 go_enter Tryz.func15, Tryz.ntmps15
 go_upto_region 1 with fail
 rw [HW.out]
 clear HW
 obtain ⟨a0, a1, a2, a3, a4⟩ := hA0.cells5
 by_cases hE0 : E = 0
 ·subst hE0
  obtain ⟨hCl, hCo⟩ := HSC2.out rfl
  have HCl := Lib.hid hCl
  have HCo := Lib.hid hCo
  clear hCl hCo HSC2 HSN
  go_upto_region 2 with (go_at_call 12; (with_reducible refine HC.out.mono ?_); rintro e w1 ⟨rfl, hb1⟩)
  have HB1 := Lib.hid hb1
  clear hb1 a0 a1 a2 a3 a4
  go_wp2_with fail
  go_loopw [7] (fun i wr => ∃ j : Nat, j <= nl /\ i = .int .i64 (j : Int) /\ Hid (cmpO C a b = cmpO ((l.drop j).map oneC) a b /\ Below W0.heap.size W0 wr)) (fun i _ => nl - (intOf i).toNat)
  case atStart => exact ⟨0, by omega, rfl, by rw [HCl.out, List.drop_zero], HB1.out⟩
  case round =>
   obtain ⟨j, hj, rfl, hS⟩ := hrel
   have hj0 : (0 : Int) <= (j : Int) := Int.natCast_nonneg _
   have hbr := hS.out.2
   have hcm := hS.out.1
   have hAr := hA0.under hbr hl0
   have hPr := hP0.under hbr hl1
   have hQr := hQ0.under hbr hl2
   have c3 := hAr.cell 3 rfl
   obtain ⟨p0, p1, p2, p3, p4, p5⟩ := hPr.cells6
   obtain ⟨q0, q1, q2, q3, q4, q5⟩ := hQr.cells6
   dsimp only at c3 p0 p1 p2 p3 p4 p5 q0 q1 q2 q3 q4 q5
   have HBR := Lib.hid hbr
   have hzr := hbr.size
   by_cases hlt : j < nl
   ·have hj1 : (j : Int) < (nl : Int) := by omega
    obtain ⟨x, hx⟩ : ∃ x, l[j]? = some x := ⟨_, List.getElem?_eq_getElem (by have := HLL.out; omega)⟩
    have hlr := HL.out wr hbr
    obtain ⟨q, hq⟩ : ∃ q, rs[j]? = some q := ⟨_, List.getElem?_eq_getElem (by have := rd_nlen hlr; omega)⟩
    obtain ⟨b1, o1, rfl, hb1, hc1⟩ := rd_at' hlr hq
    obtain ⟨vp, hg1, hg2, hg3⟩ := oneE_get (HCo.out x (List.mem_of_getElem? hx))
    have hxt := HCL.out wr.drew hbr.drew j x q hx hq
    have hta := HTA.out wr.drew hbr.drew
    have HCM := Lib.hid (rkey_any x a.2 b.2 vp q ⟨ak, an, aS, apl, anl, acl, apm, anm, acm⟩ ⟨qk, qn, qs, qpl, qnl, qcl, qpm, qnm, qcm⟩ vp.s hg2 hg1 rfl wr.drew B hta.2.2 hxt (HOK.out j x hx) hta.1 HOO.out.1 hta.2.1 HOO.out.2)
    have hdr : cmpO ((l.drop j).map oneC) a b = if cmpK ⟨vp.s, downJ x⟩ a.2 b.2 ≠ 0 then cmpK ⟨vp.s, downJ x⟩ a.2 b.2 else cmpO ((l.drop (j + 1)).map oneC) a b := by
     obtain ⟨h1, h2⟩ := List.getElem?_eq_some_iff.1 hx
     rw [List.drop_eq_getElem_cons h1, h2, List.map_cons, hg3]
     rfl
    have HDR := Lib.hid (hcm.trans hdr)
    obtain ⟨y, hy⟩ : ∃ y, cmpK ⟨vp.s, downJ x⟩ a.2 b.2 = y := ⟨_, rfl⟩
    rw [hy] at HCM HDR
    obtain ⟨vk, vn, vs, vpl, vnl, vcl, vpm, vnm, vcm⟩ := q
    dsimp only [RV.val] at HCM
    have f0 := hc1 0 _ rfl
    have f1 := hc1 1 _ rfl
    have f2 := hc1 2 _ rfl
    have f3 := hc1 3 _ rfl
    have f4 := hc1 4 _ rfl
    rw [Nat.add_zero] at f0
    dsimp only at f0 f1 f2 f3 f4
    clear hy hdr hg1 hg2 hg3 hxt hta hx hq hc1 hlr hS hcm hAr hPr hQr hb1
    go_upto_region 5 with fail
    go_cut [8] from 19 to 28 (fun v wq => v = .int .i64 y /\ Hid (Below wr.heap.size wr wq))
    case first =>
     go_region_with (first
      | (go_at_call 36; (with_reducible refine HCM.out.mono ?_); rintro e w4 ⟨rfl, hb4⟩)
      | fail)
     all_goals
      first
       | go_meet
       | (go_wp2_with fail; go_meet)
      exact ⟨rfl, (Below.refl _ _).drew.trans hb4⟩
    case rest =>
    obtain ⟨rfl, hY⟩ := hcut
    have HB5 := Lib.hid (HBR.out.trans (hY.out.mono hzr))
    clear hY
    by_cases hy0 : y = 0
    ·subst hy0
     have HD2 : Hid (cmpO C a b = cmpO ((l.drop (j + 1)).map oneC) a b) := by have h := HDR.out; rw [if_neg (by simp)] at h; exact h
     go_wp2_with fail
     go_roundw
     case rel => exact ⟨j + 1, by omega, by go_num, HD2.out, HB5.out⟩
     case measure => simp [intOf]; omega
    ·have r1 : (y != 0) = true := by simpa using hy0
     have r2 : (y == 0) = false := by simpa using hy0
     have HD2 : Hid (cmpO C a b = y) := by have h := HDR.out; rw [if_pos hy0] at h; exact h
     obtain ⟨z, hz⟩ : ∃ z, decide (y < 0) = z := ⟨_, rfl⟩
     have HZ : Hid (aheadJ C a b = z) := by unfold Hid aheadJ; rw [HD2.out]; exact hz
     go_wp2_with fail
     rw [HZ.out]
     go_ret
     exact ⟨rfl, HB0.out.trans (HB5.out.mono hw0)⟩
   ·obtain rfl : j = nl := by omega
    have HZ : Hid (aheadJ C a b = lt) := by
     unfold Hid aheadJ
     rw [hcm, List.drop_eq_nil_of_le (by have := HLL.out; omega)]
     exact HLT.out
    clear hS hcm hAr hPr hQr hbr
    go_wp2_with fail
    rw [HZ.out]
    go_ret
    exact ⟨rfl, HB0.out.trans (HBR.out.mono hw0)⟩
 ·have r1 : (E == 0) = false := by simpa using hE0
  have HZ : Hid (aheadJ C a b = lt) := by
   unfold Hid aheadJ
   rw [HSN.out hE0]
   exact HLT.out
  go_upto_region 8 with (go_at_call 12; (with_reducible refine HC.out.mono ?_); rintro e w1 ⟨rfl, hb1⟩)
  have hPr := hP0.under hb1 hl1
  have hQr := hQ0.under hb1 hl2
  have p0 := hPr.cell 0 rfl
  have q0 := hQr.cell 0 rfl
  dsimp only at p0 q0
  go_wp2_with fail
  rw [HZ.out]
  go_ret
  exact ⟨rfl, HB0.out.trans (hb1.mono hw0)⟩
end
end Go.Proofs.YtjhginendpjimaaGreatDoor
