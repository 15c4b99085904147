import Derived.Test.YthgkgjcnmahacaaSk15
import Derived.Test.YthgkgjcnmahacaaSk10
import Derived.Test.YthgkgjcnmahacaaSk19
import Derived.BigQuiet
/- store.Right: whether a box is right, walked. -/
set_option linter.unusedSimpArgs false
set_option linter.unusedVariables false
namespace Go.Proofs.Ythgkgjcnmahacaa
open Go.RowKit Go.OpenShut

/-- Is a box right? -/
def RightBx (b : BoxD) : Prop := Rising b.objs ∧ 0 ≤ b.keep ∧ b.keep ≤ 1000 ∧ (b.trail.length : Int) ≤ b.keep ∧ rightB b.trail b.floor b.seq = true ∧ ∀ p ∈ sinceL b.floor b.trail, isAt b.objs p.id = p.isb
def Asked (os : List (ByteArray × JV)) (ys : List Pa) (j : Nat) : Prop := ∀ (i : Nat) p, i < j → ys[i]? = some p → isAt os p.id = p.isb

set_option maxRecDepth 100000 in
set_option maxHeartbeats 4000000 in
theorem rightS_any (b : BoxD) (r : RB) (w : World) (hb : BoxOf w w.heap.size b r) (ob : b.Ok) :
    Calls Try.prog 20 #[r.val] w (Said w (RightBx b)) := by
  have ho := hb.objs
  have htr := hb.trail
  have hkp := hb.keep
  have hsq := hb.seq
  have hfl := hb.floor
  have hb0 := hb
  obtain ⟨po, no, co, pt, nt, ct, sq, fl, kp⟩ := r
  dsimp only [RB.val] at *
  obtain ⟨rms, hrd, hms⟩ := ho
  have hn := rd_nlen hrd
  have hlm := hms.len
  have hnt := htr.nlen
  have hzo := ob.objs
  have hzt := ob.trail
  have hA0 : BoxAt (w.alloc (.cells #[.slice po no co, .slice pt nt ct, .int .i64 sq, .int .i64 fl, .int .i64 kp] 35)) w.heap.size ⟨po, no, co, pt, nt, ct, sq, fl, kp⟩ := heap_alloc_at rfl
  have hB0 : Below w.heap.size w (w.alloc (.cells #[.slice po no co, .slice pt nt ct, .int .i64 sq, .int .i64 fl, .int .i64 kp] 35)) := (Below.refl _ _).alloc (Nat.le_refl _) _
  have HRD := Lib.hid hrd
  have HMS := Lib.hid hms
  have HTR := Lib.hid htr
  have HBX := Lib.hid hb0
  have HOB := Lib.hid ob
  have HN : Hid (b.objs.length = no ∧ rms.length = no ∧ b.trail.length = nt) := ⟨by omega, by omega, hnt⟩
  have HEQ : Hid (b.keep = kp ∧ b.seq = sq ∧ b.floor = fl) := ⟨hkp, hsq, hfl⟩
  have hno : no ≤ 1466015503658 := by omega
  have hnt2 : nt ≤ 4398046510976 := by omega
  clear hb hrd hms htr hn hlm hnt hzo hzt hkp hsq hfl hb0 ob
  go_enter Try.func20, Try.ntmps20
  go_upto_region 1 with fail
  obtain ⟨W0, hW0⟩ : ∃ W0, (w.alloc (.cells #[.slice po no co, .slice pt nt ct, .int .i64 sq, .int .i64 fl, .int .i64 kp] 35)) = W0 := ⟨_, rfl⟩
  rw [hW0] at hA0 hB0 ⊢
  clear hW0
  have HA := Lib.hid hA0
  have HB := Lib.hid hB0
  have hz := hA0.lt
  have c0 := hA0.cell 0 rfl
  dsimp only at c0
  clear hA0 hB0
  go_wp2_with fail
  go_loopw [3] (fun i wr => ∃ j : Nat, i = .int .i64 ((j : Int) + 1) ∧ (j + 1 ≤ no ∨ j = 0) ∧ RisingTo b.objs (j + 1) ∧ Below W0.heap.size W0 wr) (fun i _ => no + 1 - (intOf i).toNat)
  case atStart => exact ⟨0, rfl, .inr rfl, fun i p q h => by omega, Below.refl _ _⟩
  case round =>
    obtain ⟨j, rfl, hj, hri, hbr⟩ := hrel
    have c0 := bcs hbr hz c0
    by_cases hlt : j + 1 < no
    · obtain ⟨x, hx⟩ : ∃ x, rms[j]? = some x := ⟨_, List.getElem?_eq_getElem (by have := HN.out; omega)⟩
      obtain ⟨y, hy⟩ : ∃ x, rms[j + 1]? = some x := ⟨_, List.getElem?_eq_getElem (by have := HN.out; omega)⟩
      obtain ⟨p, hp⟩ : ∃ x, b.objs[j]? = some x := ⟨_, List.getElem?_eq_getElem (by have := HN.out; omega)⟩
      obtain ⟨q, hq⟩ : ∃ x, b.objs[j + 1]? = some x := ⟨_, List.getElem?_eq_getElem (by have := HN.out; omega)⟩
      have hpn := HMS.out.name _ p x hp hx
      have hqn := HMS.out.name _ q y hq hy
      have hbw : Below w.heap.size w wr := HB.out.trans (hbr.mono HB.out.size)
      obtain ⟨b1, o1, hpo, hb1, hc1⟩ := rd_at' (HRD.out.below hbw (Nat.le_refl _)) hx
      obtain ⟨b2, o2, hpo2, hb2, hc2⟩ := rd_at' (HRD.out.below hbw (Nat.le_refl _)) hy
      rw [hpo] at hpo2
      simp only [Option.some.injEq, Addr.mk.injEq, and_true] at hpo2
      obtain ⟨rfl, rfl⟩ := hpo2
      subst hpo
      have f0 := hc1 0 _ rfl
      have g0 := hc2 0 _ rfl
      rw [Nat.add_zero] at f0 g0
      have hless := less_cmp x.name y.name
      rw [← hpn, ← hqn] at hless
      have hj0 : (0 : Int) ≤ (j : Int) := Int.natCast_nonneg _
      have hj1 : (j : Int) < (no : Int) := by omega
      have hj2 : (0 : Int) ≤ (j : Int) + 1 := by omega
      have hj3 : (j : Int) + 1 < (no : Int) := by omega
      have htn : ((j : Int) + 1).toNat = j + 1 := by omega
      have hw1 : IntKind.i64.wrap ((j : Int) + 1) = (j : Int) + 1 := by rw [IntKind.wrap_i64]; omega
      have hw2 : (j : Int) + 1 - 1 = (j : Int) := by omega
      have hw3 : IntKind.i64.wrap ((j : Int) + 1 - 1) = (j : Int) := by rw [IntKind.wrap_i64]; omega
      have hd : decide ((j : Int) + 1 < (no : Int)) = true := by simpa using hj3
      have HBR := Lib.hid hbr
      rw [hpn, hqn] at hless
      by_cases hc : cmpN p.1 q.1 < 0
      · have HRI : RisingTo b.objs (j + 1 + 1) := by
          intro i p' q' hi hp' hq'
          by_cases e : i = j
          · subst e
            rw [hp] at hp'
            rw [hq] at hq'
            cases hp'; cases hq'
            exact hc
          · exact hri i p' q' (by omega) hp' hq'
        have hl : Op.bytesLess x.name.toList y.name.toList = true := by rw [hless, ← hpn, ← hqn]; simpa using hc
        clear hx hy hp hq hpn hqn hc1 hc2 hless hc hri hbr hbw hb2
        go_wp2_with fail
        go_quiet (fail)
        go_wp2_with fail
        go_roundw
        case rel => exact ⟨j + 1, by go_num, .inl (by omega), HRI, bdn HBR.out _⟩
        case measure => simp [intOf]; omega
      · have hl : Op.bytesLess x.name.toList y.name.toList = false := by rw [hless, ← hpn, ← hqn]; simpa using hc
        have HNO : Hid (¬ RightBx b) := fun h => Rising.no hp hq hc h.1
        clear hx hy hp hq hpn hqn hc1 hc2 hless hc hri hbw hb2
        go_wp2_with fail
        go_quiet (fail)
        go_wp2_with fail
        go_ret
        exact ⟨false, rfl, ⟨fun h => (by cases h), fun h => absurd h HNO.out⟩, bdn (HB.out.trans (HBR.out.mono HB.out.size)) _⟩
    · have hrs : Rising b.objs := by
        apply RisingTo.all
        intro i p q hi h1 h2
        exact hri i p q (by have := HN.out; omega) h1 h2
      have hd : decide ((j : Int) + 1 < (no : Int)) = false := by simp; omega
      have hd2 : ¬ ((j : Int) + 1 < (no : Int)) := by omega
      have hj2 : (0 : Int) ≤ (j : Int) + 1 := by omega
      have hA1 := HA.out.under hbr hz
      have hbw : Below w.heap.size w wr := HB.out.trans (hbr.mono HB.out.size)
      have HRS := Lib.hid hrs
      have HA1 := Lib.hid hA1
      have HBW := Lib.hid hbw
      clear hri hbr hA1 hbw hrs c0
      have c0 := HA1.out.cell 0 rfl
      have c1 := HA1.out.cell 1 rfl
      have c2 := HA1.out.cell 2 rfl
      have c3 := HA1.out.cell 3 rfl
      have c4 := HA1.out.cell 4 rfl
      dsimp only at c0 c1 c2 c3 c4
      obtain ⟨e1, e2, e3⟩ := HEQ.out
      by_cases h1 : kp < 0
      · have d1 : decide (kp < 0) = true := by simpa using h1
        have HNO : Hid (¬ RightBx b) := fun h => by have := h.2.1; omega
        clear e1 e2 e3 h1
        go_wp2_with fail
        go_ret
        exact ⟨false, rfl, ⟨fun h => (by cases h), fun h => absurd h HNO.out⟩, HBW.out⟩
      have d1 : decide (kp < 0) = false := by simpa using h1
      by_cases h2 : 1000 < kp
      · have d2 : decide (1000 < kp) = true := by simpa using h2
        have HNO : Hid (¬ RightBx b) := fun h => by have := h.2.2.1; omega
        clear e1 e2 e3 h1 h2
        go_wp2_with fail
        go_ret
        exact ⟨false, rfl, ⟨fun h => (by cases h), fun h => absurd h HNO.out⟩, HBW.out⟩
      have d2 : decide (1000 < kp) = false := by simpa using h2
      by_cases h3 : kp < (nt : Int)
      · have d3 : decide (kp < (nt : Int)) = true := by simpa using h3
        have HNO : Hid (¬ RightBx b) := fun h => by have := h.2.2.2.1; have := HN.out; omega
        clear e1 e2 e3 h1 h2 h3
        go_wp2_with fail
        go_ret
        exact ⟨false, rfl, ⟨fun h => (by cases h), fun h => absurd h HNO.out⟩, HBW.out⟩
      have d3 : decide (kp < (nt : Int)) = false := by simpa using h3
      have HK : Hid (0 ≤ b.keep ∧ b.keep ≤ 1000 ∧ (b.trail.length : Int) ≤ b.keep) := by have := HN.out; unfold Hid; omega
      have hR := right_any wr (.slice pt nt ct) b.trail fl sq (HTR.out.under HBW.out HBW.out.size) (by rw [← e3]; exact HOB.out.floor) (by rw [← e2]; exact HOB.out.seq)
      rw [← e3, ← e2] at hR
      cases hrt : rightB b.trail b.floor b.seq with
      | false =>
        rw [hrt] at hR
        rw [e3, e2] at hR
        have HR := Lib.hid hR
        have HNO : Hid (¬ RightBx b) := fun h => by have := h.2.2.2.2.1; rw [hrt] at this; cases this
        clear e1 e2 e3 h1 h2 h3 hR hrt
        go_wp2_with (go_at_call 57; refine HR.out.mono ?_; rintro e w1 ⟨rfl, hb1⟩)
        go_ret
        exact ⟨false, rfl, ⟨fun h => (by cases h), fun h => absurd h HNO.out⟩, HBW.out.trans (hb1.mono HBW.out.size)⟩
      | true =>
        rw [hrt] at hR
        rw [e3, e2] at hR
        have HR := Lib.hid hR
        have HRT := Lib.hid hrt
        have HS : Hid (∀ W, Below wr.heap.size wr W → Calls Try.prog 58 #[.slice pt nt ct, .int .i64 fl] W fun e w' => ∃ ys, IsStable cfP (sinceL b.floor b.trail) ys ∧ OwnRet W 99 encP 4 ys e w') := fun W hb => by
          rw [e3]
          exact since_any W _ b.trail fl (HTR.out.under (HBW.out.trans (hb.mono HBW.out.size)) (HBW.out.trans (hb.mono HBW.out.size)).size) (by have := HOB.out.trail; omega)
        have hzw : w.heap.size < wr.heap.size := by have := HA1.out.lt; exact this
        clear e1 e2 e3 h1 h2 h3 hR hrt
        go_upto_region 8 with (go_at_call 57; refine HR.out.mono ?_; rintro e w1 ⟨rfl, hb1⟩)
        have HA2 := Lib.hid (HA1.out.under hb1 hzw)
        have HB2 := Lib.hid (HBW.out.trans (hb1.mono HBW.out.size))
        have HB1 := Lib.hid hb1
        have hz1 := HA2.out.lt
        clear c0 c1 c2 c3 c4 hb1
        have c0 := HA2.out.cell 0 rfl
        have c1 := HA2.out.cell 1 rfl
        have c2 := HA2.out.cell 2 rfl
        have c3 := HA2.out.cell 3 rfl
        have c4 := HA2.out.cell 4 rfl
        dsimp only at c0 c1 c2 c3 c4
        go_wp2_with (go_at_call 58; refine (HS.out _ HB1.out).mono ?_; rintro e w2 ⟨ys, hys, u, rfl, hu, hb2⟩; obtain ⟨p2, cc2, hv2, hcl, hcc⟩ := hu.len; subst hv2; (have hyl : ys.length ≤ 9223372036854775807 := Nat.le_trans hcl hcc); go_frame)
        go_loopw [61] (fun i wr => ∃ j : Nat, j ≤ ys.length ∧ i = .int .i64 j ∧ Asked b.objs ys j ∧ Below w2.heap.size w2 wr) (fun i _ => ys.length - (intOf i).toNat)
        case atStart => exact ⟨0, Nat.zero_le _, rfl, fun i p h => by omega, Below.refl _ _⟩
        case round =>
          obtain ⟨j, hj, rfl, has, hbr⟩ := hrel
          have hb2w := hb2.size
          have HA3 := Lib.hid ((HA2.out.under hb2 hz1).under hbr (by omega))
          have HB3 := Lib.hid ((HB2.out.trans (hb2.mono HB2.out.size)).trans (hbr.mono (by have := HB2.out.size; omega)))
          by_cases hlt : j < ys.length
          · obtain ⟨⟨yid, ywas, yis, ylast⟩, hy⟩ : ∃ x, ys[j]? = some x := ⟨_, List.getElem?_eq_getElem hlt⟩
            obtain ⟨g, hpg, hnn, hgb, hgl, hcell, hfr⟩ := Own.at codecP (hu.below hbr (Nat.le_refl _)) hy
            subst hpg
            have f0 := hcell 0 _ rfl
            have f1 := hcell 1 _ rfl
            have f2 := hcell 2 _ rfl
            have f3 := hcell 3 _ rfl
            rw [Nat.add_zero] at f0
            dsimp only at f0 f1 f2 f3
            clear c0 c1 c2 c3 c4 hcell hfr hnn
            have hz3 := HA3.out.lt
            have c0 := HA3.out.cell 0 rfl
            have c1 := HA3.out.cell 1 rfl
            have c2 := HA3.out.cell 2 rfl
            have c3 := HA3.out.cell 3 rfl
            have c4 := HA3.out.cell 4 rfl
            dsimp only at c0 c1 c2 c3 c4
            have hk0 : (0 : Int) ≤ (j : Int) := Int.natCast_nonneg _
            have hk1 : (j : Int) < (ys.length : Int) := by omega
            have hA4 : Below w.heap.size w (wr.alloc (.cells #[.string yid, .bool ywas, .bool yis, .int .i64 ylast] 99)) := HB3.out.alloc HB3.out.size _
            have hP := placeO_any b ⟨po, no, co, pt, nt, ct, sq, fl, kp⟩ yid _ (HBX.out.under hA4 hA4.size) HRS.out HOB.out
            have HP4 : Hid ((wr.alloc (.cells #[.string yid, .bool ywas, .bool yis, .int .i64 ylast] 99)).heap[wr.heap.size]? = some (.cells #[.string yid, .bool ywas, .bool yis, .int .i64 ylast] 99 (0, 0))) := heap_alloc_at rfl
            have HBR : Hid (Below w2.heap.size w2 (wr.alloc (.cells #[.string yid, .bool ywas, .bool yis, .int .i64 ylast] 99))) := hbr.alloc hbr.size _
            have HA4 := Lib.hid hA4
            by_cases hia : isAt b.objs yid = yis
            · have HAS : Asked b.objs ys (j + 1) := by
                intro i p hi hp
                by_cases e : i = j
                · subst e
                  rw [hy] at hp
                  cases hp
                  exact hia
                · exact has i p (by omega) hp
              rw [hia] at hP
              have HP := Lib.hid hP
              clear hP hy hA4 has hbr hia
              cases yis
              all_goals
                go_upto_region 12 with (go_at_call 59; refine HP.out.mono ?_; rintro e w4 ⟨rfl, hb4⟩)
                have k2 := World.cell?_of_block (w := wr.alloc _) (w' := w4) (a := ⟨wr.heap.size, 2, none⟩) (hb4.block wr.heap.size (by simp))
                rw [cell_of_row _ _ 2 _ _ _ HP4.out] at k2
                simp at k2
                go_wp2_with fail
                go_roundw
                case rel => exact ⟨j + 1, by omega, by go_num, HAS, HBR.out.trans (hb4.mono HBR.out.size)⟩
                case measure => simp [intOf]; omega
            · have HNO : Hid (¬ RightBx b) := fun h => hia (h.2.2.2.2.2 _ (hys.perm.mem_iff.1 (List.mem_of_getElem? hy)))
              obtain ⟨ia, hib⟩ : ∃ ia, isAt b.objs yid = ia := ⟨_, rfl⟩
              rw [hib] at hP hia
              have HP := Lib.hid hP
              clear hP hy hA4 has hbr hib
              cases ia <;> cases yis
              all_goals try exact absurd rfl hia
              all_goals
                clear hia
                go_upto_region 12 with (go_at_call 59; refine HP.out.mono ?_; rintro e w4 ⟨rfl, hb4⟩)
                have k2 := World.cell?_of_block (w := wr.alloc _) (w' := w4) (a := ⟨wr.heap.size, 2, none⟩) (hb4.block wr.heap.size (by simp))
                rw [cell_of_row _ _ 2 _ _ _ HP4.out] at k2
                simp at k2
                go_wp2_with fail
                go_ret
                exact ⟨false, rfl, ⟨fun h => (by cases h), fun h => absurd h HNO.out⟩, HA4.out.trans (hb4.mono HA4.out.size)⟩
          · obtain rfl : j = ys.length := by omega
            have HYES : Hid (RightBx b) := ⟨HRS.out, HK.out.1, HK.out.2.1, HK.out.2.2, HRT.out, fun p hp => by
              obtain ⟨i, hi⟩ := List.getElem?_of_mem (hys.perm.mem_iff.2 hp)
              exact has i p (List.getElem?_eq_some_iff.1 hi).1 hi⟩
            go_wp2_with fail
            go_ret
            exact ⟨true, rfl, ⟨fun _ => HYES.out, fun _ => rfl⟩, HB3.out⟩
end Go.Proofs.Ythgkgjcnmahacaa
